import Derived.Test.YtmdjiajbnifjpaaDoorY4
namespace Go.Proofs.YtmdjiajbnifjpaaDoor.Lift
set_option linter.unusedSimpArgs false
set_option linter.unusedVariables false
set_option linter.unnecessarySimpa false
open Go
variable {gl : Globs}

theorem pickD_none {l : List Int} {t : Ty} {g : List Ty} {p q : Nat} (h : pickD l t g p = (none, q)) : ((varsN g t).length = 0 ∧ q = p) ∨ ((varsN g t).length ≠ 0 ∧ (nextD l p 3).1 = 0 ∧ q = (nextD l p 3).2) := by
  unfold pickD at h
  split at h
  · rename_i h0; cases h; exact .inl ⟨h0, rfl⟩
  · rename_i h0
    split at h
    · rename_i h1; cases h; exact .inr ⟨h0, h1, rfl⟩
    · cases h
theorem pickD_some' {l : List Int} {t : Ty} {g : List Ty} {p q : Nat} {x : Tm} (h : pickD l t g p = (some x, q)) : (varsN g t).length ≠ 0 ∧ (nextD l p 3).1 ≠ 0 ∧ ∃ k i : Nat, (nextD l (nextD l p 3).2 (varsN g t).length).1 = k ∧ (varsN g t)[k]? = some i ∧ x = vT i ∧ q = (nextD l (nextD l p 3).2 (varsN g t).length).2 := by
  unfold pickD at h
  split at h
  · cases h
  · rename_i h0
    split at h
    · cases h
    · rename_i h1
      have hb := nextD_bd (l := l) (p := (nextD l p 3).2) (n := (varsN g t).length) (by omega)
      cases h
      obtain ⟨k, hk⟩ : ∃ k : Nat, (nextD l (nextD l p 3).2 (varsN g t).length).1 = k := ⟨_, (Int.toNat_of_nonneg hb.1).symm⟩
      rw [hk] at hb
      have hlt : k < (varsN g t).length := by omega
      refine ⟨h0, h1, k, (varsN g t)[k], hk, List.getElem?_eq_getElem hlt, ?_, rfl⟩
      rw [hk, Int.toNat_natCast, List.getD_eq_getElem?_getD, List.getElem?_eq_getElem hlt, Option.getD_some]

set_option maxHeartbeats 1000000 in
theorem mk_term_leaf (b : Nat) (l : List Int) (hl : l.length ≤ 500) (t : Ty) : ∀ (z : Int) (g : List Ty) (p : Nat), z ≤ 0 → t.count ≤ z + 1000 → t.small → (∀ x ∈ g, x.small) → g.length + t.count ≤ 1000000 → p ≤ l.length →
    Con1 Tryd.prog gl 14 [ptr b, .sl (g.map Ty.cells), t.dv, dint z] [(b, deck l p)] (leafD l t g p).1.dv [(b, deck l (leafD l t g p).2)] := by
  induction t using Ty.ind with
  | h t ih =>
  intro z g p hz hz1 ht hg hgl1 hp
  refine t_in Tryd.func14 ?_
  intro X hP hgl hf hfn hn hR hids hfit
  rw [leafD_eq l t g p ht.ok] at hR
  have hvl : (varsN g t).length ≤ g.length := varsP_le g t g.length
  have hq3 := nextD_le (n := 3) hp
  have hb3 := nextD_bd (l := l) (p := p) (n := 3) (by decide)
  rcases hpk : pickD l t g p with ⟨_ | x, q⟩
  · rw [hpk] at hR
    simp only at hR
    have hq : q ≤ l.length := by have := pickD_le (t := t) (g := g) hp; rw [hpk] at this; exact this
    apply W_cutX [(.slot 215, .one (.v (dbool (decide (t.kind = 1))))), (.slot 214, .one (.v (dint t.kind))), (.slot 0, .one (.v (ptr b))), (.slot 1, .one (.v (.sl (g.map Ty.cells)))), (.slot 3, .one (.v (dint z))), (.slot 6, .one (.loc 6 0)), (.loc 6, .row ([.v (dint t.kind), .v (.sl (t.args.map Ty.cells))])), (.slot 8, .one (.loc 8 0)), (.loc 8, .row ([.v (dint 0), .v (dint 0), .v (dint 0), .own 0 [], .own 0 []])), (.heap  b, .row ([.v (.sl (ints l)), .v (dint q)]))]
    · intro hrest
      refine t_g0 ?_
      refine t_c1 trivial (mk_vars_ok g t (by omega)) ?_
      rcases pickD_none hpk with ⟨h0, rfl⟩ | ⟨h0, h1, rfl⟩
      · refine t_g (j2 @natI_len @h0) ?_
        refine t_b ?_
        refine t_sub [] trivial hrest
      · have hpos : 0 < (varsN g t).length := by omega
        refine t_g0 ?_
        refine t_c1 (j2 @natI_len (j2 @hpos @h1)) (next_ok b l p 3 (by decide) (by omega)) ?_
        refine t_g @h1 ?_
        refine t_b ?_
        refine t_sub [] trivial hrest
    · have hz2 : ¬ 0 < z := by omega
      rcases small_kinds ht with ⟨h, e⟩ | ⟨h, e⟩ | ⟨h, e⟩ | ⟨h, e⟩ | ⟨h, e⟩
      · rw [if_pos h] at hR
        have hb := nextD_bd (l := l) (p := q) (n := 3) (by decide)
        obtain ⟨k, hk⟩ : ∃ k : Nat, (nextD l q 3).1 = k := ⟨_, (Int.toNat_of_nonneg hb.1).symm⟩
        rw [hk] at hb
        refine t_g (j2 @hz2 @h) ?_
        refine t_c2 @hk (next_ok b l q 3 (by decide) (by omega)) (mk_num_ok k (by omega)) ?_
        repeat (first | refine W_seq ?_ | refine W_skip ?_ | refine W_block ?_ | refine W_inBlock ?_ | refine W_label ?_ | refine W_exit rfl ?_)
        first | refine W_retR hP hf hfn _ ([(b, deck l (nextD l q 3).2)]) (by first | (simp [go_sem, hP, hgl, hn, numD, hk]; done) | (simp [go_sem, hP, hgl, hn, numD, hk]; rfl)) (by simp [go_sem, hP, hgl, hn, numD, hk]) (by simp) ?_ hR.2 | refine W_endR hP hf hfn _ ([(b, deck l (nextD l q 3).2)]) (by first | (simp [go_sem, hP, hgl, hn, numD, hk]; done) | (simp [go_sem, hP, hgl, hn, numD, hk]; rfl)) (by simp [go_sem, hP, hgl, hn, numD, hk]) (by simp) ?_ hR.2
        rw [hR.1]
        refine ⟨?_, by simp [numD, hk]⟩
        try simp [numD, hk]
        try all_goals (simp [Ty.dv, Ty.cells_eq, Ty.kind_mk, Ty.args_mk, Tm.dv, Tm.cells_eq, Tm.kind_mk, Tm.index_mk, Tm.type_mk, Tm.args_mk, Val.dv, Val.cells_eq, Val.kind_mk, Val.num_mk, Val.list_mk, Val.args_mk, ints])
      · rw [if_neg (by omega), if_pos h] at hR
        refine t_g (j2 @hz2 @h) ?_
        refine t_c1 trivial (ref02_n_ok 7 []) ?_
        repeat (first | refine W_seq ?_ | refine W_skip ?_ | refine W_block ?_ | refine W_inBlock ?_ | refine W_label ?_ | refine W_exit rfl ?_)
        first | refine W_retR hP hf hfn _ ([(b, deck l q)]) (by first | (simp [go_sem, hP, hgl, hn, nT]; done) | (simp [go_sem, hP, hgl, hn, nT]; rfl)) (by simp [go_sem, hP, hgl, hn, nT]) (by simp) ?_ hR.2 | refine W_endR hP hf hfn _ ([(b, deck l q)]) (by first | (simp [go_sem, hP, hgl, hn, nT]; done) | (simp [go_sem, hP, hgl, hn, nT]; rfl)) (by simp [go_sem, hP, hgl, hn, nT]) (by simp) ?_ hR.2
        rw [hR.1]
        refine ⟨?_, by simp [nT]⟩
        try simp [nT]
        try all_goals (simp [Ty.dv, Ty.cells_eq, Ty.kind_mk, Ty.args_mk, Tm.dv, Tm.cells_eq, Tm.kind_mk, Tm.index_mk, Tm.type_mk, Tm.args_mk, Val.dv, Val.cells_eq, Val.kind_mk, Val.num_mk, Val.list_mk, Val.args_mk, ints])
      · rw [if_neg (by omega), if_neg (by omega), if_neg (by omega), if_neg (by omega)] at hR
        refine t_g (j2 @hz2 @h) ?_
        refine t_c1 trivial (ref02_n_ok 13 []) ?_
        repeat (first | refine W_seq ?_ | refine W_skip ?_ | refine W_block ?_ | refine W_inBlock ?_ | refine W_label ?_ | refine W_exit rfl ?_)
        first | refine W_retR hP hf hfn _ ([(b, deck l q)]) (by first | (simp [go_sem, hP, hgl, hn, nT]; done) | (simp [go_sem, hP, hgl, hn, nT]; rfl)) (by simp [go_sem, hP, hgl, hn, nT]) (by simp) ?_ hR.2 | refine W_endR hP hf hfn _ ([(b, deck l q)]) (by first | (simp [go_sem, hP, hgl, hn, nT]; done) | (simp [go_sem, hP, hgl, hn, nT]; rfl)) (by simp [go_sem, hP, hgl, hn, nT]) (by simp) ?_ hR.2
        rw [hR.1]
        refine ⟨?_, by simp [nT]⟩
        try simp [nT]
        try all_goals (simp [Ty.dv, Ty.cells_eq, Ty.kind_mk, Ty.args_mk, Tm.dv, Tm.cells_eq, Tm.kind_mk, Tm.index_mk, Tm.type_mk, Tm.args_mk, Val.dv, Val.cells_eq, Val.kind_mk, Val.num_mk, Val.list_mk, Val.args_mk, ints])
      · rw [if_neg (by omega), if_neg (by omega), if_pos h] at hR
        obtain ⟨s0, s1, hc⟩ := ht.arg (.inl h)
        have p0 := Ty.count_eq (t.arg 0)
        have p1 := Ty.count_eq (t.arg 1)
        have ha : t.args = [t.arg 0, t.arg 1] := by rw [e]; rfl
        obtain ⟨a1, -⟩ := leafD_facts closed_shape (t.arg 0) g q s0 hg hq
        refine t_g (j2 @hz2 @h) ?_
        refine t_c3 @ha (ih (t.arg 0) (by rw [ha]; simp) (z - 1) g q (by omega) (by omega) s0 hg (by omega) hq) (ih (t.arg 1) (by rw [ha]; simp) (z - 1) g (leafD l (t.arg 0) g q).2 (by omega) (by omega) s1 hg (by omega) a1) (ref02_n_ok 10 [(leafD l (t.arg 0) g q).1, (leafD l (t.arg 1) g (leafD l (t.arg 0) g q).2).1]) ?_
        repeat (first | refine W_seq ?_ | refine W_skip ?_ | refine W_block ?_ | refine W_inBlock ?_ | refine W_label ?_ | refine W_exit rfl ?_)
        first | refine W_retR hP hf hfn _ ([(b, deck l (leafD l (t.arg 1) g (leafD l (t.arg 0) g q).2).2)]) (by first | (simp [go_sem, hP, hgl, hn, nT]; done) | (simp [go_sem, hP, hgl, hn, nT]; rfl)) (by simp [go_sem, hP, hgl, hn, nT]) (by simp) ?_ hR.2 | refine W_endR hP hf hfn _ ([(b, deck l (leafD l (t.arg 1) g (leafD l (t.arg 0) g q).2).2)]) (by first | (simp [go_sem, hP, hgl, hn, nT]; done) | (simp [go_sem, hP, hgl, hn, nT]; rfl)) (by simp [go_sem, hP, hgl, hn, nT]) (by simp) ?_ hR.2
        rw [hR.1]
        refine ⟨?_, by simp [nT]⟩
        try simp [nT]
        try all_goals (simp [Ty.dv, Ty.cells_eq, Ty.kind_mk, Ty.args_mk, Tm.dv, Tm.cells_eq, Tm.kind_mk, Tm.index_mk, Tm.type_mk, Tm.args_mk, Val.dv, Val.cells_eq, Val.kind_mk, Val.num_mk, Val.list_mk, Val.args_mk, ints])
      · rw [if_neg (by omega), if_neg (by omega), if_neg (by omega), if_pos h] at hR
        obtain ⟨s0, s1, hc⟩ := ht.arg (.inr h)
        have p0 := Ty.count_eq (t.arg 0)
        have p1 := Ty.count_eq (t.arg 1)
        have ha : t.args = [t.arg 0, t.arg 1] := by rw [e]; rfl
        have hgs : ∀ x ∈ g ++ [t.arg 0], x.small := by intro x hx; rcases List.mem_append.1 hx with hx | hx; exact hg x hx; rw [List.mem_singleton.1 hx]; exact s0
        refine t_g (j2 @hz2 @h) ?_
        refine t_c3 @ha (mk_longer_ok g [t.arg 0] (by simp; omega)) (ih (t.arg 1) (by rw [ha]; simp) (z - 1) (g ++ [t.arg 0]) q (by omega) (by omega) s1 hgs (by simp; omega) hq) (ref02_t_ok 2 (t.arg 0) [(leafD l (t.arg 1) (g ++ [t.arg 0]) q).1]) ?_
        repeat (first | refine W_seq ?_ | refine W_skip ?_ | refine W_block ?_ | refine W_inBlock ?_ | refine W_label ?_ | refine W_exit rfl ?_)
        first | refine W_retR hP hf hfn _ ([(b, deck l (leafD l (t.arg 1) (g ++ [t.arg 0]) q).2)]) (by first | (simp [go_sem, hP, hgl, hn]; done) | (simp [go_sem, hP, hgl, hn]; rfl)) (by simp [go_sem, hP, hgl, hn]) (by simp) ?_ hR.2 | refine W_endR hP hf hfn _ ([(b, deck l (leafD l (t.arg 1) (g ++ [t.arg 0]) q).2)]) (by first | (simp [go_sem, hP, hgl, hn]; done) | (simp [go_sem, hP, hgl, hn]; rfl)) (by simp [go_sem, hP, hgl, hn]) (by simp) ?_ hR.2
        rw [hR.1]
        refine ⟨?_, by simp⟩
        try simp
        try all_goals (simp [Ty.dv, Ty.cells_eq, Ty.kind_mk, Ty.args_mk, Tm.dv, Tm.cells_eq, Tm.kind_mk, Tm.index_mk, Tm.type_mk, Tm.args_mk, Val.dv, Val.cells_eq, Val.kind_mk, Val.num_mk, Val.list_mk, Val.args_mk, ints])
  · rw [hpk] at hR
    simp only at hR
    obtain ⟨h0, h1, k, i, hk, hi, rfl, rfl⟩ := pickD_some' hpk
    have hpos : 0 < (varsN g t).length := by omega
    have hpos3 : 0 < (nextD l p 3).1 := by omega
    have hgi := ints_get (l := natI (varsN g t)) (i := k) (n := i) (by simp [natI, hi])
    have hkl := (List.getElem?_eq_some_iff.1 hi).1
    refine t_g0 ?_
    refine t_c1 trivial (mk_vars_ok g t (by omega)) ?_
    refine t_g0 ?_
    refine t_c1 (j2 @natI_len (j2 @hpos @hpos3)) (next_ok b l p 3 (by decide) (by omega)) ?_
    refine t_g @hpos3 ?_
    refine t_c2 (j2 @natI_len (j2 @hk @hgi)) (next_ok b l (nextD l p 3).2 (varsN g t).length (by omega) (by omega)) (ref02_var_ok i) ?_
    repeat (first | refine W_seq ?_ | refine W_skip ?_ | refine W_block ?_ | refine W_inBlock ?_ | refine W_label ?_ | refine W_exit rfl ?_)
    first | refine W_retR hP hf hfn _ ([(b, deck l (nextD l (nextD l p 3).2 (varsN g t).length).2)]) (by first | (simp [go_sem, hP, hgl, hn, vT]; done) | (simp [go_sem, hP, hgl, hn, vT]; rfl)) (by simp [go_sem, hP, hgl, hn, vT]) (by simp) ?_ hR.2 | refine W_endR hP hf hfn _ ([(b, deck l (nextD l (nextD l p 3).2 (varsN g t).length).2)]) (by first | (simp [go_sem, hP, hgl, hn, vT]; done) | (simp [go_sem, hP, hgl, hn, vT]; rfl)) (by simp [go_sem, hP, hgl, hn, vT]) (by simp) ?_ hR.2
    rw [hR.1]
    refine ⟨?_, by simp [vT]⟩
    try simp [vT]
    try all_goals (simp [Ty.dv, Ty.cells_eq, Ty.kind_mk, Ty.args_mk, Tm.dv, Tm.cells_eq, Tm.kind_mk, Tm.index_mk, Tm.type_mk, Tm.args_mk, Val.dv, Val.cells_eq, Val.kind_mk, Val.num_mk, Val.list_mk, Val.args_mk, ints])
end Go.Proofs.YtmdjiajbnifjpaaDoor.Lift

namespace Go.Proofs.YtmdjiajbnifjpaaDoor.Lift
set_option linter.unusedSimpArgs false
set_option linter.unusedVariables false
set_option linter.unnecessarySimpa false
open Go
variable {gl : Globs}

def funP (g : List Ty) (t : Ty) (i : Nat) : Bool := decide ((varTy g i).kind = 4) && ((varTy g i).arg 1).same t
theorem upto_snoc {Q : Nat → Prop} {i : Nat} (h : ∀ j, j < i → Q j) (hi : Q i) : ∀ j, j < i + 1 → Q j := by
  intro j hj
  by_cases e : j = i
  · rw [e]; exact hi
  · exact h j (by omega)
theorem funN_found {g : List Ty} {t : Ty} {i : Nat} (hi : i < g.length) (h : ∀ j, j < i → funP g t j = false) (hp : funP g t i = true) : funN g t = some i := by
  unfold funN
  rw [List.find?_range_eq_some]
  exact ⟨hp, List.mem_range.2 hi, fun j hj => by show (!funP g t j) = true; rw [h j hj]; rfl⟩
theorem funN_none {g : List Ty} {t : Ty} (h : ∀ j, j < g.length → funP g t j = false) : funN g t = none := by
  unfold funN
  rw [List.find?_eq_none]
  intro j hj
  show ¬ funP g t j = true
  rw [h j (List.mem_range.1 hj)]
  decide

theorem W_cutXP {X : Ctx} {k kk : List Item} {s : St} (E : Prop) (S : St) (h1 : (E → W X kk S) → W X k s) (h2 : E → W X kk S) : W X k s := h1 h2

set_option maxHeartbeats 4000000 in
theorem mk_term_ok (b : Nat) (l : List Int) (hl : l.length ≤ 500) (n : Nat) (hn9 : n ≤ 9) : ∀ (t : Ty) (g : List Ty) (p : Nat), t.small → (∀ x ∈ g, x.small) → g.length + 3 * n + 15 ≤ 1000000 → p ≤ l.length →
    Con1 Tryd.prog gl 14 [ptr b, .sl (g.map Ty.cells), t.dv, dint n] [(b, deck l p)] (termD l n t g p).1.dv [(b, deck l (termD l n t g p).2)] := by
  induction n with
  | zero =>
    intro t g p ht hg hgl1 hp
    exact mk_term_leaf b l hl t 0 g p (by omega) (by have := ht.2; omega) ht hg (by have := ht.2; omega) hp
  | succ n ihn0 =>
  intro t g p ht hg hgl1 hp
  have ihn := ihn0 (by omega)
  have hD := termD_facts (l := l) closed_shape n
  have hg1 : ∀ a : List Ty, (∀ x ∈ a, x.small) → ∀ x ∈ g ++ a, x.small := by
    intro a ha x hx
    rcases List.mem_append.1 hx with hx | hx
    · exact hg x hx
    · exact ha x hx
  have hz2 : (0 : Int) < ((n + 1 : Nat) : Int) := by omega
  have hsub : ((n + 1 : Nat) : Int) - 1 = (n : Int) := by omega
  refine t_in Tryd.func14 ?_
  intro X hP hgl hf hfn hn hR hids hfit
  rw [termD] at hR
  have hvl : (varsN g t).length ≤ g.length := varsP_le g t g.length
  have hq3 := nextD_le (n := 3) hp
  have hb3 := nextD_bd (l := l) (p := p) (n := 3) (by decide)
  rcases hpk : pickD l t g p with ⟨_ | x, q⟩
  · rw [hpk] at hR
    simp only at hR
    have hq : q ≤ l.length := by have := pickD_le (t := t) (g := g) hp; rw [hpk] at this; exact this
    apply W_cutX [(.slot 0, .one (.v (ptr b))), (.slot 1, .one (.v (.sl (g.map Ty.cells)))), (.slot 3, .one (.v (dint ((n + 1 : Nat) : Int)))), (.slot 6, .one (.loc 6 0)), (.loc 6, .row ([.v (dint t.kind), .v (.sl (t.args.map Ty.cells))])), (.slot 8, .one (.loc 8 0)), (.loc 8, .row ([.v (dint 0), .v (dint 0), .v (dint 0), .own 0 [], .own 0 []])), (.heap  b, .row ([.v (.sl (ints l)), .v (dint q)]))]
    · intro hrest
      refine t_g0 ?_
      refine t_c1 trivial (mk_vars_ok g t (by omega)) ?_
      rcases pickD_none hpk with ⟨h0, rfl⟩ | ⟨h0, h1, rfl⟩
      · refine t_g (j2 @natI_len @h0) ?_
        refine t_b ?_
        refine t_sub [] trivial hrest
      · have hpos : 0 < (varsN g t).length := by omega
        refine t_g0 ?_
        refine t_c1 (j2 @natI_len (j2 @hpos @h1)) (next_ok b l p 3 (by decide) (by omega)) ?_
        refine t_g @h1 ?_
        refine t_b ?_
        refine t_sub [] trivial hrest
    · have hq8 := nextD_le (n := 8) hq
      have hb8 := nextD_bd (l := l) (p := q) (n := 8) (by decide)
      refine t_g @hz2 ?_
      refine t_c1 trivial (next_ok b l q 8 (by decide) (by omega)) ?_
      generalize hd : nextD l q 8 = d at *
      obtain ⟨k, r⟩ := d
      simp only at hR hb8 hq8
      have hr : r ≤ l.length := hq8
      by_cases h0 : k = 0
      · rw [stepD, if_pos h0] at hR
        have cs := mk_type_ok (gl := gl) 0 b l r hl hr (by decide)
        obtain ⟨fs, ss⟩ := typeD_small l (n := 0) hr (by decide)
        generalize hes : typeD l 0 r = rs at cs fs ss hR
        obtain ⟨s, qs⟩ := rs
        simp only at cs fs ss hR
        have cx := ihn (t) (g ++ [s]) qs ht (hg1 [s] (by simpa using ss)) (by simp; omega) fs
        have fx := (hD (t) (g ++ [s]) qs ht (hg1 [s] (by simpa using ss)) fs).1
        generalize hex : termD l n (t) (g ++ [s]) qs = rx at cx fx hR
        obtain ⟨x, qx⟩ := rx
        simp only at cx fx hR
        have cy := ihn (s) (g) qx ss hg (by omega) fx
        have fy := (hD (s) (g) qx ss hg fx).1
        generalize hey : termD l n (s) (g) qx = ry at cy fy hR
        obtain ⟨y, qy⟩ := ry
        simp only at cy fy hR
        refine t_g @h0 ?_
        refine t_c1 trivial cs ?_
        refine t_c5 @hsub (mk_longer_ok g [s] (by simp; omega)) cx (ref02_t_ok 2 s [x]) cy (ref02_n_ok 3 [Tm.mk 2 0 s [x], y]) ?_
        repeat (first | refine W_seq ?_ | refine W_skip ?_ | refine W_block ?_ | refine W_inBlock ?_ | refine W_label ?_ | refine W_exit rfl ?_)
        first | refine W_retR hP hf hfn _ ([(b, deck l qy)]) (by first | (simp [go_sem, hP, hgl, hn, nT]; done) | (simp [go_sem, hP, hgl, hn, nT]; rfl)) (by simp [go_sem, hP, hgl, hn, nT]) (by simp) ?_ hR.2 | refine W_endR hP hf hfn _ ([(b, deck l qy)]) (by first | (simp [go_sem, hP, hgl, hn, nT]; done) | (simp [go_sem, hP, hgl, hn, nT]; rfl)) (by simp [go_sem, hP, hgl, hn, nT]) (by simp) ?_ hR.2
        rw [hR.1]
        refine ⟨?_, by simp [nT]⟩
        try simp [nT]
        try all_goals (simp [Ty.dv, Ty.cells_eq, Ty.kind_mk, Ty.args_mk, Tm.dv, Tm.cells_eq, Tm.kind_mk, Tm.index_mk, Tm.type_mk, Tm.args_mk, Val.dv, Val.cells_eq, Val.kind_mk, Val.num_mk, Val.list_mk, Val.args_mk, ints])
      by_cases h1 : k = 1
      · rw [stepD, if_neg h0, if_pos h1] at hR
        have cs := mk_type_ok (gl := gl) 0 b l r hl hr (by decide)
        obtain ⟨fs, ss⟩ := typeD_small l (n := 0) hr (by decide)
        generalize hes : typeD l 0 r = rs at cs fs ss hR
        obtain ⟨s, qs⟩ := rs
        simp only at cs fs ss hR
        have cx := ihn (t) (g) qs ht hg (by omega) fs
        have fx := (hD (t) (g) qs ht hg fs).1
        generalize hex : termD l n (t) (g) qs = rx at cx fx hR
        obtain ⟨x, qx⟩ := rx
        simp only at cx fx hR
        have cy := ihn (s) (g) qx ss hg (by omega) fx
        have fy := (hD (s) (g) qx ss hg fx).1
        generalize hey : termD l n (s) (g) qx = ry at cy fy hR
        obtain ⟨y, qy⟩ := ry
        simp only at cy fy hR
        refine t_g @h1 ?_
        refine t_c1 trivial cs ?_
        refine t_c4 @hsub cx cy (ref02_n_ok 10 [x, y]) (ref02_n_ok 11 [Tm.mk 10 0 (Ty.mk 0 []) [x, y]]) ?_
        repeat (first | refine W_seq ?_ | refine W_skip ?_ | refine W_block ?_ | refine W_inBlock ?_ | refine W_label ?_ | refine W_exit rfl ?_)
        first | refine W_retR hP hf hfn _ ([(b, deck l qy)]) (by first | (simp [go_sem, hP, hgl, hn, nT]; done) | (simp [go_sem, hP, hgl, hn, nT]; rfl)) (by simp [go_sem, hP, hgl, hn, nT]) (by simp) ?_ hR.2 | refine W_endR hP hf hfn _ ([(b, deck l qy)]) (by first | (simp [go_sem, hP, hgl, hn, nT]; done) | (simp [go_sem, hP, hgl, hn, nT]; rfl)) (by simp [go_sem, hP, hgl, hn, nT]) (by simp) ?_ hR.2
        rw [hR.1]
        refine ⟨?_, by simp [nT]⟩
        try simp [nT]
        try all_goals (simp [Ty.dv, Ty.cells_eq, Ty.kind_mk, Ty.args_mk, Tm.dv, Tm.cells_eq, Tm.kind_mk, Tm.index_mk, Tm.type_mk, Tm.args_mk, Val.dv, Val.cells_eq, Val.kind_mk, Val.num_mk, Val.list_mk, Val.args_mk, ints])
      by_cases h2 : k = 2
      · rw [stepD, if_neg h0, if_neg h1, if_pos h2] at hR
        have cx := ihn (t) (g ++ [Ty.mk 1 [], t]) r ht (hg1 [Ty.mk 1 [], t] (by intro x hx; simp at hx; rcases hx with rfl | rfl; exact small_nat; exact ht)) (by simp; omega) hr
        have fx := (hD (t) (g ++ [Ty.mk 1 [], t]) r ht (hg1 [Ty.mk 1 [], t] (by intro x hx; simp at hx; rcases hx with rfl | rfl; exact small_nat; exact ht)) hr).1
        generalize hex : termD l n (t) (g ++ [Ty.mk 1 [], t]) r = rx at cx fx hR
        obtain ⟨x, qx⟩ := rx
        simp only at cx fx hR
        have cy := ihn (t) (g) qx ht hg (by omega) fx
        have fy := (hD (t) (g) qx ht hg fx).1
        generalize hey : termD l n (t) (g) qx = ry at cy fy hR
        obtain ⟨y, qy⟩ := ry
        simp only at cy fy hR
        have hqy := nextD_le (n := 3) fy
        have hby := nextD_bd (l := l) (p := qy) (n := 3) (by decide)
        obtain ⟨m, hm⟩ : ∃ m : Nat, (nextD l qy 3).1 = m := ⟨_, (Int.toNat_of_nonneg hby.1).symm⟩
        rw [hm] at hby
        refine t_g @h2 ?_
        refine t_c6 (j2 @hsub @nat_v) ref01_nat_ok ref01_nat_ok (mk_longer_ok g [Ty.mk 1 [], t] (by simp; omega)) cx (ref02_t_ok 2 t [x]) (ref02_t_ok 2 (Ty.mk 1 []) [Tm.mk 2 0 t [x]]) ?_
        refine t_c4 (j2 @hsub @hm) cy (next_ok b l qy 3 (by decide) (by omega)) (mk_num_ok m (by omega)) (ref02_t_ok 6 t [y, Tm.mk 2 0 (Ty.mk 1 []) [Tm.mk 2 0 t [x]], numTm m]) ?_
        repeat (first | refine W_seq ?_ | refine W_skip ?_ | refine W_block ?_ | refine W_inBlock ?_ | refine W_label ?_ | refine W_exit rfl ?_)
        first | refine W_retR hP hf hfn _ ([(b, deck l (nextD l qy 3).2)]) (by first | (simp [go_sem, hP, hgl, hn, numD, hm]; done) | (simp [go_sem, hP, hgl, hn, numD, hm]; rfl)) (by simp [go_sem, hP, hgl, hn, numD, hm]) (by simp) ?_ hR.2 | refine W_endR hP hf hfn _ ([(b, deck l (nextD l qy 3).2)]) (by first | (simp [go_sem, hP, hgl, hn, numD, hm]; done) | (simp [go_sem, hP, hgl, hn, numD, hm]; rfl)) (by simp [go_sem, hP, hgl, hn, numD, hm]) (by simp) ?_ hR.2
        rw [hR.1]
        refine ⟨?_, by simp [numD, hm]⟩
        try simp [numD, hm]
        try all_goals (simp [Ty.dv, Ty.cells_eq, Ty.kind_mk, Ty.args_mk, Tm.dv, Tm.cells_eq, Tm.kind_mk, Tm.index_mk, Tm.type_mk, Tm.args_mk, Val.dv, Val.cells_eq, Val.kind_mk, Val.num_mk, Val.list_mk, Val.args_mk, ints])
      by_cases h3 : k = 3
      · rw [stepD, if_neg h0, if_neg h1, if_neg h2, if_pos h3] at hR
        have cx := ihn (t) (g ++ [Ty.mk 1 [], Ty.mk 2 [], t]) r ht (hg1 [Ty.mk 1 [], Ty.mk 2 [], t] (by intro x hx; simp at hx; rcases hx with rfl | rfl | rfl; exact small_nat; exact small_list; exact ht)) (by simp; omega) hr
        have fx := (hD (t) (g ++ [Ty.mk 1 [], Ty.mk 2 [], t]) r ht (hg1 [Ty.mk 1 [], Ty.mk 2 [], t] (by intro x hx; simp at hx; rcases hx with rfl | rfl | rfl; exact small_nat; exact small_list; exact ht)) hr).1
        generalize hex : termD l n (t) (g ++ [Ty.mk 1 [], Ty.mk 2 [], t]) r = rx at cx fx hR
        obtain ⟨x, qx⟩ := rx
        simp only at cx fx hR
        have cy := ihn (t) (g) qx ht hg (by omega) fx
        have fy := (hD (t) (g) qx ht hg fx).1
        generalize hey : termD l n (t) (g) qx = ry at cy fy hR
        obtain ⟨y, qy⟩ := ry
        simp only at cy fy hR
        have cz := ihn (Ty.mk 2 []) (g) qy small_list hg (by omega) fy
        have fz := (hD (Ty.mk 2 []) (g) qy small_list hg fy).1
        generalize hez : termD l n (Ty.mk 2 []) (g) qy = rz at cz fz hR
        obtain ⟨z, qz⟩ := rz
        simp only at cz fz hR
        refine t_g @h3 ?_
        refine t_c9 (j2 @hsub (j2 @nat_v @list_v)) ref01_nat_ok ref01_list_ok ref01_nat_ok ref01_list_ok (mk_longer_ok g [Ty.mk 1 [], Ty.mk 2 [], t] (by simp; omega)) cx (ref02_t_ok 2 t [x]) (ref02_t_ok 2 (Ty.mk 2 []) [Tm.mk 2 0 t [x]]) (ref02_t_ok 2 (Ty.mk 1 []) [Tm.mk 2 0 (Ty.mk 2 []) [Tm.mk 2 0 t [x]]]) ?_
        refine t_c4 (j2 @hsub @list_v) cy ref01_list_ok cz (ref02_t_ok 9 t [y, Tm.mk 2 0 (Ty.mk 1 []) [Tm.mk 2 0 (Ty.mk 2 []) [Tm.mk 2 0 t [x]]], z]) ?_
        repeat (first | refine W_seq ?_ | refine W_skip ?_ | refine W_block ?_ | refine W_inBlock ?_ | refine W_label ?_ | refine W_exit rfl ?_)
        first | refine W_retR hP hf hfn _ ([(b, deck l qz)]) (by first | (simp [go_sem, hP, hgl, hn]; done) | (simp [go_sem, hP, hgl, hn]; rfl)) (by simp [go_sem, hP, hgl, hn]) (by simp) ?_ hR.2 | refine W_endR hP hf hfn _ ([(b, deck l qz)]) (by first | (simp [go_sem, hP, hgl, hn]; done) | (simp [go_sem, hP, hgl, hn]; rfl)) (by simp [go_sem, hP, hgl, hn]) (by simp) ?_ hR.2
        rw [hR.1]
        refine ⟨?_, by simp⟩
        try simp
        try all_goals (simp [Ty.dv, Ty.cells_eq, Ty.kind_mk, Ty.args_mk, Tm.dv, Tm.cells_eq, Tm.kind_mk, Tm.index_mk, Tm.type_mk, Tm.args_mk, Val.dv, Val.cells_eq, Val.kind_mk, Val.num_mk, Val.list_mk, Val.args_mk, ints])
      by_cases h4 : k = 4
      · rw [stepD, if_neg h0, if_neg h1, if_neg h2, if_neg h3, if_pos h4] at hR
        have cs := mk_type_ok (gl := gl) 0 b l r hl hr (by decide)
        obtain ⟨fs, ss⟩ := typeD_small l (n := 0) hr (by decide)
        generalize hes : typeD l 0 r = rs at cs fs ss hR
        obtain ⟨s, qs⟩ := rs
        simp only at cs fs ss hR
        have cx := ihn (s) (g) qs ss hg (by omega) fs
        have fx := (hD (s) (g) qs ss hg fs).1
        generalize hex : termD l n (s) (g) qs = rx at cx fx hR
        obtain ⟨x, qx⟩ := rx
        simp only at cx fx hR
        have cy := ihn (t) (g) qx ht hg (by omega) fx
        have fy := (hD (t) (g) qx ht hg fx).1
        generalize hey : termD l n (t) (g) qx = ry at cy fy hR
        obtain ⟨y, qy⟩ := ry
        simp only at cy fy hR
        refine t_g @h4 ?_
        refine t_c1 trivial cs ?_
        refine t_c4 @hsub cx cy (ref02_n_ok 10 [x, y]) (ref02_n_ok 12 [Tm.mk 10 0 (Ty.mk 0 []) [x, y]]) ?_
        repeat (first | refine W_seq ?_ | refine W_skip ?_ | refine W_block ?_ | refine W_inBlock ?_ | refine W_label ?_ | refine W_exit rfl ?_)
        first | refine W_retR hP hf hfn _ ([(b, deck l qy)]) (by first | (simp [go_sem, hP, hgl, hn, nT]; done) | (simp [go_sem, hP, hgl, hn, nT]; rfl)) (by simp [go_sem, hP, hgl, hn, nT]) (by simp) ?_ hR.2 | refine W_endR hP hf hfn _ ([(b, deck l qy)]) (by first | (simp [go_sem, hP, hgl, hn, nT]; done) | (simp [go_sem, hP, hgl, hn, nT]; rfl)) (by simp [go_sem, hP, hgl, hn, nT]) (by simp) ?_ hR.2
        rw [hR.1]
        refine ⟨?_, by simp [nT]⟩
        try simp [nT]
        try all_goals (simp [Ty.dv, Ty.cells_eq, Ty.kind_mk, Ty.args_mk, Tm.dv, Tm.cells_eq, Tm.kind_mk, Tm.index_mk, Tm.type_mk, Tm.args_mk, Val.dv, Val.cells_eq, Val.kind_mk, Val.num_mk, Val.list_mk, Val.args_mk, ints])
      apply W_cutXP (stepD l (termD l n) t g k r = endD l (termD l n) t g r) [(.slot 215, .one (.v (dbool (decide (t.kind = 1))))), (.slot 214, .one (.v (dint t.kind))), (.slot 0, .one (.v (ptr b))), (.slot 1, .one (.v (.sl (g.map Ty.cells)))), (.slot 3, .one (.v (dint ((n + 1 : Nat) : Int)))), (.slot 6, .one (.loc 6 0)), (.loc 6, .row ([.v (dint t.kind), .v (.sl (t.args.map Ty.cells))])), (.slot 8, .one (.loc 8 0)), (.loc 8, .row ([.v (dint 0), .v (dint 0), .v (dint 0), .own 0 [], .own 0 []])), (.heap  b, .row ([.v (.sl (ints l)), .v (dint r)]))]
      · intro hrest
        by_cases h5 : k = 5
        · refine t_g @h5 ?_
          refine t_a ?_
          refine t_sub [] trivial (W_upto (g.length) (fun i => ∀ j, j < i → funP g t j = false) (fun i => [(.slot 177, .one (.v (dint i))), (.slot 176, .one (.v (dint g.length))), (.slot 0, .one (.v (ptr b))), (.slot 1, .one (.v (.sl (g.map Ty.cells)))), (.slot 3, .one (.v (dint ((n + 1 : Nat) : Int)))), (.slot 6, .one (.loc 6 0)), (.loc 6, .row ([.v (dint t.kind), .v (.sl (t.args.map Ty.cells))])), (.slot 8, .one (.loc 8 0)), (.loc 8, .row ([.v (dint 0), .v (dint 0), .v (dint 0), .own 0 [], .own 0 []])), (.heap  b, .row ([.v (.sl (ints l)), .v (dint r)]))]) (by intro j hj; omega) ?_ ?_)
          · intro i hi hI hnext
            have hvt := (varTy_mem hi).2
            have hix : (g.length : Int) - 1 - i = ((g.length - 1 - i : Nat) : Int) := by omega
            refine t_rg0 ?_
            refine t_yes ?_
            refine t_g (j2 @hix @hvt) ?_
            by_cases hk4 : (varTy g i).kind = 4
            · have hfs := hg _ (varTy_mem hi).1
              obtain ⟨c0, c1, -⟩ := hfs.arg (.inr hk4)
              obtain ⟨a0, a1, ha, -, -, e0, e1⟩ := Ty.ok_args hfs.ok (.inr hk4)
              rw [e0] at c0
              refine t_c1 (j2 @hix (j2 @hvt (j2 @hk4 @ha))) (ref01_same_ok a1 t) ?_
              by_cases hs : a1.same t = true
              · have hfi : funN g t = some i := funN_found hi hI (by simp [funP, hk4, e1, hs])
                rw [stepD, if_neg h0, if_neg h1, if_neg h2, if_neg h3, if_neg h4, if_pos h5, hfi] at hR
                simp only at hR
                rw [e0] at hR
                have cx := ihn (a0) (g) r c0 hg (by omega) hr
                have fx := (hD (a0) (g) r c0 hg hr).1
                generalize hex : termD l n (a0) (g) r = rx at cx fx hR
                obtain ⟨x, qx⟩ := rx
                simp only at cx fx hR
                refine t_g @hs ?_
                refine t_a ?_
                first | refine W_reg [] fun K hK => ?_ | refine W_regd (by rw [hP]; exact mixed) [] fun K hK => ?_
                simp [go_sem, hP, hgl, hn, hsub, ha, vT]
                repeat (refine ⟨by omega, ?_⟩)
                first | refine vcK_call hP hgl (ref02_var_ok i) (by simp [go_sem, hP, hgl, hn, hsub, ha, vT]) rfl (by simp [go_sem]) (by simp) (by rw [hn]; exact Nat.le_of_ble_eq_true rfl) ?_ | refine vcdC_call (fun _ _ => vcd_sound) hP hgl (ref02_var_ok i) (by simp [go_sem, hP, hgl, hn, hsub, ha, vT]) rfl (by simp [go_sem]) (by simp) (by rw [hn]; exact Nat.le_of_ble_eq_true rfl) ?_ | refine vcK_callG hP hgl (ref02_var_ok i) (by simp [go_sem, hP, hgl, hn, hsub, ha, vT]) rfl (by simp [go_sem]) (by simp) (by rw [hn]; exact Nat.le_of_ble_eq_true rfl) (by simp [go_sem]; rfl) (by rw [hn]; exact Nat.le_of_ble_eq_true rfl) (by simp [go_sem]) ?_ | refine vcdC_callG (fun _ _ => vcd_sound) hP hgl (ref02_var_ok i) (by simp [go_sem, hP, hgl, hn, hsub, ha, vT]) rfl (by simp [go_sem]) (by simp) (by rw [hn]; exact Nat.le_of_ble_eq_true rfl) (by simp [go_sem]; rfl) (by rw [hn]; exact Nat.le_of_ble_eq_true rfl) (by simp [go_sem]) ?_
                simp [go_sem, hP, hgl, hn, hsub, ha, vT]
                repeat (refine ⟨by omega, ?_⟩)
                first | refine vcK_call hP hgl (cx) (by simp [go_sem, hP, hgl, hn, hsub, ha, vT]) rfl (by simp [go_sem]) (by simp) (by rw [hn]; exact Nat.le_of_ble_eq_true rfl) ?_ | refine vcdC_call (fun _ _ => vcd_sound) hP hgl (cx) (by simp [go_sem, hP, hgl, hn, hsub, ha, vT]) rfl (by simp [go_sem]) (by simp) (by rw [hn]; exact Nat.le_of_ble_eq_true rfl) ?_ | refine vcK_callG hP hgl (cx) (by simp [go_sem, hP, hgl, hn, hsub, ha, vT]) rfl (by simp [go_sem]) (by simp) (by rw [hn]; exact Nat.le_of_ble_eq_true rfl) (by simp [go_sem]; rfl) (by rw [hn]; exact Nat.le_of_ble_eq_true rfl) (by simp [go_sem]) ?_ | refine vcdC_callG (fun _ _ => vcd_sound) hP hgl (cx) (by simp [go_sem, hP, hgl, hn, hsub, ha, vT]) rfl (by simp [go_sem]) (by simp) (by rw [hn]; exact Nat.le_of_ble_eq_true rfl) (by simp [go_sem]; rfl) (by rw [hn]; exact Nat.le_of_ble_eq_true rfl) (by simp [go_sem]) ?_
                simp [go_sem, hP, hgl, hn, hsub, ha, vT]
                repeat (refine ⟨by omega, ?_⟩)
                first | refine vcK_call hP hgl (ref02_n_ok 3 [vT i, x]) (by simp [go_sem, hP, hgl, hn, hsub, ha, vT]) rfl (by simp [go_sem]) (by simp) (by rw [hn]; exact Nat.le_of_ble_eq_true rfl) ?_ | refine vcdC_call (fun _ _ => vcd_sound) hP hgl (ref02_n_ok 3 [vT i, x]) (by simp [go_sem, hP, hgl, hn, hsub, ha, vT]) rfl (by simp [go_sem]) (by simp) (by rw [hn]; exact Nat.le_of_ble_eq_true rfl) ?_ | refine vcK_callG hP hgl (ref02_n_ok 3 [vT i, x]) (by simp [go_sem, hP, hgl, hn, hsub, ha, vT]) rfl (by simp [go_sem]) (by simp) (by rw [hn]; exact Nat.le_of_ble_eq_true rfl) (by simp [go_sem]; rfl) (by rw [hn]; exact Nat.le_of_ble_eq_true rfl) (by simp [go_sem]) ?_ | refine vcdC_callG (fun _ _ => vcd_sound) hP hgl (ref02_n_ok 3 [vT i, x]) (by simp [go_sem, hP, hgl, hn, hsub, ha, vT]) rfl (by simp [go_sem]) (by simp) (by rw [hn]; exact Nat.le_of_ble_eq_true rfl) (by simp [go_sem]; rfl) (by rw [hn]; exact Nat.le_of_ble_eq_true rfl) (by simp [go_sem]) ?_
                simp [go_sem, hP, hgl, hn, hsub, ha, vT]
                refine t_e ?_
                clear hK K
                repeat (first | refine W_seq ?_ | refine W_skip ?_ | refine W_block ?_ | refine W_inBlock ?_ | refine W_label ?_ | refine W_exit rfl ?_)
                first | refine W_retR hP hf hfn _ ([(b, deck l qx)]) (by first | (simp [go_sem, hP, hgl, hn, nT, vT]; done) | (simp [go_sem, hP, hgl, hn, nT, vT]; rfl)) (by simp [go_sem, hP, hgl, hn, nT, vT]) (by simp) ?_ hR.2 | refine W_endR hP hf hfn _ ([(b, deck l qx)]) (by first | (simp [go_sem, hP, hgl, hn, nT, vT]; done) | (simp [go_sem, hP, hgl, hn, nT, vT]; rfl)) (by simp [go_sem, hP, hgl, hn, nT, vT]) (by simp) ?_ hR.2
                rw [hR.1]
                refine ⟨?_, by simp [nT, vT]⟩
                try simp [nT, vT]
                try all_goals (simp [Ty.dv, Ty.cells_eq, Ty.kind_mk, Ty.args_mk, Tm.dv, Tm.cells_eq, Tm.kind_mk, Tm.index_mk, Tm.type_mk, Tm.args_mk, Val.dv, Val.cells_eq, Val.kind_mk, Val.num_mk, Val.list_mk, Val.args_mk, ints])
              · refine t_gt (wr []) trivial @hs (hnext (upto_snoc hI (by simp [funP, hk4, e1, hs])))
            · refine t_gt (wr []) trivial @hk4 (hnext (upto_snoc hI (by simp [funP, hk4])))
          · intro hI
            refine t_rg0 ?_
            refine t_no ?_
            refine t_g0 ?_
            refine t_b ?_
            refine t_sub [] trivial (hrest (by rw [stepD, if_neg h0, if_neg h1, if_neg h2, if_neg h3, if_neg h4, if_pos h5, funN_none hI]))
        · have hE : stepD l (termD l n) t g k r = endD l (termD l n) t g r := by rw [stepD, if_neg h0, if_neg h1, if_neg h2, if_neg h3, if_neg h4, if_neg h5]
          by_cases h6 : k = 6
          · refine t_g @h6 ?_
            refine t_b ?_
            refine t_sub [] trivial (hrest hE)
          · have h7 : k = 7 := by omega
            refine t_g @h7 ?_
            refine t_b ?_
            refine t_sub [] trivial (hrest hE)
      · intro hE
        rw [hE, endD] at hR
        have h5q := nextD_le (n := 5) hr
        have h2q := nextD_le (n := 2) hr
        have hfd := Ty.fold t
        rcases small_kinds ht with ⟨h, e⟩ | ⟨h, e⟩ | ⟨h, e⟩ | ⟨h, e⟩ | ⟨h, e⟩
        · rw [if_pos h] at hR
          rw [h] at hfd
          have hb5 := nextD_bd (l := l) (p := r) (n := 5) (by decide)
          refine t_g (j2 @h @hz2) ?_
          refine t_c1 trivial (next_ok b l r 5 (by decide) (by omega)) ?_
          generalize hd5 : nextD l r 5 = d at *
          obtain ⟨c, q5⟩ := d
          simp only at hR hb5 h5q
          by_cases c0 : c = 0
          · rw [if_pos c0] at hR
            have cx := ihn (t) (g) q5 ht hg (by omega) h5q
            have fx := (hD (t) (g) q5 ht hg h5q).1
            generalize hex : termD l n (t) (g) q5 = rx at cx fx hR
            obtain ⟨x, qx⟩ := rx
            simp only at cx fx hR
            refine t_g @c0 ?_
            refine t_c2 (j2 @hsub @hfd) cx (ref02_n_ok 5 [x]) ?_
            repeat (first | refine W_seq ?_ | refine W_skip ?_ | refine W_block ?_ | refine W_inBlock ?_ | refine W_label ?_ | refine W_exit rfl ?_)
            first | refine W_retR hP hf hfn _ ([(b, deck l qx)]) (by first | (simp [go_sem, hP, hgl, hn, nT]; done) | (simp [go_sem, hP, hgl, hn, nT]; rfl)) (by simp [go_sem, hP, hgl, hn, nT]) (by simp) ?_ hR.2 | refine W_endR hP hf hfn _ ([(b, deck l qx)]) (by first | (simp [go_sem, hP, hgl, hn, nT]; done) | (simp [go_sem, hP, hgl, hn, nT]; rfl)) (by simp [go_sem, hP, hgl, hn, nT]) (by simp) ?_ hR.2
            rw [hR.1]
            refine ⟨?_, by simp [nT]⟩
            try simp [nT]
            try all_goals (simp [Ty.dv, Ty.cells_eq, Ty.kind_mk, Ty.args_mk, Tm.dv, Tm.cells_eq, Tm.kind_mk, Tm.index_mk, Tm.type_mk, Tm.args_mk, Val.dv, Val.cells_eq, Val.kind_mk, Val.num_mk, Val.list_mk, Val.args_mk, ints])
          rw [if_neg c0] at hR
          by_cases c1 : c = 1
          · rw [if_pos c1] at hR
            have cx := ihn (t) (g) q5 ht hg (by omega) h5q
            have fx := (hD (t) (g) q5 ht hg h5q).1
            generalize hex : termD l n (t) (g) q5 = rx at cx fx hR
            obtain ⟨x, qx⟩ := rx
            simp only at cx fx hR
            have cy := ihn (t) (g) qx ht hg (by omega) fx
            have fy := (hD (t) (g) qx ht hg fx).1
            generalize hey : termD l n (t) (g) qx = ry at cy fy hR
            obtain ⟨y, qy⟩ := ry
            simp only at cy fy hR
            refine t_g @c1 ?_
            refine t_c4 (j2 @hsub @hfd) ref05_plus_ok cx cy (mk_app_ok plusT [x, y]) ?_
            repeat (first | refine W_seq ?_ | refine W_skip ?_ | refine W_block ?_ | refine W_inBlock ?_ | refine W_label ?_ | refine W_exit rfl ?_)
            first | refine W_retR hP hf hfn _ ([(b, deck l qy)]) (by first | (simp [go_sem, hP, hgl, hn]; done) | (simp [go_sem, hP, hgl, hn]; rfl)) (by simp [go_sem, hP, hgl, hn]) (by simp) ?_ hR.2 | refine W_endR hP hf hfn _ ([(b, deck l qy)]) (by first | (simp [go_sem, hP, hgl, hn]; done) | (simp [go_sem, hP, hgl, hn]; rfl)) (by simp [go_sem, hP, hgl, hn]) (by simp) ?_ hR.2
            rw [hR.1]
            refine ⟨?_, by simp⟩
            try simp
            try all_goals (simp [Ty.dv, Ty.cells_eq, Ty.kind_mk, Ty.args_mk, Tm.dv, Tm.cells_eq, Tm.kind_mk, Tm.index_mk, Tm.type_mk, Tm.args_mk, Val.dv, Val.cells_eq, Val.kind_mk, Val.num_mk, Val.list_mk, Val.args_mk, ints])
          rw [if_neg c1] at hR
          by_cases c2 : c = 2
          · rw [if_pos c2] at hR
            have cx := ihn (t) (g) q5 ht hg (by omega) h5q
            have fx := (hD (t) (g) q5 ht hg h5q).1
            generalize hex : termD l n (t) (g) q5 = rx at cx fx hR
            obtain ⟨x, qx⟩ := rx
            simp only at cx fx hR
            have cy := ihn (t) (g) qx ht hg (by omega) fx
            have fy := (hD (t) (g) qx ht hg fx).1
            generalize hey : termD l n (t) (g) qx = ry at cy fy hR
            obtain ⟨y, qy⟩ := ry
            simp only at cy fy hR
            refine t_g @c2 ?_
            refine t_c4 (j2 @hsub @hfd) ref05_sub_ok cx cy (mk_app_ok subT [x, y]) ?_
            repeat (first | refine W_seq ?_ | refine W_skip ?_ | refine W_block ?_ | refine W_inBlock ?_ | refine W_label ?_ | refine W_exit rfl ?_)
            first | refine W_retR hP hf hfn _ ([(b, deck l qy)]) (by first | (simp [go_sem, hP, hgl, hn]; done) | (simp [go_sem, hP, hgl, hn]; rfl)) (by simp [go_sem, hP, hgl, hn]) (by simp) ?_ hR.2 | refine W_endR hP hf hfn _ ([(b, deck l qy)]) (by first | (simp [go_sem, hP, hgl, hn]; done) | (simp [go_sem, hP, hgl, hn]; rfl)) (by simp [go_sem, hP, hgl, hn]) (by simp) ?_ hR.2
            rw [hR.1]
            refine ⟨?_, by simp⟩
            try simp
            try all_goals (simp [Ty.dv, Ty.cells_eq, Ty.kind_mk, Ty.args_mk, Tm.dv, Tm.cells_eq, Tm.kind_mk, Tm.index_mk, Tm.type_mk, Tm.args_mk, Val.dv, Val.cells_eq, Val.kind_mk, Val.num_mk, Val.list_mk, Val.args_mk, ints])
          rw [if_neg c2] at hR
          have hb3 := nextD_bd (l := l) (p := q5) (n := 3) (by decide)
          obtain ⟨m, hm⟩ : ∃ m : Nat, (nextD l q5 3).1 = m := ⟨_, (Int.toNat_of_nonneg hb3.1).symm⟩
          rw [hm] at hb3
          by_cases c3 : c = 3
          · refine t_g @c3 ?_
            refine t_c2 @hm (next_ok b l q5 3 (by decide) (by omega)) (mk_num_ok m (by omega)) ?_
            repeat (first | refine W_seq ?_ | refine W_skip ?_ | refine W_block ?_ | refine W_inBlock ?_ | refine W_label ?_ | refine W_exit rfl ?_)
            first | refine W_retR hP hf hfn _ ([(b, deck l (nextD l q5 3).2)]) (by first | (simp [go_sem, hP, hgl, hn, numD, hm]; done) | (simp [go_sem, hP, hgl, hn, numD, hm]; rfl)) (by simp [go_sem, hP, hgl, hn, numD, hm]) (by simp) ?_ hR.2 | refine W_endR hP hf hfn _ ([(b, deck l (nextD l q5 3).2)]) (by first | (simp [go_sem, hP, hgl, hn, numD, hm]; done) | (simp [go_sem, hP, hgl, hn, numD, hm]; rfl)) (by simp [go_sem, hP, hgl, hn, numD, hm]) (by simp) ?_ hR.2
            rw [hR.1]
            refine ⟨?_, by simp [numD, hm]⟩
            try simp [numD, hm]
            try all_goals (simp [Ty.dv, Ty.cells_eq, Ty.kind_mk, Ty.args_mk, Tm.dv, Tm.cells_eq, Tm.kind_mk, Tm.index_mk, Tm.type_mk, Tm.args_mk, Val.dv, Val.cells_eq, Val.kind_mk, Val.num_mk, Val.list_mk, Val.args_mk, ints])
          · have c4 : c = 4 := by omega
            refine t_g @c4 ?_
            refine t_c2 @hm (next_ok b l q5 3 (by decide) (by omega)) (mk_num_ok m (by omega)) ?_
            repeat (first | refine W_seq ?_ | refine W_skip ?_ | refine W_block ?_ | refine W_inBlock ?_ | refine W_label ?_ | refine W_exit rfl ?_)
            first | refine W_retR hP hf hfn _ ([(b, deck l (nextD l q5 3).2)]) (by first | (simp [go_sem, hP, hgl, hn, numD, hm]; done) | (simp [go_sem, hP, hgl, hn, numD, hm]; rfl)) (by simp [go_sem, hP, hgl, hn, numD, hm]) (by simp) ?_ hR.2 | refine W_endR hP hf hfn _ ([(b, deck l (nextD l q5 3).2)]) (by first | (simp [go_sem, hP, hgl, hn, numD, hm]; done) | (simp [go_sem, hP, hgl, hn, numD, hm]; rfl)) (by simp [go_sem, hP, hgl, hn, numD, hm]) (by simp) ?_ hR.2
            rw [hR.1]
            refine ⟨?_, by simp [numD, hm]⟩
            try simp [numD, hm]
            try all_goals (simp [Ty.dv, Ty.cells_eq, Ty.kind_mk, Ty.args_mk, Tm.dv, Tm.cells_eq, Tm.kind_mk, Tm.index_mk, Tm.type_mk, Tm.args_mk, Val.dv, Val.cells_eq, Val.kind_mk, Val.num_mk, Val.list_mk, Val.args_mk, ints])
        · rw [if_neg (by omega), if_pos h] at hR
          rw [h] at hfd
          have hb2 := nextD_bd (l := l) (p := r) (n := 2) (by decide)
          refine t_g @h ?_
          generalize hd2 : nextD l r 2 = d at *
          obtain ⟨c, q2⟩ := d
          have cn := next_ok (gl := gl) b l r 2 (by decide) (by omega)
          rw [hd2] at cn
          simp only at hR hb2 h2q cn
          by_cases c0 : c = 0
          · rw [if_pos c0] at hR
            have cx := ihn (Ty.mk 1 []) (g) q2 small_nat hg (by omega) h2q
            have fx := (hD (Ty.mk 1 []) (g) q2 small_nat hg h2q).1
            generalize hex : termD l n (Ty.mk 1 []) (g) q2 = rx at cx fx hR
            obtain ⟨x, qx⟩ := rx
            simp only at cx fx hR
            have cy := ihn (t) (g) qx ht hg (by omega) fx
            have fy := (hD (t) (g) qx ht hg fx).1
            generalize hey : termD l n (t) (g) qx = ry at cy fy hR
            obtain ⟨y, qy⟩ := ry
            simp only at cy fy hR
            refine t_c1 (j2 @hz2 @c0) cn ?_
            refine t_g @c0 ?_
            refine t_c4 (j2 @hsub (j2 @nat_v @hfd)) ref01_nat_ok cx cy (ref02_n_ok 8 [x, y]) ?_
            repeat (first | refine W_seq ?_ | refine W_skip ?_ | refine W_block ?_ | refine W_inBlock ?_ | refine W_label ?_ | refine W_exit rfl ?_)
            first | refine W_retR hP hf hfn _ ([(b, deck l qy)]) (by first | (simp [go_sem, hP, hgl, hn, nT]; done) | (simp [go_sem, hP, hgl, hn, nT]; rfl)) (by simp [go_sem, hP, hgl, hn, nT]) (by simp) ?_ hR.2 | refine W_endR hP hf hfn _ ([(b, deck l qy)]) (by first | (simp [go_sem, hP, hgl, hn, nT]; done) | (simp [go_sem, hP, hgl, hn, nT]; rfl)) (by simp [go_sem, hP, hgl, hn, nT]) (by simp) ?_ hR.2
            rw [hR.1]
            refine ⟨?_, by simp [nT]⟩
            try simp [nT]
            try all_goals (simp [Ty.dv, Ty.cells_eq, Ty.kind_mk, Ty.args_mk, Tm.dv, Tm.cells_eq, Tm.kind_mk, Tm.index_mk, Tm.type_mk, Tm.args_mk, Val.dv, Val.cells_eq, Val.kind_mk, Val.num_mk, Val.list_mk, Val.args_mk, ints])
          · rw [if_neg c0] at hR
            refine t_c1 (j2 @hz2 @c0) cn ?_
            refine t_g @c0 ?_
            refine t_c1 trivial (ref02_n_ok 7 []) ?_
            repeat (first | refine W_seq ?_ | refine W_skip ?_ | refine W_block ?_ | refine W_inBlock ?_ | refine W_label ?_ | refine W_exit rfl ?_)
            first | refine W_retR hP hf hfn _ ([(b, deck l q2)]) (by first | (simp [go_sem, hP, hgl, hn, nT]; done) | (simp [go_sem, hP, hgl, hn, nT]; rfl)) (by simp [go_sem, hP, hgl, hn, nT]) (by simp) ?_ hR.2 | refine W_endR hP hf hfn _ ([(b, deck l q2)]) (by first | (simp [go_sem, hP, hgl, hn, nT]; done) | (simp [go_sem, hP, hgl, hn, nT]; rfl)) (by simp [go_sem, hP, hgl, hn, nT]) (by simp) ?_ hR.2
            rw [hR.1]
            refine ⟨?_, by simp [nT]⟩
            try simp [nT]
            try all_goals (simp [Ty.dv, Ty.cells_eq, Ty.kind_mk, Ty.args_mk, Tm.dv, Tm.cells_eq, Tm.kind_mk, Tm.index_mk, Tm.type_mk, Tm.args_mk, Val.dv, Val.cells_eq, Val.kind_mk, Val.num_mk, Val.list_mk, Val.args_mk, ints])
        · rw [if_neg (by omega), if_neg (by omega), if_neg (by omega), if_neg (by omega)] at hR
          refine t_g @h ?_
          refine t_c1 trivial (ref02_n_ok 13 []) ?_
          repeat (first | refine W_seq ?_ | refine W_skip ?_ | refine W_block ?_ | refine W_inBlock ?_ | refine W_label ?_ | refine W_exit rfl ?_)
          first | refine W_retR hP hf hfn _ ([(b, deck l r)]) (by first | (simp [go_sem, hP, hgl, hn, nT]; done) | (simp [go_sem, hP, hgl, hn, nT]; rfl)) (by simp [go_sem, hP, hgl, hn, nT]) (by simp) ?_ hR.2 | refine W_endR hP hf hfn _ ([(b, deck l r)]) (by first | (simp [go_sem, hP, hgl, hn, nT]; done) | (simp [go_sem, hP, hgl, hn, nT]; rfl)) (by simp [go_sem, hP, hgl, hn, nT]) (by simp) ?_ hR.2
          rw [hR.1]
          refine ⟨?_, by simp [nT]⟩
          try simp [nT]
          try all_goals (simp [Ty.dv, Ty.cells_eq, Ty.kind_mk, Ty.args_mk, Tm.dv, Tm.cells_eq, Tm.kind_mk, Tm.index_mk, Tm.type_mk, Tm.args_mk, Val.dv, Val.cells_eq, Val.kind_mk, Val.num_mk, Val.list_mk, Val.args_mk, ints])
        · rw [if_neg (by omega), if_neg (by omega), if_pos h] at hR
          obtain ⟨s0, s1, hc⟩ := ht.arg (.inl h)
          have ha : t.args = [t.arg 0, t.arg 1] := by rw [e]; rfl
          have cx := ihn (t.arg 0) (g) r s0 hg (by omega) hr
          have fx := (hD (t.arg 0) (g) r s0 hg hr).1
          generalize hex : termD l n (t.arg 0) (g) r = rx at cx fx hR
          obtain ⟨x, qx⟩ := rx
          simp only at cx fx hR
          have cy := ihn (t.arg 1) (g) qx s1 hg (by omega) fx
          have fy := (hD (t.arg 1) (g) qx s1 hg fx).1
          generalize hey : termD l n (t.arg 1) (g) qx = ry at cy fy hR
          obtain ⟨y, qy⟩ := ry
          simp only at cy fy hR
          refine t_g @h ?_
          refine t_c3 (j2 @hsub @ha) cx cy (ref02_n_ok 10 [x, y]) ?_
          repeat (first | refine W_seq ?_ | refine W_skip ?_ | refine W_block ?_ | refine W_inBlock ?_ | refine W_label ?_ | refine W_exit rfl ?_)
          first | refine W_retR hP hf hfn _ ([(b, deck l qy)]) (by first | (simp [go_sem, hP, hgl, hn, nT]; done) | (simp [go_sem, hP, hgl, hn, nT]; rfl)) (by simp [go_sem, hP, hgl, hn, nT]) (by simp) ?_ hR.2 | refine W_endR hP hf hfn _ ([(b, deck l qy)]) (by first | (simp [go_sem, hP, hgl, hn, nT]; done) | (simp [go_sem, hP, hgl, hn, nT]; rfl)) (by simp [go_sem, hP, hgl, hn, nT]) (by simp) ?_ hR.2
          rw [hR.1]
          refine ⟨?_, by simp [nT]⟩
          try simp [nT]
          try all_goals (simp [Ty.dv, Ty.cells_eq, Ty.kind_mk, Ty.args_mk, Tm.dv, Tm.cells_eq, Tm.kind_mk, Tm.index_mk, Tm.type_mk, Tm.args_mk, Val.dv, Val.cells_eq, Val.kind_mk, Val.num_mk, Val.list_mk, Val.args_mk, ints])
        · rw [if_neg (by omega), if_neg (by omega), if_neg (by omega), if_pos h] at hR
          obtain ⟨s0, s1, hc⟩ := ht.arg (.inr h)
          have ha : t.args = [t.arg 0, t.arg 1] := by rw [e]; rfl
          have cx := ihn (t.arg 1) (g ++ [t.arg 0]) r s1 (hg1 [t.arg 0] (by simpa using s0)) (by simp; omega) hr
          have fx := (hD (t.arg 1) (g ++ [t.arg 0]) r s1 (hg1 [t.arg 0] (by simpa using s0)) hr).1
          generalize hex : termD l n (t.arg 1) (g ++ [t.arg 0]) r = rx at cx fx hR
          obtain ⟨x, qx⟩ := rx
          simp only at cx fx hR
          refine t_g @h ?_
          refine t_c3 (j2 @hsub @ha) (mk_longer_ok g [t.arg 0] (by simp; omega)) cx (ref02_t_ok 2 (t.arg 0) [x]) ?_
          repeat (first | refine W_seq ?_ | refine W_skip ?_ | refine W_block ?_ | refine W_inBlock ?_ | refine W_label ?_ | refine W_exit rfl ?_)
          first | refine W_retR hP hf hfn _ ([(b, deck l qx)]) (by first | (simp [go_sem, hP, hgl, hn]; done) | (simp [go_sem, hP, hgl, hn]; rfl)) (by simp [go_sem, hP, hgl, hn]) (by simp) ?_ hR.2 | refine W_endR hP hf hfn _ ([(b, deck l qx)]) (by first | (simp [go_sem, hP, hgl, hn]; done) | (simp [go_sem, hP, hgl, hn]; rfl)) (by simp [go_sem, hP, hgl, hn]) (by simp) ?_ hR.2
          rw [hR.1]
          refine ⟨?_, by simp⟩
          try simp
          try all_goals (simp [Ty.dv, Ty.cells_eq, Ty.kind_mk, Ty.args_mk, Tm.dv, Tm.cells_eq, Tm.kind_mk, Tm.index_mk, Tm.type_mk, Tm.args_mk, Val.dv, Val.cells_eq, Val.kind_mk, Val.num_mk, Val.list_mk, Val.args_mk, ints])
  · rw [hpk] at hR
    simp only at hR
    obtain ⟨h0, h1, k, i, hk, hi, rfl, rfl⟩ := pickD_some' hpk
    have hpos : 0 < (varsN g t).length := by omega
    have hpos3 : 0 < (nextD l p 3).1 := by omega
    have hgi := ints_get (l := natI (varsN g t)) (i := k) (n := i) (by simp [natI, hi])
    have hkl := (List.getElem?_eq_some_iff.1 hi).1
    refine t_g0 ?_
    refine t_c1 trivial (mk_vars_ok g t (by omega)) ?_
    refine t_g0 ?_
    refine t_c1 (j2 @natI_len (j2 @hpos @hpos3)) (next_ok b l p 3 (by decide) (by omega)) ?_
    refine t_g @hpos3 ?_
    refine t_c2 (j2 @natI_len (j2 @hk @hgi)) (next_ok b l (nextD l p 3).2 (varsN g t).length (by omega) (by omega)) (ref02_var_ok i) ?_
    repeat (first | refine W_seq ?_ | refine W_skip ?_ | refine W_block ?_ | refine W_inBlock ?_ | refine W_label ?_ | refine W_exit rfl ?_)
    first | refine W_retR hP hf hfn _ ([(b, deck l (nextD l (nextD l p 3).2 (varsN g t).length).2)]) (by first | (simp [go_sem, hP, hgl, hn, vT]; done) | (simp [go_sem, hP, hgl, hn, vT]; rfl)) (by simp [go_sem, hP, hgl, hn, vT]) (by simp) ?_ hR.2 | refine W_endR hP hf hfn _ ([(b, deck l (nextD l (nextD l p 3).2 (varsN g t).length).2)]) (by first | (simp [go_sem, hP, hgl, hn, vT]; done) | (simp [go_sem, hP, hgl, hn, vT]; rfl)) (by simp [go_sem, hP, hgl, hn, vT]) (by simp) ?_ hR.2
    rw [hR.1]
    refine ⟨?_, by simp [vT]⟩
    try simp [vT]
    try all_goals (simp [Ty.dv, Ty.cells_eq, Ty.kind_mk, Ty.args_mk, Tm.dv, Tm.cells_eq, Tm.kind_mk, Tm.index_mk, Tm.type_mk, Tm.args_mk, Val.dv, Val.cells_eq, Val.kind_mk, Val.num_mk, Val.list_mk, Val.args_mk, ints])
end Go.Proofs.YtmdjiajbnifjpaaDoor.Lift

/-
  Drawn terms have small indices; so has their code.
-/
namespace Go.Proofs.YtmdjiajbnifjpaaDoor.Lift
set_option linter.unusedSimpArgs false
set_option linter.unusedVariables false
set_option linter.unnecessarySimpa false
open Go

theorem idx_nd {k : Int} {s : Ty} {l : List Tm} {m : Int} (hm : 0 ≤ m) (h : ∀ x ∈ l, x.idx m) : (Tm.mk k 0 s l).idx m := by
  rw [Tm.idx_eq]; exact ⟨⟨Int.le_refl _, hm⟩, h⟩
theorem idx_vr {i m : Int} (h0 : 0 ≤ i) (h : i ≤ m) : (vT i).idx m := by
  unfold vT; rw [Tm.idx_eq]; exact ⟨⟨h0, h⟩, fun x hx => by cases hx⟩
theorem plus_idx : plusT.idx 3 ∧ 3 ≤ plusT.count := by
  refine ⟨?_, by decide⟩
  simp [plusT, lamsT, recT, twoT, nT, vT, Tm.idx, Tm.idx.idxs]
theorem sub_idx : subT.idx 3 ∧ 3 ≤ subT.count := by
  refine ⟨?_, by decide⟩
  simp [subT, predT, appsT, appT, lamsT, recT, twoT, nT, vT, Tm.idx, Tm.idx.idxs]
theorem num_idx (n : Nat) (m : Int) (hm : 0 ≤ m) : (numTm n).idx m := by
  induction n with
  | zero => rw [numTm]; exact idx_nd hm (by simp)
  | succ n ih => rw [numTm]; exact idx_nd hm (by intro x hx; rw [List.mem_singleton.1 hx]; exact ih)
def IdxQ (_ : Ty) (g : List Ty) (x : Tm) : Prop := ∀ m : Int, (g.length : Int) + x.count ≤ m → x.idx m
theorem app2_idx {f : Tm} (hf : f.idx 3 ∧ 3 ≤ f.count) (g : List Ty) (x y : Tm) (hx : IdxQ (Ty.mk 1 []) g x) (hy : IdxQ (Ty.mk 1 []) g y) : IdxQ (Ty.mk 1 []) g (appsT f [x, y]) := by
  intro m hm
  have e : appsT f [x, y] = nT 3 [nT 3 [f, x], y] := rfl
  rw [e] at hm ⊢
  simp only [nT, Tm.count, Tm.count.counts] at hm
  have := hf.2
  refine idx_nd (by omega) ?_
  intro z hz
  simp at hz
  rcases hz with rfl | rfl
  · refine idx_nd (by omega) ?_
    intro z hz
    simp at hz
    rcases hz with rfl | rfl
    · exact Tm.idx_mono (by omega) hf.1
    · exact hx m (by omega)
  · exact hy m (by omega)
theorem draw_idx : DrawOK IdxQ where
  var g i hi m hm := by
    refine idx_vr (by omega) ?_
    omega
  num g n _ m hm := num_idx n m (by omega)
  app g s t f x _ _ hf hx m hm := by
    simp only [nT, Tm.count, Tm.count.counts] at hm
    exact idx_nd (by omega) (by intro z hz; simp at hz; rcases hz with rfl | rfl; exact hf m (by omega); exact hx m (by omega))
  lam g s t x _ _ hx m hm := by
    simp only [Tm.count, Tm.count.counts] at hm
    exact idx_nd (by omega) (by intro z hz; simp at hz; rw [hz]; exact hx m (by simp; omega))
  lam2 g s t r x _ _ _ hx m hm := by
    simp only [Tm.count, Tm.count.counts] at hm
    exact idx_nd (by omega) (by intro z hz; simp at hz; rw [hz]; exact idx_nd (by omega) (by intro z hz; simp at hz; rw [hz]; exact hx m (by simp; omega)))
  lam3 g s t u r x _ _ _ _ hx m hm := by
    simp only [Tm.count, Tm.count.counts] at hm
    exact idx_nd (by omega) (by intro z hz; simp at hz; rw [hz]; exact idx_nd (by omega) (by intro z hz; simp at hz; rw [hz]; exact idx_nd (by omega) (by intro z hz; simp at hz; rw [hz]; exact hx m (by simp; omega))))
  pair g s t f x _ _ hf hx m hm := by
    simp only [nT, Tm.count, Tm.count.counts] at hm
    exact idx_nd (by omega) (by intro z hz; simp at hz; rcases hz with rfl | rfl; exact hf m (by omega); exact hx m (by omega))
  fst g s t x _ _ hx m hm := by
    simp only [nT, Tm.count, Tm.count.counts] at hm
    exact idx_nd (by omega) (by intro z hz; simp at hz; rw [hz]; exact hx m (by omega))
  snd g s t x _ _ hx m hm := by
    simp only [nT, Tm.count, Tm.count.counts] at hm
    exact idx_nd (by omega) (by intro z hz; simp at hz; rw [hz]; exact hx m (by omega))
  rc g t x f n _ hx hf hn m hm := by
    simp only [Tm.count, Tm.count.counts] at hm
    exact idx_nd (by omega) (by intro z hz; simp at hz; rcases hz with rfl | rfl | rfl; exact hx m (by omega); exact hf m (by omega); exact hn m (by omega))
  fold g t x f n _ hx hf hn m hm := by
    simp only [Tm.count, Tm.count.counts] at hm
    exact idx_nd (by omega) (by intro z hz; simp at hz; rcases hz with rfl | rfl | rfl; exact hx m (by omega); exact hf m (by omega); exact hn m (by omega))
  succ g x hx m hm := by
    simp only [nT, Tm.count, Tm.count.counts] at hm
    exact idx_nd (by omega) (by intro z hz; simp at hz; rw [hz]; exact hx m (by omega))
  plus g x y hx hy := app2_idx plus_idx g x y hx hy
  sub g x y hx hy := app2_idx sub_idx g x y hx hy
  nil g m hm := idx_nd (by omega) (by simp)
  cons g x y hf hx m hm := by
    simp only [nT, Tm.count, Tm.count.counts] at hm
    exact idx_nd (by omega) (by intro z hz; simp at hz; rcases hz with rfl | rfl; exact hf m (by omega); exact hx m (by omega))
  unit g m hm := idx_nd (by omega) (by simp)

theorem skel_idx (t : Tm) (m : Int) : t.idx m → (∀ x ∈ t.skel, x.1 = 1 → 0 ≤ x.2 ∧ x.2 ≤ m) ∧ ∀ s ∈ t.subs, s.idx m := by
  induction t using Tm.ind with
  | h t ih =>
  intro hi
  obtain ⟨h1, h2⟩ := (Tm.idx_eq t m).1 hi
  have key : ∀ l : List Tm, (∀ x ∈ l, x ∈ t.args) → (∀ x ∈ Tm.skel.skels l, x.1 = 1 → 0 ≤ x.2 ∧ x.2 ≤ m) ∧ ∀ s ∈ Tm.subs.subss l, s.idx m := by
    intro l
    induction l with
    | nil => intro _; exact ⟨(fun x hx => by cases hx), fun s hs => by cases hs⟩
    | cons a r ihr =>
      intro hl
      obtain ⟨k1, k2⟩ := ih a (hl a (by simp)) (h2 a (hl a (by simp)))
      obtain ⟨k3, k4⟩ := ihr fun x hx => hl x (by simp [hx])
      constructor
      · intro x hx
        rcases List.mem_append.1 hx with hx | hx
        · exact k1 x hx
        · exact k3 x hx
      · intro x hx
        rcases List.mem_append.1 hx with hx | hx
        · exact k2 x hx
        · exact k4 x hx
  obtain ⟨k1, k2⟩ := key t.args fun _ h => h
  rw [Tm.skel_eq, Tm.subs_eq]
  split
  · refine ⟨fun x hx h => ?_, h2⟩
    simp at hx
    subst hx
    simp at h
  · refine ⟨fun x hx h => ?_, k2⟩
    rcases List.mem_append.1 hx with hx | hx
    · exact k1 x hx h
    · simp at hx
      subst hx
      exact h1
theorem bfs_idx (m : Int) : ∀ q : List Tm, (∀ t ∈ q, t.idx m) → ∀ t ∈ Tm.bfs q, t.idx m
  | [], _ => by rw [Tm.bfs_nil]; intro t ht; cases ht
  | t :: r, h => by
    rw [Tm.bfs_cons]
    intro s hs
    rcases List.mem_cons.1 hs with rfl | hs
    · exact h _ (by simp)
    · refine bfs_idx m (r ++ t.subs) (fun x hx => ?_) s hs
      rcases List.mem_append.1 hx with hx | hx
      · exact h x (by simp [hx])
      · exact (skel_idx t m (h t (by simp))).2 x hx
termination_by q => Tm.count.counts q
decreasing_by
  have := Tm.skel_count t
  have := Tm.skel_pos t
  simp only [Tm.counts_app, Tm.count.counts]
  omega
theorem fillF_mem (p : Nat → Int) : ∀ (c : List Ins) (j : Nat) (x : Ins), x ∈ fillF p j c → (x.1 = 2 ∧ ∃ k, j ≤ k ∧ k < j + funs c ∧ x.2 = p k) ∨ (¬ x.1 = 2 ∧ x ∈ c)
  | [], j, x, h => by simp [fillF] at h
  | (o, a) :: r, j, x, h => by
    have hf := funs_cons (o, a) r
    simp only [fillF] at h
    split at h
    · rename_i ho
      simp only at hf
      rw [if_pos ho] at hf
      rcases List.mem_cons.1 h with rfl | h
      · exact .inl ⟨rfl, j, Nat.le_refl _, by omega, rfl⟩
      · rcases fillF_mem p r (j + 1) x h with ⟨h1, k, h2, h3, h4⟩ | ⟨h1, h2⟩
        · exact .inl ⟨h1, k, by omega, by omega, h4⟩
        · exact .inr ⟨h1, by simp [h2]⟩
    · rename_i ho
      simp only at hf
      rw [if_neg ho] at hf
      rcases List.mem_cons.1 h with rfl | h
      · exact .inr ⟨ho, by simp⟩
      · rcases fillF_mem p r j x h with ⟨h1, k, h2, h3, h4⟩ | ⟨h1, h2⟩
        · exact .inl ⟨h1, k, h2, by omega, h4⟩
        · exact .inr ⟨h1, by simp [h2]⟩
/-- the numbers in code are small -/
theorem code_small (t : Tm) (h : t.shape = true) {m : Int} (hi : t.idx m) (hm : 4096 ≤ m) (hl : t.codeN.length ≤ 4096) : ∀ x ∈ t.codeN, 0 ≤ x.2 ∧ x.2 ≤ m := by
  intro x hx
  have hlen : t.codeN.length = (lay t.blocks).length := by unfold Tm.codeN prog; exact fillF_length _ _ _
  unfold Tm.codeN prog at hx
  rcases fillF_mem _ _ _ x hx with ⟨h1, k, -, h3, h4⟩ | ⟨h1, h2⟩
  · rw [h4]
    have : startAt t.blocks (k + 1) ≤ (lay t.blocks).length := by
      unfold startAt
      conv => rhs; rw [← List.take_append_drop (k + 1) t.blocks]
      rw [lay_append, List.length_append]
      exact Nat.le_add_right _ _
    omega
  · unfold lay at h2
    rw [List.mem_flatMap] at h2
    obtain ⟨b, hb, hxb⟩ := h2
    rcases List.mem_append.1 hxb with hxb | hxb
    · unfold Tm.blocks at hb
      obtain ⟨s, hs, rfl⟩ := List.mem_map.1 hb
      have hsi := bfs_idx m [t] (by simpa using hi) s hs
      have hss := bfs_shape [t] (by simpa using h) s hs
      by_cases h5 : x.1 = 1
      · exact (skel_idx s m hsi).1 x hxb h5
      · have h6 := (skel_ok s hss x hxb).2.2
        rw [if_neg h5] at h6
        omega
    · rw [List.mem_singleton.1 hxb]
      exact ⟨Int.le_refl _, by simp only; omega⟩
end Go.Proofs.YtmdjiajbnifjpaaDoor.Lift

namespace Go.Proofs.YtmdjiajbnifjpaaDoor.Lift
set_option linter.unusedSimpArgs false
set_option linter.unusedVariables false
set_option linter.unnecessarySimpa false
open Go
variable {gl : Globs}

/-! sizes of what is drawn, and of the terms of values -/
theorem shape_tys (t : Tm) (h : t.shape = true) : t.tys := by
  induction t using Tm.ind with
  | h t ih =>
  obtain ⟨-, -, -, h4, h5⟩ := Tm.shape_node h
  rw [Tm.tys_eq]
  refine ⟨?_, fun a ha => ih a ha (h5 a ha)⟩
  split at h4
  · have := h4.2; omega
  · unfold Ty.zero at h4
    simp at h4
    rw [Ty.count_eq, h4.2]
    decide

theorem pickD_count {l : List Int} {t : Ty} {g : List Ty} {p q : Nat} {x : Tm} (h : pickD l t g p = (some x, q)) : x.count = 1 := by
  obtain ⟨i, rfl, -⟩ := pickD_some h
  rfl
theorem numD_count (l : List Int) (p : Nat) : (numD l p).1.count ≤ 3 := by
  have := nextD_bd (l := l) (p := p) (n := 3) (by decide)
  show (numTm _).count ≤ 3
  rw [numTm_count]
  omega
theorem leafD_count (l : List Int) (t : Ty) : t.small → ∀ (g : List Ty) (p : Nat), (leafD l t g p).1.count ≤ 3 * t.count := by
  generalize hn : t.count = n
  induction n using Nat.strongRecOn generalizing t with
  | _ n ih =>
  intro ht g p
  have h1 : 1 ≤ t.count := by rw [Ty.count_eq]; omega
  rw [leafD_eq l t g p ht.ok]
  split
  · rename_i x q hx
    have := pickD_count hx
    simp only; omega
  · rename_i q hx
    have hN := numD_count l q
    rcases small_kinds ht with ⟨h, e⟩ | ⟨h, e⟩ | ⟨h, e⟩ | ⟨h, e⟩ | ⟨h, e⟩
    · rw [if_pos h]; omega
    · rw [if_neg (by omega), if_pos h]; show 1 + 0 ≤ _; omega
    · rw [if_neg (by omega), if_neg (by omega), if_neg (by omega), if_neg (by omega)]; show 1 + 0 ≤ _; omega
    · rw [if_neg (by omega), if_neg (by omega), if_pos h]
      obtain ⟨s0, s1, hc⟩ := ht.arg (.inl h)
      have a := ih _ (by omega) (t.arg 0) rfl s0 g q
      have b := ih _ (by omega) (t.arg 1) rfl s1 g (leafD l (t.arg 0) g q).2
      show 1 + (_ + (_ + 0)) ≤ _
      omega
    · rw [if_neg (by omega), if_neg (by omega), if_neg (by omega), if_pos h]
      obtain ⟨s0, s1, hc⟩ := ht.arg (.inr h)
      have b := ih _ (by omega) (t.arg 1) rfl s1 (g ++ [t.arg 0]) q
      show 1 + (_ + 0) ≤ _
      omega

def Small (l : List Int) (F : Ty → List Ty → Nat → Tm × Nat) (B : Nat) : Prop := ∀ t g p, t.small → (∀ x ∈ g, x.small) → p ≤ l.length → (F t g p).1.count ≤ B
theorem plusT_count : plusT.count = 9 := by decide
theorem subT_count : subT.count ≤ 16 := by decide
theorem app2_count (f x y : Tm) : (appsT f [x, y]).count = 2 + f.count + x.count + y.count := by
  show 1 + ((1 + (f.count + (x.count + 0))) + (y.count + 0)) = _
  omega
theorem endD_count {l : List Int} {F : Ty → List Ty → Nat → Tm × Nat} {B : Nat} (hD : Draws l F (fun _ _ x => x.shape = true)) (hF : Small l F B) : Small l (endD l F) (2 * B + 20) := by
  intro t g q ht hg hq
  have h5 := nextD_le (n := 5) hq
  have h2 := nextD_le (n := 2) hq
  have c1 := hF t g (nextD l q 5).2 ht hg h5
  have d1 := (hD t g (nextD l q 5).2 ht hg h5).1
  have c2 := hF t g _ ht hg d1
  have e1 := hF (Ty.mk 1 []) g (nextD l q 2).2 small_nat hg h2
  have f1 := (hD (Ty.mk 1 []) g (nextD l q 2).2 small_nat hg h2).1
  have e2 := hF t g _ ht hg f1
  have hN := numD_count l (nextD l q 5).2
  have hp := plusT_count
  have hs := subT_count
  unfold endD
  split
  · split
    · show 1 + (_ + 0) ≤ _; omega
    split
    · simp only [app2_count]; omega
    split
    · simp only [app2_count]; omega
    · omega
  split
  · split
    · show 1 + (_ + (_ + 0)) ≤ _; omega
    · show 1 + 0 ≤ _; omega
  split
  · rename_i h
    obtain ⟨s0, s1, -⟩ := ht.arg (.inl h)
    have a1 := hF (t.arg 0) g q s0 hg hq
    have a2 := hF (t.arg 1) g _ s1 hg (hD (t.arg 0) g q s0 hg hq).1
    show 1 + (_ + (_ + 0)) ≤ _; omega
  split
  · rename_i h
    obtain ⟨s0, s1, -⟩ := ht.arg (.inr h)
    have a2 := hF (t.arg 1) (g ++ [t.arg 0]) q s1 (by intro x hx; rcases List.mem_append.1 hx with hx | hx; exact hg x hx; rw [List.mem_singleton.1 hx]; exact s0) hq
    show 1 + (_ + 0) ≤ _; omega
  · show 1 + 0 ≤ _; omega
end Go.Proofs.YtmdjiajbnifjpaaDoor.Lift

/-
  Plain law: what is drawn has its type, by the rules, and at most 4096 nodes.
-/
namespace Go.Proofs.YtmdjiajbnifjpaaDoor.Lift
set_option linter.unusedSimpArgs false
set_option linter.unusedVariables false
set_option linter.unnecessarySimpa false
open Go

theorem endD_count' {l : List Int} {F : Ty → List Ty → Nat → Tm × Nat} {B : Nat} (hB : 16 ≤ B) (hD : Draws l F (fun _ _ x => x.shape = true)) (hF : Small l F B) : Small l (endD l F) (3 * B + 4) := fun t g p ht hg hp => by
  have := endD_count hD hF t g p ht hg hp
  omega
theorem stepD_count' {l : List Int} {F : Ty → List Ty → Nat → Tm × Nat} {B : Nat} (hB : 16 ≤ B) (hD : Draws l F (fun _ _ x => x.shape = true)) (hF : Small l F B) (k : Int) : Small l (fun t g p => stepD l F t g k p) (3 * B + 4) := by
  intro t g p ht hg hp
  have hg1 : ∀ a : List Ty, (∀ x ∈ a, x.small) → ∀ x ∈ g ++ a, x.small := by
    intro a ha x hx
    rcases List.mem_append.1 hx with hx | hx
    · exact hg x hx
    · exact ha x hx
  have hE := endD_count' hB hD hF t g p ht hg hp
  obtain ⟨s1, s2⟩ := typeD_small l (n := 0) hp (by decide)
  show (stepD l F t g k p).1.count ≤ _
  unfold stepD
  split
  · have gs := hg1 [(typeD l 0 p).1] (by simpa using s2)
    have a := hF t _ _ ht gs s1
    have b := hF _ g _ s2 hg (hD t _ _ ht gs s1).1
    show 1 + ((1 + (_ + 0)) + (_ + 0)) ≤ _; omega
  split
  · have a := hF t g _ ht hg s1
    have b := hF _ g _ s2 hg (hD t g _ ht hg s1).1
    show 1 + ((1 + (_ + (_ + 0))) + 0) ≤ _; omega
  split
  · have gs := hg1 [Ty.mk 1 [], t] (by intro x hx; simp at hx; rcases hx with rfl | rfl; exact small_nat; exact ht)
    have d := (hD t _ _ ht gs hp).1
    have a := hF t _ _ ht gs hp
    have b := hF t g _ ht hg d
    have c := numD_count l (F t g (F t (g ++ [Ty.mk 1 [], t]) p).2).2
    show 1 + (_ + ((1 + ((1 + (_ + 0)) + 0)) + (_ + 0))) ≤ _; omega
  split
  · have gs := hg1 [Ty.mk 1 [], Ty.mk 2 [], t] (by intro x hx; simp at hx; rcases hx with rfl | rfl | rfl; exact small_nat; exact small_list; exact ht)
    have d := (hD t _ _ ht gs hp).1
    have a := hF t _ _ ht gs hp
    have b := hF t g _ ht hg d
    have c := hF (Ty.mk 2 []) g _ small_list hg (hD t g _ ht hg d).1
    show 1 + (_ + ((1 + ((1 + ((1 + (_ + 0)) + 0)) + 0)) + (_ + 0))) ≤ _; omega
  split
  · have a := hF _ g _ s2 hg s1
    have b := hF t g _ ht hg (hD _ g _ s2 hg s1).1
    show 1 + ((1 + (_ + (_ + 0))) + 0) ≤ _; omega
  split
  · split
    · rename_i i hi
      obtain ⟨f1, f2, f3⟩ := funN_some hi
      obtain ⟨c0, c1, -⟩ := (hg _ (varTy_mem f1).1).arg (.inr f2)
      have a := hF _ g _ c0 hg hp
      show 1 + ((1 + 0) + (_ + 0)) ≤ _; omega
    · omega
  · omega
def drawC : Nat → Nat
  | 0 => 45
  | n + 1 => 3 * drawC n + 4
theorem drawC_pos : ∀ n, 16 ≤ drawC n
  | 0 => by decide
  | n + 1 => by have := drawC_pos n; simp only [drawC]; omega
theorem termD_count' (l : List Int) : ∀ n, Small l (termD l n) (drawC n)
  | 0 => by intro t g p ht hg hp; have := leafD_count l t ht g p; have := ht.2; show _ ≤ 45; simp only [termD]; omega
  | n + 1 => by
    intro t g p ht hg hp
    have hq := pickD_le (t := t) (g := g) hp
    have ih := stepD_count' (drawC_pos n) (termD_facts closed_shape n) (termD_count' l n)
    unfold termD
    split
    · rename_i x q hx
      have := pickD_count hx
      simp only [drawC]; omega
    · rename_i q hx
      rw [hx] at hq
      exact ih _ t g _ ht hg (nextD_le hq)

end Go.Proofs.YtmdjiajbnifjpaaDoor.Lift

/-
  play.Data, mk.Closed, play.Code.
-/
namespace Go.Proofs.YtmdjiajbnifjpaaDoor.Lift
set_option linter.unusedSimpArgs false
set_option linter.unusedVariables false
set_option linter.unnecessarySimpa false
open Go
variable {gl : Globs}

def dataD (l : List Int) (p : Nat) : (Tm × Ty) × Nat := (((termD l 3 (plainD l p).1 [] (plainD l p).2).1, (plainD l p).1), (termD l 3 (plainD l p).1 [] (plainD l p).2).2)
def closedD (l : List Int) (p : Nat) : (Tm × Ty) × Nat := (((termD l 3 (typeD l 1 p).1 [] (typeD l 1 p).2).1, (typeD l 1 p).1), (termD l 3 (typeD l 1 p).1 [] (typeD l 1 p).2).2)
theorem plainD_small (l : List Int) (p : Nat) : (plainD l p).1.small := by
  rcases plainD_cases l p with h | h | h | h | h <;> rw [h] <;> exact ⟨by decide, by decide⟩
/-- what is asked of a drawn term -/
structure DrawnT (t : Tm) : Prop where
  shape : t.shape = true
  idx : t.idx 1267
  count : t.count ≤ 1267
theorem drawnT (l : List Int) {p : Nat} (hp : p ≤ l.length) {ty : Ty} (ht : ty.small) : DrawnT (termD l 3 ty [] p).1 ∧ (termD l 3 ty [] p).2 ≤ l.length := by
  obtain ⟨f1, f2⟩ := termD_facts (l := l) closed_shape 3 ty [] p ht (by simp) hp
  obtain ⟨-, f3⟩ := termD_facts (l := l) draw_idx 3 ty [] p ht (by simp) hp
  have g1 := termD_count' l 3 ty [] p ht (by simp) hp
  have hB : drawC 3 = 1267 := rfl
  rw [hB] at g1
  exact ⟨⟨f2, f3 1267 (by simp; omega), g1⟩, f1⟩
theorem data_ok (b : Nat) (l : List Int) (p : Nat) (hl : l.length ≤ 500) (hp : p ≤ l.length) :
    Con1 Tryd.prog gl 53 [ptr b] [(b, deck l p)] (.tup [(dataD l p).1.1.dv, (dataD l p).1.2.dv]) [(b, deck l (dataD l p).2)] := by
  have w1 := plain_ok (gl := gl) b l p hl hp
  have h1 := plainD_small l p
  have h2 : (plainD l p).2 ≤ l.length := nextD_le (n := 6) hp
  have w2 := mk_term_ok (gl := gl) b l hl 3 (by decide) (plainD l p).1 [] (plainD l p).2 h1 (by simp) (by simp) h2
  unfold dataD
  generalize plainD l p = d at *
  obtain ⟨ty, q⟩ := d
  simp only at h1 h2 w1 w2 ⊢
  generalize termD l 3 ty [] q = d at *
  obtain ⟨t, q2⟩ := d
  simp only [List.map_nil] at w1 w2 ⊢
  refine t_in Tryd.func53 ?_
  intro X hP hgl hf hfn hn hR hids hfit
  have hft := Ty.fold ty
  have hfa := Tm.fold t
  refine t_g0 ?_
  refine t_c1 @hft w1 ?_
  refine t_g0 ?_
  refine t_c1 @hft w2 ?_
  refine t_g (j2 @hfa @hft) ?_
  repeat (first | refine W_seq ?_ | refine W_skip ?_ | refine W_block ?_ | refine W_inBlock ?_ | refine W_label ?_ | refine W_exit rfl ?_)
  first | refine W_retR hP hf hfn _ ([(b, deck l q2)]) (by first | (simp [go_sem, hP, hgl, hn, hfa, hft]; done) | (simp [go_sem, hP, hgl, hn, hfa, hft]; rfl)) (by simp [go_sem, hP, hgl, hn, hfa, hft]) (by simp) ?_ hR.2 | refine W_endR hP hf hfn _ ([(b, deck l q2)]) (by first | (simp [go_sem, hP, hgl, hn, hfa, hft]; done) | (simp [go_sem, hP, hgl, hn, hfa, hft]; rfl)) (by simp [go_sem, hP, hgl, hn, hfa, hft]) (by simp) ?_ hR.2
  rw [hR.1]
  refine ⟨?_, by simp [hfa, hft]⟩
  try simp [hfa, hft]
  try all_goals (simp [Ty.dv, Ty.cells_eq, Ty.kind_mk, Ty.args_mk, Tm.dv, Tm.cells_eq, Tm.kind_mk, Tm.index_mk, Tm.type_mk, Tm.args_mk, Val.dv, Val.cells_eq, Val.kind_mk, Val.num_mk, Val.list_mk, Val.args_mk, ints])
theorem closed_ok (b : Nat) (l : List Int) (p : Nat) (hl : l.length ≤ 500) (hp : p ≤ l.length) :
    Con1 Tryd.prog gl 54 [ptr b] [(b, deck l p)] (.tup [(closedD l p).1.1.dv, (closedD l p).1.2.dv]) [(b, deck l (closedD l p).2)] := by
  have w1 := mk_type_ok (gl := gl) 1 b l p hl hp (by decide)
  obtain ⟨h2, h1⟩ := typeD_small l (n := 1) hp (by decide)
  have w2 := mk_term_ok (gl := gl) b l hl 3 (by decide) (typeD l 1 p).1 [] (typeD l 1 p).2 h1 (by simp) (by simp) h2
  unfold closedD
  generalize typeD l 1 p = d at *
  obtain ⟨ty, q⟩ := d
  simp only at h1 h2 w1 w2 ⊢
  generalize termD l 3 ty [] q = d at *
  obtain ⟨t, q2⟩ := d
  simp only [List.map_nil] at w1 w2 ⊢
  refine t_in Tryd.func54 ?_
  intro X hP hgl hf hfn hn hR hids hfit
  have hft := Ty.fold ty
  have hfa := Tm.fold t
  refine t_g0 ?_
  refine t_c1 @hft w1 ?_
  refine t_g0 ?_
  refine t_c1 @hft w2 ?_
  refine t_g (j2 @hfa @hft) ?_
  repeat (first | refine W_seq ?_ | refine W_skip ?_ | refine W_block ?_ | refine W_inBlock ?_ | refine W_label ?_ | refine W_exit rfl ?_)
  first | refine W_retR hP hf hfn _ ([(b, deck l q2)]) (by first | (simp [go_sem, hP, hgl, hn, hfa, hft]; done) | (simp [go_sem, hP, hgl, hn, hfa, hft]; rfl)) (by simp [go_sem, hP, hgl, hn, hfa, hft]) (by simp) ?_ hR.2 | refine W_endR hP hf hfn _ ([(b, deck l q2)]) (by first | (simp [go_sem, hP, hgl, hn, hfa, hft]; done) | (simp [go_sem, hP, hgl, hn, hfa, hft]; rfl)) (by simp [go_sem, hP, hgl, hn, hfa, hft]) (by simp) ?_ hR.2
  rw [hR.1]
  refine ⟨?_, by simp [hfa, hft]⟩
  try simp [hfa, hft]
  try all_goals (simp [Ty.dv, Ty.cells_eq, Ty.kind_mk, Ty.args_mk, Tm.dv, Tm.cells_eq, Tm.kind_mk, Tm.index_mk, Tm.type_mk, Tm.args_mk, Val.dv, Val.cells_eq, Val.kind_mk, Val.num_mk, Val.list_mk, Val.args_mk, ints])

/-- code that is bent: its block, cap, the deck's place, the array, the code -/
structure PCs where
  a : Nat
  cap : Nat
  q : Nat
  full : List (List DV)
  c : List Ins
theorem app_full {full : List (List DV)} {n : Nat} {e : List DV} {rest : List (List DV)} (hn : n ≤ full.length) (hw : ∀ x ∈ full, x.length = 2) (hr : ∀ x ∈ rest, x.length = 2) (he : e.length = 2) :
    (full.take n ++ e :: rest).length = n + 1 + rest.length ∧ (∀ x ∈ full.take n ++ e :: rest, x.length = 2) ∧ (full.take n ++ e :: rest).take (n + 1) = full.take n ++ [e] := by
  have hl : (full.take n).length = n := by rw [List.length_take]; omega
  refine ⟨by rw [List.length_append, hl, List.length_cons]; omega, fun x hx => ?_, ?_⟩
  · rcases List.mem_append.1 hx with hx | hx
    · exact hw x (List.mem_of_mem_take hx)
    · rcases List.mem_cons.1 hx with rfl | hx
      · exact he
      · exact hr x hx
  · rw [List.take_append, hl, List.take_of_length_le (by omega), show n + 1 - n = 1 from by omega]; rfl
/-- what play.Code returns -/
def PlC (b : Nat) (l : List Int) (r : DV) (ψ : Objs) : Prop := ∃ (c : List Ins) (q : Nat), c.length ≤ 4097 ∧ q ≤ l.length ∧ r = .sl (rowsI c) ∧ ψ = [(b, deck l q)]

set_option maxHeartbeats 1000000 in
set_option maxRecDepth 10000 in
theorem play_code_ok (b : Nat) (l : List Int) (p : Nat) (hl : l.length ≤ 500) (hp : p ≤ l.length) : Con Tryd.prog gl 20 [ptr b] [(b, deck l p)] (PlC b l) := by
  have w1 := data_ok (gl := gl) b l p hl hp
  obtain ⟨dt, dq⟩ : DrawnT (dataD l p).1.1 ∧ (dataD l p).2 ≤ l.length := drawnT l (nextD_le (n := 6) hp) (plainD_small l p)
  generalize dataD l p = d at *
  obtain ⟨⟨t, ty⟩, p1⟩ := d
  simp only at w1 dt dq
  have hft := Ty.fold ty
  have hfa := Tm.fold t
  have hca := Tm.cells_eq t
  refine t_in Tryd.func20 ?_
  intro X hP hgl hf hfn hn hR hids hfit
  refine t_g0 ?_
  refine t_c1 (j2 @hft @hfa) w1 ?_
  refine t_g0 ?_
  have hkb := nextD_bd (l := l) (p := p1) (n := 2) (by decide)
  have hq1 := nextD_le (n := 2) dq
  refine t_c1 trivial (next_ok b l p1 2 (by decide) (by omega)) ?_
  generalize nextD l p1 2 = nd at *
  obtain ⟨k, p2⟩ := nd
  simp only at hkb hq1
  apply W_cutM (fun x : Tm × Nat => DrawnT x.1 ∧ x.2 ≤ l.length) (fun x => [(.slot 0, .one (.v (ptr b))), (.loc 3, .row [.v (dint x.1.kind), .v (dint x.1.index), .v (dint x.1.type.kind), .v (.sl (x.1.type.args.map Ty.cells)), .v (.sl (x.1.args.map Tm.cells))]), (.slot 3, .one (.loc 3 0)), (.heap b, .row [.v (.sl (ints l)), .v (dint (x.2 : Nat))])])
  · intro hrest
    by_cases hk : k = 0
    · have w2 := closed_ok (gl := gl) b l p2 hl hq1
      obtain ⟨et, eq⟩ : DrawnT (closedD l p2).1.1 ∧ (closedD l p2).2 ≤ l.length := by
        obtain ⟨h2, h1⟩ := typeD_small l (n := 1) hq1 (by decide)
        exact drawnT l h2 h1
      generalize closedD l p2 = d at *
      obtain ⟨⟨t2, ty2⟩, p3⟩ := d
      simp only at w2 et eq
      have hft2 := Ty.fold ty2
      have hfa2 := Tm.fold t2
      have hca2 := Tm.cells_eq t2
      refine t_g @hk ?_
      refine t_c1 (j2 @hft2 @hfa2) w2 ?_
      refine t_g0 ?_
      refine t_a ?_
      refine W_sub [] (by simp [go_sem]) ?_ (by simp [go_sem]) (hrest (t2, p3) ⟨et, eq⟩)
      simp [go_sem]
    · refine t_g @hk ?_
      refine t_a ?_
      refine W_sub [] (by simp [go_sem]) ?_ (by simp [go_sem]) (hrest (t, p2) ⟨dt, hq1⟩)
      simp [go_sem]
  clear hkb hq1 dt dq w1 hft hfa hca
  rintro ⟨x, q⟩ ⟨dx, hq⟩
  simp only at dx hq
  have hfx := Tm.fold x
  have hxc := dx.count
  refine t_a ?_
  refine W_reg [] fun K hK => ?_
  simp [go_sem, hP, hgl, hn, hfx]
  refine vcK_callR hP hgl (refcompile_ok x (shape_tys x dx.shape) (by omega)) (by simp [go_sem]) rfl (by intro b cs hm; cases hm) (by simp) (by rw [hn]; exact Nat.le_of_ble_eq_true rfl) ?_
  rintro r φ hrel hnew
  have k1 := compN_cases x dx.shape (by omega)
  rcases hrel with ⟨e0, rfl, rfl⟩ | ⟨e0, C, hC, hnd, rfl, rfl⟩
  · have k2 : x.compN.2 = 4 := by
      rcases k1 with ⟨k1, -⟩ | k1
      · rw [k1] at e0; exact absurd rfl e0
      · rw [k1]
    rw [k2]
    simp [go_sem, hP, hgl, hn]
    refine hK _ ?_
    clear hK K
    refine t_g0 ?_
    refine W_retR hP hf hfn (.sl []) [(b, deck l q)] (by simp [go_sem, hP, hgl, hn]) (by simp [go_sem, objsIn]) (by simp) ?_ hR.2
    rw [hR.1]
    exact ⟨[], q, by simp, hq, rfl, rfl⟩
  · obtain ⟨k1, kl⟩ : x.compN = (x.codeN, 0) ∧ x.codeN.length ≤ 4096 := by
      rcases k1 with k1 | k1
      · exact k1
      · rw [k1] at e0; cases e0
    rw [k1] at hC
    simp only at hC
    have hne : rowsI x.codeN ≠ [] := by
      rw [code_lay]
      intro e
      have := congrArg List.length e
      simp only [rowsI, List.length_map, lay_length, List.length_nil] at this
      have h1 := blocks_ne x
      have h2 : x.code.length = x.blocks.length := fillB_length _ _ _
      exact h1 (List.length_eq_zero_iff.1 (by omega))
    have hsm := code_small x dx.shape (Tm.idx_mono (by decide : (1267 : Int) ≤ 4096) dx.idx) (by omega) kl
    generalize x.codeN = c at *
    obtain ⟨a, ha⟩ := hC.there hne
    have hob : C.objs = [(a, C.full.flatten)] := by unfold RS.objs; rw [ha]
    have hCv : C.v = rawS a C.n C.cap := by unfold RS.v rawQ; rw [ha]; rfl
    have hCn : C.n = c.length := by rw [hC.n_eq]; simp [rowsI]
    have hpos : 0 < c.length := by
      have := List.length_pos_iff.2 hne
      simpa [rowsI] using this
    obtain ⟨-, clen, cwid, cle, cels⟩ := hC
    obtain ⟨Cq, n, cap, full⟩ := C
    simp only at hob hCv hCn clen cwid cle cels ha
    rw [hob] at hnew hnd ⊢
    rw [hCv]
    subst hCn
    simp [newB] at hnew
    have hnew' : ¬ a = b := fun e => hnew e.symm
    simp [go_sem, hP, hgl, hn, hnew, hnew']
    refine hK _ ?_
    clear hK K
    have hfl : (List.map (List.map SV.v) full).flatten = arrRow full := by simp [arrRow]
    refine W_sub [] (s' := [(.slot 5, .one (.v (rawS a c.length cap))), (.slot 6, .one (.v (dint 0))), (.slot 0, .one (.v (ptr b))), (.heap b, .row [.v (.sl (ints l)), .v (dint (q : Nat))]), (.heap a, .row (arrRow full))]) (by simp [go_sem]) (by simp [go_sem, hnew, hnew', hfl, rowLe_arrZ]) (by simp [go_sem]) ?_
    have hcl : (c.length : Int) ≤ 4096 := by omega
    have hc0 : ¬ c = [] := by intro e; rw [e] at hpos; cases hpos
    have hcN : c.length ≤ 2147483648 := by omega
    refine t_g (j2 @hpos (j2 @hcN @hc0)) ?_
    have hkb := nextD_bd (l := l) (p := q) (n := 8) (by decide)
    have hq1 := nextD_le (n := 8) hq
    refine t_c1 (j2 @hnew @hnew') (next_ok b l q 8 (by decide) (by omega)) ?_
    generalize nextD l q 8 = nd at *
    obtain ⟨k, q1⟩ := nd
    simp only at hkb hq1
    clear hne e0 k1 hnd ha hob hCv Cq
    apply W_cutM (fun y : PCs => y.full.length = y.cap ∧ (∀ e ∈ y.full, e.length = 2) ∧ y.c.length ≤ y.cap ∧ y.full.take y.c.length = rowsI y.c ∧ y.c.length ≤ 4097 ∧ y.q ≤ l.length ∧ ¬ b = y.a)
      (fun y => [(.slot 2, .one (.v (rawS y.a y.c.length y.cap))), (.heap b, .row [.v (.sl (ints l)), .v (dint (y.q : Nat))]), (.heap y.a, .row (arrRow y.full))])
    · intro hrest
      by_cases h0 : k = 0
      · refine t_g @h0 ?_
        have hk1 := nextD_bd (l := l) (p := q1) (n := (c.length : Int)) (by omega)
        have hq2 := nextD_le (n := (c.length : Int)) hq1
        have v1 := next_ok (gl := gl) b l q1 (c.length : Int) (by omega) (by omega)
        generalize nextD l q1 (c.length : Int) = nd at *
        obtain ⟨i, q2⟩ := nd
        simp only at hk1 hq2 v1
        have hk2 := nextD_bd (l := l) (p := q2) (n := 16) (by decide)
        have hq3 := nextD_le (n := 16) hq2
        have v2 := next_ok (gl := gl) b l q2 16 (by decide) (by omega)
        generalize nextD l q2 16 = nd at *
        obtain ⟨o, q3⟩ := nd
        simp only at hk2 hq3 v2
        obtain ⟨i, rfl⟩ := Int.eq_ofNat_of_zero_le hk1.1
        have hi : i < c.length := by omega
        obtain ⟨o0, u0, hx⟩ : ∃ o u, c[i]? = some (o, u) := ⟨(c[i]'hi).1, (c[i]'hi).2, by rw [List.getElem?_eq_getElem hi]⟩
        have hr : (rowsI c)[i]? = some [dint o0, dint u0] := by simp [rowsI, hx, Ins.row]
        have hfi : full[i]? = some [dint o0, dint u0] := by
          rw [← cels, List.getElem?_take_of_lt hi] at hr
          exact hr
        refine t_a ?_
        refine W_reg [] fun K hK => ?_
        simp [go_sem, hP, hgl, hn, hnew, hnew', hcN]
        refine t_c (j2 @hnew @hnew') (v1) ?_
        refine t_c (j2 @hnew @hnew') (v2) ?_
        have hal : (arrRow full).length = cap * 2 := by rw [arrRow_len cwid, clen]
        refine ⟨hi, by omega, hK _ ?_⟩
        clear hK K
        have hput := put_cell cwid hfi (j := 0) (by decide) (dint o)
        rw [Nat.add_zero] at hput
        simp only [List.set_cons_zero] at hput
        have hput' : put (arrRow full) (i * 2) [SV.v (DV.prim (Value.int IntKind.i64 o))] = arrRow (full.set i [dint o, dint u0]) := hput
        rw [hput']
        refine t_g0 ?_
        refine t_a ?_
        refine W_sub [] (by simp [go_sem]) ?_ (by simp [go_sem]) (hrest ⟨a, cap, q3, full.set i [dint o, dint u0], c.set i (o, u0)⟩ ⟨by simpa using clen, fun e he => ?_, by simpa using cle, ?_, by simp; omega, hq3, hnew⟩)
        · simp [go_sem, hnew, hnew', rowLe_arrZ]
        · rcases List.mem_or_eq_of_mem_set he with he | rfl
          · exact cwid e he
          · rfl
        · simp only [List.length_set, List.take_set, cels]
          simp [rowsI, List.map_set, Ins.row]
      by_cases h1 : k = 1
      · refine t_g @h1 ?_
        have hk1 := nextD_bd (l := l) (p := q1) (n := (c.length : Int)) (by omega)
        have hq2 := nextD_le (n := (c.length : Int)) hq1
        have v1 := next_ok (gl := gl) b l q1 (c.length : Int) (by omega) (by omega)
        generalize nextD l q1 (c.length : Int) = nd at *
        obtain ⟨i, q2⟩ := nd
        simp only at hk1 hq2 v1
        have hk2 := nextD_bd (l := l) (p := q2) (n := 3) (by decide)
        have hq3 := nextD_le (n := 3) hq2
        have v2 := next_ok (gl := gl) b l q2 3 (by decide) (by omega)
        generalize nextD l q2 3 = nd at *
        obtain ⟨o, q3⟩ := nd
        simp only at hk2 hq3 v2
        obtain ⟨i, rfl⟩ := Int.eq_ofNat_of_zero_le hk1.1
        have hi : i < c.length := by omega
        obtain ⟨o0, u0, hx⟩ : ∃ o u, c[i]? = some (o, u) := ⟨(c[i]'hi).1, (c[i]'hi).2, by rw [List.getElem?_eq_getElem hi]⟩
        have hr : (rowsI c)[i]? = some [dint o0, dint u0] := by simp [rowsI, hx, Ins.row]
        have hfi : full[i]? = some [dint o0, dint u0] := by
          rw [← cels, List.getElem?_take_of_lt hi] at hr
          exact hr
        have hu0 := hsm _ (List.mem_of_getElem? hx)
        simp only at hu0
        have hcell := arrRow_cell cwid hfi (j := 1) rfl
        have hal : (arrRow full).length = cap * 2 := by rw [arrRow_len cwid, clen]
        refine t_a ?_
        refine W_regT (by rw [hP]; exact mixed) 12 (by decide) (by rfl) [] [] fun K hK => ?_
        simp [go_sem, hP, hgl, hn, hnew, hnew', hcN]
        refine t_c (j2 @hnew (j2 @hnew' @hcell)) (v1) ?_
        refine ⟨hi, ?_⟩
        refine t_c (j2 @hnew (j2 @hnew' @hcell)) (v2) ?_
        refine ⟨by omega, by omega, chkB_skip 7 9 (by decide) rfl rfl (by simp [apart, disL, memL, Loc.eqB, wrL, allN, hnew, hnew']) (by rfl), ?_⟩
        refine ⟨hi, by omega, hK _ ?_⟩
        clear hK K
        have hput := put_cell cwid hfi (j := 1) (by decide) (dint (u0 + (o - 1)))
        simp only [List.set_cons_succ, List.set_cons_zero] at hput
        have hput' : put (arrRow full) (i * 2 + 1) [SV.v (DV.prim (Value.int IntKind.i64 (u0 + (o - 1))))] = arrRow (full.set i [dint o0, dint (u0 + (o - 1))]) := hput
        rw [hput']
        refine t_g0 ?_
        refine t_a ?_
        refine W_sub [] (by simp [go_sem]) ?_ (by simp [go_sem]) (hrest ⟨a, cap, q3, full.set i [dint o0, dint (u0 + (o - 1))], c.set i (o0, u0 + (o - 1))⟩ ⟨by simpa using clen, fun e he => ?_, by simpa using cle, ?_, by simp; omega, hq3, hnew⟩)
        · simp [go_sem, hnew, hnew', rowLe_arrZ]
        · rcases List.mem_or_eq_of_mem_set he with he | rfl
          · exact cwid e he
          · rfl
        · simp only [List.length_set, List.take_set, cels]
          simp [rowsI, List.map_set, Ins.row]
      by_cases h2 : k = 2
      · refine t_g @h2 ?_
        have hk1 := nextD_bd (l := l) (p := q1) (n := (c.length : Int) + 1) (by omega)
        have hq2 := nextD_le (n := (c.length : Int) + 1) hq1
        have v1 := next_ok (gl := gl) b l q1 ((c.length : Int) + 1) (by omega) (by omega)
        generalize nextD l q1 ((c.length : Int) + 1) = nd at *
        obtain ⟨i, q2⟩ := nd
        simp only at hk1 hq2 v1
        obtain ⟨i, rfl⟩ := Int.eq_ofNat_of_zero_le hk1.1
        have hi : i ≤ c.length := by omega
        refine t_a ?_
        refine W_reg [] fun K hK => ?_
        simp [go_sem, hP, hgl, hn, hnew, hnew', hcN]
        repeat (refine ⟨by omega, ?_⟩)
        refine t_c (j2 @hnew @hnew') (v1) ?_
        refine ⟨by omega, hK _ ?_⟩
        clear hK K
        refine t_g0 ?_
        refine t_a ?_
        have hlt : (c.take i).length = i := by rw [List.length_take]; omega
        refine W_sub [] (by simp [go_sem]) ?_ (by simp [go_sem]) (hrest ⟨a, cap, q2, full, c.take i⟩ ⟨clen, cwid, by simp only; omega, ?_, by simp only; omega, hq2, hnew⟩)
        · simp [go_sem, hnew, hnew', rowLe_arrZ, hlt]
        · simp only [hlt]
          have e1 : full.take i = (full.take c.length).take i := by rw [List.take_take, Nat.min_eq_left hi]
          rw [e1, cels]
          simp [rowsI, List.map_take]
      by_cases h3 : k = 3
      · refine t_g @h3 ?_
        have hk1 := nextD_bd (l := l) (p := q1) (n := (c.length : Int)) (by omega)
        have hq2 := nextD_le (n := (c.length : Int)) hq1
        have v1 := next_ok (gl := gl) b l q1 (c.length : Int) (by omega) (by omega)
        generalize nextD l q1 (c.length : Int) = nd at *
        obtain ⟨i, q2⟩ := nd
        simp only at hk1 hq2 v1
        obtain ⟨i, rfl⟩ := Int.eq_ofNat_of_zero_le hk1.1
        have hi : i < c.length := by omega
        obtain ⟨o0, u0, hx⟩ : ∃ o u, c[i]? = some (o, u) := ⟨(c[i]'hi).1, (c[i]'hi).2, by rw [List.getElem?_eq_getElem hi]⟩
        have hr : (rowsI c)[i]? = some [dint o0, dint u0] := by simp [rowsI, hx, Ins.row]
        have hfi : full[i]? = some [dint o0, dint u0] := by
          rw [← cels, List.getElem?_take_of_lt hi] at hr
          exact hr
        have hrd := arrRow_rd cwid hfi
        have hal : (arrRow full).length = cap * 2 := by rw [arrRow_len cwid, clen]
        have hzr : rowsI (c ++ [(o0, u0)]) = rowsI c ++ [[dint o0, dint u0]] := by simp [rowsI, Ins.row]
        refine t_a ?_
        refine W_reg [81] fun K hK => ?_
        simp [go_sem, hP, hgl, hn, hnew, hnew', hcN]
        refine t_c (j2 @hnew (j2 @hnew' @hrd)) (v1) ?_
        refine ⟨hi, ?_⟩
        refine vcK_appendR (E := 2) (B := 16) (b := a) (n := c.length) (cap := cap) (full := full) (zs := [[dint o0, dint u0]]) (zd := [dint 0, dint 0]) (by simp [go_sem, hP, hgl, hn]) (by simp [go_sem, hP, hgl, hn]) (by simp [go_sem, hnew, hnew']) (by simp [go_sem, hP]) (by rw [hP]; kernel_rfl) rfl ⟨by decide, by decide⟩ (by rw [hP]; rfl) (by rw [hn]; exact Nat.le_of_ble_eq_true rfl) clen cle (by simp; unfold BIG; omega) cwid (by simp) rfl ?_ ?_
        · intro hle
          simp only [List.length_singleton] at hle
          simp [go_sem, hP, hgl, hn, hnew, hnew']
          refine hK _ ?_
          clear hK K
          obtain ⟨g1, g2, g3⟩ := app_full (e := [dint o0, dint u0]) (rest := full.drop (c.length + 1)) (by omega : c.length ≤ full.length) cwid (fun e he => cwid e (List.mem_of_mem_drop he)) rfl
          rw [List.length_drop] at g1
          generalize full.take c.length ++ [dint o0, dint u0] :: full.drop (c.length + 1) = f2 at g1 g2 g3 ⊢
          refine t_g0 ?_
          refine t_a ?_
          refine W_sub [] (by simp [go_sem]) ?_ (by simp [go_sem]) (hrest ⟨a, cap, q2, f2, c ++ [(o0, u0)]⟩ ⟨by simp only; omega, g2, by simp; omega, ?_, by simp; omega, hq2, hnew⟩)
          · simp [go_sem, hnew, hnew', rowLe_arrZ]
          · simp only [List.length_append, List.length_singleton]
            rw [g3, cels, hzr]
        · intro hlt b2 cap2 hc2 hnb hsz
          simp only [List.length_singleton] at hlt hc2
          simp [newB] at hnb
          have hb1 := hnb.1
          have hb1' : ¬ b2 = b := fun e => hb1 e.symm
          have hb2 := hnb.2
          have hb2' : ¬ b2 = a := fun e => hb2 e.symm
          obtain ⟨g1, g2, g3⟩ := app_full (e := [dint o0, dint u0]) (rest := List.replicate (cap2 - (c.length + 1)) [dint 0, dint 0]) (by omega : c.length ≤ full.length) cwid (fun e he => by rw [(List.mem_replicate.1 he).2]; rfl) rfl
          rw [List.length_replicate] at g1
          simp only [List.length_singleton, List.append_assoc, List.singleton_append]
          generalize full.take c.length ++ [dint o0, dint u0] :: List.replicate (cap2 - (c.length + 1)) [dint 0, dint 0] = f2 at g1 g2 g3 ⊢
          simp [go_sem, hP, hgl, hn, hnew, hnew', hb1, hb1', hb2, hb2']
          refine hK _ ?_
          clear hK K
          refine t_g0 ?_
          refine t_a ?_
          refine W_sub [] (by simp [go_sem]) ?_ (by simp [go_sem]) (hrest ⟨b2, cap2, q2, f2, c ++ [(o0, u0)]⟩ ⟨by simp only; omega, g2, by simp; omega, ?_, by simp; omega, hq2, hb1⟩)
          · simp [go_sem, hnew, hnew', hb1, hb1', hb2, hb2', rowLe_arrZ]
          · simp only [List.length_append, List.length_singleton]
            rw [g3, cels, hzr]
      refine t_g (j2 @h0 (j2 @h1 (j2 @h2 @h3))) ?_
      refine t_a ?_
      refine W_sub [] (by simp [go_sem]) ?_ (by simp [go_sem]) (hrest ⟨a, cap, q1, full, c⟩ ⟨clen, cwid, cle, cels, by simp only; omega, hq1, hnew⟩)
      simp [go_sem, hnew, hnew', rowLe_arrZ]
    · rintro ⟨a', cap', q', full', c'⟩ ⟨y1, y2, y3, y4, y5, y6, y7⟩
      simp only at y1 y2 y3 y4 y5 y6 y7 ⊢
      refine W_freezeI (b := a') (E := 2) (full := full') c'.length (by simp [go_sem, y7]) y2 (by omega) (by unfold BIG; omega) (by rw [hids]; simp; exact fun e => y7 e.symm) ?_
      have hvv : frzSV a' (rowsI c') (.v (rawS a' c'.length cap')) = .v (.sl (rowsI c')) := by
        rw [← y4]
        unfold frzSV rawS
        simp only [List.length_take, y1]
        rw [if_pos ⟨trivial, by omega, y3⟩]
      rw [y4]
      have y7' : ¬ a' = b := fun e => y7 e.symm
      have hfz : frzRow a' (rowsI c') [.v (.sl (ints l)), .v (dint (q' : Nat))] = [.v (.sl (ints l)), .v (dint (q' : Nat))] := rfl
      simp [go_sem, frz, frzLV, hvv, y7, y7', hfz]
      refine W_retR hP hf hfn (.sl (rowsI c')) [(b, deck l q')] (by simp [go_sem, hP, hgl, hn]) (by simp [go_sem, objsIn, y7, y7']) (by simp) ?_ hR.2
      rw [hR.1]
      exact ⟨c', q', y5, y6, rfl, rfl⟩
end Go.Proofs.YtmdjiajbnifjpaaDoor.Lift

/-
  Maps from numbers, in the small logic: made, looked into, written; a piece of a raw slice, copied into data; structs compared.
-/
namespace Go.Proofs.YtmdjiajbnifjpaaDoor.Lift
set_option linter.unusedSimpArgs false
set_option linter.unusedVariables false
set_option linter.unnecessarySimpa false
open Go
section
variable {X : Ctx} {s s0 : St} {k : List Item}

/-- what a map holds at a number -/
def lookM : List (Int × DV) → Int → Option DV
  | [], _ => none
  | (k, d) :: r, n => if n = k then some d else lookM r n
def mapT (P : Program) (T : TypeId) : Bool :=
  match P.underlying T with
  | some (.map key _) => match P.underlying key with
    | some (.int .i64) => true
    | _ => false
  | _ => false
theorem mapT_spec {P : Program} {T : TypeId} (h : mapT P T = true) : ∃ key e, P.underlying T = some (.map key e) ∧ P.underlying key = some (.int .i64) := by
  unfold mapT at h
  split at h
  · rename_i key e hu
    split at h
    · rename_i hk; exact ⟨key, e, hu, hk⟩
    · cases h
  · cases h
theorem find_look {G : Gh} {w : World} (n : Int) : ∀ (ml : List (Int × DV)) (es : List MapEntry) (j : Nat), es.length = ml.length → (∀ (i : Nat) (k : Int) (d : DV) (e : MapEntry), ml[i]? = some (k, d) → es[i]? = some e → e.key = .int .i64 k ∧ RV G.D w d e.val) →
    (∀ d, lookM ml n = some d → ∃ r v, Instr.findNow (.int .i64) (.int .i64 n) es j = some (some (r, v)) ∧ RV G.D w d v) ∧ (lookM ml n = none → Instr.findNow (.int .i64) (.int .i64 n) es j = some none)
  | [], [], j, _, _ => ⟨fun d h => (nomatch h), fun _ => rfl⟩
  | [], e :: es, j, h, _ => by simp at h
  | (k, d) :: ml, [], j, h, _ => by simp at h
  | (k, d) :: ml, e :: es, j, hl, h => by
    obtain ⟨h1, h2⟩ := h 0 k d e rfl rfl
    have ih := find_look n ml es (j + 1) (by simpa using hl) fun i k d e hi he => h (i + 1) k d e (by simpa using hi) (by simpa using he)
    unfold Instr.findNow
    simp only [h1, Instr.sameNow, if_true, lookM]
    by_cases hk : n = k
    · subst hk
      rw [if_pos rfl]
      simp only [beq_self_eq_true]
      exact ⟨fun d' hd => (by cases hd; exact ⟨j, e.val, rfl, h2⟩), fun hd => nomatch hd⟩
    · rw [if_neg hk]
      have : (n == k) = false := by simpa using hk
      rw [this]
      exact ih
theorem run_getMap {P : Program} {w : World} {r : Nat} {es : Array MapEntry} {clock : Nat} (hb : w.heap[r]? = some (.map es clock)) : (getObj r).run P w = .ok (.map es clock) w := by
  simp [getObj, Sem.run, hb]
theorem run_setMap {P : Program} {w : World} {r : Nat} {es : Array MapEntry} {clock : Nat} (o : Obj) (hb : w.heap[r]? = some (.map es clock)) : (setObj r o).run P w = .ok () { w with heap := w.heap.setIfInBounds r o } := by
  simp [setObj, Sem.run, hb]
theorem run_checkN {P : Program} {w : World} {key : TypeId} (hk : P.underlying key = some (.int .i64)) (e : Bool) (n : Int) (m : Nat) : (Instr.checkKey e (m + 1) key (.int .i64 n)).run P w = .ok () w := by
  unfold Instr.checkKey
  simp only [Sem.run_bind, run_underlying hk, Result.andThen, Sem.run_pure]
theorem run_checkInt {P : Program} {w : World} {key : TypeId} (hk : P.underlying key = some (.int .i64)) (e : Bool) (n : Int) : (Instr.checkKey e 10000 key (.int .i64 n)).run P w = .ok () w := run_checkN hk e n 9999
theorem run_findInt {P : Program} {w : World} {key : TypeId} {k : Value} {l : List MapEntry} {a : Option (Nat × Value)} (hd : P.underlying key = some (.int .i64)) (h : Instr.findNow (.int .i64) k l 0 = some a) : (Instr.findKey key k l).run P w = .ok a w := by
  simp [Instr.findKey, run_underlying hd, Result.andThen, h]

theorem step_makeMap {o : Oper} {T : TypeId} (ho : o.op = .makeMap T none) {d : Nat} (hd : o.dst = some d) (hn : d < X.n) {G : Gh} {a : Act} {w : World} (R : Rel X G s a w) (next : Act → World → Prop) (Q : Exit → Act → World → Prop)
    (hK : ∀ b, newB b s → X.w0.heap.size ≤ b → ∀ G' a' w', Rel X G' (upd (upd s (.slot d) (.one (.v (.prim (.map (some b)))))) (.heap b) (.mp [])) a' w' → next a' w') : o.wpIn X.F 0 X.P a w next Q := by
  refine opIn (by intro c e; rw [ho] at e; cases e) ?_
  have hexec : (execOp a.eval o).run X.P w = .ok (.value (.map (some w.heap.size))) (w.alloc (.map #[] 0)) := by
    simp [execOp, ho, Instr.makeMap]
  rw [hexec, upn_value, hd]
  have hp := put_tmps a (some d) (.map (some w.heap.size))
  have T' : Trans X G a w G (a.put (some d) (.map (some w.heap.size))) (w.alloc (.map #[] 0)) (fun _ => False) :=
    ⟨hp.1, fun h => (h.heap fun b hb => alloc_old w _ b hb).put hp.2, rfl, rfl, rfl, by simp, fun b hb _ => alloc_old w _ b hb, fun _ h => h.elim, fun b k hD => ⟨hD, World.cell?_alloc_lt w _ _ (R.wf.lt hD)⟩, fun b k hD hnD => absurd hD hnD, R.nil⟩
  refine hK w.heap.size (newB_size R) R.ext.size G _ _ ?_
  refine R.step T' (fun l u => (l = .slot d ∧ u = .one (.v (.prim (.map (some w.heap.size))))) ∨ (l = .heap w.heap.size ∧ u = .mp [])) (fun l u h => ?_) (fun l u h => ?_) (fun l u l' u' b h h' hb hb' => ?_)
  · rw [get_upd, get_upd] at h
    by_cases h1 : Loc.heap w.heap.size = l
    · rw [if_pos h1] at h; cases h; exact .inl (.inr ⟨h1.symm, rfl⟩)
    · rw [if_neg h1] at h
      by_cases h3 : Loc.slot d = l
      · rw [if_pos h3] at h; cases h; exact .inl (.inl ⟨h3.symm, rfl⟩)
      · rw [if_neg h3] at h
        exact .inr ⟨h, fun n hn => put_get_ne _ _ _ _ (fun e => h3 (by rw [hn, e])), fun b hb hBb => hBb.elim, fun _ _ => rfl, fun _ _ => rfl⟩
  · rcases h with ⟨rfl, rfl⟩ | ⟨rfl, rfl⟩
    · refine ⟨?_, fun b hb => by cases hb⟩
      show RSV G _ (.v _) _
      rw [put_get_same _ _ _ (by rw [R.size]; exact hn)]
      exact .prim _ trivial
    · refine ⟨⟨#[], 0, alloc_new w _, rfl, fun i k d e hi => by simp at hi⟩, fun b hb => ?_⟩
      cases hb
      exact ⟨.inl (Nat.le_refl _), .inl R.ext.size, fun _ o hD => absurd (R.wf.lt hD) (Nat.lt_irrefl _)⟩
  · rcases h with ⟨rfl, rfl⟩ | ⟨rfl, rfl⟩
    · cases hb
    · rcases h' with ⟨rfl, rfl⟩ | ⟨rfl, rfl⟩
      · cases hb'
      · rfl
theorem vcK_makeMap {esc : List Nat} {ops : Array Oper} {l : List Oper} {K : St → Prop} {d : Tmp} {T ty : TypeId} {pos : String} {af : Array Edge} {q : Option (Prop × St)} (hn : d < X.n) (hq : q = none)
    (h : ∀ b, newB b s → X.w0.heap.size ≤ b → vc X esc ops l (upd (upd s (.slot d) (.one (.v (.prim (.map (some b)))))) (.heap b) (.mp [])) K) : vcK X esc ops l K ⟨some d, .makeMap T none, ty, pos, af, none⟩ s q := by
  subst hq
  intro m hm G a w R0
  obtain ⟨p1, p3⟩ := drop_cons hm
  simp only [List.length_cons, List.range'_succ, wpOpsIn, p1, Region.wanted, if_true]
  exact step_makeMap (o := ⟨some d, .makeMap T none, ty, pos, af, none⟩) rfl rfl hn R0 _ _ fun b hb hw G' a' w' R' => vc_sound (h b hb hw) (m + 1) p3 G' a' w' R'

/-- a number that is there is looked up -/
theorem step_lookup {o : Oper} {T : TypeId} {x i : Operand} (ho : o.op = .lookup T x i false) {d : Nat} (hd : o.dst = some d) (hn : d < X.n) (hT : mapT X.P T = true) {b : Nat} {n : Int} {ml : List (Int × DV)} {dv : DV}
    (hx : evl X (get s) x = some (.v (.prim (.map (some b))))) (hi : evl X (get s) i = some (.v (.prim (.int .i64 n)))) (hm : get s (.heap b) = some (.mp ml)) (hl : lookM ml n = some dv) : StepOK X s o (upd s (.slot d) (.one (.v dv))) := by
  intro G a w R next Q hK
  have hv := (prim_of (evl_sound R hx)).1
  have hiv := (prim_of (evl_sound R hi)).1
  obtain ⟨key, e, h1, h2⟩ := mapT_spec hT
  obtain ⟨es, cl, m1, m2, m3⟩ := R.holds _ _ hm
  obtain ⟨r, v, f1, f2⟩ := (find_look n ml es.toList 0 (by simpa using m2) fun i k d e hi he => m3 i k d e hi (by simpa using he)).1 dv hl
  refine opIn (by intro c e; rw [ho] at e; cases e) ?_
  have hexec : (execOp a.eval o).run X.P w = .ok (.value v) w := by
    simp [execOp, ho, hv, hiv, Instr.lookup, run_underlying h1, run_getMap m1, run_checkInt h2, run_findInt h2 f1]
  rw [hexec, upn_value, hd]
  exact hK G _ w (R.setSlot (Trans.refl X G a w R.nil) rfl rfl (fun _ h => h) hn f2)
theorem vcK_lookup {esc : List Nat} {ops : Array Oper} {l : List Oper} {K : St → Prop} {d : Tmp} {T ty : TypeId} {x i : Operand} {pos : String} {af : Array Edge} {q : Option (Prop × St)} {b : Nat} {n : Int} {ml : List (Int × DV)} {dv : DV} (hn : d < X.n) (hT : mapT X.P T = true)
    (hx : evl X (get s) x = some (.v (.prim (.map (some b))))) (hi : evl X (get s) i = some (.v (.prim (.int .i64 n)))) (hm : get s (.heap b) = some (.mp ml)) (hl : lookM ml n = some dv) (hq : q = none)
    (h : vc X esc ops l (upd s (.slot d) (.one (.v dv))) K) : vcK X esc ops l K ⟨some d, .lookup T x i false, ty, pos, af, none⟩ s q := by
  subst hq
  exact VL_step rfl (step_lookup (o := ⟨some d, .lookup T x i false, ty, pos, af, none⟩) rfl rfl hn hT hx hi hm hl) (vc_sound h)
theorem vcdC_lookup {ops : Array Oper} {K : St → Prop} {l : List Oper} {k : St → List Ev → Prop} {ev : List Ev} {fp wr : List Loc} {d : Tmp} {T ty : TypeId} {x i : Operand} {pos : String} {af : Array Edge} {q : Option (Prop × St)} {b : Nat} {n : Int} {ml : List (Int × DV)} {dv : DV}
    (hk : ∀ s ev, k s ev → VD X ops s0 l s ev K) (hn : d < X.n) (hT : mapT X.P T = true)
    (hx : evl X (get s) x = some (.v (.prim (.map (some b))))) (hi : evl X (get s) i = some (.v (.prim (.int .i64 n)))) (hm : get s (.heap b) = some (.mp ml)) (hl : lookM ml n = some dv) (hq : q = none)
    (g : vcdD k ev s (slotsOf [x, i] ++ [.heap b]) [] [(.slot d, some (.one (.v dv)))]) :
    vcdC X ops s0 l K k ⟨some d, .lookup T x i false, ty, pos, af, none⟩ ev s fp wr q := by
  subst hq
  show VD X ops s0 _ s ev K
  have hsl : ∀ z : Operand, z = x ∨ z = i → ∀ t, z = .tmp t → Loc.slot t ∈ slotsOf [x, i] ++ [.heap b] := by
    intro z hz t ht
    subst ht
    refine List.mem_append.2 (.inl ?_)
    rcases hz with rfl | rfl
    · simp [slotsOf]
    · cases x <;> simp [slotsOf]
  refine VD_step ⟨slotsOf [x, i] ++ [.heap b], [(.slot d, some (.one (.v dv)))], []⟩ (fun s' hs _ => opOK_of (.inl rfl) ?_) (hk _ _ (by exact g))
  exact step_lookup (o := ⟨some d, .lookup T x i false, ty, pos, af, none⟩) rfl rfl hn hT (evl_restr (hsl x (.inl rfl)) hs hx) (evl_restr (hsl i (.inr rfl)) hs hi) (hs _ _ (get_restr_mem (List.mem_append.2 (.inr (List.mem_singleton.2 rfl))) hm)) hl

/-- a number that is not there is put in -/
theorem step_mapUpdate {o : Oper} {T : TypeId} {x i y : Operand} (ho : o.op = .mapUpdate T x i y) (hd : o.dst = none) (hT : mapT X.P T = true) {b : Nat} {n : Int} {ml : List (Int × DV)} {dv : DV}
    (hx : evl X (get s) x = some (.v (.prim (.map (some b))))) (hi : evl X (get s) i = some (.v (.prim (.int .i64 n)))) (hy : evl X (get s) y = some (.v dv)) (hm : get s (.heap b) = some (.mp ml)) (hl : lookM ml n = none) : StepOK X s o (upd s (.heap b) (.mp (ml ++ [(n, dv)]))) := by
  intro G a w R next Q hK
  have hv := (prim_of (evl_sound R hx)).1
  have hiv := (prim_of (evl_sound R hi)).1
  have hyv : RV G.D w dv (a.eval y) := evl_sound R hy
  obtain ⟨key, e, h1, h2⟩ := mapT_spec hT
  obtain ⟨es, cl, m1, m2, m3⟩ := R.holds _ _ hm
  have f1 := (find_look (G := G) (w := w) n ml es.toList 0 (by simpa using m2) fun i k d e hi he => m3 i k d e hi (by simpa using he)).2 hl
  refine opIn (by intro c e; rw [ho] at e; cases e) ?_
  have hexec : (execOp a.eval o).run X.P w = .ok .skip { w with heap := w.heap.setIfInBounds b (.map (es.push { key := .int .i64 n, val := a.eval y, born := cl }) (cl + 1)) } := by
    simp [execOp, ho, hv, hiv, Instr.mapUpdate, run_underlying h1, run_getMap m1, run_checkInt h2, run_findInt h2 f1, run_setMap _ m1]
  rw [hexec, upn_skip, hd]
  have hbl : b < w.heap.size := (Array.getElem?_eq_some_iff.1 m1).1
  have hnd : ∀ o, ¬ G.D b o := fun o => R.data _ _ b o hm rfl rfl
  have hoth : ∀ b', b' ≠ b → (w.heap.setIfInBounds b (.map (es.push { key := .int .i64 n, val := a.eval y, born := cl }) (cl + 1)))[b']? = w.heap[b']? := fun b' hb' => Array.getElem?_setIfInBounds_ne (Ne.symm hb')
  have T' : Trans X G a w G a { w with heap := w.heap.setIfInBounds b (.map (es.push { key := .int .i64 n, val := a.eval y, born := cl }) (cl + 1)) } (fun b' => b' = b) := by
    refine ⟨rfl, fun h => h.keep rfl fun D hD => ?_, rfl, rfl, rfl, by simp, fun b' hb' hn => hoth b' hn, fun b' hb' => ?_, fun b' o hD => ⟨hD, ?_⟩, fun _ _ h k => absurd h k, R.nil⟩
    · refine (hoth D fun e => ?_).trans hD
      subst e
      rw [m1] at hD; cases hD
    · subst hb'
      exact (R.own _ _ b' hm rfl).imp id And.left
    · have hne : b' ≠ b := fun e => by subst e; exact hnd o hD
      simp only [World.cell?]
      rw [hoth b' hne]
  refine hK G a _ ?_
  refine R.step T' (fun l u => l = .heap b ∧ u = .mp (ml ++ [(n, dv)])) (fun l u h => ?_) (fun l u h => ?_) (fun l u l' u' b' h h' _ _ => h.1.trans h'.1.symm)
  · rw [get_upd] at h
    by_cases hl' : Loc.heap b = l
    · rw [if_pos hl'] at h; cases h; exact .inl ⟨hl'.symm, rfl⟩
    · rw [if_neg hl'] at h
      refine .inr ⟨h, fun _ _ => rfl, fun b' hb' he => ?_, fun _ _ => rfl, fun _ _ => rfl⟩
      subst he
      exact hl' (R.sep _ _ _ _ b' hm h rfl hb')
  · obtain ⟨rfl, rfl⟩ := h
    refine ⟨⟨es.push { key := .int .i64 n, val := a.eval y, born := cl }, cl + 1, ?_, by simp [m2], fun i' k d e hi' he => ?_⟩, fun b' hb' => ?_⟩
    · simp [hbl]
    · rcases Nat.lt_or_ge i' ml.length with hlt | hge
      · rw [List.getElem?_append_left hlt] at hi'
        rw [Array.getElem?_push, if_neg (by omega)] at he
        obtain ⟨q1, q2⟩ := m3 i' k d e hi' he
        exact ⟨q1, q2.mono T'.grow⟩
      · rw [List.getElem?_append_right hge] at hi'
        have : i' - ml.length = 0 := by
          have := (List.getElem?_eq_some_iff.1 hi').1
          simpa using this
        have hie : i' = es.size := by omega
        rw [this] at hi'
        simp only [List.getElem?_cons_zero, Option.some.injEq, Prod.mk.injEq] at hi'
        obtain ⟨rfl, rfl⟩ := hi'
        rw [Array.getElem?_push, if_pos hie] at he
        cases he
        exact ⟨rfl, hyv.mono T'.grow⟩
    · cases hb'
      exact ⟨.inr rfl, R.own _ _ b hm rfl, fun _ o => hnd o⟩
theorem vcK_mapUpdate {esc : List Nat} {ops : Array Oper} {l : List Oper} {K : St → Prop} {T ty : TypeId} {x i y : Operand} {pos : String} {af : Array Edge} {q : Option (Prop × St)} {b : Nat} {n : Int} {ml : List (Int × DV)} {dv : DV} (hT : mapT X.P T = true)
    (hx : evl X (get s) x = some (.v (.prim (.map (some b))))) (hi : evl X (get s) i = some (.v (.prim (.int .i64 n)))) (hy : evl X (get s) y = some (.v dv)) (hm : get s (.heap b) = some (.mp ml)) (hl : lookM ml n = none) (hq : q = none)
    (h : vc X esc ops l (upd s (.heap b) (.mp (ml ++ [(n, dv)]))) K) : vcK X esc ops l K ⟨none, .mapUpdate T x i y, ty, pos, af, none⟩ s q := by
  subst hq
  exact VL_step rfl (step_mapUpdate (o := ⟨none, .mapUpdate T x i y, ty, pos, af, none⟩) rfl rfl hT hx hi hy hm hl) (vc_sound h)

/-! a piece of a raw slice -/
theorem step_sliceR {o : Oper} {T : TypeId} {x lo : Operand} (ho : o.op = .slice T x (some lo) none none) {d : Nat} (hd : o.dst = some d) (hn : d < X.n) {E b n cap : Nat} {kd : IntKind} {l : Int} (he : elemT X.P T = some E)
    (hx : evl X (get s) x = some (.v (rawS b n cap))) (hl : evl X (get s) lo = some (.v (.prim (.int kd l)))) (h0 : 0 ≤ l) (h1 : l ≤ n) (h2 : l < cap) (h3 : n ≤ cap) :
    StepOK X s o (upd s (.slot d) (.one (.v (.prim (.slice (some ⟨b, l.toNat * E, none⟩) (n - l.toNat) (cap - l.toNat)))))) := by
  intro G a w R next Q hK
  have hv := (prim_of (evl_sound R hx)).1
  have hlv := (prim_of (evl_sound R hl)).1
  obtain ⟨e', ie, hu, hie, hsz⟩ := elem_run he
  refine opIn (by intro c e; rw [ho] at e; cases e) ?_
  have hrun := slice_run (P := X.P) (w := w) (t := T) hu hie (some ⟨b, 0, none⟩) n cap (some (a.eval lo)) none l n (.inr ⟨kd, by rw [hlv]⟩) (.inl ⟨rfl, rfl⟩) h0 h1 (by omega)
  have hne : ¬ cap = l.toNat := by omega
  rw [if_neg hne] at hrun
  have hexec : (execOp a.eval o).run X.P w = .ok (.value (.slice (some ⟨b, l.toNat * E, none⟩) (n - l.toNat) (cap - l.toNat))) w := by
    have e2 : (Option.map (fun q : Addr => q.add (l.toNat * ie.size)) (some ⟨b, 0, none⟩)) = some ⟨b, l.toNat * E, none⟩ := by simp [addr_add, hsz]
    rw [e2] at hrun
    simp [execOp, ho, hv, hrun]
  rw [hexec, upn_value, hd]
  exact hK G _ w (R.setSlot (Trans.refl X G a w R.nil) rfl rfl (fun _ h => h) hn (.prim _ trivial))
theorem vcK_sliceR {esc : List Nat} {ops : Array Oper} {lst : List Oper} {K : St → Prop} {d : Tmp} {T ty : TypeId} {x lo : Operand} {pos : String} {af : Array Edge} {q : Option (Prop × St)} {E b n cap : Nat} {kd : IntKind} {l : Int} (he : elemT X.P T = some E) (hn : d < X.n)
    (hx : evl X (get s) x = some (.v (rawS b n cap))) (hl : evl X (get s) lo = some (.v (.prim (.int kd l)))) (h0 : 0 ≤ l) (h1 : l ≤ n) (h2 : l < cap) (h3 : n ≤ cap) (hq : q = none)
    (h : vc X esc ops lst (upd s (.slot d) (.one (.v (.prim (.slice (some ⟨b, l.toNat * E, none⟩) (n - l.toNat) (cap - l.toNat)))))) K) : vcK X esc ops lst K ⟨some d, .slice T x (some lo) none none, ty, pos, af, none⟩ s q := by
  subst hq
  exact VL_step rfl (step_sliceR (o := ⟨some d, .slice T x (some lo) none none, ty, pos, af, none⟩) rfl rfl hn he hx hl h0 h1 h2 h3) (vc_sound h)

/-- a piece of a raw slice is copied: it becomes data -/
theorem step_appendV {o : Oper} {x y : Operand} {T T2 : TypeId} (ho : o.op = .call { callee := .builtin .append, args := #[x, y], argTypes := #[T, T2] }) {d : Nat} (hd : o.dst = some d) (hn : d < X.n)
    {E B : Nat} (he : elemZ X.P T = some (E, B)) (hB : 0 < B ∧ B ≤ 1024) (h2 : (elemT X.P T2).isSome = true) {b lo k cap : Nat} {full : List (List DV)} (hx : evl X (get s) x = some (.own 0 [])) (hy : evl X (get s) y = some (.v (.prim (.slice (some ⟨b, lo * E, none⟩) k cap))))
    (hrow : get s (.heap b) = some (.row (arrRow full))) (hE : ∀ e ∈ full, e.length = E) (hk : lo + k ≤ full.length) (hpos : 0 < k) (hbig : k ≤ BIG) :
    StepOK X s o (upd s (.slot d) (.one (.v (.sl ((full.drop lo).take k))))) := by
  intro G a w R next Q hK
  obtain ⟨hv, -⟩ := evl_own R hx
  rw [R.nil] at hv
  have hyv := (prim_of (evl_sound R hy)).1
  obtain ⟨c0, e0, k1, k2, k3⟩ : BlkAt G w b (arrRow full) := R.holds _ _ hrow
  rw [arrRow_len hE] at k2
  have hlen : ((full.drop lo).take k).length = k := by simp; omega
  have hmul : lo * E + k * E ≤ full.length * E := by rw [← Nat.add_mul]; exact Nat.mul_le_mul_right _ hk
  have hdr : ∀ w' : World, w'.heap = w.heap → (Builtin.firstCells E k (a.eval y)).run X.P w' = .ok (arr (fun j => (c0[lo * E + j]?).getD undef) (k * E)) w' := fun w' hw => by
    rw [hyv]
    simp only [Builtin.firstCells]
    refine run_loadCells_f b (lo * E) (k * E) _ (fun j hj => ?_)
    have hlt : lo * E + j < c0.size := by omega
    rw [cell_of_heap hw]
    simp [World.cell?, k1, hlt]
  obtain ⟨c, e, nc, r1, r2, r3, r4, r5⟩ := run_append_new (P := X.P) (t := T) (ty := o.type) (t2 := T2) (w := w) he hB h2 (base := none) (len := 0) (cap := 0) (x := a.eval y) (n := k) (old := #[]) (fun w' _ => by rw [hyv]; simp [Builtin.lenOf]) hdr (fun w' _ => by simp [Builtin.firstCells]) (by omega) (by omega) (by simp) (arr_size _ _)
  rw [Nat.zero_add] at r1 r2
  have hv' : a.eval x = .slice none 0 0 := hv
  have hexec : (execOp a.eval o).run X.P w = .ok (.value (.slice (some ⟨w.heap.size, 0, none⟩) k nc)) (w.drew.alloc (.cells c e)) := by
    have hr1 : (Builtin.append_ #[T, T2] o.type #[a.eval x, a.eval y]).run X.P w = .ok (.slice (some ⟨w.heap.size, 0, none⟩) k nc) (w.drew.alloc (.cells c e)) := by rw [hv']; exact r1
    simp [execOp, ho, resolve, invoke, builtin, hr1]
  refine opIn (by intro c e; rw [ho] at e; cases e) ?_
  rw [hexec, upn_value, hd]
  let G' : Gh := { D := withData G.D w.heap.size 0 (k * E), ν := G.ν, τ := G.τ }
  have hcsz : k * E ≤ c.size := by rw [r3]; exact Nat.mul_le_mul_right _ r2
  have hcn : ∀ j, (w.drew.alloc (.cells c e)).cell? ⟨w.heap.size, j, none⟩ = c[j]? := fun j => World.cell?_alloc_new w.drew c e j
  have T' : Trans X G a w G' a (w.drew.alloc (.cells c e)) (fun _ => False) := by
    refine ⟨rfl, fun h => h.heap fun b hb => alloc_old w.drew _ b hb, rfl, rfl, rfl, by simp, fun b hb _ => alloc_old w.drew _ b hb, fun _ h => h.elim, fun b k hD => ⟨.inl hD, World.cell?_alloc_lt w.drew _ _ (R.wf.lt hD)⟩, fun b' j hD hnD => ?_, R.nil⟩
    rcases hD with hD | ⟨rfl, q1, q2⟩
    · exact absurd hD hnD
    · exact ⟨.inl (Nat.le_refl _), _, (hcn j).trans (Array.getElem?_eq_getElem (by omega))⟩
  refine hK G' _ _ (R.setSlot T' rfl rfl (fun _ h => h) hn ?_)
  show RV G'.D _ (.sl _) _
  have hsrc : ∀ i j e' d', ((full.drop lo).take k)[i]? = some e' → e'[j]? = some d' → d'.isCell = true ∧ RV G.D w d' ((c0[lo * E + (i * E + j)]?).getD undef) := by
    intro i j e' d' hi hj
    have hik : i < k := by have := (List.getElem?_eq_some_iff.1 hi).1; omega
    rw [List.getElem?_take_of_lt hik, List.getElem?_drop] at hi
    obtain ⟨q0, v, q1, q2⟩ := k3 ((lo + i) * E + j) (.v d') (arrRow_cell hE hi hj)
    rw [Nat.add_mul, Nat.add_assoc] at q1
    exact ⟨q0, by rw [q1]; exact q2⟩
  have hEz : ∀ e' ∈ (full.drop lo).take k, e'.length = E := fun e' he' => hE e' (List.mem_of_mem_drop (List.mem_of_mem_take he'))
  have := sl_of_laid (D := G'.D) (w := w.drew.alloc (.cells c e)) (E := E) (b := w.heap.size) (o := 0) (cap := nc) (els := (full.drop lo).take k) (f := fun j => (c0[lo * E + j]?).getD undef) (by rw [hlen]; exact hbig) (by rw [hlen]; exact r2) hEz (fun e' he' d' hd' => ?_) (fun j hj => ?_) (fun i j e' d' hi hj => ?_)
  · rw [hlen] at this
    exact this
  · obtain ⟨i, hi⟩ := List.mem_iff_getElem?.1 he'
    obtain ⟨j, hj⟩ := List.mem_iff_getElem?.1 hd'
    exact (hsrc i j e' d' hi hj).1
  · rw [hlen] at hj
    refine ⟨?_, .inr ⟨rfl, by omega, by omega⟩⟩
    have := r5 j hj
    rw [Nat.zero_mul, Nat.zero_add] at this
    rw [Nat.zero_add, hcn, this]
    exact arr_get _ _ _ hj
  · exact (hsrc i j e' d' hi hj).2.mono T'.grow
theorem vcK_appendV {esc : List Nat} {ops : Array Oper} {lst : List Oper} {K : St → Prop} {d : Tmp} {x y : Operand} {T T2 ty : TypeId} {pos : String} {af : Array Edge} {q : Option (Prop × St)} {E B b lo k cap : Nat} {full : List (List DV)}
    (he : elemZ X.P T = some (E, B)) (hB : 0 < B ∧ B ≤ 1024) (h2 : (elemT X.P T2).isSome = true) (hn : d < X.n) (hx : evl X (get s) x = some (.own 0 [])) (hy : evl X (get s) y = some (.v (.prim (.slice (some ⟨b, lo * E, none⟩) k cap))))
    (hrow : get s (.heap b) = some (.row (arrRow full))) (hE : ∀ e ∈ full, e.length = E) (hk : lo + k ≤ full.length) (hpos : 0 < k) (hbig : k ≤ BIG) (hq : q = none)
    (h : vc X esc ops lst (upd s (.slot d) (.one (.v (.sl ((full.drop lo).take k))))) K) : vcK X esc ops lst K ⟨some d, .call { callee := .builtin .append, args := #[x, y], argTypes := #[T, T2] }, ty, pos, af, none⟩ s q := by
  subst hq
  exact VL_step rfl (step_appendV (o := ⟨some d, .call { callee := .builtin .append, args := #[x, y], argTypes := #[T, T2] }, ty, pos, af, none⟩) rfl rfl hn he hB h2 hx hy hrow hE hk hpos hbig) (vc_sound h)

/-! a state that ends in a map and a raw slice's array -/
inductive TailM (bm : Nat) (ml : List (Int × DV)) (φ : Objs) : St → St → Prop
  | nil : TailM bm ml φ ((.heap bm, .mp ml) :: heapSt φ) []
  | slot {s l : St} (n : Nat) (v : LV) (h : TailM bm ml φ s l) : TailM bm ml φ ((.slot n, v) :: s) ((.slot n, v) :: l)
  | loc {s l : St} (n : Nat) (v : LV) (h : TailM bm ml φ s l) : TailM bm ml φ ((.loc n, v) :: s) ((.loc n, v) :: l)
  | tok {s l : St} (n : Nat) (v : LV) (h : TailM bm ml φ s l) : TailM bm ml φ ((.tok n, v) :: s) ((.tok n, v) :: l)
theorem TailM.spec {s l : St} {bm : Nat} {ml : List (Int × DV)} {φ : Objs} (h : TailM bm ml φ s l) : s = l ++ (.heap bm, .mp ml) :: heapSt φ ∧ noHeap l = true := by
  induction h with
  | nil => exact ⟨rfl, rfl⟩
  | slot n v h ih => exact ⟨by rw [ih.1]; rfl, ih.2⟩
  | loc n v h ih => exact ⟨by rw [ih.1]; rfl, ih.2⟩
  | tok n v h ih => exact ⟨by rw [ih.1]; rfl, ih.2⟩
theorem RS.nodup (x : RS) : (x.objs.map (·.1)).Nodup := by
  unfold RS.objs
  cases x.q <;> simp
theorem RS.get_objs {x : RS} {b : Nat} (h : x.q = some b) : get (heapSt x.objs) (.heap b) = some (.row (arrRow x.full)) := by
  unfold RS.objs
  rw [h]
  simp [heapSt, get, arrRow]
theorem get_mp {l : St} (hl : noHeap l = true) (bm : Nat) (ml : List (Int × DV)) (φ : Objs) (b : Nat) : get (l ++ (.heap bm, .mp ml) :: heapSt φ) (.heap b) = if bm = b then some (.mp ml) else get (heapSt φ) (.heap b) := by
  rw [get_append, noHeap_get hl]
  show get ((.heap bm, .mp ml) :: heapSt φ) (.heap b) = _
  simp only [get, Loc.heap.injEq]
theorem vcK_effM {esc : List Nat} {ops : Array Oper} {lst : List Oper} {K : St → Prop} {o : Oper} {q : Option (Prop × St)} {d : Nat} {l : St} {bm : Nat} {ml : List (Int × DV)} {φ : Objs} {x : RS} {E : Nat} {ys zs : List (List DV)} (hg : o.guard = none) (ht : TailM bm ml φ s l) (hφ : φ = x.objs) (hi : x.is E ys) (hbm : x.q ≠ some bm)
    (hf : FreeStep X o s d x.q (AppP X x.q E x.n x.full zs)) (hq : q = none) (h : ∀ x' : RS, x'.is E (ys ++ zs) → x'.q ≠ some bm → vc X esc ops lst (upd l (.slot d) (.one (.v x'.v)) ++ (.heap bm, .mp ml) :: heapSt x'.objs) K) : vcK X esc ops lst K o s q := by
  subst hφ
  refine vcK_freeW hg hf hq fun y b cs hap hnew => ?_
  obtain ⟨x', hq', rfl, rfl, hx'⟩ := hi.app hap
  obtain ⟨hs, hl⟩ := ht.spec
  have hb : b ≠ bm := hnew bm hbm (by rw [hs, get_mp hl, if_pos rfl]; simp)
  refine ⟨_, fun m v hm => ?_, vc_sound (h x' hx' (by rw [hq']; simpa using hb))⟩
  have hu := noHeap_upd hl d (.one (.v x'.v))
  by_cases hh : ∃ c, m = .heap c
  · obtain ⟨c, rfl⟩ := hh
    rw [get_mp hu] at hm
    by_cases h1 : bm = c
    · subst h1
      rw [if_pos rfl] at hm
      rw [effO_ne (by simp) (fun e => by cases e; exact hb rfl) (fun b' hb' e => by cases e; exact hbm hb'), hs, get_mp hl, if_pos rfl]
      exact hm
    · rw [if_neg h1] at hm
      obtain ⟨b0, cs, e, rfl, hmem⟩ := get_heapSt hm
      cases e
      obtain ⟨k1, k2⟩ := RS.mem_objs.1 hmem
      rw [hq'] at k1
      cases k1
      unfold effO
      rw [get_upd, if_pos rfl, k2]
      rfl
  · have hm' : ∀ c, m ≠ .heap c := fun c e => hh ⟨c, e⟩
    have hg1 : get (upd l (.slot d) (.one (.v x'.v))) m = some v := by
      rw [get_append] at hm
      cases hq : get (upd l (.slot d) (.one (.v x'.v))) m with
      | some u => rw [hq] at hm; exact hm
      | none =>
        rw [hq] at hm
        have hm : get ((.heap bm, .mp ml) :: heapSt x'.objs) m = some v := hm
        simp only [get] at hm
        rw [if_neg (fun e => hm' bm e.symm)] at hm
        obtain ⟨c, _, e, -⟩ := get_heapSt hm
        exact absurd e (hm' c)
    unfold effO
    rw [get_upd, if_neg (fun e => hm' b e.symm), get_upd]
    rw [get_upd] at hg1
    split
    · rename_i e; rw [if_pos e] at hg1; exact hg1
    · rename_i e
      rw [if_neg e] at hg1
      rw [get_delO _ _ _ (fun b' _ => hm' b'), hs, get_append, hg1]
      rfl
theorem subLe_hs_mp (σ : Nat → Nat) {x : RS} {bm : Nat} (h : x.q ≠ some bm) (v : LV) (s : St) : subLe σ ((.heap bm, v) :: s) (heapSt x.objs) = subLe σ s (heapSt x.objs) := by
  unfold RS.objs
  cases hq : x.q with
  | none => rfl
  | some b =>
    have hne : bm ≠ b := fun e => h (by rw [hq, e])
    simp only [heapSt, subLe, factLe, get, Loc.heap.injEq, hne, if_false]
/-- a nil slice of a slot, told as a raw one -/
theorem W_nilslot {kk : List Item} (n : Nat) (hg : get s (.slot n) = some (.one (.own 0 []))) (h : W X kk (upd s (.slot n) (.one (.v (.prim (.slice none 0 0)))))) : W X kk s := by
  intro G a w b cs hf hk hr R
  have hb : RV G.D w (.prim (.slice none 0 0)) (a.tmps.getD n undef) := by
    obtain ⟨h1, -⟩ := (R.holds _ _ hg : RSV G w (.own 0 []) _)
    rw [R.nil] at h1
    rw [h1]
    exact .prim _ ⟨rfl, rfl⟩
  have key : ∀ l v b', get (upd s (.slot n) (.one (.v (.prim (.slice none 0 0))))) l = some v → blkOf G l v = some b' → get s l = some v := by
    intro l v b' hl hb'
    rw [get_upd] at hl
    split at hl
    · subst_vars; cases hl; cases hb'
    · exact hl
  refine h G a w b cs hf hk hr ⟨R.size, R.defers, R.ext, R.wf, R.nil, fun l v hl => ?_, fun l v l' v' b' hl hl' hb1 hb2 => R.sep _ _ _ _ _ (key _ _ _ hl hb1) (key _ _ _ hl' hb2) hb1 hb2, fun l v b' hl hb1 => R.own _ _ _ (key _ _ _ hl hb1) hb1, fun l v b' o hl hb1 ht => R.data _ _ _ o (key _ _ _ hl hb1) hb1 ht⟩
  rw [get_upd] at hl
  split at hl
  · subst_vars; cases hl; exact hb
  · exact R.holds _ _ hl
end
end Go.Proofs.YtmdjiajbnifjpaaDoor.Lift

/-
  Reading a valid program back, plainly: what stands where, how high the stack is, what is looked up.
-/
namespace Go.Proofs.YtmdjiajbnifjpaaDoor.Lift
set_option linter.unusedSimpArgs false
set_option linter.unusedVariables false
set_option linter.unnecessarySimpa false
open Go

theorem lay_at (bs : List (List Ins)) {k : Nat} {b : List Ins} (hb : bs[k]? = some b) : (∀ j, j < b.length → (lay bs)[startAt bs k + j]? = b[j]?) ∧ (lay bs)[startAt bs k + b.length]? = some (14, 0) ∧ startAt bs k + b.length + 1 ≤ (lay bs).length := by
  have hk := (List.getElem?_eq_some_iff.1 hb).1
  have e : bs = bs.take k ++ (b :: bs.drop (k + 1)) := by
    have h1 : bs.drop k = b :: bs.drop (k + 1) := by
      rw [List.drop_eq_getElem_cons hk]
      congr 1
      rw [List.getElem?_eq_getElem hk] at hb
      exact Option.some.inj hb
    rw [← h1, List.take_append_drop]
  have e2 : lay bs = lay (bs.take k) ++ (b ++ ((14, 0) :: lay (bs.drop (k + 1)))) := by
    conv => lhs; rw [e]
    rw [lay_append, lay_cons]
    simp
  have hl : (lay (bs.take k)).length = startAt bs k := rfl
  refine ⟨fun j hj => ?_, ?_, ?_⟩
  · rw [e2, List.getElem?_append_right (by omega), hl, Nat.add_sub_cancel_left, List.getElem?_append_left hj]
  · rw [e2, List.getElem?_append_right (by omega), hl, Nat.add_sub_cancel_left, List.getElem?_append_right (Nat.le_refl _), Nat.sub_self]
    rfl
  · have := congrArg List.length e2
    simp only [List.length_append, List.length_cons, hl] at this
    omega
theorem stepB_len (body : Int → Tm) (st : List Tm) (x : Ins) (h : takesI x.1 ≤ st.length) : (stepB body st x).length = st.length - takesI x.1 + 1 := by
  unfold stepB
  simp
theorem runB_len (body : Int → Tm) : ∀ (c : List Ins) (st : List Tm) (h : Int), hts c st.length = some h → ((runB body c st).length : Int) = h
  | [], st, h, hh => by simp only [hts, Option.some.injEq] at hh; simpa [runB] using hh
  | x :: r, st, h, hh => by
    simp only [hts] at hh
    split at hh
    · rename_i ht
      have hl := stepB_len body st x (by omega)
      have := runB_len body r (stepB body st x) h (by rw [hl]; rw [← hh]; congr 1; omega)
      simpa [runB] using this
    · cases hh
theorem hts_at {b : List Ins} {j : Nat} {x : Ins} (h : hts b 0 = some 1) (hx : b[j]? = some x) (body : Int → Tm) : takesI x.1 ≤ (runB body (b.take j) []).length ∧ b.take (j + 1) = b.take j ++ [x] := by
  have hj := (List.getElem?_eq_some_iff.1 hx).1
  have h1 : b.take (j + 1) = b.take j ++ [x] := by rw [List.take_add_one, hx]; rfl
  refine ⟨?_, h1⟩
  have e : b = b.take j ++ (x :: b.drop (j + 1)) := by
    have h1 : b.drop j = x :: b.drop (j + 1) := by
      rw [List.drop_eq_getElem_cons hj]
      congr 1
      rw [List.getElem?_eq_getElem hj] at hx
      exact Option.some.inj hx
    rw [← h1, List.take_append_drop]
  rw [e, hts_append] at h
  cases hq : hts (b.take j) 0 with
  | none => rw [hq] at h; cases h
  | some hh =>
    rw [hq] at h
    simp only [Option.bind_some, hts] at h
    have := runB_len body (b.take j) [] hh (by simpa using hq)
    split at h
    · omega
    · cases h
theorem runB_le (body : Int → Tm) : ∀ (c : List Ins) (st : List Tm), (runB body c st).length ≤ st.length + c.length
  | [], st => by simp [runB]
  | x :: r, st => by
    have := runB_le body r (stepB body st x)
    have h2 : (stepB body st x).length ≤ st.length + 1 := by unfold stepB; simp
    simp only [runB, List.foldl_cons, List.length_cons] at this ⊢
    omega

/-- the blocks with their starts -/
def zipS (bs : List (List Ins)) : List (Int × List Ins) := (0 :: (ends 0 bs).dropLast).zip bs
theorem zipS_at {bs : List (List Ins)} {k : Nat} {b : List Ins} (hb : bs[k]? = some b) : (zipS bs)[k]? = some (((startAt bs k : Nat) : Int), b) := by
  have hk := (List.getElem?_eq_some_iff.1 hb).1
  have hne : bs ≠ [] := by intro e; rw [e] at hk; simp at hk
  rw [zipS, List.getElem?_zip_eq_some]
  refine ⟨?_, hb⟩
  rw [starts_eq _ hne, List.getElem?_map, List.getElem?_range hk]
  rfl
theorem starts_len {bs : List (List Ins)} (h : bs ≠ []) : (0 :: (ends 0 bs).dropLast).length = bs.length := by
  have : 0 < bs.length := List.length_pos_iff.2 h
  simp [ends_length]
  omega
theorem zipS_len {bs : List (List Ins)} (h : bs ≠ []) : (zipS bs).length = bs.length := by
  rw [zipS, List.length_zip, starts_len h]; simp
theorem starts_get {bs : List (List Ins)} {k : Nat} (hk : k < bs.length) : (0 :: (ends 0 bs).dropLast)[k]? = some ((startAt bs k : Nat) : Int) := by
  have hne : bs ≠ [] := by intro e; rw [e] at hk; simp at hk
  rw [starts_eq _ hne, List.getElem?_map, List.getElem?_range hk]
  rfl
/-- the terms of the blocks from place k on -/
def decAt (bs : List (List Ins)) (k : Nat) : List (Int × Tm) := decs ((zipS bs).drop k)
theorem decAt_step {bs : List (List Ins)} {k : Nat} {b : List Ins} (hb : bs[k]? = some b) : decAt bs k = decAt bs (k + 1) ++ [(((startAt bs k : Nat) : Int), (runB (look (decAt bs (k + 1))) b []).headD (.mk 0 0 zTy []))] := by
  have hz := zipS_at hb
  have hlt := (List.getElem?_eq_some_iff.1 hz).1
  unfold decAt
  have hdr : (zipS bs).drop k = (((startAt bs k : Nat) : Int), b) :: (zipS bs).drop (k + 1) := by
    rw [List.drop_eq_getElem_cons hlt]
    congr 1
    rw [List.getElem?_eq_getElem hlt] at hz
    exact Option.some.inj hz
  rw [hdr, decs]
theorem decAt_end {bs : List (List Ins)} (h : bs ≠ []) : decAt bs bs.length = [] := by
  unfold decAt
  rw [List.drop_of_length_le (by rw [zipS_len h]; exact Nat.le_refl _)]
  rfl
/-- what keys there are -/
theorem decAt_keys {bs : List (List Ins)} (hne : bs ≠ []) : ∀ (d k : Nat), k + d = bs.length → ∀ a : Int, (∃ v, (a, v) ∈ decAt bs k) ↔ ∃ k', k ≤ k' ∧ k' < bs.length ∧ a = ((startAt bs k' : Nat) : Int)
  | 0, k, hk, a => by
    have : k = bs.length := by omega
    subst this
    rw [decAt_end hne]
    constructor
    · rintro ⟨v, hv⟩; cases hv
    · rintro ⟨k', h1, h2, -⟩; omega
  | d + 1, k, hk, a => by
    have ih := decAt_keys hne d (k + 1) (by omega) a
    have hb : bs[k]? = some (bs[k]'(by omega)) := List.getElem?_eq_getElem (by omega)
    rw [decAt_step hb]
    constructor
    · rintro ⟨v, hv⟩
      rcases List.mem_append.1 hv with hv | hv
      · obtain ⟨k', h1, h2, h3⟩ := ih.1 ⟨v, hv⟩
        exact ⟨k', by omega, h2, h3⟩
      · have := List.mem_singleton.1 hv
        exact ⟨k, Nat.le_refl _, by omega, (Prod.mk.inj this).1⟩
    · rintro ⟨k', h1, h2, h3⟩
      by_cases e : k' = k
      · subst e
        exact ⟨_, List.mem_append.2 (.inr (List.mem_singleton.2 (by rw [h3])))⟩
      · obtain ⟨v, hv⟩ := ih.2 ⟨k', by omega, h2, h3⟩
        exact ⟨v, List.mem_append.2 (.inl hv)⟩
/-- a map of terms -/
def mapD (m : List (Int × Tm)) : List (Int × DV) := m.map fun e => (e.1, e.2.dv)
theorem mapD_app (m n : List (Int × Tm)) : mapD (m ++ n) = mapD m ++ mapD n := List.map_append
theorem lookM_yes {m : List (Int × Tm)} {a : Int} (h : ∃ v, (a, v) ∈ m) : lookM (mapD m) a = some (look m a).dv := by
  unfold look
  induction m with
  | nil => obtain ⟨v, hv⟩ := h; cases hv
  | cons e r ih =>
    rw [List.find?_cons]
    simp only [mapD, List.map_cons, lookM]
    by_cases he : e.1 = a
    · simp only [he, decide_true, if_true, Option.map_some, Option.getD_some]
    · simp only [he, decide_false]
      rw [if_neg (Ne.symm he)]
      obtain ⟨v, hv⟩ := h
      rcases List.mem_cons.1 hv with hv | hv
      · exact absurd (by rw [← hv]) he
      · exact ih ⟨v, hv⟩
theorem lookM_no {m : List (Int × Tm)} {a : Int} (h : ¬ ∃ v, (a, v) ∈ m) : lookM (mapD m) a = none := by
  induction m with
  | nil => rfl
  | cons e r ih =>
    simp only [mapD, List.map_cons, lookM]
    rw [if_neg (fun he => h ⟨e.2, by rw [he]; simp⟩)]
    exact ih fun ⟨v, hv⟩ => h ⟨v, List.mem_cons_of_mem _ hv⟩
/-- a function's number is the start of a later block -/
theorem fun_later {bs : List (List Ins)} (h : Prg bs) {k j : Nat} {b : List Ins} {a : Int} (hb : bs[k]? = some b) (hx : b[j]? = some (2, a)) : ∃ k', k + 1 ≤ k' ∧ k' < bs.length ∧ a = ((startAt bs k' : Nat) : Int) := by
  have hj := (List.getElem?_eq_some_iff.1 hx).1
  have hat := (lay_at bs hb).1 j hj
  rw [hx] at hat
  have hok := okCd_at h.ok hat (show ¬ ((2 : Int) = 14) from by decide)
  simp only [okI, if_true, Bool.and_eq_true, decide_eq_true_eq, Nat.zero_add] at hok
  have hmem : a ∈ funA (lay bs) := by
    have hm := List.mem_of_getElem? hat
    generalize lay bs = c at hm
    induction c with
    | nil => cases hm
    | cons y r ih =>
      simp only [funA]
      rcases List.mem_cons.1 hm with e | hm
      · subst e; simp
      · split
        · exact List.mem_cons_of_mem _ (ih hm)
        · exact ih hm
  rw [h.at'] at hmem
  have hm2 : a ∈ (0 :: (ends 0 bs).dropLast) := List.mem_cons_of_mem _ hmem
  obtain ⟨k', hk'⟩ := List.mem_iff_getElem?.1 hm2
  have hlen := starts_len h.one
  have hkl : k' < bs.length := by have := (List.getElem?_eq_some_iff.1 hk').1; omega
  rw [starts_get hkl] at hk'
  have ha := Option.some.inj hk'
  refine ⟨k', ?_, hkl, ha.symm⟩
  rcases Nat.lt_or_ge k k' with h1 | h1
  · omega
  · have := startAt_mono bs h1
    omega
end Go.Proofs.YtmdjiajbnifjpaaDoor.Lift

/-
  What is valid is the program of its term, plainly.
-/
namespace Go.Proofs.YtmdjiajbnifjpaaDoor.Lift
set_option linter.unusedSimpArgs false
set_option linter.unusedVariables false
set_option linter.unnecessarySimpa false
open Go

/-- code with the functions' numbers taken out -/
def bare (c : List Ins) : List Ins := c.map fun x => if x.1 = 2 then (2, 0) else x
theorem bare_app (c d : List Ins) : bare (c ++ d) = bare c ++ bare d := List.map_append
theorem bare_len (c : List Ins) : (bare c).length = c.length := List.length_map _
theorem bare_fill (p : Nat → Int) (j : Nat) (c : List Ins) : fillF p j (bare c) = fillF p j c := by
  induction c generalizing j with
  | nil => rfl
  | cons x r ih =>
    obtain ⟨o, a⟩ := x
    simp only [bare, List.map_cons]
    by_cases ho : o = 2
    · simp only [ho, if_true, fillF]
      have := ih (j + 1)
      simp only [bare] at this
      rw [this]
    · simp only [ho, if_false, fillF]
      have := ih j
      simp only [bare] at this
      rw [this]
theorem bare_lay (bs : List (List Ins)) : bare (lay bs) = lay (bs.map bare) := by
  induction bs with
  | nil => rfl
  | cons b r ih => rw [lay_cons, bare_app, bare_app, List.map_cons, lay_cons, ih]; rfl
theorem startAt_bare (bs : List (List Ins)) (k : Nat) : startAt (bs.map bare) k = startAt bs k := by
  unfold startAt
  rw [← List.map_take, ← bare_lay, bare_len]
theorem fill_self (p : Nat → Int) : ∀ (c : List Ins) (j : Nat), (∀ i a, (funA c)[i]? = some a → p (j + i) = a) → fillF p j c = c
  | [], _, _ => rfl
  | (o, a) :: r, j, h => by
    simp only [fillF]
    by_cases ho : o = 2
    · rw [if_pos ho]
      have h0 := h 0 a (by simp [funA, ho])
      rw [Nat.add_zero] at h0
      rw [h0, fill_self p r (j + 1) fun i a' hi => ?_, ho]
      have := h (i + 1) a' (by simp [funA, ho, hi])
      rwa [show j + (i + 1) = j + 1 + i from by omega] at this
    · rw [if_neg ho]
      rw [fill_self p r j fun i a' hi => h i a' (by simp [funA, ho, hi])]

/-- what runs on a stack of terms, in terms of their code -/
theorem run_code (body : Int → Tm) : ∀ (c : List Ins) (st : List Tm), (∀ x ∈ c, x.1 ≠ 2 → x.1 ≠ 1 → x.2 = 0) →
    Tm.skel.skels (runB body c st) = Tm.skel.skels st ++ bare c ∧ Tm.subs.subss (runB body c st) = Tm.subs.subss st ++ (funA c).map body
  | [], st, _ => by simp [runB, bare, funA]
  | (o, a) :: r, st, h => by
    have ih := run_code body r (stepB body st (o, a)) fun x hx => h x (by simp [hx])
    have h0 := h (o, a) (by simp)
    simp only at h0
    have hs : Tm.skel.skels (stepB body st (o, a)) = Tm.skel.skels st ++ bare [(o, a)] ∧ Tm.subs.subss (stepB body st (o, a)) = Tm.subs.subss st ++ (funA [(o, a)]).map body := by
      unfold stepB
      simp only
      by_cases ho : o = 2
      · subst ho
        have ht : takesI (2 : Int) = 0 := rfl
        rw [ht, Nat.sub_zero, List.take_length, Tm.skels_append, Tm.subss_append]
        constructor
        · congr 1
        · congr 1
      · have e := List.take_append_drop (st.length - takesI o) st
        have e1 : Tm.skel.skels st = Tm.skel.skels (st.take (st.length - takesI o)) ++ Tm.skel.skels (st.drop (st.length - takesI o)) := by
          conv => lhs; rw [← e]
          rw [Tm.skels_append]
        have e2 : Tm.subs.subss st = Tm.subs.subss (st.take (st.length - takesI o)) ++ Tm.subs.subss (st.drop (st.length - takesI o)) := by
          conv => lhs; rw [← e]
          rw [Tm.subss_append]
        rw [Tm.skels_append, Tm.subss_append, e1, e2]
        constructor
        · rw [List.append_assoc]
          congr 1
          simp only [Tm.skel.skels, List.append_nil, bare, List.map_cons, List.map_nil, ho, if_false]
          rw [Tm.skel_eq]
          simp only [Tm.kind_mk, Tm.index_mk, Tm.args_mk, ho, if_false]
          congr 1
          by_cases h1 : o = 1
          · simp [h1]
          · simp [h1, h0 ho h1]
        · rw [List.append_assoc]
          congr 1
          simp only [Tm.subs.subss, List.append_nil, funA, ho, if_false, List.map_nil]
          rw [Tm.subs_eq]
          simp only [Tm.kind_mk, Tm.args_mk, ho, if_false]
    have hcons : runB body ((o, a) :: r) st = runB body r (stepB body st (o, a)) := rfl
    rw [hcons, ih.1, ih.2, hs.1, hs.2]
    constructor
    · rw [List.append_assoc, ← bare_app]; rfl
    · rw [List.append_assoc, ← List.map_append, ← funA_append]; rfl
/-- the terms on the stack are right -/
theorem run_shape (body : Int → Tm) : ∀ (c : List Ins) (st : List Tm) (h : Int), hts c st.length = some h → (∀ x ∈ c, 1 ≤ x.1 ∧ x.1 ≤ 13 ∧ (x.1 = 1 → 0 ≤ x.2) ∧ (x.1 = 2 → (body x.2).shape = true)) → (∀ t ∈ st, t.shape = true) → ∀ t ∈ runB body c st, t.shape = true
  | [], st, _, _, _, hst => hst
  | (o, a) :: r, st, h, hh, hc, hst => by
    simp only [hts] at hh
    split at hh
    · rename_i ht
      have hle : takesI o ≤ st.length := by omega
      have hl := stepB_len body st (o, a) hle
      simp only at hl
      refine run_shape body r (stepB body st (o, a)) h (by rw [hl]; rw [← hh]; congr 1; omega) (fun x hx => hc x (by simp [hx])) fun t htm => ?_
      unfold stepB at htm
      rcases List.mem_append.1 htm with htm | htm
      · exact hst t (List.mem_of_mem_take htm)
      · obtain rfl := List.mem_singleton.1 htm
        obtain ⟨c1, c2, c3, c4⟩ := hc (o, a) (by simp)
        simp only at c1 c2 c3 c4
        obtain ⟨n, rfl⟩ := Int.eq_ofNat_of_zero_le (by omega : 0 ≤ o)
        have hn : n = 1 ∨ n = 2 ∨ n = 3 ∨ n = 4 ∨ n = 5 ∨ n = 6 ∨ n = 7 ∨ n = 8 ∨ n = 9 ∨ n = 10 ∨ n = 11 ∨ n = 12 ∨ n = 13 := by omega
        have hargs : Tm.shape.shapes (if ((n : Int)) = 2 then [body a] else st.drop (st.length - takesI (n : Int))) = true := by
          rw [Tm.shapes_iff]
          intro x hx
          split at hx
          · rename_i h2
            rw [List.mem_singleton.1 hx]
            exact c4 h2
          · exact hst x (List.mem_of_mem_drop hx)
        have hlen : (if ((n : Int)) = 2 then [body a] else st.drop (st.length - takesI (n : Int))).length = if ((n : Int)) = 2 then 1 else takesI (n : Int) := by
          split
          · rfl
          · rw [List.length_drop]; omega
        rw [Tm.shape_eq, Bool.and_eq_true]
        simp only [Tm.kind_mk, Tm.index_mk, Tm.type_mk, Tm.args_mk]
        refine ⟨?_, hargs⟩
        unfold tmKind
        rw [hlen]
        simp only [Bool.and_eq_true, Bool.or_eq_true, decide_eq_true_eq]
        refine ⟨⟨⟨?_, ?_⟩, ?_⟩, ?_⟩
        · rcases hn with rfl | rfl | rfl | rfl | rfl | rfl | rfl | rfl | rfl | rfl | rfl | rfl | rfl <;> rfl
        · split
          · rename_i h1; exact c3 h1
          · exact Int.le_refl _
        · by_cases h1 : (n : Int) = 1
          · exact .inl h1
          · exact .inr (if_neg h1)
        · rcases hn with rfl | rfl | rfl | rfl | rfl | rfl | rfl | rfl | rfl | rfl | rfl | rfl | rfl <;> rfl
    · cases hh

/-- the term of block k -/
def termAt (bs : List (List Ins)) (k : Nat) : Tm := look (decAt bs k) ((startAt bs k : Nat) : Int)
theorem termAt_look {bs : List (List Ins)} (hne : bs ≠ []) : ∀ (d i k : Nat), i + d = bs.length → i ≤ k → k < bs.length → look (decAt bs i) ((startAt bs k : Nat) : Int) = termAt bs k
  | 0, i, k, h1, h2, h3 => by omega
  | d + 1, i, k, h1, h2, h3 => by
    by_cases e : i = k
    · subst e; rfl
    · have ih := termAt_look hne d (i + 1) k (by omega) (by omega) h3
      have hb : bs[i]? = some (bs[i]'(by omega)) := List.getElem?_eq_getElem (by omega)
      rw [decAt_step hb]
      rw [← ih]
      obtain ⟨v, hv⟩ := (decAt_keys hne (bs.length - (i + 1)) (i + 1) (by omega) ((startAt bs k : Nat) : Int)).2 ⟨k, by omega, h3, rfl⟩
      unfold look
      rw [List.find?_append]
      cases hq : (decAt bs (i + 1)).find? fun e => decide (e.1 = ((startAt bs k : Nat) : Int)) with
      | some x => rfl
      | none =>
        rw [List.find?_eq_none] at hq
        have := hq _ hv
        simp at this
theorem termAt_run {bs : List (List Ins)} {k : Nat} {b : List Ins} (hb : bs[k]? = some b) : termAt bs k = (runB (look (decAt bs (k + 1))) b []).headD (.mk 0 0 zTy []) := by
  have hk := (List.getElem?_eq_some_iff.1 hb).1
  have hne : bs ≠ [] := by intro e; rw [e] at hk; simp at hk
  unfold termAt
  rw [decAt_step hb]
  refine look_of (List.mem_append.2 (.inr (List.mem_singleton.2 rfl))) fun v' hv => ?_
  rcases List.mem_append.1 hv with hv | hv
  · obtain ⟨k', h1, h2, h3⟩ := (decAt_keys hne (bs.length - (k + 1)) (k + 1) (by omega) _).1 ⟨v', hv⟩
    have := startAt_inj bs (i := k) (k := k') (by omega) (by omega) (by omega)
    omega
  · exact (Prod.mk.inj (List.mem_singleton.1 hv)).2
theorem prg_ins {bs : List (List Ins)} (h : Prg bs) {k : Nat} {b : List Ins} (hb : bs[k]? = some b) : ∀ x ∈ b, 1 ≤ x.1 ∧ x.1 ≤ 13 ∧ (x.1 = 1 → 0 ≤ x.2) ∧ (x.1 ≠ 2 → x.1 ≠ 1 → x.2 = 0) := by
  intro x hx
  obtain ⟨j, hj⟩ := List.mem_iff_getElem?.1 hx
  have hjl := (List.getElem?_eq_some_iff.1 hj).1
  have hok := okCd_at h.ok (i := startAt bs k + j) (by rw [(lay_at bs hb).1 j hjl]; exact hj) (h.no14 b (List.mem_of_getElem? hb) x hx)
  simp only [okI, Bool.and_eq_true, decide_eq_true_eq] at hok
  obtain ⟨⟨h1, h2⟩, h3⟩ := hok
  refine ⟨h1, h2, fun e => ?_, fun e1 e2 => ?_⟩
  · rw [if_neg (by omega), if_pos e] at h3
    exact of_decide_eq_true h3
  · rw [if_neg e1, if_neg e2] at h3
    exact of_decide_eq_true h3
/-- where the functions of block k lead -/
theorem prg_funs {bs : List (List Ins)} (h : Prg bs) : ∀ (j : Nat) (a : Int), (funA (lay bs))[j]? = some a → j + 1 < bs.length ∧ a = ((startAt bs (j + 1) : Nat) : Int) := by
  intro j a ha
  rw [h.at'] at ha
  have h1 : (0 :: (ends 0 bs).dropLast)[j + 1]? = some a := by rw [List.getElem?_cons_succ]; exact ha
  have hlen := starts_len h.one
  have hl : j + 1 < bs.length := by have := (List.getElem?_eq_some_iff.1 h1).1; omega
  rw [starts_get hl] at h1
  exact ⟨hl, (Option.some.inj h1).symm⟩
theorem prg_count {bs : List (List Ins)} (h : Prg bs) : funs (lay bs) + 1 = bs.length := by
  rw [← funA_length, h.at', List.length_dropLast, ends_length]
  have := List.length_pos_iff.2 h.one
  omega
theorem lay_take (bs : List (List Ins)) {k : Nat} {b : List Ins} (hb : bs[k]? = some b) : lay (bs.take (k + 1)) = lay (bs.take k) ++ (b ++ [(14, 0)]) := by
  rw [List.take_add_one, hb, lay_append]
  rw [Option.toList_some, lay_one]
theorem funs_take (bs : List (List Ins)) {k : Nat} {b : List Ins} (hb : bs[k]? = some b) : funsB bs (k + 1) = funsB bs k + funs b := by
  unfold funsB
  rw [lay_take bs hb, funs_append, funs_append]
  simp [funs]
/-- the functions of block k, as numbered -/
theorem block_funs {bs : List (List Ins)} (h : Prg bs) {k : Nat} {b : List Ins} (hb : bs[k]? = some b) : ∀ (i : Nat) (a : Int), (funA b)[i]? = some a → funsB bs k + i + 1 < bs.length ∧ a = ((startAt bs (funsB bs k + i + 1) : Nat) : Int) := by
  intro i a ha
  have e : lay bs = lay (bs.take (k + 1)) ++ lay (bs.drop (k + 1)) := by rw [← lay_append, List.take_append_drop]
  have hat : (funA (lay bs))[funsB bs k + i]? = some a := by
    rw [e, lay_take bs hb, funA_append, funA_append, funA_append]
    have h1 : (funA (lay (bs.take k))).length = funsB bs k := funA_length _
    have hil := (List.getElem?_eq_some_iff.1 ha).1
    rw [List.append_assoc, List.getElem?_append_right (by omega), h1, Nat.add_sub_cancel_left, List.append_assoc, List.getElem?_append_left hil]
    exact ha
  exact prg_funs h _ _ hat
/-- before block k there are k functions at least -/
theorem prg_before {bs : List (List Ins)} (h : Prg bs) : ∀ k, k < bs.length → k ≤ funsB bs k
  | 0, _ => Nat.zero_le _
  | k + 1, hk => by
    rcases Nat.lt_or_ge k (funsB bs (k + 1)) with h1 | h1
    · exact h1
    · exfalso
      -- function k stands at block k + 1 or behind, but leads to block k + 1
      have hcnt := prg_count h
      have hlt : k < (funA (lay bs)).length := by rw [funA_length]; omega
      have ha := List.getElem?_eq_getElem hlt
      obtain ⟨-, hv⟩ := prg_funs h k _ ha
      have e : lay bs = lay (bs.take (k + 1)) ++ lay (bs.drop (k + 1)) := by rw [← lay_append, List.take_append_drop]
      have hl1 : (funA (lay (bs.take (k + 1)))).length = funsB bs (k + 1) := funA_length _
      have key : ∀ (c : List Ins) (n j : Nat) (a : Int), okCd n c → (funA c)[j]? = some a → (n : Int) < a := by
        intro c
        induction c with
        | nil => intro n j a _ hj; simp [funA] at hj
        | cons x r ih =>
          intro n j a hok hj
          simp only [funA] at hj
          split at hj
          · rename_i hx
            cases j with
            | zero =>
              simp at hj
              have := hok.1 (by omega)
              simp only [okI, hx, if_true, Bool.and_eq_true, decide_eq_true_eq] at this
              omega
            | succ j =>
              have := ih (n + 1) j a hok.2 (by simpa using hj)
              omega
          · have := ih (n + 1) j a hok.2 hj
            omega
      have hok := h.ok
      rw [e, okCd_append] at hok
      have hj : (funA (lay (bs.drop (k + 1))))[k - funsB bs (k + 1)]? = some ((funA (lay bs))[k]'hlt) := by
        have h2 := ha
        generalize (funA (lay bs))[k]'hlt = A at h2 ⊢
        rw [e, funA_append, List.getElem?_append_right (by omega), hl1] at h2
        exact h2
      have h3 := key _ _ _ _ hok.2 hj
      rw [Nat.zero_add] at h3
      have h4 : (lay (bs.take (k + 1))).length = startAt bs (k + 1) := rfl
      omega

/-- the terms of the blocks: right, with the block as code, and the functions' terms below -/
theorem termAt_facts {bs : List (List Ins)} (h : Prg bs) : ∀ (d k : Nat), k + d = bs.length → ∀ (i : Nat) (b : List Ins), k ≤ i → bs[i]? = some b → (termAt bs i).shape = true ∧ (termAt bs i).skel = bare b ∧ (termAt bs i).subs = (List.range' (funsB bs i + 1) (funs b)).map (termAt bs)
  | 0, k, hk, i, b, hi, hb => by have := (List.getElem?_eq_some_iff.1 hb).1; omega
  | d + 1, k, hk, i, b, hi, hb => by
    by_cases e : i = k
    · subst e
      have ih := termAt_facts h d (i + 1) (by omega)
      have hins := prg_ins h hb
      have hbody : ∀ (j : Nat) (a : Int), (funA b)[j]? = some a → look (decAt bs (i + 1)) a = termAt bs (funsB bs i + j + 1) ∧ funsB bs i + j + 1 < bs.length ∧ i + 1 ≤ funsB bs i + j + 1 := by
        intro j a ha
        obtain ⟨h1, h2⟩ := block_funs h hb j a ha
        have h3 := prg_before h i (by omega)
        refine ⟨?_, h1, by omega⟩
        rw [h2]
        exact termAt_look h.one (bs.length - (i + 1)) (i + 1) _ (by omega) (by omega) h1
      have hh := h.high b (List.mem_of_getElem? hb)
      have hlen := runB_len (look (decAt bs (i + 1))) b [] 1 (by simpa using hh)
      obtain ⟨t, ht⟩ : ∃ t, runB (look (decAt bs (i + 1))) b [] = [t] := List.length_eq_one_iff.1 (by omega)
      have htt : termAt bs i = t := by rw [termAt_run hb, ht]; rfl
      obtain ⟨r1, r2⟩ := run_code (look (decAt bs (i + 1))) b [] fun x hx => (hins x hx).2.2.2
      have r3 := run_shape (look (decAt bs (i + 1))) b [] 1 (by simpa using hh) (fun x hx => by
        obtain ⟨q1, q2, q3, -⟩ := hins x hx
        refine ⟨q1, q2, q3, fun q4 => ?_⟩
        have hm : x.2 ∈ funA b := by
          clear r1 r2 ht htt hlen hh hbody hins hb
          induction b with
          | nil => cases hx
          | cons y r ih2 =>
            simp only [funA]
            rcases List.mem_cons.1 hx with e | hx
            · subst e; simp [q4]
            · split
              · exact List.mem_cons_of_mem _ (ih2 hx)
              · exact ih2 hx
        obtain ⟨j, hj⟩ := List.mem_iff_getElem?.1 hm
        obtain ⟨k1, k2, k3⟩ := hbody j _ hj
        rw [k1]
        exact (ih _ _ k3 (List.getElem?_eq_getElem k2)).1) (fun t ht => by cases ht)
      rw [ht] at r1 r2 r3
      simp only [Tm.skel.skels, Tm.subs.subss, List.append_nil, List.nil_append] at r1 r2
      rw [htt]
      refine ⟨r3 t (by simp), r1, ?_⟩
      rw [r2]
      apply List.ext_getElem?
      intro j
      rw [List.getElem?_map, List.getElem?_map]
      by_cases hj : j < funs b
      · have hjl : j < (funA b).length := by rw [funA_length]; exact hj
        have ha := List.getElem?_eq_getElem hjl
        rw [ha, List.getElem?_range' hj, Option.map_some, Option.map_some, (hbody j _ ha).1]
        congr 2
        omega
      · rw [List.getElem?_eq_none (by rw [funA_length]; omega), List.getElem?_eq_none (by simp; omega)]
        rfl
    · exact termAt_facts h d (k + 1) (by omega) i b (by omega) hb

/-- the terms are met in the blocks' order -/
theorem bfs_prg {bs : List (List Ins)} (h : Prg bs) : ∀ (d k : Nat), k + d = bs.length → Tm.bfs ((List.range' k (funsB bs k + 1 - k)).map (termAt bs)) = (List.range' k d).map (termAt bs)
  | 0, k, hk => by
    have hcnt := prg_count h
    have hf : funsB bs k = funs (lay bs) := by unfold funsB; rw [List.take_of_length_le (by omega)]
    have : funsB bs k + 1 - k = 0 := by omega
    rw [this]
    simp only [List.range'_zero, List.map_nil]
    exact Tm.bfs_nil
  | d + 1, k, hk => by
    have hb : bs[k]? = some (bs[k]'(by omega)) := List.getElem?_eq_getElem (by omega)
    have hle := prg_before h k (by omega)
    obtain ⟨-, -, f3⟩ := termAt_facts h bs.length 0 (by omega) k _ (Nat.zero_le _) hb
    have ih := bfs_prg h d (k + 1) (by omega)
    have e1 : funsB bs k + 1 - k = (funsB bs k - k) + 1 := by omega
    rw [e1, List.range'_succ, List.map_cons, Tm.bfs_cons, f3, ← List.map_append]
    have e2 : List.range' (k + 1) (funsB bs k - k) ++ List.range' (funsB bs k + 1) (funs bs[k]) = List.range' (k + 1) (funsB bs (k + 1) + 1 - (k + 1)) := by
      have e3 : funsB bs (k + 1) + 1 - (k + 1) = (funsB bs k - k) + funs bs[k] := by rw [funs_take bs hb]; omega
      rw [e3, ← List.range'_append_1]
      congr 2
      omega
    rw [e2, ih, List.range'_succ, List.map_cons]

/-- WHAT IS VALID IS THE PROGRAM OF ITS TERM -/
theorem code_bent {bs : List (List Ins)} (h : Prg bs) : (termOf bs).shape = true ∧ (termOf bs).codeN = lay bs ∧ (termOf bs).count ≤ 4096 := by
  have hpos := List.length_pos_iff.2 h.one
  have ht : termOf bs = termAt bs 0 := by
    unfold termOf termAt decAt zipS
    rw [List.drop_zero]
    congr 1
  have hb : bs[0]? = some (bs[0]'hpos) := List.getElem?_eq_getElem hpos
  obtain ⟨f1, -, -⟩ := termAt_facts h bs.length 0 (by omega) 0 _ (Nat.le_refl _) hb
  have hbfs := bfs_prg h bs.length 0 (by omega)
  have hf0 : funsB bs 0 = 0 := by unfold funsB; rw [List.take_zero]; rfl
  rw [hf0] at hbfs
  have hbfs1 : Tm.bfs [termAt bs 0] = (List.range' 0 bs.length).map (termAt bs) := hbfs
  have hblocks : (termAt bs 0).blocks = bs.map bare := by
    unfold Tm.blocks
    rw [hbfs1, List.map_map]
    apply List.ext_getElem?
    intro i
    rw [List.getElem?_map, List.getElem?_map]
    by_cases hi : i < bs.length
    · rw [List.getElem?_range' hi, List.getElem?_eq_getElem hi, Option.map_some, Option.map_some]
      have := (termAt_facts h bs.length 0 (by omega) i _ (Nat.zero_le _) (List.getElem?_eq_getElem hi)).2.1
      rw [← this]
      simp
    · rw [List.getElem?_eq_none (by simp; omega), List.getElem?_eq_none (by omega)]
      rfl
  have hcode : (termAt bs 0).codeN = lay bs := by
    unfold Tm.codeN prog
    rw [hblocks]
    simp only [startAt_bare]
    rw [← bare_lay, bare_fill]
    refine fill_self _ _ _ fun i a ha => ?_
    rw [Nat.zero_add]
    exact (prg_funs h i a ha).2.symm
  have hcnt := code_length (termAt bs 0) f1
  have hl := h.len
  rw [hcode] at hcnt
  rw [ht]
  exact ⟨f1, hcode, by omega⟩
end Go.Proofs.YtmdjiajbnifjpaaDoor.Lift

/-
  Part V of the small logic: a slice literal that is one's own (it may be appended to).
-/
namespace Go.Proofs.YtmdjiajbnifjpaaDoor.Lift
set_option linter.unusedSimpArgs false
set_option linter.unusedVariables false
set_option linter.unnecessarySimpa false
open Go
section
variable {X : Ctx} {s : St}

theorem step_litO {o : Oper} {t len E B : Nat} {parts : Array (Nat × Operand)} (ho : o.op = .buildSlice t len parts) {d : Nat} (hd : o.dst = some d) (hn : d < X.n) (hd0 : d ≠ 0) (hf : freshT d s = true) (he : elemZ X.P t = some (E, B)) {els : List (List DV)}
    (h : litEls X (get s) E 0 parts.toList = some els) (hc : els.length = len ∧ len * E ≤ 16777216 ∧ len ≤ BIG) : StepOK X s o (upd (upd (del s (.tok 0)) (.slot d) (.one (.own d els))) (.tok d) (.tk E len)) := by
  intro G a w R next Q hK
  obtain ⟨c, e, h1, h2, h3⟩ := buildSlice_run R he h hc.1 hc.2.1 hc.2.2
  refine opIn (by intro c e; rw [ho] at e; cases e) ?_
  simp only [execOp, ho, Sem.run_bind, h1, Result.andThen_ok, Sem.run_pure, upn_value, hd]
  have hτ0 : (setτ G (withData G.D w.heap.size 0 (len * E)) d (some ⟨w.heap.size, 0, none⟩, len)).τ 0 = (none, 0) := by simp only [setτ, if_neg (Ne.symm hd0)]; exact R.nil
  have T : Trans X G a w (setτ G (withData G.D w.heap.size 0 (len * E)) d (some ⟨w.heap.size, 0, none⟩, len)) a (w.alloc (.cells c e)) (fun _ => False) := trans_data R (hi := len * E) (by omega) rfl hτ0
  refine hK (setτ G (withData G.D w.heap.size 0 (len * E)) d (some ⟨w.heap.size, 0, none⟩, len)) _ _ (R.ownNew (t := 0) hn hf T rfl (fun k hk => by simp [setτ, hk]) (fun b h => h.elim) ?_ ?_ (fun b hb => ?_))
  · simp only [RSV, setτ, if_true]
    rw [← hc.1] at h3 ⊢
    exact ⟨rfl, h3⟩
  · simp only [TokAt, setτ, if_true]
    exact ⟨Nat.le_refl _, fun h => absurd h (Nat.lt_irrefl _)⟩
  · simp [tokBlk, setτ] at hb

theorem vcK_litO {esc : List Nat} {ops : Array Oper} {l : List Oper} {K : St → Prop} {d : Tmp} {t len : Nat} {parts : Array (Nat × Operand)} {ty : TypeId} {pos : String} {af : Array Edge} {q : Option (Prop × St)} {E B : Nat} {els : List (List DV)}
    (he : elemZ X.P t = some (E, B)) (h : litEls X (get s) E 0 parts.toList = some els) (hc : els.length = len ∧ len * E ≤ 16777216 ∧ len ≤ BIG) (hn : d < X.n) (hd0 : d ≠ 0) (hf : freshT d s = true) (hq : q = none)
    (k : vc X esc ops l (upd (upd (del s (.tok 0)) (.slot d) (.one (.own d els))) (.tok d) (.tk E len)) K) :
    vcK X esc ops l K ⟨some d, .buildSlice t len parts, ty, pos, af, none⟩ s q := by
  subst hq
  exact VL_step rfl (step_litO (o := ⟨some d, .buildSlice t len parts, ty, pos, af, none⟩) rfl rfl hn hd0 hf he h hc) (vc_sound k)

end
end Go.Proofs.YtmdjiajbnifjpaaDoor.Lift

/-
  Package code: Starts and Check, walked.
-/
namespace Go.Proofs.YtmdjiajbnifjpaaDoor.Lift
set_option linter.unusedSimpArgs false
set_option linter.unusedVariables false
set_option linter.unnecessarySimpa false
open Go
variable {gl : Globs}

set_option maxHeartbeats 2000000 in
set_option maxRecDepth 10000 in
theorem starts_ok (hop : globOf gl 0 = some opEls) (c : List Ins) (hb : c.length ≤ 1000000000) : Con1 Tryd.prog gl 55 [.sl (rowsI c)] [] (.tup [.sl (ints (startsN c).1), dbool (startsN c).2]) [] := by
  refine t_in Tryd.func55 ?_
  intro X hP hgl hf hfn hn hR hids hfit
  have hcl : (rowsI c).length = c.length := by simp [rowsI]
  refine t_rg0 ?_
  by_cases h0 : c = []
  · subst h0
    repeat (first | refine W_seq ?_ | refine W_skip ?_ | refine W_block ?_ | refine W_inBlock ?_ | refine W_label ?_ | refine W_exit rfl ?_ | ((first | refine W_reg [] fun K hK => ?_ | refine W_regd (by rw [hP]; exact mixed) [] fun K hK => ?_); simp [go_sem, hP, hgl, hn, rowsI]; (repeat (refine ⟨by omega, ?_⟩)); (first | refine hK _ ?_ | refine ⟨by rfl, hK _ ?_⟩); clear hK K) | refine W_cond rfl (fun _ => ?_) (fun hq => False.elim (by first | (simp [rowsI]; done) | (simp [rowsI]; omega) | (simp [rowsI] at hq; done) | (simp [rowsI] at hq; omega))) | refine W_cond rfl (fun hq => False.elim (by first | (simp [rowsI]; done) | (simp [rowsI]; omega) | (simp [rowsI] at hq; done) | (simp [rowsI] at hq; omega))) (fun _ => ?_))
    refine t_r ?_
    simp [go_sem, hP, hgl, hn, startsN, ints] <;> (try omega)
  have hpos : 1 ≤ c.length := by
    cases c with
    | nil => exact absurd rfl h0
    | cons x r => simp
  have hlast : c.getLast? = some (c[c.length - 1]'(by omega)) := by rw [List.getLast?_eq_getElem?, List.getElem?_eq_getElem]
  have hi1 : ¬ ((c.length : Int) < 1) := by omega
  by_cases h1 : 4096 < c.length
  · have hi2 : (4096 : Int) < (c.length : Int) := by omega
    refine t_g (j2 @hcl (j2 @hi1 @hi2)) ?_
    refine t_r ?_
    simp [go_sem, hP, hgl, hn, startsN, h1, ints] <;> (try omega)
  obtain ⟨o, a, hoa⟩ : ∃ o a, c[c.length - 1]? = some (o, a) := ⟨(c[c.length - 1]'(by omega)).1, (c[c.length - 1]'(by omega)).2, by rw [List.getElem?_eq_getElem]⟩
  have hlo : lastOp c = o := by rw [lastOp, List.getLast?_eq_getElem?, hoa]; rfl
  have hrow : (rowsI c)[c.length - 1]? = some [dint o, dint a] := by simp [rowsI, hoa, Ins.row]
  have hidx : ((c.length : Int) - 1).toNat = c.length - 1 := by omega
  have hi2 : ¬ ((4096 : Int) < (c.length : Int)) := by omega
  by_cases h2 : o = 14
  · subst h2
    refine t_rg (j2 @hcl (j2 @hi1 (j2 @hi2 (j2 @hidx @hrow)))) ?_
    refine t_no ?_
    refine t_a ?_
    refine W_reg [29] fun K hK => ?_
    simp [go_sem, hP, hgl, hn]
    refine vcK_litO (E := 1) (els := [[dint 0]]) (by simp [go_sem, hP]; rfl) (by simp [go_sem, hP, hgl, hn]) ⟨rfl, by decide, by decide⟩ (by rw [hn]; exact Nat.le_of_ble_eq_true rfl) (by decide) (by rfl) (by rfl) ?_
    simp [go_sem, hP, hgl, hn]
    refine hK _ ?_
    clear hK K
    refine t_rg0 ?_
    refine t_rg0 ?_
    refine t_rg @hcl ?_
    refine t_a ?_
    refine W_sub [(1004, 29), (1005, 0)] (by simp [go_sem]) (by simp [go_sem, ints] <;> omega) (by simp [go_sem]) (W_rounds (fun x : Nat × Int × List Int × List Int => x.1 ≤ c.length ∧ scanS (c.drop x.1) x.1 x.2.1 x.2.2.1 x.2.2.2 = scanS c 0 0 [0] [] ∧ 0 ≤ x.2.1 ∧ x.2.1 ≤ x.1 ∧ x.2.2.1 ≠ [] ∧ x.2.2.1.length ≤ x.1 + 1 ∧ x.2.2.2.length ≤ x.1) (fun x : Nat × Int × List Int × List Int => [(.slot 4, .one (.own 1004 (ints x.2.2.1))), (.tok 1004, .tk 1 x.2.2.1.length), (.slot 5, .one (.own 1005 (ints x.2.2.2))), (.tok 1005, .tk 1 x.2.2.2.length), (.slot 6, .one (.v (dint x.2.1))), (.slot 30, .one (.v (.sl (rowsI c)))), (.slot 31, .one (.v (dint c.length))), (.slot 32, .one (.v (dint x.1)))]) (fun x : Nat × Int × List Int × List Int => c.length - x.1) (0, 0, [0], []) (⟨Nat.zero_le _, rfl, by decide, by decide, by decide, by decide, by decide⟩) ?_)
    rintro ⟨n, h, st, fs⟩ ⟨i1, i2, i3, i4, i5, i6, i7⟩ ihr
    simp only at i1 i2 i3 i4 i5 i6 i7
    rcases Nat.lt_or_ge n c.length with hlt | hge
    · obtain ⟨o, a, hx⟩ : ∃ o a, c[n]? = some (o, a) := ⟨(c[n]'hlt).1, (c[n]'hlt).2, by rw [List.getElem?_eq_getElem hlt]⟩
      have hdr : c.drop n = (o, a) :: c.drop (n + 1) := by
        rw [List.drop_eq_getElem_cons hlt]
        rw [List.getElem?_eq_getElem hlt] at hx
        rw [Option.some.inj hx]
      have hg : (rowsI c)[n]? = some [dint o, dint a] := by simp [rowsI, hx, Ins.row]
      rw [hdr, scanS] at i2
      simp only at i2
      have hltI : (n : Int) < (c.length : Int) := by omega
      have hrj : scanS c 0 0 [0] [] = none → startsN c = ([], false) := by
        intro hq
        unfold startsN
        rw [hq]
        split <;> rfl
      refine t_rg @hltI ?_
      refine t_yes ?_
      by_cases h14 : o = 14
      · subst h14
        rw [if_pos rfl] at i2
        by_cases ha : a = 0
        · by_cases hh : h = 1
          · rw [if_pos ⟨ha, hh⟩] at i2
            repeat (first | (refine W_sub [(1004, 52)] (by simp [go_sem]) (by simp [go_sem, ints] <;> omega) (by simp [go_sem]) (ihr (n + 1, 0, st ++ [((n + 1 : Nat) : Int)], fs) ⟨hlt, i2, Int.le_refl _, by simp only; omega, by simp, by simp only [List.length_append, List.length_singleton]; omega, by simp only; omega⟩ (by simp only; omega))) | refine W_seq ?_ | refine W_skip ?_ | refine W_block ?_ | refine W_inBlock ?_ | refine W_label ?_ | refine W_exit rfl ?_ | ((first | refine W_reg [] fun K hK => ?_ | refine W_regd (by rw [hP]; exact mixed) [] fun K hK => ?_); simp [go_sem, hP, hgl, hn, hg, ha, hh, ints]; (repeat (refine ⟨by omega, ?_⟩)); (first | refine hK _ ?_ | refine ⟨by rfl, hK _ ?_⟩); clear hK K) | refine W_cond rfl (fun _ => ?_) (fun hq => False.elim (by first | (simp [hg, ha, hh, ints]; done) | (simp [hg, ha, hh, ints]; omega) | (simp [hg, ha, hh, ints] at hq; done) | (simp [hg, ha, hh, ints] at hq; omega))) | refine W_cond rfl (fun hq => False.elim (by first | (simp [hg, ha, hh, ints]; done) | (simp [hg, ha, hh, ints]; omega) | (simp [hg, ha, hh, ints] at hq; done) | (simp [hg, ha, hh, ints] at hq; omega))) (fun _ => ?_))
          · rw [if_neg (fun e => hh e.2)] at i2
            have hr := hrj i2.symm
            refine t_g (j2 @hg (j2 @ha @hh)) ?_
            refine t_r ?_
            simp [go_sem, hP, hgl, hn, hr, ints] <;> (try omega)
        · rw [if_neg (fun e => ha e.1)] at i2
          have hr := hrj i2.symm
          refine t_g (j2 @hg @ha) ?_
          refine t_r ?_
          simp [go_sem, hP, hgl, hn, hr, ints] <;> (try omega)
      · rw [if_neg h14] at i2
        by_cases hr : 1 ≤ o ∧ o ≤ 13
        · obtain ⟨k, rfl⟩ := Int.eq_ofNat_of_zero_le (by omega : 0 ≤ o)
          have hk1 : 1 ≤ k := by omega
          have hk2 : k ≤ 13 := by omega
          have hop1 := opEls_get k hk1 hk2
          have hk14 : ¬ k = 14 := by omega
          have hk14' : ¬ (k : Int) = 14 := by omega
          have hkl : ¬ (k : Int) < 1 := by omega
          have hkg : ¬ (14 : Int) ≤ (k : Int) := by omega
          have hkh : (k : Int) < 14 := by omega
          have htk : (0 : Int) ≤ takesI (k : Int) ∧ (takesI (k : Int) : Int) ≤ 3 := by
            unfold takesI; repeat' split
            all_goals decide
          have e13 : ((1 : Int) ≤ (k : Int)) ∧ ((k : Int) ≤ 13) := ⟨by omega, by omega⟩
          by_cases k2 : k = 2
          · subst k2
            have ht2 : takesI ((2 : Nat) : Int) = 0 := rfl
            have ht2' : takesI (2 : Int) = 0 := rfl
            by_cases ha : a ≤ n
            · rw [if_neg (fun e => by
                have h1 := e.1
                simp only [okI, Bool.and_eq_true, decide_eq_true_eq] at h1
                have h2 := h1.2
                simp at h2
                omega)] at i2
              have hr' := hrj i2.symm
              refine t_g (j2 @hg @ha) ?_
              refine t_r ?_
              simp [go_sem, hP, hgl, hn, hr', ints] <;> (try omega)
            · have hh0 : ¬ h < 0 := by omega
              rw [if_pos ⟨by simp [okI]; omega, by show ((takesI ((2 : Nat) : Int) : Nat) : Int) ≤ h; omega⟩, if_pos (show ((2 : Nat) : Int) = 2 from rfl)] at i2
              have e : h + 1 - ((takesI ((2 : Nat) : Int) : Nat) : Int) = h + 1 := by rw [ht2]; omega
              have i2' : scanS (c.drop (n + 1)) (n + 1) (h + 1) st (fs ++ [a]) = scanS c 0 0 [0] [] := i2 ▸ congrArg (fun z => scanS (c.drop (n + 1)) (n + 1) z st (fs ++ [a])) e.symm
              repeat (first | (refine W_sub [(1005, 74)] (by simp [go_sem]) (by simp [go_sem, ints] <;> omega) (by simp [go_sem]) (ihr (n + 1, h + 1, st, fs ++ [a]) ⟨hlt, i2', by simp only; omega, by simp only; omega, i5, by simp only; omega, by simp only [List.length_append, List.length_singleton]; omega⟩ (by simp only; omega))) | refine W_seq ?_ | refine W_skip ?_ | refine W_block ?_ | refine W_inBlock ?_ | refine W_label ?_ | refine W_exit rfl ?_ | ((first | refine W_reg [] fun K hK => ?_ | refine W_regd (by rw [hP]; exact mixed) [] fun K hK => ?_); simp [go_sem, hP, hgl, hn, hg, ha, ints, hop, hop1, ht2', hh0]; (repeat (refine ⟨by omega, ?_⟩)); (first | refine hK _ ?_ | refine ⟨by rfl, hK _ ?_⟩); clear hK K) | refine W_cond rfl (fun _ => ?_) (fun hq => False.elim (by first | (simp [hg, ha, ints, hop, hop1, ht2', hh0]; done) | (simp [hg, ha, ints, hop, hop1, ht2', hh0]; omega) | (simp [hg, ha, ints, hop, hop1, ht2', hh0] at hq; done) | (simp [hg, ha, ints, hop, hop1, ht2', hh0] at hq; omega))) | refine W_cond rfl (fun hq => False.elim (by first | (simp [hg, ha, ints, hop, hop1, ht2', hh0]; done) | (simp [hg, ha, ints, hop, hop1, ht2', hh0]; omega) | (simp [hg, ha, ints, hop, hop1, ht2', hh0] at hq; done) | (simp [hg, ha, ints, hop, hop1, ht2', hh0] at hq; omega))) (fun _ => ?_))
          by_cases k1 : k = 1
          · subst k1
            have ht1 : takesI ((1 : Nat) : Int) = 0 := rfl
            have ht1' : takesI (1 : Int) = 0 := rfl
            by_cases ha : a < 0
            · rw [if_neg (fun e => by
                have h1 := e.1
                simp only [okI, Bool.and_eq_true, decide_eq_true_eq] at h1
                have h2 := h1.2
                simp at h2
                omega)] at i2
              have hr' := hrj i2.symm
              refine t_g (j2 @hg @ha) ?_
              refine t_r ?_
              simp [go_sem, hP, hgl, hn, hr', ints] <;> (try omega)
            · have hh0 : ¬ h < 0 := by omega
              rw [if_pos ⟨by simp [okI]; omega, by show ((takesI ((1 : Nat) : Int) : Nat) : Int) ≤ h; omega⟩, if_neg (show ¬ ((1 : Nat) : Int) = 2 from by decide)] at i2
              have e : h + 1 - ((takesI ((1 : Nat) : Int) : Nat) : Int) = h + 1 := by rw [ht1]; omega
              have i2' : scanS (c.drop (n + 1)) (n + 1) (h + 1) st fs = scanS c 0 0 [0] [] := i2 ▸ congrArg (fun z => scanS (c.drop (n + 1)) (n + 1) z st fs) e.symm
              repeat (first | (refine W_sub [] (by simp [go_sem]) (by simp [go_sem, ints] <;> omega) (by simp [go_sem]) (ihr (n + 1, h + 1, st, fs) ⟨hlt, i2', by simp only; omega, by simp only; omega, i5, by simp only; omega, by simp only; omega⟩ (by simp only; omega))) | refine W_seq ?_ | refine W_skip ?_ | refine W_block ?_ | refine W_inBlock ?_ | refine W_label ?_ | refine W_exit rfl ?_ | ((first | refine W_reg [] fun K hK => ?_ | refine W_regd (by rw [hP]; exact mixed) [] fun K hK => ?_); simp [go_sem, hP, hgl, hn, hg, ha, ints, hop, hop1, ht1', hh0]; (repeat (refine ⟨by omega, ?_⟩)); (first | refine hK _ ?_ | refine ⟨by rfl, hK _ ?_⟩); clear hK K) | refine W_cond rfl (fun _ => ?_) (fun hq => False.elim (by first | (simp [hg, ha, ints, hop, hop1, ht1', hh0]; done) | (simp [hg, ha, ints, hop, hop1, ht1', hh0]; omega) | (simp [hg, ha, ints, hop, hop1, ht1', hh0] at hq; done) | (simp [hg, ha, ints, hop, hop1, ht1', hh0] at hq; omega))) | refine W_cond rfl (fun hq => False.elim (by first | (simp [hg, ha, ints, hop, hop1, ht1', hh0]; done) | (simp [hg, ha, ints, hop, hop1, ht1', hh0]; omega) | (simp [hg, ha, ints, hop, hop1, ht1', hh0] at hq; done) | (simp [hg, ha, ints, hop, hop1, ht1', hh0] at hq; omega))) (fun _ => ?_))
          have k2' : ¬ (k : Int) = 2 := by omega
          have k1' : ¬ (k : Int) = 1 := by omega
          by_cases ha : a = 0
          · by_cases hh : h < takesI (k : Int)
            · rw [if_neg (fun e => by have h5 : ((takesI (k : Int) : Nat) : Int) ≤ h := e.2; omega)] at i2
              have hr' := hrj i2.symm
              refine t_g (j2 @hg (j2 @hk14 (j2 @hk14' (j2 @hkl (j2 @hkg (j2 @hkh (j2 @k1 (j2 @k2 (j2 @k1' (j2 @k2' (j2 @ha (j2 @hop (j2 @hop1 (j2 @hh @hk2)))))))))))))) ?_
              refine t_r ?_
              simp [go_sem, hP, hgl, hn, hr', ints] <;> (try omega)
            · rw [if_pos ⟨by simp [okI, k1, k2, ha, hk1, hk2]; omega, by show ((takesI (k : Int) : Nat) : Int) ≤ h; omega⟩, if_neg k2'] at i2
              repeat (first | (refine W_sub [] (by simp [go_sem]) (by simp [go_sem, ints] <;> omega) (by simp [go_sem]) (ihr (n + 1, h + (1 - takesI (k : Int)), st, fs) ⟨hlt, by rw [← i2]; simp only; congr 1; omega, by simp only; omega, by simp only; omega, i5, by simp only; omega, by simp only; omega⟩ (by simp only; omega))) | refine W_seq ?_ | refine W_skip ?_ | refine W_block ?_ | refine W_inBlock ?_ | refine W_label ?_ | refine W_exit rfl ?_ | ((first | refine W_reg [] fun K hK => ?_ | refine W_regd (by rw [hP]; exact mixed) [] fun K hK => ?_); simp [go_sem, hP, hgl, hn, hg, hk14, hk14', hkl, hkg, hkh, k1, k2, k1', k2', ha, hop, hop1, hh, hk2]; (repeat (refine ⟨by omega, ?_⟩)); (first | refine hK _ ?_ | refine ⟨by rfl, hK _ ?_⟩); clear hK K) | refine W_cond rfl (fun _ => ?_) (fun hq => False.elim (by first | (simp [hg, hk14, hk14', hkl, hkg, hkh, k1, k2, k1', k2', ha, hop, hop1, hh, hk2]; done) | (simp [hg, hk14, hk14', hkl, hkg, hkh, k1, k2, k1', k2', ha, hop, hop1, hh, hk2]; omega) | (simp [hg, hk14, hk14', hkl, hkg, hkh, k1, k2, k1', k2', ha, hop, hop1, hh, hk2] at hq; done) | (simp [hg, hk14, hk14', hkl, hkg, hkh, k1, k2, k1', k2', ha, hop, hop1, hh, hk2] at hq; omega))) | refine W_cond rfl (fun hq => False.elim (by first | (simp [hg, hk14, hk14', hkl, hkg, hkh, k1, k2, k1', k2', ha, hop, hop1, hh, hk2]; done) | (simp [hg, hk14, hk14', hkl, hkg, hkh, k1, k2, k1', k2', ha, hop, hop1, hh, hk2]; omega) | (simp [hg, hk14, hk14', hkl, hkg, hkh, k1, k2, k1', k2', ha, hop, hop1, hh, hk2] at hq; done) | (simp [hg, hk14, hk14', hkl, hkg, hkh, k1, k2, k1', k2', ha, hop, hop1, hh, hk2] at hq; omega))) (fun _ => ?_))
          · rw [if_neg (fun e => by
              have h1 := e.1
              simp only [okI, Bool.and_eq_true, decide_eq_true_eq] at h1
              have h2 := h1.2
              rw [if_neg k2', if_neg k1'] at h2
              exact ha (of_decide_eq_true h2))] at i2
            have hr' := hrj i2.symm
            refine t_g (j2 @hg (j2 @hk14 (j2 @hk14' (j2 @hkl (j2 @hkg (j2 @k1 (j2 @k2 (j2 @k1' (j2 @k2' @ha))))))))) ?_
            refine t_r ?_
            simp [go_sem, hP, hgl, hn, hr', ints] <;> (try omega)
        · rw [if_neg (fun e => hr (by
            have h1 := e.1
            simp only [okI, Bool.and_eq_true, decide_eq_true_eq] at h1
            exact h1.1))] at i2
          have hr' := hrj i2.symm
          by_cases hl : o < 1
          · refine t_g (j2 @hg (j2 @h14 @hl)) ?_
            refine t_r ?_
            simp [go_sem, hP, hgl, hn, hr', ints] <;> (try omega)
          · have hgt : (14 : Int) ≤ o := by omega
            refine t_g (j2 @hg (j2 @h14 (j2 @hl @hgt))) ?_
            refine t_r ?_
            simp [go_sem, hP, hgl, hn, hr', ints] <;> (try omega)
    · have hn0 : n = c.length := by omega
      subst hn0
      rw [List.drop_length, scanS] at i2
      have hss : startsN c = if st.dropLast.tail = fs then (st.dropLast, true) else ([], false) := by
        unfold startsN
        rw [if_neg (by simp only [not_or, Decidable.not_not]; exact ⟨h0, by omega, hlo⟩), ← i2]
      have hs1 : 1 ≤ st.length := by cases st with | nil => exact absurd rfl i5 | cons _ _ => simp
      have hil : (ints st).length = st.length := by simp [ints]
      have hif : (ints fs).length = fs.length := by simp [ints]
      have hidx2 : ((st.length : Int) - 1).toNat = st.length - 1 := by omega
      have htk : (ints st).take (st.length - 1) = ints st.dropLast := by simp [ints, List.dropLast_eq_take, List.map_take]
      refine t_rg0 ?_
      refine t_no ?_
      refine t_rg (j2 @hil (j2 @hif (j2 @hidx2 @htk))) ?_
      have hs2 : 2 ≤ st.length := by
        obtain ⟨b, bs, -, -, -, -, -, i6'⟩ := scan_inv c 0 0 _ _ _ i2.symm h0 hlo
        have e := (Prod.mk.inj i6').1
        rw [e]
        simp [ends]
      have hdl : st.dropLast.length = st.length - 1 := List.length_dropLast
      generalize st.dropLast = sd at *
      have hsl : (ints sd).length = sd.length := by simp [ints]
      by_cases hle : fs.length = sd.length - 1
      · have hq : ((fs.length : Int)) = (sd.length : Int) - 1 := by omega
        refine t_g (j2 @hif (j2 @hsl @hq)) ?_
        refine t_a ?_
        refine t_sub [] @hq (W_rounds (fun k : Nat => k ≤ fs.length ∧ sd.tail.take k = fs.take k) (fun k : Nat => [(.slot 4, .one (.v (.sl (ints sd)))), (.slot 119, .one (.v (.sl (ints fs)))), (.slot 120, .one (.v (dint fs.length))), (.slot 121, .one (.v (dint k)))]) (fun k : Nat => fs.length - k) 0 (⟨Nat.zero_le _, rfl⟩) ?_)
        rintro k ⟨j1', j2'⟩ ihr2
        rcases Nat.lt_or_ge k fs.length with hk | hk
        · obtain ⟨y, hy⟩ : ∃ y, fs[k]? = some y := ⟨_, List.getElem?_eq_getElem hk⟩
          obtain ⟨z, hz⟩ : ∃ z, sd[k + 1]? = some z := ⟨sd[k + 1]'(by omega), List.getElem?_eq_getElem (by omega)⟩
          have hy' : (ints fs)[k]? = some [dint y] := by simp [ints, hy]
          have hz' : (ints sd)[k + 1]? = some [dint z] := by simp [ints, hz]
          have hi3 : ((k : Int) + 1).toNat = k + 1 := by omega
          have hzt : sd.tail[k]? = some z := by simpa using hz
          refine t_rg0 ?_
          refine t_yes ?_
          by_cases hyz : z = y
          · subst hyz
            refine t_gt (wr []) trivial (j2 @hy' (j2 @hz' @hi3)) (ihr2 (k + 1) ⟨hk, by rw [List.take_add_one, List.take_add_one, j2', hzt, hy]⟩ (by omega))
          · have hne : ¬ sd.tail = fs := by
              intro e
              rw [e, hy] at hzt
              exact hyz (Option.some.inj hzt).symm
            rw [if_neg hne] at hss
            refine t_g (j2 @hy' (j2 @hz' (j2 @hi3 @hyz))) ?_
            refine t_r ?_
            simp [go_sem, hP, hgl, hn, hss, ints] <;> (try omega)
        · have hke : k = fs.length := by omega
          have heq : sd.tail = fs := by
            rw [hke, List.take_length, List.take_of_length_le (by simp; omega)] at j2'
            exact j2'
          rw [if_pos heq] at hss
          refine t_rg0 ?_
          refine t_no ?_
          refine t_g0 ?_
          refine t_r ?_
          simp [go_sem, hP, hgl, hn, hss] <;> (try omega)
      · have hne : ¬ sd.tail = fs := by
          intro e
          apply hle
          rw [← e, List.length_tail]
        rw [if_neg hne] at hss
        have hq : ¬ ((fs.length : Int)) = (sd.length : Int) - 1 := by omega
        refine t_g (j2 @hif (j2 @hsl @hq)) ?_
        refine t_r ?_
        simp [go_sem, hP, hgl, hn, hss, ints] <;> (try omega)
  · refine t_g (j2 @hcl (j2 @hi1 (j2 @hi2 (j2 @hidx (j2 @hrow @h2))))) ?_
    refine t_r ?_
    simp [go_sem, hP, hgl, hn, startsN, hlo, h2, ints] <;> (try omega)
end Go.Proofs.YtmdjiajbnifjpaaDoor.Lift

/-
  Package code: Check, walked.
-/
namespace Go.Proofs.YtmdjiajbnifjpaaDoor.Lift
set_option linter.unusedSimpArgs false
set_option linter.unusedVariables false
set_option linter.unnecessarySimpa false
open Go
variable {gl : Globs}

theorem codecheck_ok (hop : globOf gl 0 = some opEls) (c : List Ins) (hb : c.length ≤ 1000000000) : Con1 Tryd.prog gl 23 [.sl (rowsI c)] [] (dint (if (startsN c).2 = true then 0 else 43)) [] := by
  refine t_in Tryd.func23 ?_
  intro X hP hgl hf hfn hn hR hids hfit
  refine t_g0 ?_
  refine t_c1 trivial (starts_ok hop c hb) ?_
  by_cases h : (startsN c).2 = true
  · refine t_g @h ?_
    refine t_r ?_
    simp [go_sem, hP, hgl, hn, h] <;> (try omega)
  · have h' : (startsN c).2 = false := by simpa using h
    refine t_g @h' ?_
    refine t_r ?_
    simp [go_sem, hP, hgl, hn, h'] <;> (try omega)
end Go.Proofs.YtmdjiajbnifjpaaDoor.Lift

/-
  Package code: Term, walked.
-/
namespace Go.Proofs.YtmdjiajbnifjpaaDoor.Lift
set_option linter.unusedSimpArgs false
set_option linter.unusedVariables false
set_option linter.unnecessarySimpa false
open Go
variable {gl : Globs}

set_option maxHeartbeats 2000000 in
set_option maxRecDepth 10000 in
theorem codeterm_ok (hop : globOf gl 0 = some opEls) (c : List Ins) (hb : c.length ≤ 1000000000) : Con1 Tryd.prog gl 21 [.sl (rowsI c)] [] (.tup [(termC c).1.dv, dint (termC c).2]) [] := by
  refine t_in Tryd.func21 ?_
  intro X hP hgl hf hfn hn hR hids hfit
  refine t_g0 ?_
  refine t_c1 trivial (starts_ok hop c hb) ?_
  by_cases hs : (startsN c).2 = true
  · obtain ⟨bs, rfl, hp, hst⟩ := starts_of (starts_snd hs)
    have htc : termC (lay bs) = (termOf bs, 0) := by rw [termC, if_pos hs, split_lay bs hp.no14]
    have hpos : 0 < bs.length := List.length_pos_iff.2 hp.one
    have hsl : (ints (startsN (lay bs)).1).length = bs.length := by rw [hst]; simp [ints, ends_length]; omega
    have hbl : bs.length ≤ 4096 := by have := hp.len; rw [lay_length] at this; omega
    refine t_rg @hs ?_
    refine t_no ?_
    refine t_a ?_
    refine W_reg [22] fun K hK => ?_
    simp [go_sem, hP, hgl, hn, hs]
    refine vcK_makeMap (by rw [hn]; exact Nat.le_of_ble_eq_true rfl) (by rfl) ?_
    intro bm hbm hwm
    simp [go_sem] at hbm
    simp [go_sem, hP, hgl, hn]
    refine hK _ ?_
    clear hK K
    refine t_rg0 ?_
    refine t_rg0 ?_
    refine t_rg @hsl ?_
    rw [hst]
    have hlay := hp.len
    rw [lay_length] at hlay
    refine t_a ?_
    refine W_sub [] (by simp [go_sem]) ?_ (by simp [go_sem]) (W_rounds (fun x : Nat => x ≤ bs.length)
      (fun x => [(.slot 0, .one (.v (.sl (rowsI (lay bs))))), (.slot 4, .one (.v (.sl (ints (0 :: (ends 0 bs).dropLast))))), (.slot 6, .one (.v (.prim (.map (some bm))))), (.slot 7, .one (.loc 7 0)), (.loc 7, .row [.v (dint 5), .own 0 []]), (.slot 8, .one (.v (dint ((bs.drop x).flatten.length : Nat)))), (.slot 9, .one (.v (dint ((x : Int) - 1)))), (.slot 2, .one (.loc 2 0)), (.loc 2, .row [.v (dint 0), .v (dint 0), .v (dint 0), .own 0 [], .own 0 []]), (.heap bm, .mp (mapD (decAt bs x)))])
      (fun x => x) bs.length (Nat.le_refl _) ?_)
    · simp [go_sem, decAt_end hp.one, mapD]
    rintro x hx ihx
    rcases Nat.eq_zero_or_pos x with h0 | h0
    · subst h0
      have hN : ((bs.drop 0).flatten.length) ≤ 4096 := by rw [List.drop_zero]; omega
      have hN' : ¬ (4096 : Int) < ((bs.drop 0).flatten.length : Nat) := by omega
      generalize hNN : (bs.drop 0).flatten.length = NN at *
      refine t_rg0 ?_
      refine t_no ?_
      refine t_rg @hN' ?_
      refine t_no ?_
      obtain ⟨v0, hv0⟩ : ∃ v, (0, v) ∈ decAt bs 0 := (decAt_keys hp.one bs.length 0 (by omega) 0).2 ⟨0, Nat.le_refl _, hpos, by simp [startAt, lay]⟩
      have hlk := lookM_yes ⟨v0, hv0⟩
      have htt : termOf bs = look (decAt bs 0) 0 := by unfold termOf decAt zipS; rw [List.drop_zero]
      generalize look (decAt bs 0) 0 = tt at hlk htt
      refine t_a ?_
      refine W_reg [] fun K hK => ?_
      simp [go_sem, hP, hgl, hn]
      refine vcK_lookup (b := bm) (n := 0) (dv := tt.dv) (by rw [hn]; exact Nat.le_of_ble_eq_true rfl) (by rw [hP]; kernel_rfl) (by simp [go_sem]) (by simp [go_sem]) (by simp [go_sem]) hlk (by rfl) ?_
      have hcd : cellsD tt.dv = [dint tt.kind, dint tt.index, dint tt.type.kind, .sl (tt.type.args.map Ty.cells), .sl (tt.args.map Tm.cells)] := by rw [← Tm.fold tt]; rfl
      have hfo := Tm.fold tt
      simp [go_sem, hP, hgl, hn, hcd]
      refine hK _ ?_
      clear hK K
      refine t_r ?_
      simp [go_sem, hP, hgl, hn, htc, htt, hfo] <;> (try omega)
    · obtain ⟨k, rfl⟩ : ∃ k, x = k + 1 := ⟨x - 1, by omega⟩
      obtain ⟨b, hb⟩ : ∃ b, bs[k]? = some b := ⟨bs[k]'(by omega), List.getElem?_eq_getElem (by omega)⟩
      obtain ⟨la, le, ll⟩ := lay_at bs hb
      have hgk : (ints (0 :: (ends 0 bs).dropLast))[k]? = some [dint ((startAt bs k : Nat) : Int)] := by
        have := starts_get (bs := bs) (k := k) (by omega)
        simp only [ints, List.getElem?_map, this]
        rfl
      have hkI : (0 : Int) ≤ (k : Int) := by omega
      have hstep := decAt_step hb
      have hrow : ∀ j o a, (lay bs)[startAt bs k + j]? = some (o, a) → (rowsI (lay bs))[startAt bs k + j]? = some [dint o, dint a] := by
        intro j o a h
        simp [rowsI, h, Ins.row]
      have hdk : bs.drop k = b :: bs.drop (k + 1) := by
        rw [List.drop_eq_getElem_cons (by omega)]
        congr 1
        rw [List.getElem?_eq_getElem (by omega)] at hb
        exact Option.some.inj hb
      have hNk : (bs.drop k).flatten.length = b.length + (bs.drop (k + 1)).flatten.length := by rw [hdk]; simp
      generalize hNN : (bs.drop (k + 1)).flatten.length = N at *
      have hNb : (bs.drop k).flatten.length ≤ bs.flatten.length := by
        have h1 : bs.flatten.length = (bs.take k).flatten.length + (bs.drop k).flatten.length := by
          rw [← List.length_append, ← List.flatten_append, List.take_append_drop]
        omega
      have hnokey : lookM (mapD (decAt bs (k + 1))) ((startAt bs k : Nat) : Int) = none := by
        refine lookM_no fun hv => ?_
        obtain ⟨k', h1, h2, h3⟩ := (decAt_keys hp.one (bs.length - (k + 1)) (k + 1) (by omega) _).1 hv
        have := startAt_inj bs (i := k) (k := k') (by omega) (by omega) (by omega)
        omega
      have hfk : ∀ (j : Nat) (a : Int), b[j]? = some (2, a) → lookM (mapD (decAt bs (k + 1))) a = some (look (decAt bs (k + 1)) a).dv := by
        intro j a hj
        obtain ⟨k', h1, h2, h3⟩ := fun_later hp hb hj
        exact lookM_yes ((decAt_keys hp.one (bs.length - (k + 1)) (k + 1) (by omega) a).2 ⟨k', h1, h2, h3⟩)
      have hokj : ∀ (j : Nat) (x : Ins), b[j]? = some x → okI (startAt bs k + j) x = true := by
        intro j x hj
        have hjl := (List.getElem?_eq_some_iff.1 hj).1
        have := okCd_at hp.ok (i := startAt bs k + j) (by rw [la j hjl]; exact hj) (hp.no14 b (List.mem_of_getElem? hb) x (List.mem_of_getElem? hj))
        rwa [Nat.zero_add] at this
      generalize hst0 : startAt bs k = st at *
      generalize decAt bs (k + 1) = D at *
      refine t_rg0 ?_
      refine t_yes ?_
      refine t_rg0 ?_
      refine t_rg @hgk ?_
      refine t_a ?_
      refine W_nilslot 10 (by simp [go_sem]) ?_
      simp [go_sem]
      refine W_sub [] (by simp [go_sem]) ?_ (by simp [go_sem]) (W_rounds (fun y : Nat × RS => y.1 ≤ b.length ∧ y.2.is 5 ((runB (look D) (b.take y.1) []).map Tm.cells) ∧ y.2.q ≠ some bm)
        (fun y => (.slot 0, .one (.v (.sl (rowsI (lay bs))))) :: (.slot 4, .one (.v (.sl (ints (0 :: (ends 0 bs).dropLast))))) :: (.slot 6, .one (.v (.prim (.map (some bm))))) :: (.slot 7, .one (.loc 7 0)) :: (.loc 7, .row [.v (dint 5), .own 0 []]) :: (.slot 8, .one (.v (dint ((N + y.1 : Nat) : Int)))) :: (.slot 9, .one (.v (dint (k : Int)))) :: (.slot 2, .one (.loc 2 0)) :: (.loc 2, .row [.v (dint 0), .v (dint 0), .v (dint 0), .own 0 [], .own 0 []]) :: (.slot 11, .one (.v (dint ((st + y.1 : Nat) : Int)))) :: (.slot 10, .one (.v y.2.v)) :: (.heap bm, .mp (mapD D)) :: heapSt y.2.objs)
        (fun y => b.length - y.1) (0, ⟨none, 0, 0, []⟩) ⟨Nat.zero_le _, ?_, by simp⟩ ?_)
      · simp [go_sem, RS.objs]
      · exact ⟨fun _ => ⟨rfl, rfl⟩, rfl, by simp, Nat.le_refl _, by simp [runB]⟩
      rintro ⟨j, S⟩ ⟨j1', hS, hSb⟩ ihj
      simp only at j1' hS hSb
      have hSn : S.n = (runB (look D) (b.take j) []).length := by rw [hS.n_eq, List.length_map]
      have hrl := runB_le (look D) (b.take j) []
      rw [List.length_take, List.length_nil] at hrl
      have htn : ((st : Int) + (j : Int)).toNat = st + j := by omega
      have hbl2 : st + b.length + 1 ≤ 1000000000 := by omega
      rcases Nat.lt_or_ge j b.length with hjl | hjl
      · obtain ⟨o, a, hx0⟩ : ∃ o a, b[j]? = some (o, a) := ⟨(b[j]'hjl).1, (b[j]'hjl).2, by rw [List.getElem?_eq_getElem hjl]⟩
        have hge := hrow j o a (by rw [la j hjl]; exact hx0)
        have hok := hokj j _ hx0
        obtain ⟨htk, htake⟩ := hts_at (hp.high b (List.mem_of_getElem? hb)) hx0 (look D)
        have hrun : runB (look D) (b.take (j + 1)) [] = stepB (look D) (runB (look D) (b.take j) []) (o, a) := by
          rw [htake, runB_append]; rfl
        simp only [okI, Bool.and_eq_true, decide_eq_true_eq] at hok
        obtain ⟨⟨ho1, ho2⟩, ho3⟩ := hok
        simp only at ho1 ho2 htk
        generalize hstk : runB (look D) (b.take j) [] = stk at *
        obtain ⟨n0, rfl⟩ := Int.eq_ofNat_of_zero_le (by omega : 0 ≤ o)
        have hop1 := opEls_get n0 (by omega) (by omega)
        have hn14 : ¬ n0 = 14 := by omega
        have hn14' : ¬ (n0 : Int) = 14 := by omega
        have hnlt : (n0 : Int) < 14 := by omega
        have hnlt' : n0 < 14 := by omega
        have htk3 : takesI (n0 : Int) ≤ 3 := by
          unfold takesI; repeat' split
          all_goals omega
        refine t_rg (j2 @hge (j2 @htn (j2 @hn14 @hn14'))) ?_
        refine t_yes ?_
        refine t_rg (j2 @hge (j2 @htn (j2 @hop (j2 @hop1 (j2 @hnlt @hnlt'))))) ?_
        refine t_rg0 ?_
        refine t_rg0 ?_
        apply W_cutM (fun _ : Unit => True) (fun _ => (.slot 0, .one (.v (.sl (rowsI (lay bs))))) :: (.slot 4, .one (.v (.sl (ints (0 :: (ends 0 bs).dropLast))))) :: (.slot 6, .one (.v (.prim (.map (some bm))))) :: (.slot 7, .one (.loc 7 0)) :: (.loc 7, .row [.v (dint 5), .own 0 []]) :: (.slot 8, .one (.v (dint ((N + j : Nat) : Int)))) :: (.slot 9, .one (.v (dint (k : Int)))) :: (.slot 2, .one (.loc 2 0)) :: (.loc 2, .row [.v (dint 0), .v (dint 0), .v (dint 0), .own 0 [], .own 0 []]) :: (.slot 11, .one (.v (dint ((st + j : Nat) : Int)))) :: (.slot 10, .one (.v S.v)) :: (.slot 83, .one (.v (dbool (decide ((0 : Int) < ((takesI (n0 : Int) : Nat) : Int)))))) :: (.slot 12, .one (.loc 12 0)) :: (.loc 12, .row [.v (dint (takesI (n0 : Int) : Nat)), .v (dint n0)]) :: (.slot 13, .one (.loc 13 0)) :: (.loc 13, .row [.v (dint n0), .v (dint (if n0 = 1 then a else 0)), .v (dint (if hasTy (n0 : Int) = true then 5 else 0)), .v (.sl []), .v (.sl (if n0 = 2 then [(look D a).cells] else []))]) :: (.heap bm, .mp (mapD D)) :: heapSt S.objs)
        · intro hrest
          have hsl1 : ∀ (σ : Nat → Nat) (v : LV) (s : St), subLe σ ((.heap bm, v) :: s) (heapSt S.objs) = subLe σ s (heapSt S.objs) := fun σ v s => subLe_hs_mp σ hSb v s
          have hsl2 : ∀ σ : Nat → Nat, subLe σ (heapSt S.objs) (heapSt S.objs) = True := fun σ => subLe_hs_self σ S.nodup
          by_cases e1 : n0 = 1
          · subst e1
            refine t_g (j2 @hge @htn) ?_
            refine t_b ?_
            refine W_sub [] (by simp [go_sem]) ?_ (by simp [go_sem]) (hrest () trivial)
            simp [go_sem, hsl1, hsl2, hasTy]
            done
          by_cases e2 : n0 = 2
          · subst e2
            have hlk := hfk j a hx0
            have hfo := Tm.fold (look D a)
            have hcd : cellsD (look D a).dv = [dint (look D a).kind, dint (look D a).index, dint (look D a).type.kind, .sl ((look D a).type.args.map Ty.cells), .sl ((look D a).args.map Tm.cells)] := by rw [← hfo]; rfl
            have hcc := Tm.cells_eq (look D a)
            refine t_g0 ?_
            refine W_regd (by rw [hP]; exact mixed) [] fun K hK => ?_
            simp [go_sem, hP, hgl, hn, hge, htn]
            refine ⟨by omega, ?_⟩
            refine vcdC_lookup (b := bm) (n := a) (ml := mapD D) (dv := (look D a).dv) (fun _ _ => vcd_sound) (by rw [hn]; exact Nat.le_of_ble_eq_true rfl) (by rw [hP]; kernel_rfl) (by simp [go_sem]) (by simp [go_sem]) (by simp [go_sem]) hlk (by rfl) ?_
            simp [go_sem, hP, hgl, hn, hge, htn, hcd]
            refine ⟨by rfl, hK _ ?_⟩
            clear hK K
            refine t_rg0 ?_
            refine t_b ?_
            refine W_sub [] (by simp [go_sem]) ?_ (by simp [go_sem]) (hrest () trivial)
            simp [go_sem, hsl1, hsl2, hasTy, hcc]
          by_cases e3 : n0 = 6 ∨ n0 = 9
          · have e3' : hasTy (n0 : Int) = true := by
              rcases e3 with rfl | rfl <;> rfl
            have ha0 : ¬ (n0 : Int) = 1 := by omega
            have ha1 : ¬ (n0 : Int) = 2 := by omega
            rcases e3 with rfl | rfl
            · refine t_g0 ?_
              refine t_b ?_
              refine W_sub [] (by simp [go_sem]) ?_ (by simp [go_sem]) (hrest () trivial)
              simp [go_sem, hsl1, hsl2, hasTy]
            · refine t_g0 ?_
              refine t_b ?_
              refine W_sub [] (by simp [go_sem]) ?_ (by simp [go_sem]) (hrest () trivial)
              simp [go_sem, hsl1, hsl2, hasTy]
          · have e4 : ¬ n0 = 6 := fun e => e3 (.inl e)
            have e5 : ¬ n0 = 9 := fun e => e3 (.inr e)
            have ha0 : ¬ (n0 : Int) = 1 := by omega
            have ha1 : ¬ (n0 : Int) = 2 := by omega
            have ha2 : ¬ (n0 : Int) = 6 := by omega
            have ha3 : ¬ (n0 : Int) = 9 := by omega
            refine t_g (j2 @e1 (j2 @e2 (j2 @e4 (j2 @e5 (j2 @ha0 (j2 @ha1 (j2 @ha2 @ha3))))))) ?_
            refine t_b ?_
            refine W_sub [] (by simp [go_sem]) ?_ (by simp [go_sem]) (hrest () trivial)
            simp [go_sem, hsl1, hsl2, hasTy, e1, e2, e4, e5, ha0, ha1, ha2, ha3]
        · intro _ _
          have hn0 : n0 = 2 → takesI (n0 : Int) = 0 := fun e => by subst e; rfl
          apply W_cutM (fun S1 : RS => S1.is 5 ((stk.take (stk.length - takesI (n0 : Int))).map Tm.cells) ∧ S1.q ≠ some bm) (fun S1 => (.slot 0, .one (.v (.sl (rowsI (lay bs))))) :: (.slot 4, .one (.v (.sl (ints (0 :: (ends 0 bs).dropLast))))) :: (.slot 6, .one (.v (.prim (.map (some bm))))) :: (.slot 7, .one (.loc 7 0)) :: (.loc 7, .row [.v (dint 5), .own 0 []]) :: (.slot 8, .one (.v (dint ((N + j : Nat) : Int)))) :: (.slot 9, .one (.v (dint (k : Int)))) :: (.slot 2, .one (.loc 2 0)) :: (.loc 2, .row [.v (dint 0), .v (dint 0), .v (dint 0), .own 0 [], .own 0 []]) :: (.slot 11, .one (.v (dint ((st + j : Nat) : Int)))) :: (.slot 10, .one (.v S1.v)) :: (.slot 13, .one (.loc 13 0)) :: (.loc 13, .row [.v (dint n0), .v (dint (if n0 = 1 then a else 0)), .v (dint (if hasTy (n0 : Int) = true then 5 else 0)), .v (.sl []), .v (.sl ((if n0 = 2 then [look D a] else stk.drop (stk.length - takesI (n0 : Int))).map Tm.cells))]) :: (.heap bm, .mp (mapD D)) :: heapSt S1.objs)
          · intro hrest
            by_cases ht0 : takesI (n0 : Int) = 0
            · have hsl1 : ∀ (σ : Nat → Nat) (v : LV) (s : St), subLe σ ((.heap bm, v) :: s) (heapSt S.objs) = subLe σ s (heapSt S.objs) := fun σ v s => subLe_hs_mp σ hSb v s
              have hsl2 : ∀ σ : Nat → Nat, subLe σ (heapSt S.objs) (heapSt S.objs) = True := fun σ => subLe_hs_self σ S.nodup
              have hargs : ((if n0 = 2 then [look D a] else stk.drop (stk.length - takesI (n0 : Int))).map Tm.cells) = if n0 = 2 then [(look D a).cells] else [] := by
                rw [ht0]
                split
                · rfl
                · simp
              rw [ht0, Nat.sub_zero, List.take_length] at hrest
              rw [ht0, Nat.sub_zero] at hargs
              refine t_a ?_
              refine W_cond rfl ?_ ?_
              · intro h; rw [ht0] at h; simp at h
              intro _
              refine t_b ?_
              refine W_sub [] (by simp [go_sem]) ?_ (by simp [go_sem]) (hrest S ⟨hS, hSb⟩)
              rw [hargs]
              simp [go_sem, hsl1, hsl2]
            · have htp : 0 < takesI (n0 : Int) := Nat.pos_of_ne_zero ht0
              have hn2 : ¬ n0 = 2 := fun e => ht0 (hn0 e)
              have hlt0 : (0 : Int) < ((takesI (n0 : Int) : Nat) : Int) := by omega
              obtain ⟨aS, haS⟩ := hS.there (by intro e; have := congrArg List.length e; simp at this; rw [this] at htk; simp at htk; omega)
              have hgS := RS.get_objs haS
              have hSv : S.v = rawS aS S.n S.cap := by unfold RS.v rawQ; rw [haS]; rfl
              have hbne : ¬ bm = aS := fun e => hSb (by rw [haS, e])
              generalize hT : takesI (n0 : Int) = tk at *
              have hlo : ((S.n : Int) - (tk : Int)).toNat = S.n - tk := by omega
              have hcap := hS.le
              have hdrop : (S.full.drop (S.n - tk)).take tk = (stk.drop (stk.length - tk)).map Tm.cells := by
                have h1 := hS.els
                have h2 : ((S.full.take S.n).drop (S.n - tk)) = (S.full.drop (S.n - tk)).take tk := by
                  rw [List.drop_take]
                  congr 1
                  omega
                rw [← h2, h1, hSn, List.map_drop]
              have hS2 : RS.is ⟨S.q, S.n - tk, S.cap, S.full⟩ 5 ((stk.take (stk.length - tk)).map Tm.cells) := by
                refine ⟨fun e => (by rw [haS] at e; cases e), hS.len, hS.wid, by show S.n - tk ≤ S.cap; omega, ?_⟩
                show S.full.take (S.n - tk) = _
                have h1 := congrArg (List.take (S.n - tk)) hS.els
                rw [List.take_take, Nat.min_eq_left (by omega), ← List.map_take, hSn] at h1
                rw [hSn]
                exact h1
              refine t_a ?_
              refine W_cond rfl ?_ ?_
              rotate_left
              · intro h; rw [decide_eq_true hlt0] at h; cases h
              intro _
              refine t_a ?_
              refine W_reg [90, 91] fun K hK => ?_
              simp [go_sem, hP, hgl, hn, hSv]
              repeat (refine ⟨by omega, ?_⟩)
              refine vcK_sliceR (E := 5) (b := aS) (n := S.n) (cap := S.cap) (l := (S.n : Int) - tk) (by simp [go_sem, hP]) (by rw [hn]; exact Nat.le_of_ble_eq_true rfl) (by simp [go_sem]) (by simp [go_sem]; rfl) (by omega) (by omega) (by omega) hcap (by rfl) ?_
              rw [hlo]
              simp [go_sem, hP, hgl, hn]
              have hk2 : S.n - (S.n - tk) = tk := by omega
              rw [hk2]
              refine vcK_appendV (E := 5) (B := 72) (b := aS) (lo := S.n - tk) (k := tk) (cap := S.cap - (S.n - tk)) (full := S.full) (by simp [go_sem, hP]) (by decide) (by rw [hP]; rfl) (by rw [hn]; exact Nat.le_of_ble_eq_true rfl) (by simp [go_sem]) (by simp [go_sem]) (by simp [go_sem, hbne, hgS]) hS.wid (by rw [hS.len]; omega) htp (by unfold BIG; omega) (by rfl) ?_
              rw [hdrop]
              simp [go_sem, hP, hgl, hn]
              refine hK _ ?_
              clear hK K
              refine t_rg @hSv ?_
              refine t_b ?_
              have hv2 : RS.v ⟨S.q, S.n - tk, S.cap, S.full⟩ = rawS aS (S.n - tk) S.cap := by unfold RS.v rawQ; rw [haS]; rfl
              have hob : RS.objs ⟨S.q, S.n - tk, S.cap, S.full⟩ = S.objs := rfl
              have hsl1 : ∀ (σ : Nat → Nat) (v : LV) (s : St), subLe σ ((.heap bm, v) :: s) (heapSt S.objs) = subLe σ s (heapSt S.objs) := fun σ v s => subLe_hs_mp σ hSb v s
              have hsl2 : ∀ σ : Nat → Nat, subLe σ (heapSt S.objs) (heapSt S.objs) = True := fun σ => subLe_hs_self σ S.nodup
              refine W_sub [] (by simp [go_sem]) ?_ (by simp [go_sem]) (hrest ⟨S.q, S.n - tk, S.cap, S.full⟩ ⟨hS2, hSb⟩)
              rw [hv2, hob, if_neg hn2]
              simp [go_sem, hsl1, hsl2]
          · rintro S1 ⟨hS1, hS1b⟩
            have hS1n : S1.n ≤ 1000000000 := by
              rw [hS1.n_eq]
              simp only [List.length_map, List.length_take]
              omega
            refine t_a ?_
            refine W_reg [103] fun K hK => ?_
            simp [go_sem, hP, hgl, hn]
            refine vcK_effM (x := S1) (E := 5) (zs := [[dint n0, dint (if n0 = 1 then a else 0), dint (if hasTy (n0 : Int) = true then 5 else 0), .sl [], .sl ((if n0 = 2 then [look D a] else stk.drop (stk.length - takesI (n0 : Int))).map Tm.cells)]]) rfl (by repeat (first | exact TailM.nil | apply TailM.slot | apply TailM.loc)) rfl hS1 hS1b (free_append (E := 5) (B := 72) (zd := [dint 0, dint 0, dint 0, .sl [], .sl []]) rfl rfl (by rw [hn]; exact Nat.le_of_ble_eq_true rfl) (by simp [go_sem, hP]) (by decide) (by rw [hP]; rfl) (by simp [go_sem, hP, hgl, hn]) (by simp [go_sem, hP, hgl, hn]) (fun b' hb' => ?_) hS1.nil hS1.len hS1.le (by simp) (by simp; unfold BIG; omega) hS1.wid (by simp) (by rw [hP]; kernel_rfl) rfl) (by rfl) ?_
            · have hbne : ¬ bm = b' := fun e => hS1b (by rw [hb', e])
              have := RS.get_objs hb'
              simp [go_sem, hbne, this]
            · intro S2 hS2 hS2b
              simp [go_sem, hP, hgl, hn]
              refine hK _ ?_
              clear hK K
              generalize (if n0 = 2 then [look D a] else stk.drop (stk.length - takesI (n0 : Int))) = ags
              repeat (first | refine W_seq ?_ | refine W_skip ?_ | refine W_block ?_ | refine W_inBlock ?_ | refine W_label ?_ | refine W_exit rfl ?_)
              first | refine W_reg [] fun K hK => ?_ | refine W_regd (by rw [hP]; exact mixed) [] fun K hK => ?_
              simp [go_sem, hP, hgl, hn]
              repeat (refine ⟨by omega, ?_⟩)
              first | refine hK _ ?_ | refine ⟨by rfl, hK _ ?_⟩
              clear hK K
              repeat (first | refine W_seq ?_ | refine W_skip ?_ | refine W_block ?_ | refine W_inBlock ?_ | refine W_label ?_ | refine W_exit rfl ?_)
              first | refine W_reg [] fun K hK => ?_ | refine W_regd (by rw [hP]; exact mixed) [] fun K hK => ?_
              simp [go_sem, hP, hgl, hn]
              repeat (refine ⟨by omega, ?_⟩)
              first | refine hK _ ?_ | refine ⟨by rfl, hK _ ?_⟩
              clear hK K
              refine t_b ?_
              have hsl1 : ∀ (σ : Nat → Nat) (v : LV) (s : St), subLe σ ((.heap bm, v) :: s) (heapSt S2.objs) = subLe σ s (heapSt S2.objs) := fun σ v s => subLe_hs_mp σ hS2b v s
              have hsl2 : ∀ σ : Nat → Nat, subLe σ (heapSt S2.objs) (heapSt S2.objs) = True := fun σ => subLe_hs_self σ S2.nodup
              refine W_sub [] (by simp [go_sem]) ?_ (by simp [go_sem]) (ihj (j + 1, S2) ⟨hjl, ?_, hS2b⟩ (by simp only; omega))
              · simp [go_sem, hsl1, hsl2]
                omega
              · rw [hrun]
                have hce : (Tm.mk (n0 : Int) (if (n0 : Int) = 1 then a else 0) (if hasTy (n0 : Int) = true then uTy else zTy) (if (n0 : Int) = 2 then [look D a] else stk.drop (stk.length - takesI (n0 : Int)))).cells = [dint n0, dint (if n0 = 1 then a else 0), dint (if hasTy (n0 : Int) = true then 5 else 0), .sl [], .sl ((if n0 = 2 then [look D a] else stk.drop (stk.length - takesI (n0 : Int))).map Tm.cells)] := by
                  rw [Tm.cells_eq]
                  simp only [Tm.kind_mk, Tm.index_mk, Tm.type_mk, Tm.args_mk]
                  have h1 : ((n0 : Int) = 1) = (n0 = 1) := by apply propext; omega
                  have h2 : ((n0 : Int) = 2) = (n0 = 2) := by apply propext; omega
                  simp only [h1, h2]
                  by_cases h5 : hasTy (n0 : Int) = true
                  · simp only [h5, if_true]; rfl
                  · simp only [h5]; rfl
                unfold stepB
                rw [List.map_append, List.map_cons, List.map_nil, hce]
                exact hS2
      · have hje : j = b.length := by omega
        subst hje
        have hge := hrow b.length 14 0 le
        refine t_rg (j2 @hge @htn) ?_
        refine t_no ?_
        have hlen1 := runB_len (look D) b [] 1 (by simpa using hp.high b (List.mem_of_getElem? hb))
        rw [List.take_length] at hS
        obtain ⟨tt, htt⟩ : ∃ tt, runB (look D) b [] = [tt] := List.length_eq_one_iff.1 (by omega)
        rw [htt] at hS hstep
        obtain ⟨aS, haS⟩ := hS.there (by simp)
        have hgS := RS.get_objs haS
        have hSv : S.v = rawS aS S.n S.cap := by unfold RS.v rawQ; rw [haS]; rfl
        have hSn1 : S.n = 1 := by rw [hS.n_eq]; rfl
        have hbne : ¬ bm = aS := fun e => hSb (by rw [haS, e])
        have hrd := arrRow_rd hS.wid (hS.at (i := 0) rfl)
        rw [Tm.cells_eq tt] at hrd
        simp only [Nat.zero_mul, List.drop_zero] at hrd
        have hfo := Tm.fold tt
        generalize hφ : S.objs = φs at hgS ⊢
        refine t_a ?_
        refine W_regT (by rw [hP]; exact mixed) 8 (by decide) (by rfl) [] [] fun K hK => ?_
        simp [go_sem, hP, hgl, hn, hgS, hSv, hrd, hbne, hgk, hSn1, hfo]
        repeat (refine ⟨by omega, ?_⟩)
        refine ⟨by rfl, ?_⟩
        refine vcK_mapUpdate (b := bm) (n := st) (ml := mapD D) (dv := tt.dv) (by rw [hP]; kernel_rfl) (by simp [go_sem]) (by simp [go_sem]) (by simp [go_sem]) (by simp [go_sem]) hnokey (by rfl) ?_
        simp [go_sem]
        refine hK _ ?_
        clear hK K
        refine t_rg0 ?_
        refine t_b ?_
        refine W_sub [] (by simp [go_sem]) ?_ (by simp [go_sem]) (ihx k (by omega) (by omega))
        have e1 : mapD (decAt bs k) = mapD D ++ [((st : Int), tt.dv)] := by rw [hstep, mapD_app]; rfl
        rw [e1, hNk]
        simp [go_sem]
        omega
  · have hs' : (startsN c).2 = false := by simpa using hs
    have htc : termC c = (.mk 0 0 zTy [], 43) := by rw [termC, if_neg hs]
    refine t_g @hs' ?_
    refine t_r ?_
    simp [go_sem, hP, hgl, hn, htc, zTy] <;> (try omega)
    all_goals exact t_f
end Go.Proofs.YtmdjiajbnifjpaaDoor.Lift

/-
  The laws of layer 37: small functions of the reference, and untyped.
-/
namespace Go.Proofs.YtmdjiajbnifjpaaDoor.Lift
set_option linter.unusedSimpArgs false
set_option linter.unusedVariables false
set_option linter.unnecessarySimpa false
open Go
variable {gl : Globs}

set_option maxHeartbeats 1000000 in
theorem same37_ok (a b : List Ins) (ha : a.length ≤ 1000000000) (hb : b.length ≤ 1000000000) : Con1 Tryd.prog gl 19 [.sl (rowsI a), .sl (rowsI b)] [] (dbool (decide (a = b))) [] := by
  refine t_in Tryd.func19 ?_
  intro X hP hgl hf hfn hn hR hids hfit
  have hal : (rowsI a).length = a.length := by simp [rowsI]
  have hbl : (rowsI b).length = b.length := by simp [rowsI]
  refine t_rg0 ?_
  by_cases hl : a.length = b.length
  rotate_left
  · have hne : ¬ a = b := fun e => hl (by rw [e])
    refine t_g (j2 @hal (j2 @hbl @hl)) ?_
    refine t_r ?_
    simp [go_sem, hP, hgl, hn, hne] <;> (try omega)
  · refine t_rg (j2 @hal (j2 @hbl @hl)) ?_
    refine t_no ?_
    refine t_rg0 ?_
    refine t_a ?_
    refine t_sub [] trivial (W_rounds (fun i : Nat => i ≤ a.length ∧ a.take i = b.take i) (fun i : Nat => [(.slot 0, .one (.v (.sl (rowsI a)))), (.slot 1, .one (.v (.sl (rowsI b)))), (.slot 5, .one (.v (dint i)))]) (fun i : Nat => a.length - i) 0 (⟨Nat.zero_le _, rfl⟩) ?_)
    rintro i ⟨i1, i2⟩ ihr
    rcases Nat.lt_or_ge i a.length with hi | hi
    · obtain ⟨o, x, hx⟩ : ∃ o x, a[i]? = some (o, x) := ⟨(a[i]'hi).1, (a[i]'hi).2, by rw [List.getElem?_eq_getElem hi]⟩
      obtain ⟨p, y, hy⟩ : ∃ p y, b[i]? = some (p, y) := ⟨(b[i]'(by omega)).1, (b[i]'(by omega)).2, by rw [List.getElem?_eq_getElem (by omega)]⟩
      have hx' : (rowsI a)[i]? = some [dint o, dint x] := by simp [rowsI, hx, Ins.row]
      have hy' : (rowsI b)[i]? = some [dint p, dint y] := by simp [rowsI, hy, Ins.row]
      refine t_rg @hal ?_
      refine t_yes ?_
      refine t_a ?_
      refine W_regT (by rw [hP]; exact mixed) 8 (by decide) (by rfl) [] [] fun K hK => ?_
      simp [go_sem, hP, hgl, hn, hx', hy']
      repeat (refine ⟨by omega, ?_⟩)
      refine ⟨by rfl, ?_⟩
      refine vcK_eqS (a := o) (b := x) (c := p) (e := y) true (by rw [hn]; exact Nat.le_of_ble_eq_true rfl) (by rw [hP]; kernel_rfl) (by simp [go_sem]) (by simp [go_sem]) rfl (by rfl) ?_
      simp [go_sem]
      refine hK _ ?_
      clear hK K
      by_cases he : o = p ∧ x = y
      · obtain ⟨rfl, rfl⟩ := he
        have hr : eqR true o x o x = false := by simp [eqR]
        rw [hr]
        refine t_gt (wr []) trivial trivial (ihr (i + 1) ⟨hi, by rw [List.take_add_one, List.take_add_one, i2, hx, hy]⟩ (by omega))
      · have hr : eqR true o x p y = true := by
          simp only [eqR, if_true]
          simp only [Bool.not_eq_true', Bool.and_eq_false_iff, decide_eq_false_iff_not]
          by_cases h1 : o = p
          · exact .inr fun h2 => he ⟨h1, h2⟩
          · exact .inl h1
        have hne : ¬ a = b := by
          intro e
          subst e
          rw [hx] at hy
          have := Option.some.inj hy
          exact he ⟨(Prod.mk.inj this).1, (Prod.mk.inj this).2⟩
        rw [hr]
        refine t_g0 ?_
        refine t_r ?_
        simp [go_sem, hP, hgl, hn, hne] <;> (try omega)
    · have hie : i = a.length := by omega
      have heq : a = b := by
        rw [hie, List.take_length, hl, List.take_length] at i2
        exact i2
      refine t_rg @hal ?_
      refine t_no ?_
      refine t_g0 ?_
      refine t_r ?_
      simp [go_sem, hP, hgl, hn, heq] <;> (try omega)

end Go.Proofs.YtmdjiajbnifjpaaDoor.Lift

/-
  The laws of layer 37: the sanity check.
-/
namespace Go.Proofs.YtmdjiajbnifjpaaDoor.Lift
set_option linter.unusedSimpArgs false
set_option linter.unusedVariables false
set_option linter.unnecessarySimpa false
open Go
variable {gl : Globs}

/-- a term's program is valid, and leads back -/
theorem codeN_back (t : Tm) (h : t.shape = true) (hl : t.codeN.length ≤ 4096) : (startsN t.codeN).2 = true ∧ termC t.codeN = (t.untyped, 0) := by
  have hp := code_prg t h hl
  have h1 := starts_to hp
  rw [← code_lay] at h1
  have h2 : (startsN t.codeN).2 = true := by rw [h1]
  refine ⟨h2, ?_⟩
  rw [termC, if_pos h2, code_lay, split_lay _ hp.no14, code_back t h]

/-- the identity -/
def idT : Tm := .mk 2 0 (.mk 1 []) [.mk 1 0 (.mk 0 []) []]
theorem idT_code : idT.codeN = [(2, 2), (14, 0), (1, 0), (14, 0)] := by
  have h1 : Tm.bfs [idT] = [idT, .mk 1 0 (.mk 0 []) []] := by
    rw [Tm.bfs_cons]
    have e1 : ([] : List Tm) ++ idT.subs = [.mk 1 0 (.mk 0 []) []] := rfl
    rw [e1, Tm.bfs_cons]
    have e2 : ([] : List Tm) ++ (Tm.mk 1 0 (.mk 0 []) []).subs = [] := rfl
    rw [e2, Tm.bfs_nil]
  unfold Tm.codeN Tm.blocks
  rw [h1]
  rfl
theorem idT_comp : idT.compN = ([(2, 2), (14, 0), (1, 0), (14, 0)], 0) := by
  unfold Tm.compN
  rw [idT_code]
  rfl
theorem idT_back : (startsN [(2, 2), (14, 0), (1, 0), (14, 0)]).2 = true ∧ termC [(2, 2), (14, 0), (1, 0), (14, 0)] = (idT.untyped, 0) := by
  rw [← idT_code]
  exact codeN_back idT rfl (by rw [idT_code]; decide)

set_option maxHeartbeats 1000000 in
set_option maxRecDepth 10000 in
theorem awake37_ok (har : globOf gl 1 = some arEls) (hop : globOf gl 0 = some opEls) : Con1 Tryd.prog gl 8 [] [] (dbool true) [] := by
  have w1 := compile_ok (gl := gl) har hop idT (by simp [idT, Tm.tys, Tm.tys.tyss, Ty.count, Ty.count.counts]) (by decide)
  rw [idT_comp] at w1
  have w2 := codeterm_ok (gl := gl) hop [(2, 2), (14, 0), (1, 0), (14, 0)] (by decide)
  rw [idT_back.2] at w2
  have w3 := codecheck_ok (gl := gl) hop [(2, 2), (14, 0), (1, 0), (14, 0)] (by decide)
  rw [if_pos idT_back.1] at w3
  have w4 := codecheck_ok (gl := gl) hop [] (by decide)
  refine t_in Tryd.func8 ?_
  intro X hP hgl hf hfn hn hR hids hfit
  have hid : DV.agg [.prim (.int .i64 2), .prim (.int .i64 0), .prim (.int .i64 1), .sl [], .sl [[.prim (.int .i64 1), .prim (.int .i64 0), .prim (.int .i64 0), .sl [], .sl []]]] = idT.dv := rfl
  have hu : idT.untyped = .mk 2 0 (.mk 5 []) [.mk 1 0 (.mk 0 []) []] := rfl
  have hr : rowsI [(2, 2), (14, 0), (1, 0), (14, 0)] = [[dint 2, dint 2], [dint 14, dint 0], [dint 1, dint 0], [dint 14, dint 0]] := rfl
  have hr0 : rowsI [] = [] := rfl
  have hs0 : (startsN []).2 = false := rfl
  refine t_g0 ?_
  refine t_c1 @hid w1 ?_
  refine t_c1 trivial w2 ?_
  rw [hu]
  rw [hr] at w3
  rw [hr0, hs0] at w4
  repeat (first | refine W_seq ?_ | refine W_skip ?_ | refine W_block ?_ | refine W_inBlock ?_ | refine W_label ?_ | refine W_exit rfl ?_)
  first | refine W_reg [] fun K hK => ?_ | refine W_regd (by rw [hP]; exact mixed) [] fun K hK => ?_
  simp [go_sem, hP, hgl, hn, hr]
  refine vcK_eqSG (dj := 31) (a := 2) (b := 2) (c := 2) (e := 2) false (by rw [hn]; exact Nat.le_of_ble_eq_true rfl) (by rw [hP]; kernel_rfl) (by simp [go_sem]) (by simp [go_sem]) rfl (by rfl) (by simp [go_sem]) (by rw [hn]; exact Nat.le_of_ble_eq_true rfl) (by simp [go_sem]) ?_
  have he : eqR false 2 2 2 2 = true := rfl
  rw [he]
  simp [go_sem, hP, hgl, hn]
  refine t_c trivial (w3) ?_
  refine t_c trivial (w4) ?_
  refine t_e ?_
  clear hK K
  refine t_r ?_
  simp [go_sem, hP, hgl, hn] <;> (try omega)
end Go.Proofs.YtmdjiajbnifjpaaDoor.Lift

/-
  The law CodeBent, walked.
-/
namespace Go.Proofs.YtmdjiajbnifjpaaDoor.Lift
set_option linter.unusedSimpArgs false
set_option linter.unusedVariables false
set_option linter.unnecessarySimpa false
open Go
variable {gl : Globs}

set_option maxHeartbeats 2000000 in
set_option maxRecDepth 100000 in
theorem codeBent_ok (har : globOf gl 1 = some arEls) (hop : globOf gl 0 = some opEls) (l : List Int) : Con1 Tryd.prog gl 6 [.sl (ints l)] [] (dbool true) [] := by
  have wa := awake37_ok har hop
  refine t_in Tryd.func6 ?_
  intro X hP hgl hf hfn hn hR hids hfit
  by_cases hl : l.length ≤ 500
  rotate_left
  · refine t_g0 ?_
    refine t_c2 @hl wa (few_ok l) ?_
    refine t_g0 ?_
    refine t_c1 trivial wa ?_
    refine t_r ?_
    simp [go_sem, hP, hgl, hn] <;> (try omega)
  refine t_g0 ?_
  refine t_c2 @hl wa (few_ok l) ?_
  refine t_g0 ?_
  refine t_a ?_
  refine W_reg [] fun K hK => ?_
  simp [go_sem, hP, hgl, hn]
  repeat (refine ⟨by omega, ?_⟩)
  refine vcK_callR hP hgl (new_ok l) (by simp [go_sem]) rfl (by simp [go_sem]) (by simp) (by rw [hn]; exact Nat.le_of_ble_eq_true rfl) ?_
  rintro r φ ⟨b0, rfl, rfl⟩ -
  simp [go_sem, hP, hgl, hn]
  refine vcK_callR hP hgl (play_code_ok b0 l 0 hl (by omega)) (by simp [go_sem]) rfl (by simp [go_sem, objsIn]) (by simp) (by rw [hn]; exact Nat.le_of_ble_eq_true rfl) ?_
  rintro r φ ⟨c, q, hcl, hq, rfl, rfl⟩ -
  simp [go_sem, hP, hgl, hn]
  refine hK _ ?_
  clear hK K
  have w1 := codeterm_ok (gl := gl) hop c (by omega)
  have w2 := codecheck_ok (gl := gl) hop c (by omega)
  by_cases hs : (startsN c).2 = true
  · obtain ⟨bs, rfl, hp, hst⟩ := starts_of (starts_snd hs)
    have htc : termC (lay bs) = (termOf bs, 0) := by rw [termC, if_pos hs, split_lay bs hp.no14]
    obtain ⟨g1, g2, g3⟩ := code_bent hp
    have hlen := hp.len
    have w3 := compile_ok (gl := gl) har hop (termOf bs) (shape_tys _ g1) (by omega)
    have k1 : (termOf bs).compN = (lay bs, 0) := by
      rcases compN_cases (termOf bs) g1 g3 with ⟨k1, -⟩ | k1
      · rw [k1, g2]
      · exfalso
        rw [compN_of _ g1 g3, g2, if_neg (by omega)] at k1
        have k2 : (0 : Int) = 4 := congrArg Prod.snd k1
        omega
    rw [k1] at w3
    rw [htc] at w1
    rw [if_pos hs] at w2
    have w4 := same37_ok (gl := gl) (lay bs) (lay bs) (by omega) (by omega)
    rw [decide_eq_true rfl] at w4
    generalize termOf bs = t at *
    have hfa := Tm.fold t
    have hcd : cellsD t.dv = [dint t.kind, dint t.index, dint t.type.kind, .sl (t.type.args.map Ty.cells), .sl (t.args.map Tm.cells)] := by rw [← hfa]; rfl
    refine t_c1 @hcd w1 ?_
    refine t_g @hcd ?_
    refine t_c1 @hfa w3 ?_
    refine t_g0 ?_
    refine t_c2 @hfa w4 w2 ?_
    refine t_r ?_
    simp [go_sem, hP, hgl, hn] <;> (try omega)
  · have htc : termC c = (.mk 0 0 zTy [], 43) := by rw [termC, if_neg hs]
    rw [htc] at w1
    rw [if_neg hs] at w2
    have hfa := Tm.fold (.mk 0 0 zTy [])
    have hcd : cellsD (Tm.mk 0 0 zTy []).dv = [dint 0, dint 0, dint 0, .sl [], .sl []] := rfl
    refine t_c1 @hcd w1 ?_
    refine t_g @hcd ?_
    refine t_c1 trivial w2 ?_
    refine t_r ?_
    simp [go_sem, hP, hgl, hn] <;> (try omega)
end Go.Proofs.YtmdjiajbnifjpaaDoor.Lift

