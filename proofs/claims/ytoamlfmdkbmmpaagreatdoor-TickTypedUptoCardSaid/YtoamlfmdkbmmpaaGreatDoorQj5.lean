import Derived.Test.YtoamlfmdkbmmpaaGreatDoorQj4
/-
 Package typing: the type of a node whose parts have types that fit.
-/
namespace Go.Proofs.YtoamlfmdkbmmpaaGreatDoor.Lift
set_option linter.unusedSimpArgs false
set_option linter.unusedVariables false
set_option linter.unnecessarySimpa false
open Go
section
variable {gl : Globs}

def szZ : List DV := [dint 0, .sl [], dint 0]
def szO : Option Ty → List DV
 | some t => szC t
 | none => szZ
/-- three types with their sizes, as an array's cells -/
def sz3 (l : List Ty) : List DV := szO l[0]? ++ (szO l[1]? ++ szO l[2]?)
theorem sz3_0 : sz3 [] = [dint 0, .sl [], dint 0, dint 0, .sl [], dint 0, dint 0, .sl [], dint 0] := rfl
theorem sz3_1 (a : Ty) : sz3 [a] = [dint a.kind, .sl (a.args.map Ty.cells), dint (a.count : Int), dint 0, .sl [], dint 0, dint 0, .sl [], dint 0] := rfl
theorem sz3_2 (a b : Ty) : sz3 [a, b] = [dint a.kind, .sl (a.args.map Ty.cells), dint (a.count : Int), dint b.kind, .sl (b.args.map Ty.cells), dint (b.count : Int), dint 0, .sl [], dint 0] := rfl
theorem sz3_3 (a b c : Ty) : sz3 [a, b, c] = [dint a.kind, .sl (a.args.map Ty.cells), dint (a.count : Int), dint b.kind, .sl (b.args.map Ty.cells), dint (b.count : Int), dint c.kind, .sl (c.args.map Ty.cells), dint (c.count : Int)] := rfl

theorem ty_step_ok (t : Tm) : Con1 Tryz.prog gl 152 [t.dv] [] (funT t.type (if t.kind = 9 then [Ty.mk 1 [], Ty.mk 2 [], t.type] else [Ty.mk 1 [], t.type])).dv [] := by
 refine t_in Tryz.func152 ?_
 intro X hP hgl hf hfn hn hR hids hfit
 have hfo := Ty.fold t.type
 have hc := Ty.cells_eq t.type
 by_cases h : t.kind = 9
 ·have w := fun_t_ok (gl := gl) t.type [Ty.mk 1 [], Ty.mk 2 [], t.type]
  refine t_g @h ?_
  refine t_c3 (j2 @h (j2 @hfo (j2 @hc (j2 @nat_v @list_v)))) nat_t_ok list_t_ok w ?_
  refine t_r ?_
  simp [go_sem, hP, hgl, hn, h] <;> (try omega)
  all_goals exact t_f
 ·have w := fun_t_ok (gl := gl) t.type [Ty.mk 1 [], t.type]
  refine t_g @h ?_
  refine t_c2 (j2 @h (j2 @hfo (j2 @hc @nat_v))) nat_t_ok w ?_
  refine t_r ?_
  simp [go_sem, hP, hgl, hn, h] <;> (try omega)
  all_goals exact t_f

theorem of_dv (k : Int) : (Ty.mk k []).dv = .agg [dint k, .sl []] := rfl
theorem szC_k (k : Int) : szC (Ty.mk k []) = [dint k, .sl [], dint 1] := rfl

theorem node_k4 (t : Tm) (h : t.kind = 4) : Con1 Tryz.prog gl 122 [t.dv, .agg (sz3 [])] [] (.tup [.agg (szC (Ty.mk 1 [])), dint 0]) [] := by
 rw [sz3_0]
 have wp := ty_plain_ok (gl := gl) 4
 rw [if_pos rfl] at wp
 have wo := ty_of_ok (gl := gl) (Ty.mk 1 []) ok_nat
 rw [of_dv, szC_k] at wo
 rw [szC_k]
 refine t_in Tryz.func122 ?_
 intro X hP hgl hf hfn hn hR hids hfit
 have hi : ints [1] = [[dint 1]] := rfl
 rw [hi] at wp
 refine t_g @h ?_
 refine t_c1 @h wp ?_
 refine t_g0 ?_
 refine W_loop ?_
 refine t_g0 ?_
 refine t_c1 trivial wo ?_
 refine t_r ?_
 simp [go_sem, hP, hgl, hn] <;> (try omega)

theorem node_k7 (t : Tm) (h : t.kind = 7) : Con1 Tryz.prog gl 122 [t.dv, .agg (sz3 [])] [] (.tup [.agg (szC (Ty.mk 2 [])), dint 0]) [] := by
 rw [sz3_0]
 have wp := ty_plain_ok (gl := gl) 7
 rw [if_neg (by decide), if_neg (by decide), if_pos rfl] at wp
 have wo := ty_of_ok (gl := gl) (Ty.mk 2 []) ok_list
 rw [of_dv, szC_k] at wo
 rw [szC_k]
 refine t_in Tryz.func122 ?_
 intro X hP hgl hf hfn hn hR hids hfit
 have hi : ints [2] = [[dint 2]] := rfl
 rw [hi] at wp
 refine t_g @h ?_
 refine t_c1 @h wp ?_
 refine t_g0 ?_
 refine W_loop ?_
 refine t_g0 ?_
 refine t_c1 trivial wo ?_
 refine t_r ?_
 simp [go_sem, hP, hgl, hn] <;> (try omega)

theorem node_k13 (t : Tm) (h : t.kind = 13) : Con1 Tryz.prog gl 122 [t.dv, .agg (sz3 [])] [] (.tup [.agg (szC (Ty.mk 5 [])), dint 0]) [] := by
 rw [sz3_0]
 have wp := ty_plain_ok (gl := gl) 13
 rw [if_neg (by decide), if_neg (by decide), if_neg (by decide), if_neg (by decide), if_pos rfl] at wp
 have wo := ty_of_ok (gl := gl) (Ty.mk 5 []) ok_unit
 rw [of_dv, szC_k] at wo
 rw [szC_k]
 refine t_in Tryz.func122 ?_
 intro X hP hgl hf hfn hn hR hids hfit
 have hi : ints [5] = [[dint 5]] := rfl
 rw [hi] at wp
 refine t_g @h ?_
 refine t_c1 @h wp ?_
 refine t_g0 ?_
 refine W_loop ?_
 refine t_g0 ?_
 refine t_c1 trivial wo ?_
 refine t_r ?_
 simp [go_sem, hP, hgl, hn] <;> (try omega)

theorem node_k5 (t : Tm) (h : t.kind = 5) : Con1 Tryz.prog gl 122 [t.dv, .agg (sz3 [Ty.mk 1 []])] [] (.tup [.agg (szC (Ty.mk 1 [])), dint 0]) [] := by
 rw [sz3_1]
 have wp := ty_plain_ok (gl := gl) 5
 rw [if_neg (by decide), if_pos rfl] at wp
 have wo := ty_of_ok (gl := gl) (Ty.mk 1 []) ok_nat
 have wi := ty_is_ok (gl := gl) (Ty.mk 1 []) 1
 rw [of_dv, szC_k] at wo
 rw [szC_k] at wi ⊢
 have hi : ints [1, 1] = [[dint 1], [dint 1]] := rfl
 have hd : decide ((Ty.mk 1 []).kind = 1) = true := rfl
 have hk : (Ty.mk 1 []).kind = 1 := rfl
 have ha : (Ty.mk 1 []).args = [] := rfl
 have hc : (Ty.mk 1 []).count = 1 := rfl
 rw [hi] at wp
 rw [hd] at wi
 rw [hk, ha, hc]
 refine t_in Tryz.func122 ?_
 intro X hP hgl hf hfn hn hR hids hfit
 refine t_g @h ?_
 refine t_c1 @h wp ?_
 refine t_g0 ?_
 refine W_loop ?_
 refine t_g0 ?_
 refine t_c1 trivial wi ?_
 refine t_g0 ?_
 refine W_inLoop ?_
 refine t_g0 ?_
 refine t_c1 trivial wo ?_
 refine t_r ?_
 simp [go_sem, hP, hgl, hn] <;> (try omega)

theorem node_k8 (t : Tm) (h : t.kind = 8) : Con1 Tryz.prog gl 122 [t.dv, .agg (sz3 [Ty.mk 1 [], Ty.mk 2 []])] [] (.tup [.agg (szC (Ty.mk 2 [])), dint 0]) [] := by
 rw [sz3_2]
 have wp := ty_plain_ok (gl := gl) 8
 rw [if_neg (by decide), if_neg (by decide), if_neg (by decide), if_pos rfl] at wp
 have wo := ty_of_ok (gl := gl) (Ty.mk 2 []) ok_list
 have wi := ty_is_ok (gl := gl) (Ty.mk 1 []) 1
 have wj := ty_is_ok (gl := gl) (Ty.mk 2 []) 2
 rw [of_dv, szC_k] at wo
 rw [szC_k] at wi wj ⊢
 have hi : ints [2, 1, 2] = [[dint 2], [dint 1], [dint 2]] := rfl
 have hd : decide ((Ty.mk 1 []).kind = 1) = true := rfl
 have hk : (Ty.mk 1 []).kind = 1 := rfl
 have ha : (Ty.mk 1 []).args = [] := rfl
 have hc : (Ty.mk 1 []).count = 1 := rfl
 have hd2 : decide ((Ty.mk 2 []).kind = 2) = true := rfl
 have hk2 : (Ty.mk 2 []).kind = 2 := rfl
 have ha2 : (Ty.mk 2 []).args = [] := rfl
 have hc2 : (Ty.mk 2 []).count = 1 := rfl
 rw [hi] at wp
 rw [hd] at wi
 rw [hd2] at wj
 rw [hk, ha, hc, hk2, ha2, hc2]
 refine t_in Tryz.func122 ?_
 intro X hP hgl hf hfn hn hR hids hfit
 refine t_g @h ?_
 refine t_c1 @h wp ?_
 refine t_g0 ?_
 refine W_loop ?_
 refine t_g0 ?_
 refine t_c1 trivial wi ?_
 refine t_g0 ?_
 refine W_inLoop ?_
 refine t_g0 ?_
 refine t_c1 trivial wj ?_
 refine t_g0 ?_
 refine W_inLoop ?_
 refine t_g0 ?_
 refine t_c1 trivial wo ?_
 refine t_r ?_
 simp [go_sem, hP, hgl, hn] <;> (try omega)

theorem node_k3 (t : Tm) (h : t.kind = 3) (x y a r : Ty) (hk : x.kind = 4) (hx : x.args = [a, r]) (ha : a.ok) (hr : r.ok) (hs : a.same y = true) :
  Con1 Tryz.prog gl 122 [t.dv, .agg (sz3 [x, y])] [] (.tup [.agg (szC r), dint 0]) [] := by
 rw [sz3_2]
 have wp := ty_plain_ok (gl := gl) 3
 rw [if_neg (by decide), if_neg (by decide), if_neg (by decide), if_neg (by decide), if_neg (by decide)] at wp
 have wi := ty_is_ok (gl := gl) x 4
 have w0 := ty_part_ok (gl := gl) x a 0 (by rw [hx]; rfl) ha
 have w1 := ty_part_ok (gl := gl) x r 1 (by rw [hx]; rfl) hr
 have ws := ty_same_ok (gl := gl) a y
 have hi : ints [] = [] := rfl
 have hd : decide (x.kind = 4) = true := decide_eq_true hk
 rw [hi] at wp
 rw [hd] at wi
 rw [hs] at ws
 simp only [szC_eq] at wi w0 w1 ws ⊢
 refine t_in Tryz.func122 ?_
 intro X hP hgl hf hfn hn hR hids hfit
 refine t_g @h ?_
 refine t_c1 @h wp ?_
 refine t_g @h ?_
 refine t_c3 trivial wi w0 ws ?_
 refine t_g0 ?_
 refine t_c1 trivial w1 ?_
 refine t_r ?_
 simp [go_sem, hP, hgl, hn] <;> (try omega)

theorem node_k69 (t : Tm) (h : t.kind = 6 ∨ t.kind = 9) (ht : t.type.ok) (x y z : Ty) (hx : x.same t.type = true) (hy : y.same (funT t.type (if t.kind = 9 then [Ty.mk 1 [], Ty.mk 2 [], t.type] else [Ty.mk 1 [], t.type])) = true) (hz : z.kind = if t.kind = 9 then 2 else 1) :
  Con1 Tryz.prog gl 122 [t.dv, .agg (sz3 [x, y, z])] [] (.tup [.agg (szC t.type), dint 0]) [] := by
 rw [sz3_3]
 have wo := ty_of_ok (gl := gl) t.type ht
 have ws := ty_same_ok (gl := gl) x t.type
 have wt := ty_step_ok (gl := gl) t
 have wy := sameType_ok (gl := gl) y (funT t.type (if t.kind = 9 then [Ty.mk 1 [], Ty.mk 2 [], t.type] else [Ty.mk 1 [], t.type]))
 have fty := Ty.fold t.type
 have fy := Ty.fold y
 have ftt := Tm.fold t
 rw [hx] at ws
 rw [hy] at wy
 generalize funT t.type (if t.kind = 9 then [Ty.mk 1 [], Ty.mk 2 [], t.type] else [Ty.mk 1 [], t.type]) = st at *
 have fst := Ty.fold st
 have cst := Ty.cells_eq st
 simp only [szC_eq] at wo ws ⊢
 rcases h with h | h
 ·have wp := ty_plain_ok (gl := gl) 6
  rw [if_neg (by decide), if_neg (by decide), if_neg (by decide), if_neg (by decide), if_neg (by decide)] at wp
  have hi : ints [] = [] := rfl
  rw [hi] at wp
  rw [if_neg (by omega)] at hz
  have wi := ty_is_ok (gl := gl) z 1
  rw [decide_eq_true hz] at wi
  simp only [szC_eq] at wi
  rw [h] at ftt
  refine t_in Tryz.func122 ?_
  intro X hP hgl hf hfn hn hR hids hfit
  refine t_g @h ?_
  refine t_c1 @h wp ?_
  refine t_g @h ?_
  refine t_c1 (j2 @h @fty) wo ?_
  refine t_g @h ?_
  refine t_c4 (j2 @h (j2 @fy (j2 @ftt @fst))) ws wt wy wi ?_
  refine t_g0 ?_
  refine t_r ?_
  simp [go_sem, hP, hgl, hn] <;> (try omega)
 ·have wp := ty_plain_ok (gl := gl) 9
  rw [if_neg (by decide), if_neg (by decide), if_neg (by decide), if_neg (by decide), if_neg (by decide)] at wp
  have hi : ints [] = [] := rfl
  rw [hi] at wp
  rw [if_pos h] at hz
  have wi := ty_is_ok (gl := gl) z 2
  rw [decide_eq_true hz] at wi
  simp only [szC_eq] at wi
  rw [h] at ftt
  refine t_in Tryz.func122 ?_
  intro X hP hgl hf hfn hn hR hids hfit
  refine t_g @h ?_
  refine t_c1 @h wp ?_
  refine t_g @h ?_
  refine t_c1 (j2 @h @fty) wo ?_
  refine t_g @h ?_
  refine t_c4 (j2 @h (j2 @fy (j2 @ftt @fst))) ws wt wy wi ?_
  refine t_g0 ?_
  refine t_r ?_
  simp [go_sem, hP, hgl, hn] <;> (try omega)

theorem node_k10 (t : Tm) (h : t.kind = 10) (x y : Ty) (hc : 1 + x.count + y.count ≤ 64) :
  Con1 Tryz.prog gl 122 [t.dv, .agg (sz3 [x, y])] [] (.tup [.agg (szC (Ty.mk 3 [x, y])), dint 0]) [] := by
 rw [sz3_2]
 have wp := ty_plain_ok (gl := gl) 10
 rw [if_neg (by decide), if_neg (by decide), if_neg (by decide), if_neg (by decide), if_neg (by decide)] at wp
 have hi : ints [] = [] := rfl
 rw [hi] at wp
 have wj := ty_join_ok (gl := gl) 3 x y hc
 generalize Ty.mk 3 [x, y] = r at *
 simp only [szC_eq] at wj ⊢
 refine t_in Tryz.func122 ?_
 intro X hP hgl hf hfn hn hR hids hfit
 refine t_g @h ?_
 refine t_c1 @h wp ?_
 refine t_g @h ?_
 refine t_c1 trivial wj ?_
 refine t_r ?_
 simp [go_sem, hP, hgl, hn] <;> (try omega)

theorem node_k11 (t : Tm) (h : t.kind = 11) (x a b : Ty) (hk : x.kind = 3) (hx : x.args = [a, b]) (ha : a.ok) :
  Con1 Tryz.prog gl 122 [t.dv, .agg (sz3 [x])] [] (.tup [.agg (szC a), dint 0]) [] := by
 rw [sz3_1]
 have wp := ty_plain_ok (gl := gl) 11
 rw [if_neg (by decide), if_neg (by decide), if_neg (by decide), if_neg (by decide), if_neg (by decide)] at wp
 have hi : ints [] = [] := rfl
 rw [hi] at wp
 have wi := ty_is_ok (gl := gl) x 3
 have w0 := ty_part_ok (gl := gl) x a 0 (by rw [hx]; rfl) ha
 rw [decide_eq_true hk] at wi
 simp only [szC_eq] at wi w0 ⊢
 refine t_in Tryz.func122 ?_
 intro X hP hgl hf hfn hn hR hids hfit
 refine t_g @h ?_
 refine t_c1 @h wp ?_
 refine t_g @h ?_
 refine t_c1 trivial wi ?_
 refine t_g @h ?_
 refine t_c1 trivial w0 ?_
 refine t_r ?_
 simp [go_sem, hP, hgl, hn] <;> (try omega)

theorem node_k12 (t : Tm) (h : t.kind = 12) (x a b : Ty) (hk : x.kind = 3) (hx : x.args = [a, b]) (hb : b.ok) :
  Con1 Tryz.prog gl 122 [t.dv, .agg (sz3 [x])] [] (.tup [.agg (szC b), dint 0]) [] := by
 rw [sz3_1]
 have wp := ty_plain_ok (gl := gl) 12
 rw [if_neg (by decide), if_neg (by decide), if_neg (by decide), if_neg (by decide), if_neg (by decide)] at wp
 have hi : ints [] = [] := rfl
 rw [hi] at wp
 have wi := ty_is_ok (gl := gl) x 3
 have w0 := ty_part_ok (gl := gl) x b 1 (by rw [hx]; rfl) hb
 rw [decide_eq_true hk] at wi
 simp only [szC_eq] at wi w0 ⊢
 refine t_in Tryz.func122 ?_
 intro X hP hgl hf hfn hn hR hids hfit
 refine t_g @h ?_
 refine t_c1 @h wp ?_
 refine t_g @h ?_
 refine t_c1 trivial wi ?_
 refine t_g @h ?_
 refine t_c1 trivial w0 ?_
 refine t_r ?_
 simp [go_sem, hP, hgl, hn] <;> (try omega)
end
section
variable {gl : Globs}

/-! sizes of what is drawn, and of the terms of values -/
theorem shape_tys (t : Tm) (h : t.shape = true) : t.tys := by
 induction t using Tm.ind with
 | h t ih =>
 obtain ⟨-, -, -, h4, h5⟩ := Tm.shape_node h
 rw [Tm.tys_eq]
 refine ⟨?_, fun a ha => ih a ha (h5 a ha)⟩
 split at h4
 ·have := h4.2; omega
 ·unfold Ty.zero at h4
  simp at h4
  rw [Ty.count_eq, h4.2]
  decide

theorem pickD_count {l : List Int} {t : Ty} {g : List Ty} {p q : Nat} {x : Tm} (h : pickD l t g p = (some x, q)) : x.count = 1 := by
 obtain ⟨i, rfl, -⟩ := pickD_some h
 rfl
theorem numD_count (l : List Int) (p : Nat) : (numD l p).1.count ≤ 3 := by
 have := nextD_bd (l := l) (p := p) (n := 3) (by decide)
 show (numTm _).count ≤ 3
 rw [numTm_count]
 omega
theorem leafD_count (l : List Int) (t : Ty) : t.small → ∀ (g : List Ty) (p : Nat), (leafD l t g p).1.count ≤ 3 * t.count := by
 generalize hn : t.count = n
 induction n using Nat.strongRecOn generalizing t with
 | _ n ih =>
 intro ht g p
 have h1 : 1 ≤ t.count := by rw [Ty.count_eq]; omega
 rw [leafD_eq l t g p ht.ok]
 split
 ·rename_i x q hx
  have := pickD_count hx
  simp only; omega
 ·rename_i q hx
  have hN := numD_count l q
  rcases small_kinds ht with ⟨h, e⟩ | ⟨h, e⟩ | ⟨h, e⟩ | ⟨h, e⟩ | ⟨h, e⟩
  ·rw [if_pos h]; omega
  ·rw [if_neg (by omega), if_pos h]; show 1 + 0 ≤ _; omega
  ·rw [if_neg (by omega), if_neg (by omega), if_neg (by omega), if_neg (by omega)]; show 1 + 0 ≤ _; omega
  ·rw [if_neg (by omega), if_neg (by omega), if_pos h]
   obtain ⟨s0, s1, hc⟩ := ht.arg (.inl h)
   have a := ih _ (by omega) (t.arg 0) rfl s0 g q
   have b := ih _ (by omega) (t.arg 1) rfl s1 g (leafD l (t.arg 0) g q).2
   show 1 + (_ + (_ + 0)) ≤ _
   omega
  ·rw [if_neg (by omega), if_neg (by omega), if_neg (by omega), if_pos h]
   obtain ⟨s0, s1, hc⟩ := ht.arg (.inr h)
   have b := ih _ (by omega) (t.arg 1) rfl s1 (g ++ [t.arg 0]) q
   show 1 + (_ + 0) ≤ _
   omega

def Small (l : List Int) (F : Ty → List Ty → Nat → Tm × Nat) (B : Nat) : Prop := ∀ t g p, t.small → (∀ x ∈ g, x.small) → p ≤ l.length → (F t g p).1.count ≤ B
theorem plusT_count : plusT.count = 9 := by decide
theorem subT_count : subT.count ≤ 16 := by decide
theorem app2_count (f x y : Tm) : (appsT f [x, y]).count = 2 + f.count + x.count + y.count := by
 show 1 + ((1 + (f.count + (x.count + 0))) + (y.count + 0)) = _
 omega
theorem endD_count {l : List Int} {F : Ty → List Ty → Nat → Tm × Nat} {B : Nat} (hD : Draws l F (fun _ _ x => x.shape = true)) (hF : Small l F B) : Small l (endD l F) (2 * B + 20) := by
 intro t g q ht hg hq
 have h5 := nextD_le (n := 5) hq
 have h2 := nextD_le (n := 2) hq
 have c1 := hF t g (nextD l q 5).2 ht hg h5
 have d1 := (hD t g (nextD l q 5).2 ht hg h5).1
 have c2 := hF t g _ ht hg d1
 have e1 := hF (Ty.mk 1 []) g (nextD l q 2).2 small_nat hg h2
 have f1 := (hD (Ty.mk 1 []) g (nextD l q 2).2 small_nat hg h2).1
 have e2 := hF t g _ ht hg f1
 have hN := numD_count l (nextD l q 5).2
 have hp := plusT_count
 have hs := subT_count
 unfold endD
 split
 ·split
  ·show 1 + (_ + 0) ≤ _; omega
  split
  ·simp only [app2_count]; omega
  split
  ·simp only [app2_count]; omega
  ·omega
 split
 ·split
  ·show 1 + (_ + (_ + 0)) ≤ _; omega
  ·show 1 + 0 ≤ _; omega
 split
 ·rename_i h
  obtain ⟨s0, s1, -⟩ := ht.arg (.inl h)
  have a1 := hF (t.arg 0) g q s0 hg hq
  have a2 := hF (t.arg 1) g _ s1 hg (hD (t.arg 0) g q s0 hg hq).1
  show 1 + (_ + (_ + 0)) ≤ _; omega
 split
 ·rename_i h
  obtain ⟨s0, s1, -⟩ := ht.arg (.inr h)
  have a2 := hF (t.arg 1) (g ++ [t.arg 0]) q s1 (by intro x hx; rcases List.mem_append.1 hx with hx | hx; exact hg x hx; rw [List.mem_singleton.1 hx]; exact s0) hq
  show 1 + (_ + 0) ≤ _; omega
 ·show 1 + 0 ≤ _; omega
theorem stepD_count {l : List Int} {F : Ty → List Ty → Nat → Tm × Nat} {B : Nat} (hD : Draws l F (fun _ _ x => x.shape = true)) (hF : Small l F B) (k : Int) : Small l (fun t g p => stepD l F t g k p) (3 * B + 20) := by
 intro t g p ht hg hp
 have hg1 : ∀ a : List Ty, (∀ x ∈ a, x.small) → ∀ x ∈ g ++ a, x.small := by
  intro a ha x hx
  rcases List.mem_append.1 hx with hx | hx
  ·exact hg x hx
  ·exact ha x hx
 have hE := endD_count hD hF t g p ht hg hp
 obtain ⟨s1, s2⟩ := typeD_small l (n := 0) hp (by decide)
 show (stepD l F t g k p).1.count ≤ _
 unfold stepD
 split
 ·have gs := hg1 [(typeD l 0 p).1] (by simpa using s2)
  have a := hF t _ _ ht gs s1
  have b := hF _ g _ s2 hg (hD t _ _ ht gs s1).1
  show 1 + ((1 + (_ + 0)) + (_ + 0)) ≤ _; omega
 split
 ·have a := hF t g _ ht hg s1
  have b := hF _ g _ s2 hg (hD t g _ ht hg s1).1
  show 1 + ((1 + (_ + (_ + 0))) + 0) ≤ _; omega
 split
 ·have gs := hg1 [Ty.mk 1 [], t] (by intro x hx; simp at hx; rcases hx with rfl | rfl; exact small_nat; exact ht)
  have d := (hD t _ _ ht gs hp).1
  have a := hF t _ _ ht gs hp
  have b := hF t g _ ht hg d
  have c := numD_count l (F t g (F t (g ++ [Ty.mk 1 [], t]) p).2).2
  show 1 + (_ + ((1 + ((1 + (_ + 0)) + 0)) + (_ + 0))) ≤ _; omega
 split
 ·have gs := hg1 [Ty.mk 1 [], Ty.mk 2 [], t] (by intro x hx; simp at hx; rcases hx with rfl | rfl | rfl; exact small_nat; exact small_list; exact ht)
  have d := (hD t _ _ ht gs hp).1
  have a := hF t _ _ ht gs hp
  have b := hF t g _ ht hg d
  have c := hF (Ty.mk 2 []) g _ small_list hg (hD t g _ ht hg d).1
  show 1 + (_ + ((1 + ((1 + ((1 + (_ + 0)) + 0)) + 0)) + (_ + 0))) ≤ _; omega
 split
 ·have a := hF _ g _ s2 hg s1
  have b := hF t g _ ht hg (hD _ g _ s2 hg s1).1
  show 1 + ((1 + (_ + (_ + 0))) + 0) ≤ _; omega
 split
 ·split
  ·rename_i i hi
   obtain ⟨f1, f2, f3⟩ := funN_some hi
   obtain ⟨c0, c1, -⟩ := (hg _ (varTy_mem f1).1).arg (.inr f2)
   have a := hF _ g _ c0 hg hp
   show 1 + ((1 + 0) + (_ + 0)) ≤ _; omega
  ·omega
 ·omega
def drawB : Nat → Nat
 | 0 => 45
 | n + 1 => 3 * drawB n + 20
theorem termD_count (l : List Int) : ∀ n, Small l (termD l n) (drawB n)
 | 0 => by intro t g p ht hg hp; have := leafD_count l t ht g p; have := ht.2; show _ ≤ 45; simp only [termD]; omega
 | n + 1 => by
  intro t g p ht hg hp
  have hq := pickD_le (t := t) (g := g) hp
  have ih := stepD_count (termD_facts closed_shape n) (termD_count l n)
  unfold termD
  split
  ·rename_i x q hx
   have := pickD_count hx
   simp only [drawB]; omega
  ·rename_i q hx
   rw [hx] at hq
   exact ih _ t g _ ht hg (nextD_le hq)
end
section
/-
 Package typing: the types of terms that have types; terms.TypeOf.
-/
variable {gl : Globs}

theorem szC_len (t : Ty) : (szC t).length = 3 := rfl

/-- a rule that gives a type gives it in the program's form too -/
theorem tnode_ok {t : Tm} (ht : t.shape = true) (hk1 : ¬ t.kind = 1) (hk2 : ¬ t.kind = 2) {ds : List Ty} (hl : ds.length = t.args.length) (hd : ∀ d ∈ ds, d.ok) {r : Ty} (hr : ruleN t.kind t.type ds = (r, 0)) :
  Con1 Tryz.prog gl 122 [t.dv, .agg (sz3 ds)] [] (.tup [.agg (szC r), dint 0]) [] := by
 obtain ⟨ha, hi, hv, hty, hs⟩ := Tm.shape_node ht
 rw [← hl] at ha
 unfold ruleN at hr
 rw [if_neg hk2] at hr
 by_cases h3 : t.kind = 3
 ·rw [if_pos h3] at hr
  rw [h3] at ha
  match ds, ha with
  | [x, y], _ =>
   split at hr
   ·rename_i hx
    obtain ⟨hx1, hx2⟩ := hx
    have hx1 : x.kind = 4 := hx1
    obtain ⟨p, q, hp, op, oq, e0, e1⟩ := Ty.ok_args (hd x (by simp)) (.inr hx1)
    have hx2 : (x.arg 0).same y = true := hx2
    rw [e0] at hx2
    have e2 : ([x, y].getD 0 zeroTy).arg 1 = q := e1
    rw [e2] at hr
    cases hr
    exact node_k3 t h3 x y p _ hx1 hp op oq hx2
   ·cases hr
 rw [if_neg h3] at hr
 by_cases h4 : t.kind = 4
 ·rw [if_pos h4] at hr
  rw [h4] at ha
  match ds, ha with
  | [], _ => cases hr; exact node_k4 t h4
 rw [if_neg h4] at hr
 by_cases h5 : t.kind = 5
 ·rw [if_pos h5] at hr
  rw [h5] at ha
  match ds, ha with
  | [x], _ =>
   split at hr
   ·rename_i hx
    have hx : x.same (Ty.mk 1 []) = true := hx
    obtain rfl := (Ty.same_iff _ _).1 hx
    cases hr
    exact node_k5 t h5
   ·cases hr
 rw [if_neg h5] at hr
 by_cases h6 : t.kind = 6
 ·rw [if_pos h6] at hr
  rw [h6] at ha
  rw [if_pos (.inr (.inl h6))] at hty
  match ds, ha with
  | [x, y, z], _ =>
   split at hr
   ·rename_i hx
    obtain ⟨hx, hy, hz⟩ := hx
    have hz : z.same (Ty.mk 1 []) = true := hz
    obtain rfl := (Ty.same_iff _ _).1 hz
    cases hr
    refine node_k69 t (.inl h6) hty x y _ hx ?_ ?_
    ·rw [if_neg (by omega)]; exact hy
    ·rw [if_neg (by omega)]; rfl
   ·cases hr
 rw [if_neg h6] at hr
 by_cases h7 : t.kind = 7
 ·rw [if_pos h7] at hr
  rw [h7] at ha
  match ds, ha with
  | [], _ => cases hr; exact node_k7 t h7
 rw [if_neg h7] at hr
 by_cases h8 : t.kind = 8
 ·rw [if_pos h8] at hr
  rw [h8] at ha
  match ds, ha with
  | [x, y], _ =>
   split at hr
   ·rename_i hx
    obtain ⟨hx, hy⟩ := hx
    have hx : x.same (Ty.mk 1 []) = true := hx
    have hy : y.same (Ty.mk 2 []) = true := hy
    obtain rfl := (Ty.same_iff _ _).1 hx
    obtain rfl := (Ty.same_iff _ _).1 hy
    cases hr
    exact node_k8 t h8
   ·cases hr
 rw [if_neg h8] at hr
 by_cases h9 : t.kind = 9
 ·rw [if_pos h9] at hr
  rw [h9] at ha
  rw [if_pos (.inr (.inr h9))] at hty
  match ds, ha with
  | [x, y, z], _ =>
   split at hr
   ·rename_i hx
    obtain ⟨hx, hy, hz⟩ := hx
    have hz : z.same (Ty.mk 2 []) = true := hz
    obtain rfl := (Ty.same_iff _ _).1 hz
    cases hr
    refine node_k69 t (.inr h9) hty x y _ hx ?_ ?_
    ·rw [if_pos h9]; exact hy
    ·rw [if_pos h9]; rfl
   ·cases hr
 rw [if_neg h9] at hr
 by_cases h10 : t.kind = 10
 ·rw [if_pos h10] at hr
  rw [h10] at ha
  match ds, ha with
  | [x, y], _ =>
   have hr : okN (Ty.mk 3 [x, y]) = (r, 0) := hr
   obtain ⟨o1, o2⟩ := okN_ok (Ty.mk 3 [x, y]) (by rw [hr])
   rw [o2] at hr
   rw [o2] at o1
   cases hr
   have := o1.2
   rw [count_two] at this
   exact node_k10 t h10 x y (by omega)
 rw [if_neg h10] at hr
 by_cases h11 : t.kind = 11
 ·rw [if_pos h11] at hr
  rw [h11] at ha
  match ds, ha with
  | [x], _ =>
   split at hr
   ·rename_i hx
    have hx : x.kind = 3 := hx
    obtain ⟨p, q, hp, op, oq, e0, e1⟩ := Ty.ok_args (hd x (by simp)) (.inl hx)
    have e2 : ([x].getD 0 zeroTy).arg 0 = p := e0
    rw [e2] at hr
    cases hr
    exact node_k11 t h11 x _ q hx hp op
   ·cases hr
 rw [if_neg h11] at hr
 by_cases h12 : t.kind = 12
 ·rw [if_pos h12] at hr
  rw [h12] at ha
  match ds, ha with
  | [x], _ =>
   split at hr
   ·rename_i hx
    have hx : x.kind = 3 := hx
    obtain ⟨p, q, hp, op, oq, e0, e1⟩ := Ty.ok_args (hd x (by simp)) (.inl hx)
    have e2 : ([x].getD 0 zeroTy).arg 1 = q := e1
    rw [e2] at hr
    cases hr
    exact node_k12 t h12 x p _ hx hp oq
   ·cases hr
 rw [if_neg h12] at hr
 have hkn : known t.kind = true := by rw [arityI_known]; simp; omega
 have h13 : t.kind = 13 := by
  simp [known] at hkn
  omega
 rw [h13] at ha
 match ds, ha with
 | [], _ => cases hr; exact node_k13 t h13

set_option maxHeartbeats 1000000 in
theorem typeof_t_ok (t : Tm) (g : List Ty) (hgt : g.length + t.count ≤ 2147483648) (ht : t.shape = true) (hg : ∀ x ∈ g, x.ok) (h : (t.inferN g).2 = 0) :
  Con1 Tryz.prog gl 73 [.sl (g.map szC), t.dv] [] (.tup [.agg (szC (t.inferN g).1), dint 0]) [] := by
 induction t using Tm.ind generalizing g with
 | h t ih =>
 obtain ⟨ha, hi, hv, hty, hs⟩ := Tm.shape_node ht
 refine t_in Tryz.func73 ?_
 intro X hP hgl hf hfn hn hR hids hfit
 have hlg := sl_len (hfit (.sl (g.map szC)) (by simp))
 simp at hlg
 rw [Tm.inferN_eq t] at h hR
 by_cases h1 : t.kind = 1
 ·rw [if_pos h1] at h hR
  by_cases h2 : (g.length : Int) ≤ t.index
  ·rw [if_pos h2] at h; cases h
  rw [if_neg h2] at hR
  have hlt : g.length - 1 - t.index.toNat < g.length := by omega
  have hx := List.getElem?_eq_getElem hlt
  rw [List.getD_eq_getElem?_getD] at hR
  generalize hge : g[g.length - 1 - t.index.toNat] = x at hx
  have hx' : g[(g.length - 1 - t.index : Int).toNat]? = some x := by rw [← hx]; congr 1; omega
  rw [hx, Option.getD_some] at hR
  refine t_g (j2 @h1 (j2 @h2 (j2 @hx' (szC_eq x)))) ?_
  refine t_r ?_
  simp [go_sem, hP, hgl, hn, szC_eq x] <;> (try omega)
 rw [if_neg h1] at h hR
 by_cases hk2 : t.kind = 2
 ·rw [if_pos hk2] at h hR
  rw [hk2] at ha
  obtain ⟨b, hb⟩ : ∃ b, t.args = [b] := by
   match hh : t.args, ha with
   | [b], _ => exact ⟨b, rfl⟩
  have hbm : b ∈ t.args := by rw [hb]; simp
  rw [if_pos (.inl hk2)] at hty
  have hg' : ∀ x ∈ g ++ [t.type], x.ok := by
   intro x hx
   rcases List.mem_append.1 hx with hx | hx
   ·exact hg x hx
   ·rw [List.mem_singleton.1 hx]; exact hty
  have hcb1 : t.count = 1 + (b.count + 0) := by rw [Tm.count_eq, hb]; rfl
  have hcb2 := Tm.count_pos b
  have hgl1 : g.length ≤ 2147483647 := by omega
  rw [hb] at h hR
  simp only [Tm.inferN.infers] at h hR
  have hb0 : (b.inferN (g ++ [t.type])).2 = 0 := by
   by_cases e : (b.inferN (g ++ [t.type])).2 = 0
   ·exact e
   ·rw [if_neg e] at h
    simp only at h
    rw [if_neg e] at h
    exact absurd h e
  rw [if_pos hb0] at h hR
  simp only [if_true] at h hR
  have hbo := Tm.inferN_ok b (g ++ [t.type]) (hs b hbm) hg' hb0
  have w1 := ih b hbm (g ++ [t.type]) (by simp; omega) (hs b hbm) hg' hb0
  generalize (b.inferN (g ++ [t.type])).1 = rb at *
  have hrule : ruleN t.kind t.type [rb] = okN (Ty.mk 4 [t.type, rb]) := by rw [hk2]; rfl
  rw [hrule] at h hR
  obtain ⟨o1, o2⟩ := okN_ok (Ty.mk 4 [t.type, rb]) h
  rw [o2] at o1 hR
  have hcc := o1.2
  rw [count_two] at hcc
  have wo := ty_of_ok (gl := gl) t.type hty
  have wj := ty_join_ok (gl := gl) 4 t.type rb (by omega)
  have fty := Ty.fold t.type
  have fb := Tm.fold b
  have hszm : List.map szC (g ++ [t.type]) = List.map szC g ++ [szC t.type] := by simp
  have hlm : (List.map szC g).length = g.length := by simp
  generalize Ty.mk 4 [t.type, rb] = r4 at *
  rw [hszm] at w1
  simp only [szC_eq t.type, szC_eq rb, szC_eq r4] at w1 wo wj hR
  have hwid : ∀ e : List DV, e ∈ List.map szC g → e.length = 3 := by intro e he; simp only [List.mem_map] at he; obtain ⟨x, -, rfl⟩ := he; rfl
  generalize List.map szC g = G at *
  have htake : List.take g.length G = G := by rw [List.take_of_length_le]; omega
  refine t_g @hk2 ?_
  refine t_c1 (j2 @hk2 @fty) wo ?_
  refine t_c1 (j2 @hk2 (j2 @hb (j2 @htake (j2 @hlm (j2 @hwid @hgl1))))) w1 ?_
  refine t_g0 ?_
  refine t_c1 trivial wj ?_
  refine t_r ?_
  simp [go_sem, hP, hgl, hn] <;> (try omega)
 rw [if_neg hk2] at h hR
 have hlen := Tm.fit_len (hfit t.dv (by simp))
 have hI : (Tm.inferN.infers t.args g).2 = 0 := by
  by_cases e : (Tm.inferN.infers t.args g).2 = 0
  ·exact e
  ·rw [if_neg e] at h; exact absurd h e
 rw [if_pos hI] at h hR
 obtain ⟨hdl, hall⟩ := Tm.infers_all t.args g hI
 have hdo : ∀ a ∈ (Tm.inferN.infers t.args g).1, a.ok := by
  intro a ha
  obtain ⟨i, hi, rfl⟩ := List.mem_iff_getElem.1 ha
  obtain ⟨x1, x2⟩ := hall i t.args[i] (List.getElem?_eq_getElem (by omega))
  rw [List.getElem?_eq_getElem hi] at x2
  rw [Option.some.inj x2]
  exact Tm.inferN_ok _ g (hs _ (List.getElem_mem _)) hg x1
 have wn := tnode_ok (gl := gl) (t := t) ht h1 hk2 hdl hdo (r := (ruleN t.kind t.type (Tm.inferN.infers t.args g).1).1) (by rw [← h])
 generalize (ruleN t.kind t.type (Tm.inferN.infers t.args g).1).1 = r at *
 generalize (Tm.inferN.infers t.args g).1 = ds at *
 have h3 : t.args.length ≤ 3 := by
  have : arityI t.kind ≤ 3 := by unfold arityI; (repeat' split) <;> omega
  omega
 have ftt := Tm.fold t
 simp only [szC_eq r] at wn hR
 have step : ∀ (i : Nat) (x : Tm), t.args[i]? = some x → ∃ d, ds[i]? = some d ∧ Con1 Tryz.prog gl 73 [.sl (g.map szC), x.dv] [] (.tup [.agg (szC d), dint 0]) [] := by
  intro i x hx
  obtain ⟨x1, x2⟩ := hall i x hx
  have hm := List.mem_of_getElem? hx
  have hcx := Tm.count_mem hm
  have hct := Tm.count_eq t
  exact ⟨_, x2, ih x hm g (by omega) (hs x hm) hg x1⟩
 clear ih
 have hgm : List.map szC g = List.map szC g := rfl
 generalize List.map szC g = G at *
 have done0 : ∀ (p : List Ty), t.args.length = p.length → ds = p → sz3 ds = sz3 p := by intro p _ e; rw [e]
 match hargs : t.args, h3 with
 | [], _ =>
  rw [hargs] at hdl
  obtain rfl : ds = [] := List.length_eq_zero_iff.1 hdl
  rw [sz3_0] at wn
  rw [hargs] at ftt
  simp only [List.map_nil] at ftt
  refine t_g (j2 @h1 (j2 @hk2 @hargs)) ?_
  refine W_loop ?_
  refine t_g @hargs ?_
  refine t_c1 (j2 @hargs @ftt) wn ?_
  refine t_r ?_
  simp [go_sem, hP, hgl, hn] <;> (try omega)
 | [x], _ =>
  obtain ⟨d, hd, w⟩ := step 0 x (by rw [hargs]; rfl)
  rw [hargs] at hdl
  obtain rfl : ds = [d] := by
   match ds, hdl, hd with
   | [_], _, hd => simp at hd; rw [hd]
  rw [sz3_1] at wn
  simp only [szC_eq] at w
  rw [hargs] at ftt
  simp only [List.map_cons, List.map_nil] at ftt
  rw [Tm.cells_eq x] at ftt
  refine t_g (j2 @h1 (j2 @hk2 @hargs)) ?_
  refine W_loop ?_
  refine t_g @hargs ?_
  refine t_c1 trivial w ?_
  refine t_g0 ?_
  refine W_sub [] (s' := [(.slot 0, .one (.v (.sl G))), (.slot 67, .one (.v (dint 1))), (.slot 66, .one (.v (dint 1))), (.slot 65, .one (.v (.sl [x.cells]))), (.slot 3, .one (.loc 3 0)), (.loc 3, .row ([.v (dint t.kind), .v (dint t.index), .v (dint t.type.kind), .v (.sl (t.type.args.map Ty.cells)), .v (.sl [x.cells])])), (.slot 4, .one (.loc 4 0)), (.loc 4, .row ([.v (dint 0), .own 0 [], .v (dint 0)])), (.slot 9, .one (.loc 9 0)), (.loc 9, .row ([.v (dint d.kind), .v (.sl (d.args.map Ty.cells)), .v (dint (d.count : Int)), .v (dint 0), .own 0 [], .v (dint 0), .v (dint 0), .own 0 [], .v (dint 0)]))]) (by simp [go_sem]) (by simp [go_sem, hargs]) (by simp [go_sem]) ?_
  refine W_inLoop ?_
  refine t_g0 ?_
  refine t_c1 @ftt wn ?_
  refine t_r ?_
  simp [go_sem, hP, hgl, hn] <;> (try omega)
 | [x, y], _ =>
  obtain ⟨d, hd, w⟩ := step 0 x (by rw [hargs]; rfl)
  obtain ⟨e, he, v⟩ := step 1 y (by rw [hargs]; rfl)
  rw [hargs] at hdl
  obtain rfl : ds = [d, e] := by
   match ds, hdl, hd, he with
   | [_, _], _, hd, he => simp at hd he; rw [hd, he]
  rw [sz3_2] at wn
  simp only [szC_eq] at w v
  rw [hargs] at ftt
  simp only [List.map_cons, List.map_nil] at ftt
  rw [Tm.cells_eq x, Tm.cells_eq y] at ftt
  refine t_g (j2 @h1 (j2 @hk2 @hargs)) ?_
  refine W_loop ?_
  refine t_g @hargs ?_
  refine t_c1 trivial w ?_
  refine t_g0 ?_
  refine W_sub [] (s' := [(.slot 0, .one (.v (.sl G))), (.slot 67, .one (.v (dint 1))), (.slot 66, .one (.v (dint 2))), (.slot 65, .one (.v (.sl [x.cells, y.cells]))), (.slot 3, .one (.loc 3 0)), (.loc 3, .row ([.v (dint t.kind), .v (dint t.index), .v (dint t.type.kind), .v (.sl (t.type.args.map Ty.cells)), .v (.sl [x.cells, y.cells])])), (.slot 4, .one (.loc 4 0)), (.loc 4, .row ([.v (dint 0), .own 0 [], .v (dint 0)])), (.slot 9, .one (.loc 9 0)), (.loc 9, .row ([.v (dint d.kind), .v (.sl (d.args.map Ty.cells)), .v (dint (d.count : Int)), .v (dint 0), .own 0 [], .v (dint 0), .v (dint 0), .own 0 [], .v (dint 0)]))]) (by simp [go_sem]) (by simp [go_sem, hargs]) (by simp [go_sem]) ?_
  refine W_inLoop ?_
  refine t_g @hargs ?_
  refine t_c1 trivial v ?_
  refine t_g0 ?_
  refine W_sub [] (s' := [(.slot 0, .one (.v (.sl G))), (.slot 67, .one (.v (dint 2))), (.slot 66, .one (.v (dint 2))), (.slot 65, .one (.v (.sl [x.cells, y.cells]))), (.slot 3, .one (.loc 3 0)), (.loc 3, .row ([.v (dint t.kind), .v (dint t.index), .v (dint t.type.kind), .v (.sl (t.type.args.map Ty.cells)), .v (.sl [x.cells, y.cells])])), (.slot 4, .one (.loc 4 0)), (.loc 4, .row ([.v (dint 0), .own 0 [], .v (dint 0)])), (.slot 9, .one (.loc 9 0)), (.loc 9, .row ([.v (dint d.kind), .v (.sl (d.args.map Ty.cells)), .v (dint (d.count : Int)), .v (dint e.kind), .v (.sl (e.args.map Ty.cells)), .v (dint (e.count : Int)), .v (dint 0), .own 0 [], .v (dint 0)]))]) (by simp [go_sem]) (by simp [go_sem, hargs]) (by simp [go_sem]) ?_
  refine W_inLoop ?_
  refine t_g0 ?_
  refine t_c1 @ftt wn ?_
  refine t_r ?_
  simp [go_sem, hP, hgl, hn] <;> (try omega)
 | [x, y, z], _ =>
  obtain ⟨d, hd, w⟩ := step 0 x (by rw [hargs]; rfl)
  obtain ⟨e, he, v⟩ := step 1 y (by rw [hargs]; rfl)
  obtain ⟨k, hf3, u⟩ := step 2 z (by rw [hargs]; rfl)
  rw [hargs] at hdl
  obtain rfl : ds = [d, e, k] := by
   match ds, hdl, hd, he, hf3 with
   | [_, _, _], _, hd, he, hf3 => simp at hd he hf3; rw [hd, he, hf3]
  rw [sz3_3] at wn
  simp only [szC_eq] at w v u
  rw [hargs] at ftt
  simp only [List.map_cons, List.map_nil] at ftt
  rw [Tm.cells_eq x, Tm.cells_eq y, Tm.cells_eq z] at ftt
  refine t_g (j2 @h1 (j2 @hk2 @hargs)) ?_
  refine W_loop ?_
  refine t_g @hargs ?_
  refine t_c1 trivial w ?_
  refine t_g0 ?_
  refine W_sub [] (s' := [(.slot 0, .one (.v (.sl G))), (.slot 67, .one (.v (dint 1))), (.slot 66, .one (.v (dint 3))), (.slot 65, .one (.v (.sl [x.cells, y.cells, z.cells]))), (.slot 3, .one (.loc 3 0)), (.loc 3, .row ([.v (dint t.kind), .v (dint t.index), .v (dint t.type.kind), .v (.sl (t.type.args.map Ty.cells)), .v (.sl [x.cells, y.cells, z.cells])])), (.slot 4, .one (.loc 4 0)), (.loc 4, .row ([.v (dint 0), .own 0 [], .v (dint 0)])), (.slot 9, .one (.loc 9 0)), (.loc 9, .row ([.v (dint d.kind), .v (.sl (d.args.map Ty.cells)), .v (dint (d.count : Int)), .v (dint 0), .own 0 [], .v (dint 0), .v (dint 0), .own 0 [], .v (dint 0)]))]) (by simp [go_sem]) (by simp [go_sem, hargs]) (by simp [go_sem]) ?_
  refine W_inLoop ?_
  refine t_g @hargs ?_
  refine t_c1 trivial v ?_
  refine t_g0 ?_
  refine W_sub [] (s' := [(.slot 0, .one (.v (.sl G))), (.slot 67, .one (.v (dint 2))), (.slot 66, .one (.v (dint 3))), (.slot 65, .one (.v (.sl [x.cells, y.cells, z.cells]))), (.slot 3, .one (.loc 3 0)), (.loc 3, .row ([.v (dint t.kind), .v (dint t.index), .v (dint t.type.kind), .v (.sl (t.type.args.map Ty.cells)), .v (.sl [x.cells, y.cells, z.cells])])), (.slot 4, .one (.loc 4 0)), (.loc 4, .row ([.v (dint 0), .own 0 [], .v (dint 0)])), (.slot 9, .one (.loc 9 0)), (.loc 9, .row ([.v (dint d.kind), .v (.sl (d.args.map Ty.cells)), .v (dint (d.count : Int)), .v (dint e.kind), .v (.sl (e.args.map Ty.cells)), .v (dint (e.count : Int)), .v (dint 0), .own 0 [], .v (dint 0)]))]) (by simp [go_sem]) (by simp [go_sem, hargs]) (by simp [go_sem]) ?_
  refine W_inLoop ?_
  refine t_g @hargs ?_
  refine t_c1 trivial u ?_
  refine t_g0 ?_
  refine W_sub [] (s' := [(.slot 0, .one (.v (.sl G))), (.slot 67, .one (.v (dint 3))), (.slot 66, .one (.v (dint 3))), (.slot 65, .one (.v (.sl [x.cells, y.cells, z.cells]))), (.slot 3, .one (.loc 3 0)), (.loc 3, .row ([.v (dint t.kind), .v (dint t.index), .v (dint t.type.kind), .v (.sl (t.type.args.map Ty.cells)), .v (.sl [x.cells, y.cells, z.cells])])), (.slot 4, .one (.loc 4 0)), (.loc 4, .row ([.v (dint 0), .own 0 [], .v (dint 0)])), (.slot 9, .one (.loc 9 0)), (.loc 9, .row ([.v (dint d.kind), .v (.sl (d.args.map Ty.cells)), .v (dint (d.count : Int)), .v (dint e.kind), .v (.sl (e.args.map Ty.cells)), .v (dint (e.count : Int)), .v (dint k.kind), .v (.sl (k.args.map Ty.cells)), .v (dint (k.count : Int))]))]) (by simp [go_sem]) (by simp [go_sem, hargs]) (by simp [go_sem]) ?_
  refine W_inLoop ?_
  refine t_g0 ?_
  refine t_c1 @ftt wn ?_
  refine t_r ?_
  simp [go_sem, hP, hgl, hn] <;> (try omega)

/-- contexts without variables -/
theorem types_context_nil : Con1 Tryz.prog gl 70 [.sl []] [] (dint 0) [] := by
 refine t_in Tryz.func70 ?_
 intro X hP hgl hf hfn hn hR hids hfit
 refine t_g0 ?_
 refine W_loop ?_
 refine t_g0 ?_
 refine t_r ?_
 simp [go_sem, hP, hgl, hn] <;> (try omega)
theorem typing_from_nil : Con1 Tryz.prog gl 72 [.sl []] [] (.sl []) [] := by
 refine t_in Tryz.func72 ?_
 intro X hP hgl hf hfn hn hR hids hfit
 refine t_g0 ?_
 refine W_loop ?_
 refine t_g0 ?_
 refine t_r ?_
 simp [go_sem, hP, hgl, hn] <;> (try omega)

theorem terms_typeof_ok (har : globOf gl 0 = some arEls) (t : Tm) (r : Ty) (hc : t.checkN = 0) (h : t.inferN [] = (r, 0)) :
  Con1 Tryz.prog gl 40 [.sl [], t.dv] [] (.tup [r.dv, dint 0]) [] := by
 obtain ⟨hs, hcc⟩ := (Tm.checkN_iff t).1 hc
 have w2 := termscheck_ok har t (shape_tys t hs) (by omega)
 rw [hc] at w2
 have w3 := typeof_t_ok (gl := gl) t [] (by simp; omega) hs (by simp) (by rw [h])
 rw [h] at w3
 have w4 := ownType_ok (gl := gl) r
 have ftt := Tm.fold t
 have fr := Ty.fold r
 simp only [szC_eq, List.map_nil] at w3
 refine t_in Tryz.func40 ?_
 intro X hP hgl hf hfn hn hR hids hfit
 refine t_g0 ?_
 refine t_c1 trivial types_context_nil ?_
 refine t_g0 ?_
 refine t_c1 @ftt w2 ?_
 refine t_g0 ?_
 refine t_c2 @ftt typing_from_nil w3 ?_
 refine t_g0 ?_
 refine t_c1 @fr w4 ?_
 refine t_r ?_
 simp [go_sem, hP, hgl, hn] <;> (try omega)
 all_goals exact t_f
end
section
/-
 Walks: terms.TypeOf in a context.
-/
variable {gl : Globs}

theorem types_context_ok (g : List Ty) (hg : ∀ x ∈ g, x.ok) (hl : g.length ≤ 16) : Con1 Tryz.prog gl 70 [.sl (g.map Ty.cells)] [] (dint 0) [] := by
 refine t_in Tryz.func70 ?_
 intro X hP hgl hf hfn hn hR hids hfit
 have hl2 : ¬ (16 < (g.length : Int)) := by omega
 refine t_g @hl2 ?_
 refine t_a ?_
 refine t_sub [] trivial (W_list (g) (fun done rest => [(.slot 11, .one (.v (dint done.length))), (.slot 10, .one (.v (dint g.length))), (.slot 9, .one (.v (.sl (g.map Ty.cells)))), (.slot 2, .one (.v (dint 0)))]) ?_ ?_)
 ·intro done x rest hL hg0 hnext
  have hlt : done.length < g.length := by rw [hL]; simp
  have hxo := hg x (List.mem_of_getElem? hg0)
  have w := types_check_ok (gl := gl) x (by have := hxo.2; omega)
  rw [(Ty.checkN_iff x).2 hxo] at w
  have hfx := Ty.fold x
  refine t_rg0 ?_
  refine t_yes ?_
  refine t_g @hg0 ?_
  refine t_c1 (j2 @hg0 @hfx) w ?_
  refine t_gt (wr []) trivial trivial hnext
 ·refine t_rg0 ?_
  refine t_no ?_
  refine t_g0 ?_
  refine t_r ?_
  simp [go_sem, hP, hgl, hn] <;> (try omega)

theorem typing_from_ok (g : List Ty) (hg : ∀ x ∈ g, x.ok) (hl : g.length ≤ 16) : Con1 Tryz.prog gl 72 [.sl (g.map Ty.cells)] [] (.sl (g.map szC)) [] := by
 refine t_in Tryz.func72 ?_
 intro X hP hgl hf hfn hn hR hids hfit
 refine t_g0 ?_
 refine t_a ?_
 refine t_sub [(1003, 0)] trivial (W_list (g) (fun done rest => [(.slot 8, .one (.v (dint done.length))), (.slot 7, .one (.v (dint g.length))), (.slot 6, .one (.v (.sl (g.map Ty.cells)))), (.slot 2, .one (.own 0 [])), (.slot 3, .one (.own 1003 (done.map szC))), (.tok 1003, .tk 3 done.length)]) ?_ ?_)
 ·intro done x rest hL hg0 hnext
  have hlt : done.length < g.length := by rw [hL]; simp
  have hxo := hg x (List.mem_of_getElem? hg0)
  have w := ty_of_ok (gl := gl) x hxo
  have hfx := Ty.fold x
  have hsz := szC_eq x
  refine t_rg0 ?_
  refine t_yes ?_
  refine t_g @hg0 ?_
  refine t_c1 (j2 @hg0 (j2 @hfx (j2 @hsz @szC_len))) w ?_
  refine t_gt (wr [(1003, 16)]) (j2 @hsz @szC_len) trivial hnext
 ·refine t_rg0 ?_
  refine t_no ?_
  refine t_g0 ?_
  refine t_r ?_
  simp [go_sem, hP, hgl, hn] <;> (try omega)

theorem terms_typeof_ctx (har : globOf gl 0 = some arEls) (g : List Ty) (hg : ∀ x ∈ g, x.ok) (hl : g.length ≤ 16) (t : Tm) (r : Ty) (hc : t.checkN = 0) (h : t.inferN g = (r, 0)) :
  Con1 Tryz.prog gl 40 [.sl (g.map Ty.cells), t.dv] [] (.tup [r.dv, dint 0]) [] := by
 obtain ⟨hs, hcc⟩ := (Tm.checkN_iff t).1 hc
 have w2 := termscheck_ok har t (shape_tys t hs) (by omega)
 rw [hc] at w2
 have w3 := typeof_t_ok (gl := gl) t g (by omega) hs hg (by rw [h])
 rw [h] at w3
 have w4 := ownType_ok (gl := gl) r
 have w5 := typing_from_ok (gl := gl) g hg hl
 have w6 := types_context_ok (gl := gl) g hg hl
 have ftt := Tm.fold t
 have fr := Ty.fold r
 simp only [szC_eq] at w3 w5
 refine t_in Tryz.func40 ?_
 intro X hP hgl hf hfn hn hR hids hfit
 refine t_g0 ?_
 refine t_c1 trivial w6 ?_
 refine t_g0 ?_
 refine t_c1 @ftt w2 ?_
 refine t_g0 ?_
 refine t_c2 @ftt w5 w3 ?_
 refine t_g0 ?_
 refine t_c1 @fr w4 ?_
 refine t_r ?_
 simp [go_sem, hP, hgl, hn] <;> (try omega)
 all_goals exact t_f
end
section
/-
 Part W of the small logic: a box whose cells are data from the start (it is never written): its address is a datum.
-/
section
variable {X : Ctx} {s : St}

theorem step_boxR {o : Oper} {t : TypeId} {x : Operand} (ho : o.op = .box t x) {d : Nat} (hd : o.dst = some d) (hn : d < X.n) {y : SV} (hy : evl X (get s) x = some y) {cs : List DV} (hc : toDs (cellsS y) = some cs) (hb : cellB cs = true) :
  StepOK X s o (upd s (.slot d) (.one (.v (.ref cs)))) := by
 intro G a w R next Q hK
 have hrow : RowOf G w (cellsS y) (a.eval x).cells := cellsS_sound R.nil (evl_sound R hy)
 obtain ⟨t1, t2⟩ := toDs_get hc
 have hsz : (a.eval x).cells.size = cs.length := by rw [hrow.1, t1]
 refine opIn (by intro c e; rw [ho] at e; cases e) ?_
 simp only [execOp, ho, Instr.box, newVar, newRow, run_newObj, Sem.run_bind, Sem.run_pure, Result.andThen_ok, upn_value, hd]
 have T : Trans X G a w { G with D := withData G.D w.heap.size 0 cs.length } a (w.alloc (.cells (a.eval x).cells t)) (fun _ => False) := trans_data R (hi := cs.length) (by omega) rfl R.nil
 refine hK { G with D := withData G.D w.heap.size 0 cs.length } _ _ (R.setSlot T rfl rfl (fun _ h => h) hn ?_)
 show RV (withData G.D w.heap.size 0 cs.length) _ _ _
 refine .ref cs w.heap.size 0 (fun j => ((a.eval x).cells[j]?).getD undef) ((cellB_iff _).1 hb) (fun j hj => ?_) (fun j hj => .inr ⟨rfl, Nat.zero_le _, by omega⟩) (fun j c hjc => ?_)
 ·have hlt : j < (a.eval x).cells.size := by omega
  simp [World.cell?_alloc_new, hlt]
 ·obtain ⟨z, hz, hzd⟩ := t2 j c hjc
  have hlt : j < (a.eval x).cells.size := by rw [hsz]; exact (List.getElem?_eq_some_iff.1 hjc).1
  have hr := toD_sound hzd (hrow.2 j z _ hz (Array.getElem?_eq_getElem hlt))
  simp only [Array.getElem?_eq_getElem hlt, Option.getD_some]
  exact hr.mono (fun b o hd => ⟨.inl hd, World.cell?_alloc_lt _ _ _ (R.wf.lt hd)⟩)

theorem vcK_boxR {esc : List Nat} {ops : Array Oper} {l : List Oper} {K : St → Prop} {d : Tmp} {t : TypeId} {x : Operand} {ty : TypeId} {pos : String} {af : Array Edge} {q : Option (Prop × St)} {y : SV} {cs : List DV}
  (hy : evl X (get s) x = some y) (hc : toDs (cellsS y) = some cs) (hb : cellB cs = true) (hn : d < X.n) (hq : q = none)
  (k : vc X esc ops l (upd s (.slot d) (.one (.v (.ref cs)))) K) :
  vcK X esc ops l K ⟨some d, .box t x, ty, pos, af, none⟩ s q := by
 subst hq
 exact VL_step rfl (step_boxR (o := ⟨some d, .box t x, ty, pos, af, none⟩) rfl rfl hn hy hc hb) (vc_sound k)

theorem vcdC_boxR {ops : Array Oper} {s0 : St} {K : St → Prop} {l : List Oper} {k : St → List Ev → Prop} {ev : List Ev} {fp wr : List Loc} {d : Tmp} {t : TypeId} {x : Operand} {ty : TypeId} {pos : String} {af : Array Edge} {q : Option (Prop × St)} {y : SV} {cs : List DV}
  (hk : ∀ s ev, k s ev → VD X ops s0 l s ev K) (hy : evl X (get (restr s fp)) x = some y) (hc : toDs (cellsS y) = some cs) (hb : cellB cs = true) (hn : d < X.n) (hq : q = none)
  (g : vcdD k ev s fp [d] [(.slot d, some (.one (.v (.ref cs))))]) :
  vcdC X ops s0 l K k ⟨some d, .box t x, ty, pos, af, none⟩ ev s fp wr q := by
 subst hq
 show VD X ops s0 _ s ev K
 refine VD_step ⟨fp, _, [d]⟩ (fun s' hs hfr => opOK_of (.inl rfl) ?_) (hk _ _ g)
 exact step_boxR (o := ⟨some d, .box t x, ty, pos, af, none⟩) rfl rfl hn (evl_mono hs hy) hc hb
end
end
section
/-
 Plain law: a machine that evaluates terms and counts its work; it returns what is denoted.
-/
/-- a value of a machine -/
inductive MV where
 | num (n : Nat)
 | list (l : List Nat)
 | both (a b : MV)
 | unit
 | clo (b : Tm) (e : List MV)

abbrev Evl := Tm → List MV → Option (MV × Nat)

/-- some terms, one after the other -/
def allC (ev : Evl) : List Tm → List MV → Option (List MV × Nat)
 | [], _ => some ([], 0)
 | t :: r, e => match ev t e with
  | none => none
  | some (v, c) => match allC ev r e with
   | none => none
   | some (l, c') => some (v :: l, c + c')
/-- a closure called with some values -/
def callC (ev : Evl) : MV → List MV → Option (MV × Nat)
 | f, [] => some (f, 0)
 | .clo b e, a :: r => match ev b (a :: e) with
  | none => none
  | some (v, c) => match callC ev v r with
   | none => none
   | some (w, c') => some (w, c + c')
 | _, _ => none
/-- n rounds from k on -/
def recC (ev : Evl) (f : MV) : Nat → Nat → MV → Option (MV × Nat)
 | 0, _, r => some (r, 0)
 | n + 1, k, r => match callC ev f [.num k, r] with
  | none => none
  | some (r', c) => match recC ev f n (k + 1) r' with
   | none => none
   | some (w, c') => some (w, c + c')
/-- through a list, from its end -/
def foldC (ev : Evl) (f : MV) (r : MV) : List Nat → Option (MV × Nat)
 | [] => some (r, 0)
 | x :: l => match foldC ev f r l with
  | none => none
  | some (r', c) => match callC ev f [.num x, .list l, r'] with
   | none => none
   | some (w, c') => some (w, c + c')
/-- a node whose parts have values -/
def nodeC (ev : Evl) (k : Int) (l : List MV) : Option (MV × Nat) :=
 if k = 3 then match l with
  | [f, x] => callC ev f [x]
  | _ => none
 else if k = 4 then some (.num 0, 0)
 else if k = 5 then match l with
  | [.num n] => some (.num (n + 1), 0)
  | _ => none
 else if k = 6 then match l with
  | [b, f, .num n] => recC ev f n 0 b
  | _ => none
 else if k = 7 then some (.list [], 0)
 else if k = 8 then match l with
  | [.num n, .list m] => some (.list (n :: m), 0)
  | _ => none
 else if k = 9 then match l with
  | [b, f, .list m] => foldC ev f b m
  | _ => none
 else if k = 10 then match l with
  | [x, y] => some (.both x y, 0)
  | _ => none
 else if k = 11 then match l with
  | [.both x _] => some (x, 0)
  | _ => none
 else if k = 12 then match l with
  | [.both _ y] => some (y, 0)
  | _ => none
 else some (.unit, 0)
/-- a term below some values, to a depth: its value and the work -/
def evC : Nat → Tm → List MV → Option (MV × Nat)
 | 0, _, _ => none
 | d + 1, t, e =>
  if t.kind = 1 then some (e.getD t.index.toNat .unit, 1)
  else if t.kind = 2 then some (.clo (t.argN 0) e, 1)
  else match allC (evC d) t.args e with
   | none => none
   | some (l, c) => match nodeC (evC d) t.kind l with
    | none => none
    | some (v, c') => some (v, 1 + c + c')

/-- what a value of a machine is a value of -/
def Rl : (a : T) → MV → a.V → Prop
 | .nat, v, n => v = .num n
 | .list, v, l => v = .list l
 | .unit, v, _ => v = .unit
 | .pair a b, v, p => ∃ x y, v = .both x y ∧ Rl a x p.1 ∧ Rl b y p.2
 | .fn a b, v, f => ∃ body e, v = .clo body e ∧ ∀ (x : MV) (y : a.V), Rl a x y → ∀ (d : Nat) (r : MV) (c : Nat), evC d body (x :: e) = some (r, c) → Rl b r (f y)

/-- the values of the variables -/
def RlE : (Γ : List T) → List MV → Env Γ → Prop
 | [], e, _ => e = []
 | a :: Γ, e, ρ => ∃ x r, e = x :: r ∧ Rl a x ρ.1 ∧ RlE Γ r ρ.2

theorem RlE.get {Γ : List T} {i : Nat} {a : T} {p : Env Γ → a.V} (h : At Γ i a p) : ∀ {e : List MV} {ρ : Env Γ}, RlE Γ e ρ → Rl a (e.getD i .unit) (p ρ) := by
 induction h with
 | zero => rintro e ρ ⟨x, r, rfl, h1, h2⟩; exact h1
 | succ h ih => rintro e ρ ⟨x, r, rfl, h1, h2⟩; simpa using ih h2
end
section
/-
 Package machine's values as data, and how a variable's value is found.
-/
variable {gl : Globs}

abbrev nilP : DV := .prim (.pointer none)
abbrev nilI : DV := .prim .nilIface
def cellM : List Nat → DV
 | [] => nilP
 | n :: l => .ref [dint (n : Int), cellM l]
mutual
def MV.thing : MV → DV
 | .num n => .iface 3 (dint (n : Int))
 | .list l => .iface 173 (cellM l)
 | .both a b => .iface 179 (.ref [MV.thing a, MV.thing b])
 | .unit => .iface 183 (.agg [])
 | .clo b e => .iface 186 (.ref (b.cells ++ [MV.envM e]))
def MV.envM : List MV → DV
 | [] => nilP
 | v :: e => .ref [MV.thing v, MV.envM e]
end
theorem cellM_cell : ∀ l, (cellM l).isCell = true
 | [] => rfl
 | _ :: _ => rfl
theorem thing_cell (v : MV) : v.thing.isCell = true := by cases v <;> (simp only [MV.thing]; rfl)
theorem envM_cell (e : List MV) : (MV.envM e).isCell = true := by cases e <;> (simp only [MV.envM]; rfl)
theorem cellsD_thing (v : MV) : cellsD v.thing = [v.thing] := by cases v <;> (simp only [MV.thing]; rfl)
theorem cellsD_envM (e : List MV) : cellsD (MV.envM e) = [MV.envM e] := by cases e <;> (simp only [MV.envM]; rfl)
theorem cellsD_cellM (l : List Nat) : cellsD (cellM l) = [cellM l] := by cases l <;> rfl
attribute [go_sem] cellM_cell thing_cell envM_cell cellsD_thing cellsD_envM cellsD_cellM

theorem env_at_ok (e : List MV) (i : Nat) (hi : i < e.length) : Con1 Tryz.prog gl 162 [MV.envM e, dint (i : Int)] [] (e.getD i .unit).thing [] := by
 refine t_in Tryz.func162 ?_
 intro X hP hgl hf hfn hn hR hids hfit
 have h0 : e.drop (i - i) = e := by simp
 have hi1 : intOK .i64 i := hfit (dint i) (by simp)
 rw [intOK_i64] at hi1
 refine t_g0 ?_
 refine t_a ?_
 refine t_sub [] @h0 (W_rounds (fun k : Nat => k ≤ i) (fun k : Nat => [(.slot 0, .one (.v (MV.envM (e.drop (i - k))))), (.slot 1, .one (.v (dint (k : Int)))), (.slot 4, .one (.v nilI))]) (fun k : Nat => k) i (Nat.le_refl i) ?_)
 intro k hk ih
 obtain ⟨v, r, hr⟩ : ∃ v r, e.drop (i - k) = v :: r := by
  cases hq : e.drop (i - k) with
  | nil => have := List.drop_eq_nil_iff.1 hq; omega
  | cons v r => exact ⟨v, r, rfl⟩
 have hE : MV.envM (e.drop (i - k)) = .ref [v.thing, MV.envM r] := by rw [hr, MV.envM]
 cases k with
 | zero =>
  have hv : (e[i]?.getD MV.unit) = v := by
   have := congrArg (fun l => l.head?) hr
   simp only [Nat.sub_zero, List.head?_drop, List.head?_cons] at this
   simp [this]
  rw [Nat.sub_zero] at hE
  refine t_rg0 ?_
  refine t_no ?_
  refine t_g @hE ?_
  refine t_r ?_
  simp [go_sem, hP, hgl, hn, hv] <;> (try omega)
 | succ k =>
  have hd : e.drop (i - k) = r := by
   have h1 : i - k = (i - (k + 1)) + 1 := by omega
   rw [h1, ← List.drop_drop, hr, List.drop_one, List.tail_cons]
  have hk0 : (0 : Int) < (k : Int) + 1 := by omega
  refine t_rg0 ?_
  refine t_yes ?_
  refine t_rg @hE ?_
  refine t_rg0 ?_
  refine t_b ?_
  refine t_sub [] @hd (ih k (by omega) (by omega))
end
section
/-
 Package machine: a run as a function (with its work), and the walk of a call.
-/
variable {gl : Globs}

def nodeS (ev : Evl) (k : Int) (l : List MV) : Option (MV × Nat) := if 3 ≤ k ∧ k ≤ 13 then nodeC ev k l else none
/-- a run to a depth: none where it would be stuck, or deeper -/
def evS : Nat → Evl
 | 0, _, _ => none
 | d + 1, t, e =>
  if t.kind = 1 then if 0 ≤ t.index ∧ t.index.toNat < e.length then some (e.getD t.index.toNat .unit, 1) else none
  else if t.kind = 2 then if t.args.length = 0 then none else some (.clo (t.argN 0) e, 1)
  else if 3 < t.args.length then none
  else match allC (evS d) t.args e with
   | none => none
   | some (l, c) => match nodeS (evS d) t.kind l with
    | none => none
    | some (v, c') => some (v, 1 + c + c')

/-! numbers up to M -/
mutual
def MV.nle (M : Nat) : MV → Prop
 | .num n => n ≤ M
 | .list l => l.length ≤ M ∧ ∀ n ∈ l, n ≤ M
 | .both a b => MV.nle M a ∧ MV.nle M b
 | .unit => True
 | .clo _ e => MV.nles M e
def MV.nles (M : Nat) : List MV → Prop
 | [] => True
 | v :: e => MV.nle M v ∧ MV.nles M e
end

/-- what is told of a work of n where most is the most -/
def outM (most n : Nat) (v : DV) : DV := if n ≤ most then .tup [v, dbool true] else .tup [nilI, dbool false]
def useM (most n : Nat) : List DV := [dint (if n ≤ most then (n : Int) else (most : Int)), dint (most : Int)]

/-- what is asked of a run, to be walked -/
def WalkM (P : Program) (gl : Globs) (fe : FuncId) (most : Nat) (ev : Evl) : Prop :=
 ∀ ⦃t : Tm⦄ ⦃e : List MV⦄ ⦃u : Nat⦄ ⦃v : MV⦄ ⦃c : Nat⦄ (b : Nat) (M : Nat), ev t e = some (v, c) → u ≤ most → M + (most - u) ≤ 1073741824 → MV.nles M e →
  Con1 P gl fe [ptr b, t.dv, MV.envM e] [(b, useM most u)] (outM most (u + c) v.thing) [(b, useM most (u + c))]
def NleM (most : Nat) (ev : Evl) : Prop :=
 ∀ ⦃t : Tm⦄ ⦃e : List MV⦄ ⦃v : MV⦄ ⦃c : Nat⦄ (M : Nat), ev t e = some (v, c) → MV.nles M e → v.nle (M + c)

theorem thing_clo (b : Tm) (e : List MV) : (MV.clo b e).thing = .iface 186 (.ref [dint b.kind, dint b.index, dint b.type.kind, .sl (b.type.args.map Ty.cells), .sl (b.args.map Tm.cells), MV.envM e]) := by
 rw [MV.thing, Tm.cells_eq]; rfl
theorem envM_cons (v : MV) (e : List MV) : MV.envM (v :: e) = .ref [v.thing, MV.envM e] := by rw [MV.envM]

mutual
theorem MV.nle_mono {M N : Nat} (h : M ≤ N) : ∀ v : MV, v.nle M → v.nle N
 | .num n, k => by simp only [MV.nle] at k ⊢; omega
 | .list l, k => by simp only [MV.nle] at k ⊢; exact ⟨Nat.le_trans k.1 h, fun n hn => Nat.le_trans (k.2 n hn) h⟩
 | .both a b, k => by simp only [MV.nle] at k ⊢; exact ⟨MV.nle_mono h a k.1, MV.nle_mono h b k.2⟩
 | .unit, _ => by simp only [MV.nle]
 | .clo b e, k => by simp only [MV.nle] at k ⊢; exact MV.nles_mono h e k
theorem MV.nles_mono {M N : Nat} (h : M ≤ N) : ∀ e : List MV, MV.nles M e → MV.nles N e
 | [], _ => by simp only [MV.nles]
 | v :: e, k => by simp only [MV.nles] at k ⊢; exact ⟨MV.nle_mono h v k.1, MV.nles_mono h e k.2⟩
end

theorem nles_get {M : Nat} : ∀ {l : List MV} {i : Nat} {a : MV}, MV.nles M l → l[i]? = some a → a.nle M
 | x :: l, 0, a, h, k => by simp only [MV.nles] at h; simp at k; rw [← k]; exact h.1
 | x :: l, i + 1, a, h, k => by simp only [MV.nles] at h; exact nles_get h.2 (by simpa using k)
theorem callM_ok {most : Nat} (hm : most ≤ 1073741824) {ev : Evl} (H : WalkM Tryz.prog gl 139 most ev) (hN : NleM most ev) {f v : MV} {l : List MV} {u c : Nat} (b M : Nat)
  (h : callC ev f l = some (v, c)) (hu : u ≤ most) (hM : M + (most - u) ≤ 1073741824) (hF : f.nle M) (hL : MV.nles M l) :
  Con1 Tryz.prog gl 140 [ptr b, f.thing, .sl (l.map fun x => [x.thing])] [(b, useM most u)] (outM most (u + c) v.thing) [(b, useM most (u + c))] := by
 refine t_in Tryz.func140 ?_
 intro X hP hgl hf hfn hn hR hids hfit
 have hl1 : (l.length : Int) ≤ 2147483648 := by have := hfit (.sl (l.map fun x => [x.thing])) (by simp); simp [DV.fit] at this; have := this.1; simp [BIG] at this; omega
 have hu0 : useM most u = [dint (u : Int), dint (most : Int)] := by unfold useM; rw [if_pos hu]
 rw [hu0]
 refine t_g0 ?_
 refine t_a ?_
 refine t_sub [] trivial (W_rounds (fun x : MV × Nat × Nat => x.2.1 ≤ l.length ∧ x.2.2 ≤ most ∧ u ≤ x.2.2 ∧ x.1.nle (M + (x.2.2 - u)) ∧ ∃ c', callC ev x.1 (l.drop x.2.1) = some (v, c') ∧ x.2.2 + c' = u + c) (fun x : MV × Nat × Nat => [(.slot 15, .one (.v (dint (x.2.1 : Int)))), (.slot 14, .one (.v (dint (l.length : Int)))), (.slot 13, .one (.v (.sl (l.map fun x => [x.thing])))), (.slot 0, .one (.v (ptr b))), (.slot 1, .one (.v x.1.thing)), (.slot 6, .one (.v nilI)), (.slot 7, .one (.v (dbool false))), (.heap  b, .row ([.v (dint (x.2.2 : Int)), .v (dint (most : Int))]))]) (fun x : MV × Nat × Nat => l.length - x.2.1) (f, 0, u) (⟨Nat.zero_le _, hu, Nat.le_refl u, by simpa using hF, c, by simpa using h, rfl⟩) ?_)
 rintro ⟨g, i, u'⟩ ⟨hi, hu', huu, hg, c', hc, hcc⟩ ih
 simp only at hi hu' huu hg hc hcc
 by_cases hil : i < l.length
 ·obtain ⟨a, ha⟩ : ∃ a, l[i]? = some a := ⟨l[i], List.getElem?_eq_getElem hil⟩
  have hd : l.drop i = a :: l.drop (i + 1) := by
   rw [List.drop_eq_getElem_cons hil]
   rw [List.getElem?_eq_getElem hil, Option.some.injEq] at ha
   rw [ha]
  rw [hd] at hc
  have hmem : a.nle M := nles_get hL ha
  cases g with
  | num n => cases hc
  | list q => cases hc
  | both p q => cases hc
  | unit => cases hc
  | clo body e =>
   simp only [callC] at hc
   split at hc
   ·cases hc
   ·rename_i v1 c1 hv1
    split at hc
    ·cases hc
    ·rename_i w c2 hw
     simp only [Option.some.injEq, Prod.mk.injEq] at hc
     obtain ⟨rfl, rfl⟩ := hc
     simp only [MV.nle] at hg
     have hes : MV.nles (M + (u' - u)) (a :: e) := by simp only [MV.nles]; exact ⟨MV.nle_mono (by omega) _ hmem, hg⟩
     have W1 := H b (M + (u' - u)) hv1 hu' (by omega) hes
     have hN1 := hN (M + (u' - u)) hv1 hes
     have hth := thing_clo body e
     have hT := Tm.fold body
     have hu1 : useM most u' = [dint (u' : Int), dint (most : Int)] := by unfold useM; rw [if_pos hu']
     rw [hu1, envM_cons] at W1
     have hgi : (l.map fun x => [x.thing])[i]? = some [a.thing] := by rw [List.getElem?_map, ha]; rfl
     rw [hth]
     generalize l.map (fun x => [x.thing]) = L at *
     refine t_rg0 ?_
     refine t_yes ?_
     refine t_rg @hgi ?_
     refine t_rg0 ?_
     refine t_a ?_
     refine W_regd (by rw [hP]; exact mixed) [33] fun K hK => ?_
     simp [go_sem, hP, hgl, hn, hT]
     refine vcdC_boxR (cs := [a.thing, MV.envM e]) (y := .ag [a.thing, MV.envM e] []) (fun _ _ => vcd_sound) (by simp [go_sem, hP, hgl, hn]) (by simp [go_sem]) (by simp [go_sem]) (by rw [hn]; exact Nat.le_of_ble_eq_true rfl) (by rfl) ?_
     simp [go_sem, hP, hgl, hn]
     by_cases hfit1 : u' + c1 ≤ most
     ·have o1 : outM most (u' + c1) v1.thing = .tup [v1.thing, dbool true] := by unfold outM; rw [if_pos hfit1]
      have o2 : useM most (u' + c1) = [dint ((u' + c1 : Nat) : Int), dint (most : Int)] := by unfold useM; rw [if_pos hfit1]
      rw [o1, o2] at W1
      refine t_c trivial (W1) ?_
      refine t_e ?_
      clear hK K
      refine t_rg0 ?_
      refine t_no ?_
      refine t_rg0 ?_
      refine t_rg0 ?_
      have a1 : i + 1 ≤ l.length := by omega
      have a2 : u ≤ u' + c1 := by omega
      have a3 : M + (u' - u) + c1 ≤ M + (u' + c1 - u) := by omega
      have a4 : u' + c1 + c2 = u + c := by omega
      have a5 : l.length - (i + 1) < l.length - i := by omega
      refine t_b ?_
      refine t_sub [] trivial (ih (v1, i + 1, u' + c1) ⟨a1, hfit1, a2, MV.nle_mono a3 _ hN1, c2, hw, a4⟩ a5)
     ·have o1 : outM most (u' + c1) v1.thing = .tup [nilI, dbool false] := by unfold outM; rw [if_neg hfit1]
      have o2 : useM most (u' + c1) = [dint (most : Int), dint (most : Int)] := by unfold useM; rw [if_neg hfit1]
      have hbig : ¬ u + c ≤ most := by omega
      have o3 : outM most (u + c) w.thing = .tup [nilI, dbool false] := by unfold outM; rw [if_neg hbig]
      have o4 : useM most (u + c) = [dint (most : Int), dint (most : Int)] := by unfold useM; rw [if_neg hbig]
      rw [o3, o4] at hR
      rw [o1, o2] at W1
      refine t_c trivial (W1) ?_
      refine t_e ?_
      clear hK K
      refine t_rg0 ?_
      refine t_yes ?_
      refine t_rg0 ?_
      refine t_ro [(b, [dint (most : Int), dint (most : Int)])] trivial ?_
      try simp
      try all_goals exact t_f
 ·have hd : l.drop i = [] := List.drop_eq_nil_iff.2 (by omega)
  have hii : i = l.length := by omega
  subst hii
  rw [hd] at hc
  have hc0 : callC ev g [] = some (g, 0) := by cases g <;> rfl
  rw [hc0] at hc
  simp only [Option.some.injEq, Prod.mk.injEq] at hc
  obtain ⟨rfl, rfl⟩ := hc
  have hsm : u + c ≤ most := by omega
  have o3 : outM most (u + c) g.thing = .tup [g.thing, dbool true] := by unfold outM; rw [if_pos hsm]
  have o4 : useM most (u + c) = [dint (u' : Int), dint (most : Int)] := by unfold useM; rw [if_pos hsm]; rw [← hcc]; simp
  rw [o3, o4] at hR
  refine t_rg0 ?_
  refine t_no ?_
  refine t_rg0 ?_
  refine t_ro [(b, [dint (u' : Int), dint (most : Int)])] trivial ?_
  try simp
  try all_goals exact t_f
end
section
/-
 Plain law: how large the numbers of a run get; more depth changes nothing.
-/
theorem nle_call {most : Nat} {ev : Evl} (hN : NleM most ev) : ∀ {l : List MV} {f v : MV} {c M : Nat}, callC ev f l = some (v, c) → f.nle M → MV.nles M l → v.nle (M + c)
 | [], f, v, c, M, h, hf, hl => by
  have : callC ev f [] = some (f, 0) := by cases f <;> rfl
  rw [this] at h
  simp only [Option.some.injEq, Prod.mk.injEq] at h
  obtain ⟨rfl, rfl⟩ := h
  exact hf
 | a :: l, f, v, c, M, h, hf, hl => by
  cases f with
  | num n => cases h
  | list q => cases h
  | both p q => cases h
  | unit => cases h
  | clo body e =>
   simp only [callC] at h
   split at h
   ·cases h
   rename_i v1 c1 hv1
   split at h
   ·cases h
   rename_i w c2 hw
   simp only [Option.some.injEq, Prod.mk.injEq] at h
   obtain ⟨rfl, rfl⟩ := h
   simp only [MV.nle] at hf
   simp only [MV.nles] at hl
   have k := hN M hv1 (by simp only [MV.nles]; exact ⟨hl.1, hf⟩)
   have := nle_call hN hw k (MV.nles_mono (by omega) _ hl.2)
   rw [Nat.add_assoc] at this
   exact this
theorem nle_rec {most : Nat} {ev : Evl} (hN : NleM most ev) {f : MV} : ∀ {n k : Nat} {r v : MV} {c M : Nat}, recC ev f n k r = some (v, c) → f.nle M → r.nle M → k + n ≤ M → v.nle (M + c)
 | 0, k, r, v, c, M, h, hf, hr, hk => by
  simp only [recC, Option.some.injEq, Prod.mk.injEq] at h
  obtain ⟨rfl, rfl⟩ := h
  exact hr
 | n + 1, k, r, v, c, M, h, hf, hr, hk => by
  simp only [recC] at h
  split at h
  ·cases h
  rename_i v1 c1 hv1
  split at h
  ·cases h
  rename_i w c2 hw
  simp only [Option.some.injEq, Prod.mk.injEq] at h
  obtain ⟨rfl, rfl⟩ := h
  have k1 := nle_call hN hv1 hf (by simp only [MV.nles, MV.nle]; exact ⟨by omega, hr, trivial⟩)
  have := nle_rec hN hw (MV.nle_mono (by omega) _ hf) k1 (by omega)
  rw [Nat.add_assoc] at this
  exact this
theorem nle_fold {most : Nat} {ev : Evl} (hN : NleM most ev) {f r : MV} : ∀ {l : List Nat} {v : MV} {c M : Nat}, foldC ev f r l = some (v, c) → f.nle M → r.nle M → (l.length ≤ M ∧ ∀ n ∈ l, n ≤ M) → v.nle (M + c)
 | [], v, c, M, h, hf, hr, hl => by
  simp only [foldC, Option.some.injEq, Prod.mk.injEq] at h
  obtain ⟨rfl, rfl⟩ := h
  exact hr
 | x :: l, v, c, M, h, hf, hr, hl => by
  simp only [foldC] at h
  split at h
  ·cases h
  rename_i v1 c1 hv1
  split at h
  ·cases h
  rename_i w c2 hw
  simp only [Option.some.injEq, Prod.mk.injEq] at h
  obtain ⟨rfl, rfl⟩ := h
  have hl1 : l.length + 1 ≤ M := by simpa using hl.1
  have k1 := nle_fold hN hv1 hf hr ⟨by omega, fun n hn => hl.2 n (List.mem_cons_of_mem _ hn)⟩
  have hx : x ≤ M := hl.2 x (by simp)
  have k2 := nle_call hN hw (MV.nle_mono (show M ≤ M + c1 by omega) _ hf) (by
   simp only [MV.nles, MV.nle]
   exact ⟨by omega, ⟨by omega, fun n hn => Nat.le_trans (hl.2 n (List.mem_cons_of_mem _ hn)) (by omega)⟩, k1, trivial⟩)
  rw [Nat.add_assoc] at k2
  exact k2
theorem nle_all {most : Nat} {ev : Evl} (hN : NleM most ev) {e : List MV} : ∀ {l : List Tm} {vs : List MV} {c M : Nat}, allC ev l e = some (vs, c) → MV.nles M e → MV.nles (M + c) vs
 | [], vs, c, M, h, he => by
  simp only [allC, Option.some.injEq, Prod.mk.injEq] at h
  obtain ⟨rfl, rfl⟩ := h
  simp only [MV.nles]
 | t :: l, vs, c, M, h, he => by
  simp only [allC] at h
  split at h
  ·cases h
  rename_i v1 c1 hv1
  split at h
  ·cases h
  rename_i w c2 hw
  simp only [Option.some.injEq, Prod.mk.injEq] at h
  obtain ⟨rfl, rfl⟩ := h
  simp only [MV.nles]
  exact ⟨MV.nle_mono (by omega) _ (hN M hv1 he), MV.nles_mono (by omega) _ (nle_all hN hw he)⟩
theorem nle_node {most : Nat} {ev : Evl} (hN : NleM most ev) {k : Int} {l : List MV} {v : MV} {c M : Nat} (h : nodeC ev k l = some (v, c)) (hl : MV.nles M l) : v.nle (M + 1 + c) := by
 unfold nodeC at h
 repeat' split at h
 all_goals first
  | (cases h; done)
  | skip
 all_goals try simp only [MV.nles, MV.nle] at hl
 ·exact nle_call hN h (MV.nle_mono (by omega) _ hl.1) (by simp only [MV.nles]; exact ⟨MV.nle_mono (by omega) _ hl.2.1, trivial⟩)
 ·simp only [Option.some.injEq, Prod.mk.injEq] at h
  obtain ⟨rfl, rfl⟩ := h
  simp only [MV.nle]; omega
 ·simp only [Option.some.injEq, Prod.mk.injEq] at h
  obtain ⟨rfl, rfl⟩ := h
  simp only [MV.nle]; omega
 ·exact nle_rec hN h (MV.nle_mono (by omega) _ hl.2.1) (MV.nle_mono (by omega) _ hl.1) (by omega)
 ·simp only [Option.some.injEq, Prod.mk.injEq] at h
  obtain ⟨rfl, rfl⟩ := h
  simp only [MV.nle]; simp
 ·simp only [Option.some.injEq, Prod.mk.injEq] at h
  obtain ⟨rfl, rfl⟩ := h
  simp only [MV.nle, List.mem_cons, List.length_cons]
  refine ⟨by omega, ?_⟩
  rintro n (rfl | hn)
  ·omega
  ·exact Nat.le_trans (hl.2.1.2 n hn) (by omega)
 ·exact nle_fold hN h (MV.nle_mono (by omega) _ hl.2.1) (MV.nle_mono (by omega) _ hl.1) ⟨by omega, fun n hn => Nat.le_trans (hl.2.2.1.2 n hn) (by omega)⟩
 ·simp only [Option.some.injEq, Prod.mk.injEq] at h
  obtain ⟨rfl, rfl⟩ := h
  simp only [MV.nle]
  exact ⟨MV.nle_mono (by omega) _ hl.1, MV.nle_mono (by omega) _ hl.2.1⟩
 ·simp only [Option.some.injEq, Prod.mk.injEq] at h
  obtain ⟨rfl, rfl⟩ := h
  exact MV.nle_mono (by omega) _ hl.1.1
 ·simp only [Option.some.injEq, Prod.mk.injEq] at h
  obtain ⟨rfl, rfl⟩ := h
  exact MV.nle_mono (by omega) _ hl.1.2
 ·simp only [Option.some.injEq, Prod.mk.injEq] at h
  obtain ⟨rfl, rfl⟩ := h
  simp only [MV.nle]
theorem nle_evS (most : Nat) : ∀ d, NleM most (evS d)
 | 0, t, e, v, c, M, h, he => by cases h
 | d + 1, t, e, v, c, M, h, he => by
  have hN := nle_evS most d
  rw [evS] at h
  split at h
  ·split at h
   ·rename_i hi
    simp only [Option.some.injEq, Prod.mk.injEq] at h
    obtain ⟨rfl, rfl⟩ := h
    have hg : e[t.index.toNat]? = some (e.getD t.index.toNat .unit) := by simp [List.getD, List.getElem?_eq_getElem hi.2]
    exact MV.nle_mono (by omega) _ (nles_get he hg)
   ·cases h
  split at h
  ·split at h
   ·cases h
   ·simp only [Option.some.injEq, Prod.mk.injEq] at h
    obtain ⟨rfl, rfl⟩ := h
    simp only [MV.nle]
    exact MV.nles_mono (by omega) _ he
  split at h
  ·cases h
  split at h
  ·cases h
  rename_i l c1 hl
  split at h
  ·cases h
  rename_i w c2 hw
  simp only [Option.some.injEq, Prod.mk.injEq] at h
  obtain ⟨rfl, rfl⟩ := h
  unfold nodeS at hw
  split at hw
  ·have := nle_node hN hw (nle_all hN hl he)
   exact MV.nle_mono (by omega) _ this
  ·cases hw
end
section
/-
 Plain law of ticks: the machine's run with its work and its ticks.
-/
abbrev EvB := Tm → List MV → Option (MV × Nat × Nat)
def allB (ev : EvB) : List Tm → List MV → Option (List MV × Nat × Nat)
 | [], _ => some ([], 0, 0)
 | x :: r, e => match ev x e with
  | none => none
  | some (v, c, k) => match allB ev r e with
   | none => none
   | some (l, c', k') => some (v :: l, c + c', k + k')
def callB (ev : EvB) : MV → MV → Option (MV × Nat × Nat)
 | .clo b e, x => ev b (x :: e)
 | _, _ => none
def recB (ev : EvB) (f : MV) : Nat → Nat → MV → Option (MV × Nat × Nat)
 | 0, _, r => some (r, 0, 0)
 | n + 1, k, r => match callB ev f (.num k) with
  | none => none
  | some (g, c1, k1) => match callB ev g r with
   | none => none
   | some (r', c2, k2) => match recB ev f n (k + 1) r' with
    | none => none
    | some (w, c3, k3) => some (w, c1 + c2 + c3, 1 + k1 + k2 + k3)
def foldB (ev : EvB) (f r : MV) : List Nat → Option (MV × Nat × Nat)
 | [] => some (r, 0, 0)
 | x :: l => match foldB ev f r l with
  | none => none
  | some (r', c0, k0) => match callB ev f (.num x) with
   | none => none
   | some (g, c1, k1) => match callB ev g (.list l) with
    | none => none
    | some (h, c2, k2) => match callB ev h r' with
     | none => none
     | some (w, c3, k3) => some (w, c0 + (c1 + c2 + c3), k0 + 1 + k1 + k2 + k3)
def nodeB (ev : EvB) (k : Int) (l : List MV) : Option (MV × Nat × Nat) :=
 if k = 3 then match l with
  | [f, x] => (callB ev f x).map fun r => (r.1, r.2.1, 1 + r.2.2)
  | _ => none
 else if k = 4 then some (.num 0, 0, 0)
 else if k = 5 then match l with
  | [.num n] => some (.num (n + 1), 0, 0)
  | _ => none
 else if k = 6 then match l with
  | [b, f, .num n] => recB ev f n 0 b
  | _ => none
 else if k = 7 then some (.list [], 0, 0)
 else if k = 8 then match l with
  | [.num n, .list m] => some (.list (n :: m), 0, 0)
  | _ => none
 else if k = 9 then match l with
  | [b, f, .list m] => foldB ev f b m
  | _ => none
 else if k = 10 then match l with
  | [x, y] => some (.both x y, 0, 0)
  | _ => none
 else if k = 11 then match l with
  | [.both x _] => some (x, 0, 0)
  | _ => none
 else if k = 12 then match l with
  | [.both _ y] => some (y, 0, 0)
  | _ => none
 else if k = 13 then some (.unit, 0, 0)
 else none
def evB : Nat → EvB
 | 0, _, _ => none
 | d + 1, t, e =>
  if t.kind = 1 then if 0 ≤ t.index ∧ t.index.toNat < e.length then some (e.getD t.index.toNat .unit, 1, 0) else none
  else if t.kind = 2 then if t.args.length = 0 then none else some (.clo (t.argN 0) e, 1, 0)
  else if 3 < t.args.length then none
  else match allB (evB d) t.args e with
   | none => none
   | some (l, c, k) => (nodeB (evB d) t.kind l).map fun r => (r.1, 1 + c + r.2.1, k + r.2.2)

/-- value and work -/
def vw {α : Type} (r : α × Nat × Nat) : α × Nat := (r.1, r.2.1)
/-- the run with ticks is the run -/
def Same (b : EvB) (s : Evl) : Prop := ∀ t e, (b t e).map vw = s t e
theorem same_all {b : EvB} {s : Evl} (h : Same b s) : ∀ (l : List Tm) (e : List MV), (allB b l e).map vw = allC s l e
 | [], _ => rfl
 | x :: r, e => by
  have ih := same_all h r e
  have h1 := h x e
  simp only [allB, allC]
  rw [← h1, ← ih]
  cases b x e with
  | none => rfl
  | some q =>
   cases allB b r e with
   | none => rfl
   | some q' => rfl
theorem callC_nil (s : Evl) (v : MV) : callC s v [] = some (v, 0) := by cases v <;> rfl
theorem same_call {b : EvB} {s : Evl} (h : Same b s) (f x : MV) : (callB b f x).map vw = callC s f [x] := by
 cases f with
 | clo t e =>
  simp only [callB, callC]
  rw [← h t (x :: e)]
  cases b t (x :: e) with
  | none => rfl
  | some q => simp only [Option.map_some, vw, callC_nil, Nat.add_zero]
 | _ => rfl
theorem callC_cons (s : Evl) (f x : MV) (l : List MV) : callC s f (x :: l) = (callC s f [x]).bind fun q => (callC s q.1 l).map fun q' => (q'.1, q.2 + q'.2) := by
 cases f with
 | clo t e =>
  simp only [callC]
  cases s t (x :: e) with
  | none => rfl
  | some q =>
   obtain ⟨v, c⟩ := q
   simp only [callC_nil, Option.bind_some, Nat.add_zero]
   cases callC s v l with
   | none => rfl
   | some q' => rfl
 | _ => rfl
theorem same_rec {b : EvB} {s : Evl} (h : Same b s) (f : MV) : ∀ (n k : Nat) (r : MV), (recB b f n k r).map vw = recC s f n k r
 | 0, _, _ => rfl
 | n + 1, k, r => by
  simp only [recB, recC]
  rw [callC_cons, ← same_call h]
  cases callB b f (.num k) with
  | none => rfl
  | some q =>
   obtain ⟨g, c1, k1⟩ := q
   simp only [Option.map_some, vw, Option.bind_some]
   rw [← same_call h]
   cases callB b g r with
   | none => rfl
   | some q' =>
    obtain ⟨r', c2, k2⟩ := q'
    simp only [Option.map_some, vw]
    rw [← same_rec h f n (k + 1) r']
    cases recB b f n (k + 1) r' with
    | none => rfl
    | some q'' => rfl
theorem same_fold {b : EvB} {s : Evl} (h : Same b s) (f r : MV) : ∀ (l : List Nat), (foldB b f r l).map vw = foldC s f r l
 | [] => rfl
 | x :: l => by
  simp only [foldB, foldC]
  rw [← same_fold h f r l]
  cases foldB b f r l with
  | none => rfl
  | some q0 =>
   obtain ⟨r', c0, k0⟩ := q0
   simp only [Option.map_some, vw]
   rw [callC_cons, ← same_call h]
   cases callB b f (.num x) with
   | none => rfl
   | some q =>
    obtain ⟨g, c1, k1⟩ := q
    simp only [Option.map_some, vw, Option.bind_some]
    rw [callC_cons, ← same_call h]
    cases callB b g (.list l) with
    | none => rfl
    | some q' =>
     obtain ⟨h', c2, k2⟩ := q'
     simp only [Option.map_some, vw, Option.bind_some]
     rw [← same_call h]
     cases callB b h' r' with
     | none => rfl
     | some q'' =>
      simp only [Option.map_some, vw, Nat.add_assoc]
theorem same_node {b : EvB} {s : Evl} (h : Same b s) (k : Int) (l : List MV) : (nodeB b k l).map vw = nodeS s k l := by
 unfold nodeS nodeC nodeB
 by_cases h3 : k = 3
 ·subst h3
  simp only [if_true, show (3 : Int) ≤ 3 ∧ (3 : Int) ≤ 13 from by omega, and_self]
  split
  ·rename_i f x
   show Option.map vw (Option.map _ (callB b f x)) = callC s f [x]
   rw [← same_call h]
   cases callB b f x <;> rfl
  ·rename_i hn
   first | rfl | (split <;> first | rfl | (rename_i f x; exact absurd rfl (hn f x)))
 by_cases h4 : k = 4
 ·subst h4; rfl
 by_cases h5 : k = 5
 ·subst h5
  simp only [show ¬ (5 : Int) = 3 from by omega, show ¬ (5 : Int) = 4 from by omega, if_false, if_true, show (3 : Int) ≤ 5 ∧ (5 : Int) ≤ 13 from by omega, and_self]
  split
  ·rfl
  ·rename_i hn
   first | rfl | (split <;> first | rfl | (rename_i n; exact absurd rfl (hn n)))
 by_cases h6 : k = 6
 ·subst h6
  simp only [show ¬ (6 : Int) = 3 from by omega, show ¬ (6 : Int) = 4 from by omega, show ¬ (6 : Int) = 5 from by omega, if_false, if_true, show (3 : Int) ≤ 6 ∧ (6 : Int) ≤ 13 from by omega, and_self]
  split
  ·exact same_rec h _ _ _ _
  ·rename_i hn
   first | rfl | (split <;> first | rfl | (rename_i x f n; exact absurd rfl (hn x f n)))
 by_cases h7 : k = 7
 ·subst h7; rfl
 by_cases h8 : k = 8
 ·subst h8
  simp only [show ¬ (8 : Int) = 3 from by omega, show ¬ (8 : Int) = 4 from by omega, show ¬ (8 : Int) = 5 from by omega, show ¬ (8 : Int) = 6 from by omega, show ¬ (8 : Int) = 7 from by omega, if_false, if_true, show (3 : Int) ≤ 8 ∧ (8 : Int) ≤ 13 from by omega, and_self]
  split
  ·rfl
  ·rename_i hn
   first | rfl | (split <;> first | rfl | (rename_i n m; exact absurd rfl (hn n m)))
 by_cases h9 : k = 9
 ·subst h9
  simp only [show ¬ (9 : Int) = 3 from by omega, show ¬ (9 : Int) = 4 from by omega, show ¬ (9 : Int) = 5 from by omega, show ¬ (9 : Int) = 6 from by omega, show ¬ (9 : Int) = 7 from by omega, show ¬ (9 : Int) = 8 from by omega, if_false, if_true, show (3 : Int) ≤ 9 ∧ (9 : Int) ≤ 13 from by omega, and_self]
  split
  ·exact same_fold h _ _ _
  ·rename_i hn
   first | rfl | (split <;> first | rfl | (rename_i x f n; exact absurd rfl (hn x f n)))
 by_cases h10 : k = 10
 ·subst h10
  simp only [show ¬ (10 : Int) = 3 from by omega, show ¬ (10 : Int) = 4 from by omega, show ¬ (10 : Int) = 5 from by omega, show ¬ (10 : Int) = 6 from by omega, show ¬ (10 : Int) = 7 from by omega, show ¬ (10 : Int) = 8 from by omega, show ¬ (10 : Int) = 9 from by omega, if_false, if_true, show (3 : Int) ≤ 10 ∧ (10 : Int) ≤ 13 from by omega, and_self]
  split
  ·rfl
  ·rename_i hn
   first | rfl | (split <;> first | rfl | (rename_i x y; exact absurd rfl (hn x y)))
 by_cases h11 : k = 11
 ·subst h11
  simp only [show ¬ (11 : Int) = 3 from by omega, show ¬ (11 : Int) = 4 from by omega, show ¬ (11 : Int) = 5 from by omega, show ¬ (11 : Int) = 6 from by omega, show ¬ (11 : Int) = 7 from by omega, show ¬ (11 : Int) = 8 from by omega, show ¬ (11 : Int) = 9 from by omega, show ¬ (11 : Int) = 10 from by omega, if_false, if_true, show (3 : Int) ≤ 11 ∧ (11 : Int) ≤ 13 from by omega, and_self]
  split
  ·rfl
  ·rename_i hn
   first | rfl | (split <;> first | rfl | (rename_i x y; exact absurd rfl (hn x y)))
 by_cases h12 : k = 12
 ·subst h12
  simp only [show ¬ (12 : Int) = 3 from by omega, show ¬ (12 : Int) = 4 from by omega, show ¬ (12 : Int) = 5 from by omega, show ¬ (12 : Int) = 6 from by omega, show ¬ (12 : Int) = 7 from by omega, show ¬ (12 : Int) = 8 from by omega, show ¬ (12 : Int) = 9 from by omega, show ¬ (12 : Int) = 10 from by omega, show ¬ (12 : Int) = 11 from by omega, if_false, if_true, show (3 : Int) ≤ 12 ∧ (12 : Int) ≤ 13 from by omega, and_self]
  split
  ·rfl
  ·rename_i hn
   first | rfl | (split <;> first | rfl | (rename_i x y; exact absurd rfl (hn x y)))
 by_cases h13 : k = 13
 ·subst h13; rfl
 simp only [h3, h4, h5, h6, h7, h8, h9, h10, h11, h12, h13, if_false]
 rw [if_neg (by omega)]
 rfl
theorem same_ev : ∀ d, Same (evB d) (evS d)
 | 0 => fun t e => rfl
 | d + 1 => fun t e => by
  have ih := same_ev d
  rw [evB, evS]
  by_cases h1 : t.kind = 1
  ·rw [if_pos h1, if_pos h1]; split <;> rfl
  rw [if_neg h1, if_neg h1]
  by_cases h2 : t.kind = 2
  ·rw [if_pos h2, if_pos h2]; split <;> rfl
  rw [if_neg h2, if_neg h2]
  by_cases h3 : 3 < t.args.length
  ·rw [if_pos h3, if_pos h3]; rfl
  rw [if_neg h3, if_neg h3, ← same_all ih]
  cases allB (evB d) t.args e with
  | none => rfl
  | some q =>
   obtain ⟨l, c, k⟩ := q
   simp only [Option.map_some, vw]
   rw [← same_node ih]
   cases nodeB (evB d) t.kind l with
   | none => rfl
   | some q' => rfl
theorem evS_of {d : Nat} {t : Tm} {e : List MV} {v : MV} {c k : Nat} (h : evB d t e = some (v, c, k)) : evS d t e = some (v, c) := by
 rw [← same_ev d, h]; rfl

/-! ticks are no more than the work -/
def Few (b : EvB) : Prop := ∀ t e v c k, b t e = some (v, c, k) → k < c
theorem few_all {b : EvB} (h : Few b) : ∀ {l : List Tm} {e : List MV} {v : List MV} {c k : Nat}, allB b l e = some (v, c, k) → k + l.length ≤ c
 | [], _, _, _, _, hr => by simp only [allB] at hr; cases hr; exact Nat.le_refl _
 | x :: r, e, v, c, k, hr => by
  simp only [allB] at hr
  split at hr
  ·cases hr
  rename_i v1 c1 k1 h1
  split at hr
  ·cases hr
  rename_i l2 c2 k2 h2
  cases hr
  have := h _ _ _ _ _ h1
  have := few_all h h2
  simp only [List.length_cons]; omega
theorem few_call {b : EvB} (h : Few b) {f x v : MV} {c k : Nat} (hr : callB b f x = some (v, c, k)) : k < c := by
 cases f with
 | clo t e => exact h _ _ _ _ _ hr
 | _ => cases hr
theorem few_rec {b : EvB} (h : Few b) {f : MV} : ∀ {n i : Nat} {r v : MV} {c k : Nat}, recB b f n i r = some (v, c, k) → k ≤ c
 | 0, _, _, _, _, _, hr => by simp only [recB] at hr; cases hr; exact Nat.le_refl _
 | n + 1, i, r, v, c, k, hr => by
  simp only [recB] at hr
  split at hr
  ·cases hr
  rename_i g c1 k1 h1
  split at hr
  ·cases hr
  rename_i r' c2 k2 h2
  split at hr
  ·cases hr
  rename_i w c3 k3 h3
  cases hr
  have := few_call h h1
  have := few_call h h2
  have := few_rec h h3
  omega
theorem few_fold {b : EvB} (h : Few b) {f r : MV} : ∀ {l : List Nat} {v : MV} {c k : Nat}, foldB b f r l = some (v, c, k) → k ≤ c
 | [], _, _, _, hr => by simp only [foldB] at hr; cases hr; exact Nat.le_refl _
 | x :: l, v, c, k, hr => by
  simp only [foldB] at hr
  split at hr
  ·cases hr
  rename_i r' c0 k0 h0
  split at hr
  ·cases hr
  rename_i g c1 k1 h1
  split at hr
  ·cases hr
  rename_i h' c2 k2 h2
  split at hr
  ·cases hr
  rename_i w c3 k3 h3
  cases hr
  have := few_fold h h0
  have := few_call h h1
  have := few_call h h2
  have := few_call h h3
  omega
theorem few_node {b : EvB} (h : Few b) {i : Int} {l : List MV} {v : MV} {c k : Nat} (hr : nodeB b i l = some (v, c, k)) : k ≤ c := by
 unfold nodeB at hr
 split at hr
 ·split at hr
  ·obtain ⟨⟨v', c', k'⟩, h1, h2⟩ := Option.map_eq_some_iff.1 hr
   cases h2
   have := few_call h h1
   simp only; omega
  ·cases hr
 repeat' split at hr
 all_goals first | (cases hr; done) | exact few_rec h hr | exact few_fold h hr | (cases hr; exact Nat.le_refl _)
theorem few_ev : ∀ d, Few (evB d)
 | 0 => fun t e v c k h => by cases h
 | d + 1 => fun t e v c k h => by
  rw [evB] at h
  split at h
  ·split at h
   ·cases h; omega
   ·cases h
  split at h
  ·split at h
   ·cases h
   ·cases h; omega
  split at h
  ·cases h
  split at h
  ·cases h
  rename_i l c1 k1 h1
  obtain ⟨⟨v', c', k'⟩, h2, h3⟩ := Option.map_eq_some_iff.1 h
  cases h3
  have := few_all (few_ev d) h1
  have := few_node (few_ev d) h2
  simp only; omega

/-! the run that counts ticks only -/
mutual
def MV.wv : MV → WV
 | .num n => .num n
 | .list l => .list l
 | .both a b => .pair a.wv b.wv
 | .unit => .unit
 | .clo b e => .fn b (MV.wvs e)
def MV.wvs : List MV → List WV
 | [] => []
 | v :: e => v.wv :: MV.wvs e
end
theorem wvs_map (e : List MV) : MV.wvs e = e.map MV.wv := by
 induction e with
 | nil => rfl
 | cons v e ih => simp only [MV.wvs, List.map_cons, ih]
def wk (r : MV × Nat × Nat) : WV × Nat := (r.1.wv, r.2.2)
/-- where both runs end, they agree -/
def Agree (b : EvB) (e : EvK) : Prop := ∀ t l r r', b t l = some r → e t (MV.wvs l) = some r' → r' = wk r
theorem ag_all {b : EvB} {ev : EvK} (h : Agree b ev) : ∀ {l : List Tm} {e : List MV} {r : List MV × Nat × Nat} {r' : List WV × Nat}, allB b l e = some r → allK ev l (MV.wvs e) = some r' → r' = (MV.wvs r.1, r.2.2)
 | [], _, _, _, h1, h2 => by simp only [allB, allK] at h1 h2; cases h1; cases h2; rfl
 | x :: l, e, r, r', h1, h2 => by
  simp only [allB, allK] at h1 h2
  split at h1
  ·cases h1
  rename_i v1 c1 k1 h3
  split at h1
  ·cases h1
  rename_i l2 c2 k2 h4
  split at h2
  ·cases h2
  rename_i v1' k1' h5
  split at h2
  ·cases h2
  rename_i l2' k2' h6
  cases h1; cases h2
  cases h _ _ _ _ h3 h5
  cases ag_all h h4 h6
  rfl
theorem ag_call {b : EvB} {ev : EvK} (h : Agree b ev) {f x : MV} {r : MV × Nat × Nat} {r' : WV × Nat} (h1 : callB b f x = some r) (h2 : callK ev f.wv x.wv = some r') : r' = wk r := by
 cases f with
 | clo t e => exact h t (x :: e) r r' h1 h2
 | _ => cases h1
theorem ag_rec {b : EvB} {ev : EvK} (h : Agree b ev) {f : MV} : ∀ {n i : Nat} {x : MV} {r : MV × Nat × Nat} {r' : WV × Nat}, recB b f n i x = some r → recK ev f.wv n i x.wv = some r' → r' = wk r
 | 0, _, _, _, _, h1, h2 => by simp only [recB, recK] at h1 h2; cases h1; cases h2; rfl
 | n + 1, i, x, r, r', h1, h2 => by
  simp only [recB, recK] at h1 h2
  split at h1
  ·cases h1
  rename_i g c1 k1 e1
  split at h1
  ·cases h1
  rename_i y c2 k2 e2
  split at h1
  ·cases h1
  rename_i w c3 k3 e3
  split at h2
  ·cases h2
  rename_i g' k1' e4
  cases ag_call h (x := .num i) e1 e4
  split at h2
  ·cases h2
  rename_i y' k2' e5
  cases ag_call h e2 e5
  split at h2
  ·cases h2
  rename_i w' k3' e6
  cases ag_rec h e3 e6
  cases h1; cases h2
  rfl
theorem ag_fold {b : EvB} {ev : EvK} (h : Agree b ev) {f x : MV} : ∀ {l : List Nat} {r : MV × Nat × Nat} {r' : WV × Nat}, foldB b f x l = some r → foldK ev f.wv x.wv l = some r' → r' = wk r
 | [], _, _, h1, h2 => by simp only [foldB, foldK] at h1 h2; cases h1; cases h2; rfl
 | y :: l, r, r', h1, h2 => by
  simp only [foldB, foldK] at h1 h2
  split at h1
  ·cases h1
  rename_i x0 c0 k0 e0
  split at h1
  ·cases h1
  rename_i g c1 k1 e1
  split at h1
  ·cases h1
  rename_i h' c2 k2 e2
  split at h1
  ·cases h1
  rename_i w c3 k3 e3
  split at h2
  ·cases h2
  rename_i x0' k0' e4
  cases ag_fold h e0 e4
  split at h2
  ·cases h2
  rename_i g' k1' e5
  cases ag_call h (x := .num y) e1 e5
  split at h2
  ·cases h2
  rename_i h'' k2' e6
  cases ag_call h (x := .list l) e2 e6
  split at h2
  ·cases h2
  rename_i w' k3' e7
  cases ag_call h e3 e7
  cases h1; cases h2
  rfl
theorem ag_node {b : EvB} {ev : EvK} (h : Agree b ev) {k : Int} {l : List MV} {r : MV × Nat × Nat} {r' : WV × Nat} (h1 : nodeB b k l = some r) (h2 : nodeK ev k (MV.wvs l) = some r') : r' = wk r := by
 unfold nodeB at h1
 unfold nodeK at h2
 by_cases h3 : k = 3
 ·rw [if_pos h3] at h1 h2
  split at h1
  ·rename_i f x
   obtain ⟨q, e1, rfl⟩ := Option.map_eq_some_iff.1 h1
   obtain ⟨q', e2, rfl⟩ := Option.map_eq_some_iff.1 h2
   cases ag_call h e1 e2
   rfl
  ·cases h1
 rw [if_neg h3] at h1 h2
 by_cases h4 : k = 4
 ·rw [if_pos h4] at h1 h2
  cases h1
  split at h2
  ·cases h2; rfl
  ·cases h2
 rw [if_neg h4] at h1 h2
 by_cases h5 : k = 5
 ·rw [if_pos h5] at h1 h2
  split at h1
  ·cases h1; cases h2; rfl
  ·cases h1
 rw [if_neg h5] at h1 h2
 by_cases h6 : k = 6
 ·rw [if_pos h6] at h1 h2
  split at h1
  ·exact ag_rec h h1 h2
  ·cases h1
 rw [if_neg h6] at h1 h2
 by_cases h7 : k = 7
 ·rw [if_pos h7] at h1 h2
  cases h1
  split at h2
  ·cases h2; rfl
  ·cases h2
 rw [if_neg h7] at h1 h2
 by_cases h8 : k = 8
 ·rw [if_pos h8] at h1 h2
  split at h1
  ·cases h1; cases h2; rfl
  ·cases h1
 rw [if_neg h8] at h1 h2
 by_cases h9 : k = 9
 ·rw [if_pos h9] at h1 h2
  split at h1
  ·exact ag_fold h h1 h2
  ·cases h1
 rw [if_neg h9] at h1 h2
 by_cases h10 : k = 10
 ·rw [if_pos h10] at h1 h2
  split at h1
  ·cases h1; cases h2; rfl
  ·cases h1
 rw [if_neg h10] at h1 h2
 by_cases h11 : k = 11
 ·rw [if_pos h11] at h1 h2
  split at h1
  ·cases h1; cases h2; rfl
  ·cases h1
 rw [if_neg h11] at h1 h2
 by_cases h12 : k = 12
 ·rw [if_pos h12] at h1 h2
  split at h1
  ·cases h1; cases h2; rfl
  ·cases h1
 rw [if_neg h12] at h1 h2
 by_cases h13 : k = 13
 ·rw [if_pos h13] at h1 h2
  cases h1
  split at h2
  ·cases h2; rfl
  ·cases h2
 rw [if_neg h13] at h1 h2
 cases h1
theorem ag_ev : ∀ d d', Agree (evB d) (evK d')
 | 0, _ => fun t e r r' h => by cases h
 | d + 1, 0 => fun t e r r' _ h => by cases h
 | d + 1, d' + 1 => fun t e r r' h1 h2 => by
  have ih := ag_ev d d'
  rw [evB] at h1
  rw [evK] at h2
  by_cases k2 : t.kind = 2
  ·rw [if_neg (by omega), if_pos k2] at h1
   rw [if_pos k2] at h2
   split at h1
   ·cases h1
   rename_i hl
   cases h1
   split at h2
   ·rename_i b hb
    cases h2
    have : t.argN 0 = b := by simp [Tm.argN, hb]
    rw [this]
    rfl
   ·cases h2
  rw [if_neg k2] at h2
  by_cases k1 : t.kind = 1
  ·rw [if_pos k1] at h1 h2
   split at h1
   ·rename_i hi
    cases h1
    rw [wvs_map, List.getElem?_map, List.getElem?_eq_getElem hi.2] at h2
    cases h2
    simp [wk, List.getD, List.getElem?_eq_getElem hi.2]
   ·cases h1
  rw [if_neg k1] at h1 h2
  rw [if_neg k2] at h1
  split at h1
  ·cases h1
  split at h1
  ·cases h1
  rename_i l c k e1
  obtain ⟨q, e2, rfl⟩ := Option.map_eq_some_iff.1 h1
  split at h2
  ·cases h2
  rename_i l' k' e3
  obtain ⟨q', e4, rfl⟩ := Option.map_eq_some_iff.1 h2
  cases ag_all ih e1 e3
  cases ag_node ih e2 e4
  rfl
end
section
/-
 Package tick: the run that counts ticks, walked.
-/
variable {gl : Globs}

mutual
def MV.cl : MV → DV
 | .num n => .ref [dint (n : Int), nilP, nilP, nilP, nilP, nilP]
 | .list l => .ref [dint 0, cellM l, nilP, nilP, nilP, nilP]
 | .both a b => .ref [dint 0, nilP, MV.cl a, MV.cl b, nilP, nilP]
 | .unit => .ref [dint 0, nilP, nilP, nilP, nilP, nilP]
 | .clo b e => .ref [dint 0, nilP, nilP, nilP, .ref b.cells, MV.varsD e]
def MV.varsD : List MV → DV
 | [] => nilP
 | v :: e => .ref [MV.cl v, MV.varsD e]
end
theorem cl_cell (v : MV) : v.cl.isCell = true := by cases v <;> (simp only [MV.cl]; rfl)
theorem varsD_cell (e : List MV) : (MV.varsD e).isCell = true := by cases e <;> (simp only [MV.varsD]; rfl)
theorem cellsD_cl (v : MV) : cellsD v.cl = [v.cl] := by cases v <;> (simp only [MV.cl]; rfl)
theorem cellsD_varsD (e : List MV) : cellsD (MV.varsD e) = [MV.varsD e] := by cases e <;> (simp only [MV.varsD]; rfl)
attribute [go_sem] cl_cell varsD_cell cellsD_cl cellsD_varsD
theorem varsD_cons (v : MV) (e : List MV) : MV.varsD (v :: e) = .ref [v.cl, MV.varsD e] := by rw [MV.varsD]
theorem cl_clo (b : Tm) (e : List MV) : (MV.clo b e).cl = .ref [dint 0, nilP, nilP, nilP, .ref [dint b.kind, dint b.index, dint b.type.kind, .sl (b.type.args.map Ty.cells), .sl (b.args.map Tm.cells)], MV.varsD e] := by
 rw [MV.cl, Tm.cells_eq]
theorem cl_num (n : Nat) : (MV.num n).cl = .ref [dint (n : Int), nilP, nilP, nilP, nilP, nilP] := by rw [MV.cl]
theorem cl_list (l : List Nat) : (MV.list l).cl = .ref [dint 0, cellM l, nilP, nilP, nilP, nilP] := by rw [MV.cl]
theorem cl_both (a b : MV) : (MV.both a b).cl = .ref [dint 0, nilP, MV.cl a, MV.cl b, nilP, nilP] := by rw [MV.cl]
theorem cl_unit : MV.unit.cl = .ref [dint 0, nilP, nilP, nilP, nilP, nilP] := by rw [MV.cl]

/-- the walk of a run to a depth -/
def WatchB (P : Program) (gl : Globs) (fe : FuncId) (ev : EvB) : Prop :=
 ∀ ⦃t : Tm⦄ ⦃e : List MV⦄ ⦃v : MV⦄ ⦃c k : Nat⦄ (u b M : Nat), ev t e = some (v, c, k) → M + c ≤ 1073741824 → u + k ≤ 1073741824 → MV.nles M e →
  Con1 P gl fe [ptr b, MV.varsD e, t.dv] [(b, [dint (u : Int)])] v.cl [(b, [dint ((u + k : Nat) : Int)])]

theorem wcall_ok {ev : EvB} (H : WatchB Tryz.prog gl 59 ev) {f x v : MV} {c k : Nat} (u b M : Nat) (h : callB ev f x = some (v, c, k)) (hM : M + c ≤ 1073741824) (hu : u + k ≤ 1073741824) (hF : f.nle M) (hx : x.nle M) :
  Con1 Tryz.prog gl 106 [ptr b, f.cl, x.cl] [(b, [dint (u : Int)])] v.cl [(b, [dint ((u + k : Nat) : Int)])] := by
 cases f with
 | num n => cases h
 | list q => cases h
 | both p q => cases h
 | unit => cases h
 | clo body e =>
  simp only [callB] at h
  simp only [MV.nle] at hF
  have W := H u b M h hM hu (by simp only [MV.nles]; exact ⟨hx, hF⟩)
  rw [varsD_cons] at W
  have hT := Tm.fold body
  have hcl := cl_clo body e
  rw [hcl]
  refine t_in Tryz.func106 ?_
  intro X hP hgl hf hfn hn hR hids hfit
  refine t_g0 ?_
  refine t_a ?_
  refine W_regd (by rw [hP]; exact mixed) [14] fun K hK => ?_
  simp [go_sem, hP, hgl, hn, hT]
  refine vcdC_boxR (cs := [x.cl, MV.varsD e]) (y := .ag [x.cl, MV.varsD e] []) (fun _ _ => vcd_sound) (by simp [go_sem, hP, hgl, hn]) (by simp [go_sem]) (by simp [go_sem]) (by rw [hn]; exact Nat.le_of_ble_eq_true rfl) (by rfl) ?_
  simp [go_sem, hP, hgl, hn, hT]
  refine t_c @hT (W) ?_
  refine t_e ?_
  clear hK K
  refine t_ro [(b, [dint ((u + k : Nat) : Int)])] trivial ?_
  try simp
  try all_goals exact t_f

theorem weval_2 (d : Nat) (t : Tm) (e : List MV) (u b : Nat) (h2 : t.kind = 2) (x : Tm) (r : List Tm) (ha : t.args = x :: r) :
  Con1 Tryz.prog gl 59 [ptr b, MV.varsD e, t.dv] [(b, [dint (u : Int)])] (MV.clo x e).cl [(b, [dint (u : Int)])] := by
 have hcl := cl_clo x e
 have hcx := Tm.cells_eq x
 rw [hcl]
 refine t_in Tryz.func59 ?_
 intro X hP hgl hf hfn hn hR hids hfit
 refine t_rg0 ?_
 refine t_rg0 ?_
 refine t_y @h2 ?_
 repeat (first | refine W_seq ?_ | refine W_skip ?_ | refine W_block ?_ | refine W_inBlock ?_ | refine W_label ?_ | refine W_exit rfl ?_)
 refine W_reg [24] fun K hK => ?_
 simp [go_sem, hP, hgl, hn, h2, ha, hcx]
 refine vcK_boxR (cs := [dint 0, nilP, nilP, nilP, .ref [dint x.kind, dint x.index, dint x.type.kind, .sl (x.type.args.map Ty.cells), .sl (x.args.map Tm.cells)], MV.varsD e]) (y := .ag [dint 0, nilP, nilP, nilP, .ref [dint x.kind, dint x.index, dint x.type.kind, .sl (x.type.args.map Ty.cells), .sl (x.args.map Tm.cells)], MV.varsD e] []) (by simp [go_sem, hP, hgl, hn]) (by simp [go_sem]) (by simp [go_sem]) (by rw [hn]; exact Nat.le_of_ble_eq_true rfl) (by rfl) ?_
 simp [go_sem, hP, hgl, hn]
 refine t_e ?_
 clear hK K
 refine t_ro [(b, [dint (u : Int)])] trivial ?_
 try simp
 try all_goals exact t_f

theorem weval_1 (t : Tm) (e : List MV) (u b : Nat) (h1 : t.kind = 1) (hi0 : 0 ≤ t.index) (hi : t.index.toNat < e.length) :
  Con1 Tryz.prog gl 59 [ptr b, MV.varsD e, t.dv] [(b, [dint (u : Int)])] (e.getD t.index.toNat .unit).cl [(b, [dint (u : Int)])] := by
 obtain ⟨i, hii⟩ : ∃ i : Nat, t.index = (i : Int) := ⟨t.index.toNat, by omega⟩
 rw [hii, Int.toNat_natCast] at hi ⊢
 refine t_in Tryz.func59 ?_
 intro X hP hgl hf hfn hn hR hids hfit
 have hi1 : intOK .i64 i := by
  have := hfit t.dv (by simp)
  rw [Tm.dv_fit, Tm.fit_eq] at this
  have := this.2.1
  rwa [hii] at this
 rw [intOK_i64] at hi1
 refine t_g (j2 @h1 @hii) ?_
 refine t_a ?_
 refine t_sub [] trivial (W_rounds (fun k : Nat => k ≤ i) (fun k : Nat => [(.slot 0, .one (.v (ptr b))), (.slot 1, .one (.v (MV.varsD (e.drop k)))), (.slot 30, .one (.v (dint (k : Int)))), (.slot 29, .one (.v (dint (i : Int)))), (.slot 6, .one (.v nilP)), (.heap  b, .row ([.v (dint (u : Int))]))]) (fun k : Nat => i - k) 0 (Nat.zero_le _) ?_)
 intro k hk ih
 obtain ⟨v, r, hr⟩ : ∃ v r, e.drop k = v :: r := by
  cases hq : e.drop k with
  | nil => have := List.drop_eq_nil_iff.1 hq; omega
  | cons v r => exact ⟨v, r, rfl⟩
 have hE : MV.varsD (e.drop k) = .ref [v.cl, MV.varsD r] := by rw [hr, varsD_cons]
 by_cases hki : k = i
 ·subst hki
  have hv : e[k]?.getD MV.unit = v := by
   have := congrArg (fun l => l.head?) hr
   simp only [List.head?_drop, List.head?_cons] at this
   simp [this]
  refine t_rg0 ?_
  refine t_no ?_
  refine t_g @hE ?_
  refine t_ro [(b, [dint (u : Int)])] @hv ?_
  try simp [hv]
  try all_goals exact t_f
 ·have hd : e.drop (k + 1) = r := by rw [← List.drop_drop, hr, List.drop_one, List.tail_cons]
  have hlt : (k : Int) < (i : Int) := by omega
  refine t_rg0 ?_
  refine t_yes ?_
  refine t_rg @hE ?_
  refine t_rg0 ?_
  refine t_b ?_
  refine t_sub [] @hd (ih (k + 1) (by omega) (by omega))
end
section
/-
 Package tick: the run that counts ticks, its nodes walked.
-/
variable {gl : Globs}

def clL (l : List MV) : List (List DV) := l.map fun v => [v.cl]
theorem clL_len (l : List MV) : (clL l).length = l.length := by simp [clL]
theorem clL_snoc (l : List MV) (v : MV) : clL (l ++ [v]) = clL l ++ [[v.cl]] := by simp [clL]
theorem clL_wid (l : List MV) : ∀ e ∈ clL l, e.length = 1 := by
 intro e he
 simp only [clL, List.mem_map] at he
 obtain ⟨x, -, rfl⟩ := he
 rfl
def vsB (ev : EvB) (e : List MV) (l : List Tm) : List MV := ((allB ev l e).map (·.1)).getD []
def kB (ev : EvB) (e : List MV) (l : List Tm) : Nat := ((allB ev l e).map (·.2.2)).getD 0
theorem allB_split {ev : EvB} {e : List MV} {x : Tm} {rest : List Tm} : ∀ {done : List Tm} {l : List MV} {c k : Nat}, allB ev (done ++ x :: rest) e = some (l, c, k) → ∃ v c1 k1 l1 c0 k0, ev x e = some (v, c1, k1) ∧ allB ev done e = some (l1, c0, k0) ∧ allB ev (done ++ [x]) e = some (l1 ++ [v], c0 + c1, k0 + k1) ∧ c0 + c1 ≤ c ∧ k0 + k1 ≤ k
 | [], l, c, k, h => by
  simp only [List.nil_append, allB] at h
  split at h
  ·cases h
  rename_i v c1 k1 h1
  split at h
  ·cases h
  rename_i l2 c2 k2 h2
  cases h
  refine ⟨v, c1, k1, [], 0, 0, h1, rfl, ?_, by omega, by omega⟩
  simp [allB, h1]
 | y :: done, l, c, k, h => by
  simp only [List.cons_append, allB] at h ⊢
  split at h
  ·cases h
  rename_i v0 c00 k00 h0
  split at h
  ·cases h
  rename_i l2 c2 k2 h2
  cases h
  obtain ⟨v, c1, k1, l1, c0, k0, e1, e2, e3, e4, e5⟩ := allB_split h2
  refine ⟨v, c1, k1, v0 :: l1, c00 + c0, k00 + k0, e1, ?_, ?_, by omega, by omega⟩
  ·simp only [h0, e2]
  ·simp only [h0, e3]
   simp [Nat.add_assoc]
theorem allB_len {ev : EvB} {e : List MV} : ∀ {l : List Tm} {vs : List MV} {c k : Nat}, allB ev l e = some (vs, c, k) → vs.length = l.length
 | [], vs, c, k, h => by simp only [allB] at h; cases h; rfl
 | x :: l, vs, c, k, h => by
  simp only [allB] at h
  split at h
  ·cases h
  split at h
  ·cases h
  rename_i h2
  cases h
  simp only [List.length_cons, allB_len h2]
theorem nleB_call {d : Nat} {f x v : MV} {c k M : Nat} (h : callB (evB d) f x = some (v, c, k)) (hf : f.nle M) (hx : x.nle M) : v.nle (M + c) := by
 have h1 := same_call (same_ev d) f x
 rw [h] at h1
 exact nle_call (nle_evS 0 d) h1.symm hf (by simp only [MV.nles]; exact ⟨hx, trivial⟩)
theorem nleB_all {d : Nat} {l : List Tm} {e vs : List MV} {c k M : Nat} (h : allB (evB d) l e = some (vs, c, k)) (he : MV.nles M e) : MV.nles (M + c) vs := by
 have h1 := same_all (same_ev d) l e
 rw [h] at h1
 exact nle_all (nle_evS 0 d) h1.symm he
theorem recB_zero (ev : EvB) (f : MV) (k : Nat) (r : MV) : recB ev f 0 k r = some (r, 0, 0) := rfl
/-- the first rounds of a fold, from the list's end -/
theorem foldB_tail {ev : EvB} {f r : MV} {x : Nat} {l : List Nat} {v : MV} {c k : Nat} (h : foldB ev f r (x :: l) = some (v, c, k)) : ∃ r' c0 k0 g c1 k1 h' c2 k2 c3 k3, foldB ev f r l = some (r', c0, k0) ∧ callB ev f (.num x) = some (g, c1, k1) ∧ callB ev g (.list l) = some (h', c2, k2) ∧ callB ev h' r' = some (v, c3, k3) ∧ c = c0 + (c1 + c2 + c3) ∧ k = k0 + 1 + k1 + k2 + k3 := by
 simp only [foldB] at h
 split at h
 ·cases h
 rename_i r' c0 k0 h0
 split at h
 ·cases h
 rename_i g c1 k1 h1
 split at h
 ·cases h
 rename_i h' c2 k2 h2
 split at h
 ·cases h
 rename_i w c3 k3 h3
 cases h
 exact ⟨r', c0, k0, g, c1, k1, h', c2, k2, c3, k3, h0, h1, h2, h3, rfl, rfl⟩
theorem foldB_drop {ev : EvB} {f r : MV} : ∀ {l : List Nat} {v : MV} {c k : Nat}, foldB ev f r l = some (v, c, k) → ∀ j, ∃ v' c' k', foldB ev f r (l.drop j) = some (v', c', k') ∧ c' ≤ c ∧ k' ≤ k
 | [], v, c, k, h, j => ⟨v, c, k, by simpa using h, Nat.le_refl _, Nat.le_refl _⟩
 | x :: l, v, c, k, h, 0 => ⟨v, c, k, h, Nat.le_refl _, Nat.le_refl _⟩
 | x :: l, v, c, k, h, j + 1 => by
  obtain ⟨r', c0, k0, g, c1, k1, h', c2, k2, c3, k3, h0, -, -, -, rfl, rfl⟩ := foldB_tail h
  obtain ⟨v', c', k', e1, e2, e3⟩ := foldB_drop h0 j
  exact ⟨v', c', k', e1, by omega, by omega⟩
/-- the tails of a list, the first i of them -/
def tlsL (l : List Nat) (i : Nat) : List (List DV) := (List.range i).map fun j => [cellM (l.drop j)]
theorem tlsL_zero (l : List Nat) : tlsL l 0 = [] := rfl
theorem tlsL_len (l : List Nat) (i : Nat) : (tlsL l i).length = i := by simp [tlsL]
theorem tlsL_snoc (l : List Nat) (i : Nat) : tlsL l (i + 1) = tlsL l i ++ [[cellM (l.drop i)]] := by simp [tlsL, List.range_succ]
theorem tlsL_wid (l : List Nat) (i : Nat) : ∀ e ∈ tlsL l i, e.length = 1 := by
 intro e he
 simp only [tlsL, List.mem_map] at he
 obtain ⟨x, -, rfl⟩ := he
 rfl
theorem tlsL_get (l : List Nat) {i j : Nat} (h : j < i) : (tlsL l i)[j]? = some [cellM (l.drop j)] := by
 simp [tlsL, h]

set_option maxHeartbeats 8000000 in
set_option maxRecDepth 100000 in
theorem weval_n {d : Nat} (H : WatchB Tryz.prog gl 59 (evB d)) (t : Tm) (e l : List MV) (c1 k1 : Nat) (w : MV) (c2 k2 u b M : Nat) (h1 : ¬ t.kind = 1) (h2 : ¬ t.kind = 2) (h3 : t.args.length ≤ 3)
  (hl : allB (evB d) t.args e = some (l, c1, k1)) (hnd : nodeB (evB d) t.kind l = some (w, c2, k2)) (hM : M + (1 + c1 + c2) ≤ 1073741824) (hu : u + (k1 + k2) ≤ 1073741824) (he : MV.nles M e) :
  Con1 Tryz.prog gl 59 [ptr b, MV.varsD e, t.dv] [(b, [dint (u : Int)])] w.cl [(b, [dint ((u + (k1 + k2) : Nat) : Int)])] := by
 have hnl := nleB_all hl he
 refine t_in Tryz.func59 ?_
 intro X hP hgl hf hfn hn hR hids hfit
 have hcl0 : clL (vsB (evB d) e []) = [] := rfl
 have hkb0 : kB (evB d) e [] = 0 := rfl
 have hvl0 : (vsB (evB d) e []).length = 0 := rfl
 refine t_g (j2 @h1 @h2) ?_
 refine t_a ?_
 refine t_sub [(1007, 0)] (j2 @hcl0 (j2 @hkb0 @hvl0)) (W_list (t.args) (fun done rest => [(.slot 44, .one (.v (dint done.length))), (.slot 43, .one (.v (dint t.args.length))), (.slot 42, .one (.v (.sl (t.args.map Tm.cells)))), (.slot 0, .one (.v (ptr b))), (.slot 1, .one (.v (MV.varsD e))), (.slot 5, .one (.loc 5 0)), (.loc 5, .row ([.v (dint t.kind), .v (dint t.index), .v (dint t.type.kind), .v (.sl (t.type.args.map Ty.cells)), .v (.sl (t.args.map Tm.cells))])), (.slot 6, .one (.v nilP)), (.slot 7, .one (.own 1007 (clL (vsB (evB d) e done)))), (.tok 1007, .tk 1 (vsB (evB d) e done).length), (.heap  b, .row ([.v (dint ((u + kB (evB d) e done : Nat) : Int))]))]) ?_ ?_)
 ·intro done x rest hL hg0 hnext
  have hlt : done.length < t.args.length := by rw [hL]; simp
  rw [hL] at hl
  obtain ⟨v, c3, k3, l1, c0, k0, e1, e2, e3, e4, e5⟩ := allB_split hl
  have hv : vsB (evB d) e done = l1 := by unfold vsB; rw [e2]; rfl
  have hk : kB (evB d) e done = k0 := by unfold kB; rw [e2]; rfl
  have hv' : vsB (evB d) e (done ++ [x]) = l1 ++ [v] := by unfold vsB; rw [e3]; rfl
  have hk' : kB (evB d) e (done ++ [x]) = k0 + k3 := by unfold kB; rw [e3]; rfl
  rw [hv', hk', clL_snoc] at hnext
  rw [hv, hk]
  have hlw := clL_wid l1
  have hll := clL_len l1
  have hl1 : l1.length ≤ 3 := by
   have := allB_len e2
   omega
  have hl2 : l1.length ≤ 2147483647 := by omega
  have hw := H (u + k0) b M e1 (by omega) (by omega) he
  have hfx := Tm.fold x
  have hs : u + k0 + k3 = u + (k0 + k3) := by omega
  rw [hs] at hw
  generalize clL l1 = L at *
  refine t_rg0 ?_
  refine t_yes ?_
  refine t_g @hg0 ?_
  refine t_c1 (j2 @hg0 (j2 @hfx (j2 @hlw (j2 @hll @hl2)))) hw ?_
  refine t_gt (wr [(1007, 54)]) @hll (j2 @hlw (j2 @hll @hl2)) hnext
 ·have hv : vsB (evB d) e t.args = l := by unfold vsB; rw [hl]; rfl
  have hk : kB (evB d) e t.args = k1 := by unfold kB; rw [hl]; rfl
  rw [hv, hk]
  refine t_rg0 ?_
  refine t_no ?_
  unfold nodeB at hnd
  by_cases k3 : t.kind = 3
  ·rw [if_pos k3] at hnd
   split at hnd
   rotate_left
   ·cases hnd
   rename_i f x
   obtain ⟨⟨v, c9, t9⟩, q1, q2⟩ := Option.map_eq_some_iff.1 hnd
   cases q2
   simp only at hM hu
   simp only [MV.nles] at hnl
   have hw := wcall_ok H (u + k1 + 1) b (M + c1) q1 (by omega) (by omega) hnl.1 hnl.2.1
   have hs : u + k1 + 1 + t9 = u + (k1 + (1 + t9)) := by omega
   rw [hs] at hw
   have hcl2 : clL [f, x] = [[f.cl], [x.cl]] := rfl
   rw [hcl2]
   refine t_g @k3 ?_
   refine t_c1 @k3 hw ?_
   refine t_ro [(b, [dint ((u + (k1 + (1 + t9)) : Nat) : Int)])] trivial ?_
   try simp
   try all_goals exact t_f
  rw [if_neg k3] at hnd
  by_cases k4 : t.kind = 4
  ·rw [if_pos k4] at hnd
   cases hnd
   have hz0 : u + (k1 + 0) = u + k1 := by omega
   rw [hz0] at hR
   rw [cl_num] at hR
   have hkk := k4
   clear hnl
   refine t_rg @k4 ?_
   refine t_rg @k4 ?_
   refine t_n @k4 ?_
   refine t_rg @k4 ?_
   refine t_n @k4 ?_
   refine t_rg @k4 ?_
   refine t_n @k4 ?_
   refine t_rg @k4 ?_
   refine t_n @k4 ?_
   refine t_rg @k4 ?_
   refine t_n @k4 ?_
   refine t_rg @k4 ?_
   refine t_n @k4 ?_
   refine t_rg @k4 ?_
   refine t_n @k4 ?_
   refine t_rg @k4 ?_
   refine t_n @k4 ?_
   repeat (first | refine W_seq ?_ | refine W_skip ?_ | refine W_block ?_ | refine W_inBlock ?_ | refine W_label ?_ | refine W_exit rfl ?_)
   refine W_reg [227] fun K hK => ?_
   simp [go_sem, hP, hgl, hn, k4]
   refine vcK_boxR (cs := [dint 0, nilP, nilP, nilP, nilP, nilP]) (y := .ag [dint 0, nilP, nilP, nilP, nilP, nilP] []) (by simp [go_sem, hP, hgl, hn]) (by simp [go_sem]) (by simp [go_sem]) (by rw [hn]; exact Nat.le_of_ble_eq_true rfl) (by rfl) ?_
   simp [go_sem, hP, hgl, hn, k4]
   refine t_e ?_
   clear hK K
   refine t_ro [(b, [dint ((u + k1 : Nat) : Int)])] trivial ?_
   try simp
   try all_goals exact t_f
  rw [if_neg k4] at hnd
  by_cases k5 : t.kind = 5
  ·rw [if_pos k5] at hnd
   split at hnd
   rotate_left
   ·cases hnd
   rename_i n
   cases hnd
   have hz0 : u + (k1 + 0) = u + k1 := by omega
   rw [hz0] at hR
   rw [cl_num] at hR
   simp only [MV.nles, MV.nle] at hnl
   have hcl2 : clL [MV.num n] = [[(MV.num n).cl]] := rfl
   rw [hcl2, cl_num]
   refine t_rg @k5 ?_
   refine t_rg @k5 ?_
   refine t_n @k5 ?_
   refine t_rg @k5 ?_
   refine t_y @k5 ?_
   have hn5 := hnl.1
   repeat (first | refine W_seq ?_ | refine W_skip ?_ | refine W_block ?_ | refine W_inBlock ?_ | refine W_label ?_ | refine W_exit rfl ?_)
   refine W_reg [85] fun K hK => ?_
   simp [go_sem, hP, hgl, hn, k5]
   repeat (refine ⟨by omega, ?_⟩)
   refine vcK_boxR (cs := [dint ((n : Int) + 1), nilP, nilP, nilP, nilP, nilP]) (y := .ag [dint ((n : Int) + 1), nilP, nilP, nilP, nilP, nilP] []) (by simp [go_sem, hP, hgl, hn]) (by simp [go_sem]) (by simp [go_sem]) (by rw [hn]; exact Nat.le_of_ble_eq_true rfl) (by rfl) ?_
   simp [go_sem, hP, hgl, hn, k5]
   refine t_e ?_
   clear hK K
   refine t_ro [(b, [dint ((u + k1 : Nat) : Int)])] trivial ?_
   try simp
   try all_goals exact t_f
  rw [if_neg k5] at hnd
  by_cases k6 : t.kind = 6
  ·rw [if_pos k6] at hnd
   split at hnd
   rotate_left
   ·cases hnd
   rename_i r0 f n
   have hcl2 : clL [r0, f, MV.num n] = [[r0.cl], [f.cl], [(MV.num n).cl]] := rfl
   rw [hcl2, cl_num]
   simp only [MV.nles, MV.nle] at hnl
   refine t_g @k6 ?_
   refine t_a ?_
   refine t_sub [(1007, 1007)] trivial (W_rounds (fun x : Nat × MV × Nat × Nat => x.1 ≤ n ∧ x.2.1.nle (M + c1 + x.2.2.2) ∧ ∃ c3 t3, recB (evB d) f (n - x.1) x.1 x.2.1 = some (w, c3, t3) ∧ x.2.2.2 + c3 = c2 ∧ x.2.2.1 + t3 = u + (k1 + k2)) (fun x : Nat × MV × Nat × Nat => [(.slot 0, .one (.v (ptr b))), (.slot 6, .one (.v nilP)), (.slot 7, .one (.own 1007 [[r0.cl], [f.cl], [.ref [dint (n : Int), nilP, nilP, nilP, nilP, nilP]]])), (.tok 1007, .tk 1 3), (.slot 10, .one (.v x.2.1.cl)), (.slot 138, .one (.v (dint (n : Int)))), (.slot 139, .one (.v (dint (x.1 : Int)))), (.heap  b, .row ([.v (dint ((x.2.2.1 : Nat) : Int))]))]) (fun x : Nat × MV × Nat × Nat => n - x.1) (0, r0, u + k1, 0) (⟨Nat.zero_le _, (by simpa using hnl.1), c2, k2, (by simpa using hnd), Nat.zero_add _, Nat.add_assoc _ _ _⟩) ?_)
   rintro ⟨i, q, v, m⟩ ⟨hi, hq, c3, t3, hr, hm, hv⟩ ih
   simp only at hi hq hr hm hv
   by_cases hin : i < n
   ·have e1 : n - i = (n - (i + 1)) + 1 := by omega
    rw [e1, recB] at hr
    split at hr
    ·cases hr
    rename_i g c4 t4 q1
    split at hr
    ·cases hr
    rename_i r5 c5 t5 q2
    split at hr
    ·cases hr
    rename_i w6 c6 t6 q3
    cases hr
    have g1 := nleB_call q1 (MV.nle_mono (by omega) _ hnl.2.1 : f.nle (M + c1 + m)) (by simp only [MV.nle]; omega)
    have w1 := wcall_ok H (v + 1) b (M + c1 + m) q1 (by omega) (by omega) (MV.nle_mono (by omega) _ hnl.2.1) (by simp only [MV.nle]; omega)
    have g2 := nleB_call q2 g1 (MV.nle_mono (by omega) _ hq : q.nle (M + c1 + m + c4))
    have w2 := wcall_ok H (v + 1 + t4) b (M + c1 + m + c4) q2 (by omega) (by omega) g1 (MV.nle_mono (by omega) _ hq)
    rw [cl_num] at w1
    have hlt : (i : Int) < (n : Int) := by omega
    have hb1 : v + 1 ≤ 1073741824 := by omega
    refine t_rg0 ?_
    refine t_yes ?_
    refine t_rg0 ?_
    refine t_rg0 ?_
    refine t_a ?_
    refine W_reg [156] fun K hK => ?_
    simp [go_sem, hP, hgl, hn]
    refine vcK_boxR (cs := [dint (i : Int), nilP, nilP, nilP, nilP, nilP]) (y := .ag [dint (i : Int), nilP, nilP, nilP, nilP, nilP] []) (by simp [go_sem, hP, hgl, hn]) (by simp [go_sem]) (by simp [go_sem]) (by rw [hn]; exact Nat.le_of_ble_eq_true rfl) (by rfl) ?_
    simp [go_sem, hP, hgl, hn]
    refine t_c trivial (w1) ?_
    refine t_c trivial (w2) ?_
    refine t_e ?_
    clear hK K
    refine t_rg0 ?_
    have d1 : i + 1 ≤ n := by omega
    have d2 : n - (i + 1) < n - i := by omega
    have d3 : m + (c4 + c5) + c6 = c2 := by omega
    have d4 : v + 1 + t4 + t5 + t6 = u + (k1 + k2) := by omega
    have d5 : M + c1 + m + c4 + c5 ≤ M + c1 + (m + (c4 + c5)) := by omega
    refine t_b ?_
    refine t_sub [(1007, 1007)] trivial (ih (i + 1, r5, v + 1 + t4 + t5, m + (c4 + c5)) ⟨d1, MV.nle_mono d5 _ g2, c6, t6, q3, d3, d4⟩ d2)
   ·have e0 : n - i = 0 := by omega
    rw [e0, recB_zero] at hr
    cases hr
    have hlt : (n : Int) ≤ (i : Int) := by omega
    have hvv : v = u + (k1 + k2) := by omega
    rw [← hvv] at hR
    refine t_rg0 ?_
    refine t_no ?_
    refine t_g0 ?_
    refine t_ro [(b, [dint ((v : Nat) : Int)])] trivial ?_
    try simp
    try all_goals exact t_f
  rw [if_neg k6] at hnd
  by_cases k7 : t.kind = 7
  ·rw [if_pos k7] at hnd
   cases hnd
   have hz0 : u + (k1 + 0) = u + k1 := by omega
   rw [hz0] at hR
   rw [cl_list] at hR
   have hc0 : cellM [] = nilP := rfl
   rw [hc0] at hR
   have hkk := k7
   clear hnl
   refine t_rg @k7 ?_
   refine t_rg @k7 ?_
   refine t_n @k7 ?_
   refine t_rg @k7 ?_
   refine t_n @k7 ?_
   refine t_rg @k7 ?_
   refine t_n @k7 ?_
   refine t_rg @k7 ?_
   refine t_n @k7 ?_
   refine t_rg @k7 ?_
   refine t_n @k7 ?_
   refine t_rg @k7 ?_
   refine t_n @k7 ?_
   refine t_rg @k7 ?_
   refine t_n @k7 ?_
   refine t_rg @k7 ?_
   refine t_n @k7 ?_
   repeat (first | refine W_seq ?_ | refine W_skip ?_ | refine W_block ?_ | refine W_inBlock ?_ | refine W_label ?_ | refine W_exit rfl ?_)
   refine W_reg [227] fun K hK => ?_
   simp [go_sem, hP, hgl, hn, k7]
   refine vcK_boxR (cs := [dint 0, nilP, nilP, nilP, nilP, nilP]) (y := .ag [dint 0, nilP, nilP, nilP, nilP, nilP] []) (by simp [go_sem, hP, hgl, hn]) (by simp [go_sem]) (by simp [go_sem]) (by rw [hn]; exact Nat.le_of_ble_eq_true rfl) (by rfl) ?_
   simp [go_sem, hP, hgl, hn, k7]
   refine t_e ?_
   clear hK K
   refine t_ro [(b, [dint ((u + k1 : Nat) : Int)])] trivial ?_
   try simp
   try all_goals exact t_f
  rw [if_neg k7] at hnd
  by_cases k8 : t.kind = 8
  ·rw [if_pos k8] at hnd
   split at hnd
   rotate_left
   ·cases hnd
   rename_i n m
   cases hnd
   have hz0 : u + (k1 + 0) = u + k1 := by omega
   rw [hz0] at hR
   rw [cl_list] at hR
   have hcm : cellM (n :: m) = .ref [dint (n : Int), cellM m] := rfl
   rw [hcm] at hR
   have hcl2 : clL [MV.num n, MV.list m] = [[(MV.num n).cl], [(MV.list m).cl]] := rfl
   rw [hcl2, cl_num, cl_list]
   refine t_rg @k8 ?_
   refine t_rg @k8 ?_
   refine t_n @k8 ?_
   refine t_rg @k8 ?_
   refine t_n @k8 ?_
   refine t_rg @k8 ?_
   refine t_y @k8 ?_
   refine t_a ?_
   refine W_regd (by rw [hP]; exact mixed) [101, 103] fun K hK => ?_
   simp [go_sem, hP, hgl, hn]
   refine vcdC_boxR (cs := [dint (n : Int), cellM m]) (y := .ag [dint (n : Int), cellM m] []) (fun _ _ => vcd_sound) (by simp [go_sem, hP, hgl, hn]) (by simp [go_sem]) (by simp [go_sem]) (by rw [hn]; exact Nat.le_of_ble_eq_true rfl) (by rfl) ?_
   simp [go_sem, hP, hgl, hn]
   refine vcdC_boxR (cs := [dint 0, .ref [dint (n : Int), cellM m], nilP, nilP, nilP, nilP]) (y := .ag [dint 0, .ref [dint (n : Int), cellM m], nilP, nilP, nilP, nilP] []) (fun _ _ => vcd_sound) (by simp [go_sem, hP, hgl, hn]) (by simp [go_sem]) (by simp [go_sem]) (by rw [hn]; exact Nat.le_of_ble_eq_true rfl) (by rfl) ?_
   simp [go_sem, hP, hgl, hn]
   refine t_e ?_
   clear hK K
   refine t_ro [(b, [dint ((u + k1 : Nat) : Int)])] trivial ?_
   try simp
   try all_goals exact t_f
  rw [if_neg k8] at hnd
  by_cases k9 : t.kind = 9
  ·rw [if_pos k9] at hnd
   split at hnd
   rotate_left
   ·cases hnd
   rename_i r0 f m
   have hcl2 : clL [r0, f, MV.list m] = [[r0.cl], [f.cl], [(MV.list m).cl]] := rfl
   rw [hcl2, cl_list]
   simp only [MV.nles, MV.nle] at hnl
   have hml : m.length ≤ 1073741824 := by omega
   have hdz : m.drop 0 = m := rfl
   have htz := tlsL_zero m
   refine t_g @k9 ?_
   refine t_a ?_
   refine t_sub [(1007, 1007), (1012, 0)] @htz (W_rounds (fun i : Nat => i ≤ m.length) (fun i : Nat => [(.slot 0, .one (.v (ptr b))), (.slot 6, .one (.v nilP)), (.slot 7, .one (.own 1007 [[r0.cl], [f.cl], [.ref [dint 0, cellM m, nilP, nilP, nilP, nilP]]])), (.tok 1007, .tk 1 3), (.slot 12, .one (.own 1012 (tlsL m i))), (.tok 1012, .tk 1 i), (.slot 13, .one (.v (cellM (m.drop i)))), (.heap  b, .row ([.v (dint ((u + k1 : Nat) : Int))]))]) (fun i : Nat => m.length - i) 0 (Nat.zero_le _) ?_)
   rintro i hi ih
   by_cases hil : i < m.length
   ·have hd : m.drop i = m[i] :: m.drop (i + 1) := List.drop_eq_getElem_cons hil
    generalize m[i] = y at hd
    have hE : cellM (m.drop i) = .ref [dint (y : Int), cellM (m.drop (i + 1))] := by rw [hd]; rfl
    have hsn := tlsL_snoc m i
    rw [hE] at hsn
    have hll := tlsL_len m i
    have hlw := tlsL_wid m i
    have hi1 : i ≤ 2147483647 := by omega
    have hi2 : i + 1 ≤ 2147483647 := by omega
    have hnext := ih (i + 1) (by omega) (by omega)
    rw [hsn] at hnext
    rw [hE]
    generalize tlsL m i = L at *
    clear hsn
    refine t_rg0 ?_
    refine t_yes ?_
    refine t_rg (j2 @hll (j2 @hlw (j2 @hi1 @hi2))) ?_
    refine t_rg0 ?_
    refine t_b ?_
    refine t_sub [(1007, 1007), (1012, 179)] @hll hnext
   ·have him : i = m.length := by omega
    subst him
    have hd : m.drop m.length = [] := List.drop_length
    have hc0 : cellM [] = nilP := rfl
    rw [hd, hc0]
    clear ih
    refine t_rg0 ?_
    refine t_no ?_
    have hll := tlsL_len m m.length
    refine t_g @hll ?_
    have hq0 : ((m.length : Nat) : Int) - 1 = ((m.length : Nat) : Int) - 1 := rfl
    refine t_a ?_
    refine t_sub [(1007, 1007), (1012, 1012)] @hll (W_rounds (fun x : Nat × MV × Nat × Nat => x.1 ≤ m.length ∧ x.2.1.nle (M + c1 + x.2.2.2) ∧ foldB (evB d) f r0 (m.drop x.1) = some (x.2.1, x.2.2.2, x.2.2.1)) (fun x : Nat × MV × Nat × Nat => [(.slot 0, .one (.v (ptr b))), (.slot 6, .one (.v nilP)), (.slot 7, .one (.own 1007 [[r0.cl], [f.cl], [.ref [dint 0, cellM m, nilP, nilP, nilP, nilP]]])), (.tok 1007, .tk 1 3), (.slot 12, .one (.own 1012 (tlsL m m.length))), (.tok 1012, .tk 1 m.length), (.slot 14, .one (.v x.2.1.cl)), (.slot 15, .one (.v (dint ((x.1 : Int) - 1)))), (.heap  b, .row ([.v (dint ((u + k1 + x.2.2.1 : Nat) : Int))]))]) (fun x : Nat × MV × Nat × Nat => x.1) (m.length, r0, 0, 0) (⟨Nat.le_refl _, (by simpa using hnl.1), (by rw [hd]; rfl)⟩) ?_)
    rintro ⟨j, q, tk, wk⟩ ⟨hj, hq, hf9⟩ ih
    simp only at hj hq hf9
    cases j with
    | zero =>
     rw [hdz, hnd] at hf9
     cases hf9
     have hs : u + (k1 + k2) = u + k1 + k2 := by omega
     rw [hs] at hR
     refine t_rg0 ?_
     refine t_no ?_
     refine t_g0 ?_
     refine t_ro [(b, [dint ((u + k1 + k2 : Nat) : Int)])] trivial ?_
     try simp
     try all_goals exact t_f
    | succ i =>
     have hil : i < m.length := by omega
     have hd2 : m.drop i = m[i] :: m.drop (i + 1) := List.drop_eq_getElem_cons hil
     have hym : m[i] ≤ M + c1 := hnl.2.2.1.2 _ (List.getElem_mem hil)
     generalize m[i] = y at hd2 hym
     have hE : cellM (m.drop i) = .ref [dint (y : Int), cellM (m.drop (i + 1))] := by rw [hd2]; rfl
     obtain ⟨v', c', k', e1, e2, e3⟩ := foldB_drop hnd i
     rw [hd2] at e1
     obtain ⟨r', c0, t0, g, c4, t4, h', c5, t5, c6, t6, q0, q1, q2, q3, rfl, rfl⟩ := foldB_tail e1
     rw [hf9] at q0
     cases q0
     have b1 : MV.nle (M + c1 + wk) (MV.num y) := by simp only [MV.nle]; omega
     have b2 : f.nle (M + c1 + wk) := MV.nle_mono (by omega) _ hnl.2.1
     have g1 := nleB_call q1 b2 b1
     have w1 := wcall_ok H (u + k1 + tk + 1) b (M + c1 + wk) q1 (by omega) (by omega) b2 b1
     have b3 : MV.nle (M + c1 + wk + c4) (MV.list (m.drop (i + 1))) := by
      simp only [MV.nle]
      refine ⟨?_, fun n hn => ?_⟩
      ·rw [List.length_drop]; have := hnl.2.2.1.1; omega
      ·have := hnl.2.2.1.2 n (List.mem_of_mem_drop hn); omega
     have g2 := nleB_call q2 g1 b3
     have w2 := wcall_ok H (u + k1 + tk + 1 + t4) b (M + c1 + wk + c4) q2 (by omega) (by omega) g1 b3
     have b4 : q.nle (M + c1 + wk + c4 + c5) := MV.nle_mono (by omega) _ hq
     have g3 := nleB_call q3 g2 b4
     have w3 := wcall_ok H (u + k1 + tk + 1 + t4 + t5) b (M + c1 + wk + c4 + c5) q3 (by omega) (by omega) g2 b4
     rw [cl_num] at w1
     rw [cl_list] at w2
     have hji : ((i + 1 : Nat) : Int) - 1 = (i : Int) := by omega
     rw [hji]
     have hgi := tlsL_get m hil
     rw [hE] at hgi
     have hb9 : u + k1 + tk + 1 ≤ 1073741824 := by omega
     have hi9 : (i : Int) ≤ 1073741824 := by omega
     have hs9 : u + k1 + tk + 1 + t4 + t5 + t6 = u + k1 + (tk + 1 + t4 + t5 + t6) := by omega
     rw [hs9] at w3
     have d7 : M + c1 + wk + c4 + c5 + c6 ≤ M + c1 + (wk + (c4 + c5 + c6)) := by omega
     have hnext := ih (i, v', tk + 1 + t4 + t5 + t6, wk + (c4 + c5 + c6)) ⟨by omega, MV.nle_mono d7 _ g3, by rw [hd2]; exact e1⟩ (by simp only; omega)
     have hY1 := cellM_cell (m.drop (i + 1))
     have hY2 := cellsD_cellM (m.drop (i + 1))
     generalize cellM (m.drop (i + 1)) = Y9 at *
     generalize tlsL m m.length = L at *
     refine t_rg0 ?_
     refine t_yes ?_
     refine t_rg0 ?_
     refine t_a ?_
     refine W_regd (by rw [hP]; exact mixed) [211, 221] fun K hK => ?_
     simp [go_sem, hP, hgl, hn, hgi, hY1, hY2]
     refine vcdC_boxR (cs := [dint (y : Int), nilP, nilP, nilP, nilP, nilP]) (y := .ag [dint (y : Int), nilP, nilP, nilP, nilP, nilP] []) (fun _ _ => vcd_sound) (by simp [go_sem, hP, hgl, hn, hgi, hY1, hY2]) (by simp [go_sem, hY1, hY2]) (by simp [go_sem, hY1, hY2]) (by rw [hn]; exact Nat.le_of_ble_eq_true rfl) (by rfl) ?_
     simp [go_sem, hP, hgl, hn, hgi, hY1, hY2]
     refine t_c (j2 @hgi (j2 @hY1 @hY2)) (w1) ?_
     refine vcdC_boxR (cs := [dint 0, Y9, nilP, nilP, nilP, nilP]) (y := .ag [dint 0, Y9, nilP, nilP, nilP, nilP] []) (fun _ _ => vcd_sound) (by simp [go_sem, hP, hgl, hn, hgi, hY1, hY2]) (by simp [go_sem, hY1, hY2]) (by simp [go_sem, hY1, hY2]) (by rw [hn]; exact Nat.le_of_ble_eq_true rfl) (by rfl) ?_
     simp [go_sem, hP, hgl, hn, hgi, hY1, hY2]
     refine t_c (j2 @hgi (j2 @hY1 @hY2)) (w2) ?_
     refine t_c (j2 @hgi (j2 @hY1 @hY2)) (w3) ?_
     refine t_e ?_
     clear hK K
     refine t_rg0 ?_
     refine t_b ?_
     refine t_sub [(1007, 1007), (1012, 1012)] trivial hnext
  rw [if_neg k9] at hnd
  by_cases k10 : t.kind = 10
  ·rw [if_pos k10] at hnd
   split at hnd
   rotate_left
   ·cases hnd
   rename_i x y
   cases hnd
   have hz0 : u + (k1 + 0) = u + k1 := by omega
   rw [hz0] at hR
   rw [cl_both] at hR
   have hcl2 : clL [x, y] = [[x.cl], [y.cl]] := rfl
   rw [hcl2]
   refine t_rg @k10 ?_
   refine t_rg @k10 ?_
   refine t_n @k10 ?_
   refine t_rg @k10 ?_
   refine t_n @k10 ?_
   refine t_rg @k10 ?_
   refine t_n @k10 ?_
   refine t_rg @k10 ?_
   refine t_y @k10 ?_
   refine t_a ?_
   refine W_regd (by rw [hP]; exact mixed) [114] fun K hK => ?_
   simp [go_sem, hP, hgl, hn]
   refine vcdC_boxR (cs := [dint 0, nilP, x.cl, y.cl, nilP, nilP]) (y := .ag [dint 0, nilP, x.cl, y.cl, nilP, nilP] []) (fun _ _ => vcd_sound) (by simp [go_sem, hP, hgl, hn]) (by simp [go_sem]) (by simp [go_sem]) (by rw [hn]; exact Nat.le_of_ble_eq_true rfl) (by rfl) ?_
   simp [go_sem, hP, hgl, hn]
   refine t_e ?_
   clear hK K
   refine t_ro [(b, [dint ((u + k1 : Nat) : Int)])] trivial ?_
   try simp
   try all_goals exact t_f
  rw [if_neg k10] at hnd
  by_cases k11 : t.kind = 11
  ·rw [if_pos k11] at hnd
   split at hnd
   rotate_left
   ·cases hnd
   rename_i x y
   cases hnd
   have hz0 : u + (k1 + 0) = u + k1 := by omega
   rw [hz0] at hR
   have hcl2 : clL [MV.both w y] = [[(MV.both w y).cl]] := rfl
   rw [hcl2, cl_both]
   refine t_g @k11 ?_
   refine t_ro [(b, [dint ((u + k1 : Nat) : Int)])] trivial ?_
   try simp
   try all_goals exact t_f
  rw [if_neg k11] at hnd
  by_cases k12 : t.kind = 12
  ·rw [if_pos k12] at hnd
   split at hnd
   rotate_left
   ·cases hnd
   rename_i x y
   cases hnd
   have hz0 : u + (k1 + 0) = u + k1 := by omega
   rw [hz0] at hR
   have hcl2 : clL [MV.both x w] = [[(MV.both x w).cl]] := rfl
   rw [hcl2, cl_both]
   refine t_g @k12 ?_
   refine t_ro [(b, [dint ((u + k1 : Nat) : Int)])] trivial ?_
   try simp
   try all_goals exact t_f
  rw [if_neg k12] at hnd
  by_cases k13 : t.kind = 13
  ·rw [if_pos k13] at hnd
   cases hnd
   have hz0 : u + (k1 + 0) = u + k1 := by omega
   rw [hz0] at hR
   rw [cl_unit] at hR
   have hkk := k13
   clear hnl
   refine t_rg @k13 ?_
   refine t_rg @k13 ?_
   refine t_n @k13 ?_
   refine t_rg @k13 ?_
   refine t_n @k13 ?_
   refine t_rg @k13 ?_
   refine t_n @k13 ?_
   refine t_rg @k13 ?_
   refine t_n @k13 ?_
   refine t_rg @k13 ?_
   refine t_n @k13 ?_
   refine t_rg @k13 ?_
   refine t_n @k13 ?_
   refine t_rg @k13 ?_
   refine t_n @k13 ?_
   refine t_rg @k13 ?_
   refine t_n @k13 ?_
   repeat (first | refine W_seq ?_ | refine W_skip ?_ | refine W_block ?_ | refine W_inBlock ?_ | refine W_label ?_ | refine W_exit rfl ?_)
   refine W_reg [227] fun K hK => ?_
   simp [go_sem, hP, hgl, hn, k13]
   refine vcK_boxR (cs := [dint 0, nilP, nilP, nilP, nilP, nilP]) (y := .ag [dint 0, nilP, nilP, nilP, nilP, nilP] []) (by simp [go_sem, hP, hgl, hn]) (by simp [go_sem]) (by simp [go_sem]) (by rw [hn]; exact Nat.le_of_ble_eq_true rfl) (by rfl) ?_
   simp [go_sem, hP, hgl, hn, k13]
   refine t_e ?_
   clear hK K
   refine t_ro [(b, [dint ((u + k1 : Nat) : Int)])] trivial ?_
   try simp
   try all_goals exact t_f
  rw [if_neg k13] at hnd
  cases hnd
end
section
/-
 Plain law: every typed term's run comes to its end (with no bound on the work), and returns what is denoted.
-/
/-- what a value of a machine is a value of, where every call comes to its end -/
def Tl : (a : T) → MV → a.V → Prop
 | .nat, v, n => v = .num n
 | .list, v, l => v = .list l
 | .unit, v, _ => v = .unit
 | .pair a b, v, p => ∃ x y, v = .both x y ∧ Tl a x p.1 ∧ Tl b y p.2
 | .fn a b, v, f => ∃ body e, v = .clo body e ∧ ∀ (x : MV) (y : a.V), Tl a x y → ∃ (r : MV) (c d0 : Nat), (∀ d, d0 ≤ d → evS d body (x :: e) = some (r, c)) ∧ Tl b r (f y)
def TlE : (Γ : List T) → List MV → Env Γ → Prop
 | [], e, _ => e = []
 | a :: Γ, e, ρ => ∃ x r, e = x :: r ∧ Tl a x ρ.1 ∧ TlE Γ r ρ.2
theorem TlE.get {Γ : List T} {i : Nat} {a : T} {p : Env Γ → a.V} (h : At Γ i a p) : ∀ {e : List MV} {ρ : Env Γ}, TlE Γ e ρ → i < e.length ∧ Tl a (e.getD i .unit) (p ρ) := by
 induction h with
 | zero => rintro e ρ ⟨x, r, rfl, h1, h2⟩; exact ⟨by simp, h1⟩
 | succ h ih =>
  rintro e ρ ⟨x, r, rfl, h1, h2⟩
  obtain ⟨k1, k2⟩ := ih h2
  exact ⟨by simpa using k1, by simpa using k2⟩
end
section
/-
 Package machine: the walk of the parts of a node.
-/
variable {gl : Globs}

def at3 (l : List MV) (i : Nat) : DV := match l[i]? with
 | some v => v.thing
 | none => nilI
theorem at3_cell (l : List MV) (i : Nat) : (at3 l i).isCell = true := by unfold at3; split; exact thing_cell _; rfl
theorem cellsD_at3 (l : List MV) (i : Nat) : cellsD (at3 l i) = [at3 l i] := by unfold at3; split; exact cellsD_thing _; rfl
attribute [go_sem] at3_cell cellsD_at3
def arr3 (l : List MV) : List DV := [at3 l 0, at3 l 1, at3 l 2]
/-- the values before the work is out -/
def preC (ev : Evl) (most : Nat) (e : List MV) : Nat → List Tm → List MV
 | _, [] => []
 | u, t :: r => match ev t e with
  | none => []
  | some (v, c) => if u + c ≤ most then v :: preC ev most e (u + c) r else []
def outA (most n : Nat) (l : List MV) : DV := .tup [.agg (arr3 l), dbool (decide (n ≤ most))]
theorem preC_all {ev : Evl} {most : Nat} {e : List MV} : ∀ {l : List Tm} {u : Nat} {vs : List MV} {c : Nat}, allC ev l e = some (vs, c) → u + c ≤ most → preC ev most e u l = vs
 | [], u, vs, c, h, k => by simp only [allC, Option.some.injEq, Prod.mk.injEq] at h; rw [preC, h.1]
 | t :: r, u, vs, c, h, k => by
  simp only [allC] at h
  split at h
  ·cases h
  ·rename_i v c1 hv
   split at h
   ·cases h
   ·rename_i l c2 hl
    simp only [Option.some.injEq, Prod.mk.injEq] at h
    obtain ⟨rfl, rfl⟩ := h
    rw [preC, hv]
    simp only
    rw [if_pos (show u + c1 ≤ most by omega), preC_all hl (show u + c1 + c2 ≤ most by omega)]

theorem allM_ok {most : Nat} (hm : most ≤ 1073741824) {ev : Evl} (H : WalkM Tryz.prog gl 139 most ev) (hN : NleM most ev) {l : List Tm} {e vs : List MV} {u c : Nat} (b M : Nat)
  (h : allC ev l e = some (vs, c)) (h3 : l.length ≤ 3) (hu : u ≤ most) (hM : M + (most - u) ≤ 1073741824) (he : MV.nles M e) :
  Con1 Tryz.prog gl 163 [ptr b, .sl (l.map Tm.cells), MV.envM e] [(b, useM most u)] (outA most (u + c) (preC ev most e u l)) [(b, useM most (u + c))] := by
 refine t_in Tryz.func163 ?_
 intro X hP hgl hf hfn hn hR hids hfit
 have hu0 : useM most u = [dint (u : Int), dint (most : Int)] := by unfold useM; rw [if_pos hu]
 rw [hu0]
 have z0 : at3 [] 0 = nilI := rfl
 have z1 : at3 [] 1 = nilI := rfl
 have z2 : at3 [] 2 = nilI := rfl
 refine t_g0 ?_
 refine t_a ?_
 refine t_sub [] (j2 @z0 (j2 @z1 @z2)) (W_rounds (fun x : List MV × Nat × Nat => x.2.1 ≤ l.length ∧ x.2.2 ≤ most ∧ u ≤ x.2.2 ∧ x.1.length = x.2.1 ∧ MV.nles (M + (x.2.2 - u)) e ∧ ∃ c' vs', allC ev (l.drop x.2.1) e = some (vs', c') ∧ x.2.2 + c' = u + c ∧ x.1 ++ preC ev most e x.2.2 (l.drop x.2.1) = preC ev most e u l) (fun x : List MV × Nat × Nat => [(.slot 15, .one (.v (dint (x.2.1 : Int)))), (.slot 14, .one (.v (dint (l.length : Int)))), (.slot 13, .one (.v (.sl (l.map Tm.cells)))), (.slot 0, .one (.v (ptr b))), (.slot 2, .one (.v (MV.envM e))), (.slot 7, .one (.v (dbool false))), (.slot 6, .one (.loc 6 0)), (.slot 8, .one (.loc 8 0)), (.loc 6, .row ([.v nilI, .v nilI, .v nilI])), (.loc 8, .row ([.v (at3 x.1 0), .v (at3 x.1 1), .v (at3 x.1 2)])), (.heap  b, .row ([.v (dint (x.2.2 : Int)), .v (dint (most : Int))]))]) (fun x : List MV × Nat × Nat => l.length - x.2.1) (([] : List MV), 0, u) (⟨Nat.zero_le _, hu, Nat.le_refl u, rfl, by simpa using he, c, vs, by simpa using h, rfl, by simp⟩) ?_)
 rintro ⟨p, i, u'⟩ ⟨hi, hu', huu, hpl, hg, c', vs', hc, hcc, hpre⟩ ih
 simp only at hi hu' huu hpl hg hc hcc hpre
 by_cases hil : i < l.length
 ·obtain ⟨t, ht⟩ : ∃ t, l[i]? = some t := ⟨l[i], List.getElem?_eq_getElem hil⟩
  have hd : l.drop i = t :: l.drop (i + 1) := by
   rw [List.drop_eq_getElem_cons hil]
   rw [List.getElem?_eq_getElem hil, Option.some.injEq] at ht
   rw [ht]
  rw [hd] at hc
  rw [hd] at hpre
  simp only [allC] at hc
  split at hc
  ·cases hc
  rename_i v1 c1 hv1
  rw [preC, hv1] at hpre
  simp only at hpre
  split at hc
  ·cases hc
  rename_i vs1 c2 hw
  simp only [Option.some.injEq, Prod.mk.injEq] at hc
  obtain ⟨rfl, rfl⟩ := hc
  have hgz : MV.nles (M + (u' - u)) e := hg
  have W1 := H b (M + (u' - u)) hv1 hu' (by omega) hg
  have hT := Tm.fold t
  have hu1 : useM most u' = [dint (u' : Int), dint (most : Int)] := by unfold useM; rw [if_pos hu']
  rw [hu1] at W1
  have hgi : (l.map Tm.cells)[i]? = some [dint t.kind, dint t.index, dint t.type.kind, .sl (t.type.args.map Ty.cells), .sl (t.args.map Tm.cells)] := by rw [List.getElem?_map, ht]; simp [Tm.cells_eq]
  have hne : l ≠ [] := by rintro rfl; simp at hil
  rcases (show i = 0 ∨ i = 1 ∨ i = 2 by omega) with rfl | rfl | rfl
  ·refine t_rg0 ?_
   refine t_y (j2 @hne @hil) ?_
   refine t_rg (j2 @hgi @hT) ?_
   by_cases hfit1 : u' + c1 ≤ most
   ·have o1 : outM most (u' + c1) v1.thing = .tup [v1.thing, dbool true] := by unfold outM; rw [if_pos hfit1]
    have o2 : useM most (u' + c1) = [dint ((u' + c1 : Nat) : Int), dint (most : Int)] := by unfold useM; rw [if_pos hfit1]
    rw [o1, o2] at W1
    refine t_c1 @hT W1 ?_
    refine t_rg0 ?_
    refine t_no ?_
    refine t_rg0 ?_
    refine t_rg0 ?_
    have a4 : u' + c1 + c2 = u + c := by omega
    have a6 : (p ++ [v1]).length = 0 + 1 := by simp [hpl]
    have a7 : at3 (p ++ [v1]) 0 = v1.thing := by simp [at3, hpl]
    have a8 : p ++ [v1] ++ preC ev most e (u' + c1) (l.drop (0 + 1)) = preC ev most e u l := by rw [List.append_assoc]; rw [← hpre, if_pos hfit1]; rfl
    have b1 : at3 (p ++ [v1]) 1 = at3 p 1 := by simp [at3, hpl, List.getElem?_append]
    have b2 : at3 (p ++ [v1]) 2 = at3 p 2 := by simp [at3, hpl, List.getElem?_append]
    have d1 : 0 + 1 ≤ l.length := by omega
    have d2 : u ≤ u' + c1 := by omega
    have d3 : M + (u' - u) ≤ M + (u' + c1 - u) := by omega
    have d5 : l.length - (0 + 1) < l.length - 0 := by omega
    refine t_b ?_
    refine t_sub [] (j2 @a7 (j2 @b1 @b2)) (ih (p ++ [v1], 0 + 1, u' + c1) ⟨d1, hfit1, d2, a6, MV.nles_mono d3 _ hgz, c2, vs1, hw, a4, a8⟩ d5)
   ·have o1 : outM most (u' + c1) v1.thing = .tup [nilI, dbool false] := by unfold outM; rw [if_neg hfit1]
    have o2 : useM most (u' + c1) = [dint (most : Int), dint (most : Int)] := by unfold useM; rw [if_neg hfit1]
    have hbig : ¬ u + c ≤ most := by omega
    have o4 : useM most (u + c) = [dint (most : Int), dint (most : Int)] := by unfold useM; rw [if_neg hbig]
    have o5 : preC ev most e u l = p := by rw [← hpre, if_neg hfit1]; simp
    have o6 : decide (u + c ≤ most) = false := decide_eq_false hbig
    unfold outA at hR
    rw [o4, o5, o6] at hR
    rw [o1, o2] at W1
    refine t_c1 @hT W1 ?_
    refine t_rg0 ?_
    refine t_yes ?_
    refine t_rg0 ?_
    repeat (first | refine W_seq ?_ | refine W_skip ?_ | refine W_block ?_ | refine W_inBlock ?_ | refine W_label ?_ | refine W_exit rfl ?_)
    first | refine W_retR hP hf hfn _ ([(b, [dint (most : Int), dint (most : Int)])]) (by first | (simp [go_sem, hP, hgl, hn, arr3]; done) | (simp [go_sem, hP, hgl, hn, arr3]; rfl)) (by simp [go_sem, hP, hgl, hn, arr3]) (by simp) ?_ hR.2 | refine W_endR hP hf hfn _ ([(b, [dint (most : Int), dint (most : Int)])]) (by first | (simp [go_sem, hP, hgl, hn, arr3]; done) | (simp [go_sem, hP, hgl, hn, arr3]; rfl)) (by simp [go_sem, hP, hgl, hn, arr3]) (by simp) ?_ hR.2
    rw [hR.1]
    refine ⟨?_, by simp [arr3]⟩
    try simp [arr3]
    try all_goals (simp [Ty.dv, Ty.cells_eq, Ty.kind_mk, Ty.args_mk, Tm.dv, Tm.cells_eq, Tm.kind_mk, Tm.index_mk, Tm.type_mk, Tm.args_mk, Val.dv, Val.cells_eq, Val.kind_mk, Val.num_mk, Val.list_mk, Val.args_mk, ints])
  ·refine t_rg0 ?_
   refine t_y (j2 @hne @hil) ?_
   refine t_rg (j2 @hgi @hT) ?_
   by_cases hfit1 : u' + c1 ≤ most
   ·have o1 : outM most (u' + c1) v1.thing = .tup [v1.thing, dbool true] := by unfold outM; rw [if_pos hfit1]
    have o2 : useM most (u' + c1) = [dint ((u' + c1 : Nat) : Int), dint (most : Int)] := by unfold useM; rw [if_pos hfit1]
    rw [o1, o2] at W1
    refine t_c1 @hT W1 ?_
    refine t_rg0 ?_
    refine t_no ?_
    refine t_rg0 ?_
    refine t_rg0 ?_
    have a4 : u' + c1 + c2 = u + c := by omega
    have a6 : (p ++ [v1]).length = 1 + 1 := by simp [hpl]
    have a7 : at3 (p ++ [v1]) 1 = v1.thing := by simp [at3, hpl]
    have a8 : p ++ [v1] ++ preC ev most e (u' + c1) (l.drop (1 + 1)) = preC ev most e u l := by rw [List.append_assoc]; rw [← hpre, if_pos hfit1]; rfl
    have b0 : at3 (p ++ [v1]) 0 = at3 p 0 := by simp [at3, hpl, List.getElem?_append]
    have b2 : at3 (p ++ [v1]) 2 = at3 p 2 := by simp [at3, hpl, List.getElem?_append]
    have d1 : 1 + 1 ≤ l.length := by omega
    have d2 : u ≤ u' + c1 := by omega
    have d3 : M + (u' - u) ≤ M + (u' + c1 - u) := by omega
    have d5 : l.length - (1 + 1) < l.length - 1 := by omega
    refine t_b ?_
    refine t_sub [] (j2 @a7 (j2 @b0 @b2)) (ih (p ++ [v1], 1 + 1, u' + c1) ⟨d1, hfit1, d2, a6, MV.nles_mono d3 _ hgz, c2, vs1, hw, a4, a8⟩ d5)
   ·have o1 : outM most (u' + c1) v1.thing = .tup [nilI, dbool false] := by unfold outM; rw [if_neg hfit1]
    have o2 : useM most (u' + c1) = [dint (most : Int), dint (most : Int)] := by unfold useM; rw [if_neg hfit1]
    have hbig : ¬ u + c ≤ most := by omega
    have o4 : useM most (u + c) = [dint (most : Int), dint (most : Int)] := by unfold useM; rw [if_neg hbig]
    have o5 : preC ev most e u l = p := by rw [← hpre, if_neg hfit1]; simp
    have o6 : decide (u + c ≤ most) = false := decide_eq_false hbig
    unfold outA at hR
    rw [o4, o5, o6] at hR
    rw [o1, o2] at W1
    refine t_c1 @hT W1 ?_
    refine t_rg0 ?_
    refine t_yes ?_
    refine t_rg0 ?_
    repeat (first | refine W_seq ?_ | refine W_skip ?_ | refine W_block ?_ | refine W_inBlock ?_ | refine W_label ?_ | refine W_exit rfl ?_)
    first | refine W_retR hP hf hfn _ ([(b, [dint (most : Int), dint (most : Int)])]) (by first | (simp [go_sem, hP, hgl, hn, arr3]; done) | (simp [go_sem, hP, hgl, hn, arr3]; rfl)) (by simp [go_sem, hP, hgl, hn, arr3]) (by simp) ?_ hR.2 | refine W_endR hP hf hfn _ ([(b, [dint (most : Int), dint (most : Int)])]) (by first | (simp [go_sem, hP, hgl, hn, arr3]; done) | (simp [go_sem, hP, hgl, hn, arr3]; rfl)) (by simp [go_sem, hP, hgl, hn, arr3]) (by simp) ?_ hR.2
    rw [hR.1]
    refine ⟨?_, by simp [arr3]⟩
    try simp [arr3]
    try all_goals (simp [Ty.dv, Ty.cells_eq, Ty.kind_mk, Ty.args_mk, Tm.dv, Tm.cells_eq, Tm.kind_mk, Tm.index_mk, Tm.type_mk, Tm.args_mk, Val.dv, Val.cells_eq, Val.kind_mk, Val.num_mk, Val.list_mk, Val.args_mk, ints])
  ·refine t_rg0 ?_
   refine t_y (j2 @hne @hil) ?_
   refine t_rg (j2 @hgi @hT) ?_
   by_cases hfit1 : u' + c1 ≤ most
   ·have o1 : outM most (u' + c1) v1.thing = .tup [v1.thing, dbool true] := by unfold outM; rw [if_pos hfit1]
    have o2 : useM most (u' + c1) = [dint ((u' + c1 : Nat) : Int), dint (most : Int)] := by unfold useM; rw [if_pos hfit1]
    rw [o1, o2] at W1
    refine t_c1 @hT W1 ?_
    refine t_rg0 ?_
    refine t_no ?_
    refine t_rg0 ?_
    refine t_rg0 ?_
    have a4 : u' + c1 + c2 = u + c := by omega
    have a6 : (p ++ [v1]).length = 2 + 1 := by simp [hpl]
    have a7 : at3 (p ++ [v1]) 2 = v1.thing := by simp [at3, hpl]
    have a8 : p ++ [v1] ++ preC ev most e (u' + c1) (l.drop (2 + 1)) = preC ev most e u l := by rw [List.append_assoc]; rw [← hpre, if_pos hfit1]; rfl
    have b0 : at3 (p ++ [v1]) 0 = at3 p 0 := by simp [at3, hpl, List.getElem?_append]
    have b1 : at3 (p ++ [v1]) 1 = at3 p 1 := by simp [at3, hpl, List.getElem?_append]
    have d1 : 2 + 1 ≤ l.length := by omega
    have d2 : u ≤ u' + c1 := by omega
    have d3 : M + (u' - u) ≤ M + (u' + c1 - u) := by omega
    have d5 : l.length - (2 + 1) < l.length - 2 := by omega
    refine t_b ?_
    refine t_sub [] (j2 @a7 (j2 @b0 @b1)) (ih (p ++ [v1], 2 + 1, u' + c1) ⟨d1, hfit1, d2, a6, MV.nles_mono d3 _ hgz, c2, vs1, hw, a4, a8⟩ d5)
   ·have o1 : outM most (u' + c1) v1.thing = .tup [nilI, dbool false] := by unfold outM; rw [if_neg hfit1]
    have o2 : useM most (u' + c1) = [dint (most : Int), dint (most : Int)] := by unfold useM; rw [if_neg hfit1]
    have hbig : ¬ u + c ≤ most := by omega
    have o4 : useM most (u + c) = [dint (most : Int), dint (most : Int)] := by unfold useM; rw [if_neg hbig]
    have o5 : preC ev most e u l = p := by rw [← hpre, if_neg hfit1]; simp
    have o6 : decide (u + c ≤ most) = false := decide_eq_false hbig
    unfold outA at hR
    rw [o4, o5, o6] at hR
    rw [o1, o2] at W1
    refine t_c1 @hT W1 ?_
    refine t_rg0 ?_
    refine t_yes ?_
    refine t_rg0 ?_
    repeat (first | refine W_seq ?_ | refine W_skip ?_ | refine W_block ?_ | refine W_inBlock ?_ | refine W_label ?_ | refine W_exit rfl ?_)
    first | refine W_retR hP hf hfn _ ([(b, [dint (most : Int), dint (most : Int)])]) (by first | (simp [go_sem, hP, hgl, hn, arr3]; done) | (simp [go_sem, hP, hgl, hn, arr3]; rfl)) (by simp [go_sem, hP, hgl, hn, arr3]) (by simp) ?_ hR.2 | refine W_endR hP hf hfn _ ([(b, [dint (most : Int), dint (most : Int)])]) (by first | (simp [go_sem, hP, hgl, hn, arr3]; done) | (simp [go_sem, hP, hgl, hn, arr3]; rfl)) (by simp [go_sem, hP, hgl, hn, arr3]) (by simp) ?_ hR.2
    rw [hR.1]
    refine ⟨?_, by simp [arr3]⟩
    try simp [arr3]
    try all_goals (simp [Ty.dv, Ty.cells_eq, Ty.kind_mk, Ty.args_mk, Tm.dv, Tm.cells_eq, Tm.kind_mk, Tm.index_mk, Tm.type_mk, Tm.args_mk, Val.dv, Val.cells_eq, Val.kind_mk, Val.num_mk, Val.list_mk, Val.args_mk, ints])
 ·have hd : l.drop i = [] := List.drop_eq_nil_iff.2 (by omega)
  have hii : i = l.length := by omega
  subst hii
  rw [hd] at hc hpre
  simp only [allC, Option.some.injEq, Prod.mk.injEq] at hc
  obtain ⟨rfl, rfl⟩ := hc
  simp only [preC, List.append_nil] at hpre
  have hsm : u + c ≤ most := by omega
  have o4 : useM most (u + c) = [dint (u' : Int), dint (most : Int)] := by unfold useM; rw [if_pos hsm]; rw [← hcc]; simp
  have o6 : decide (u + c ≤ most) = true := decide_eq_true hsm
  unfold outA at hR
  rw [← hpre, o4, o6] at hR
  refine t_rg0 ?_
  refine t_no ?_
  refine t_rg0 ?_
  repeat (first | refine W_seq ?_ | refine W_skip ?_ | refine W_block ?_ | refine W_inBlock ?_ | refine W_label ?_ | refine W_exit rfl ?_)
  first | refine W_retR hP hf hfn _ ([(b, [dint (u' : Int), dint (most : Int)])]) (by first | (simp [go_sem, hP, hgl, hn, arr3]; done) | (simp [go_sem, hP, hgl, hn, arr3]; rfl)) (by simp [go_sem, hP, hgl, hn, arr3]) (by simp) ?_ hR.2 | refine W_endR hP hf hfn _ ([(b, [dint (u' : Int), dint (most : Int)])]) (by first | (simp [go_sem, hP, hgl, hn, arr3]; done) | (simp [go_sem, hP, hgl, hn, arr3]; rfl)) (by simp [go_sem, hP, hgl, hn, arr3]) (by simp) ?_ hR.2
  rw [hR.1]
  refine ⟨?_, by simp [arr3]⟩
  try simp [arr3]
  try all_goals (simp [Ty.dv, Ty.cells_eq, Ty.kind_mk, Ty.args_mk, Tm.dv, Tm.cells_eq, Tm.kind_mk, Tm.index_mk, Tm.type_mk, Tm.args_mk, Val.dv, Val.cells_eq, Val.kind_mk, Val.num_mk, Val.list_mk, Val.args_mk, ints])
end
section
/-
 Package machine: the walk of the rounds of a recursion.
-/
variable {gl : Globs}

theorem thing_num (n : Nat) : (MV.num n).thing = .iface 3 (dint (n : Int)) := by rw [MV.thing]

theorem recM_ok {most : Nat} (hm : most ≤ 1073741824) {ev : Evl} (H : WalkM Tryz.prog gl 139 most ev) (hN : NleM most ev) (hNc : ∀ {f v : MV} {l : List MV} {c M : Nat}, callC ev f l = some (v, c) → f.nle M → MV.nles M l → v.nle (M + c)) {r f v : MV} {n u c : Nat} (b M : Nat)
  (h : recC ev f n 0 r = some (v, c)) (hu : u ≤ most) (hM : M + (most - u) ≤ 1073741824) (hr0 : r.nle M) (hf0 : f.nle M) (hn0 : n ≤ M) :
  Con1 Tryz.prog gl 164 [ptr b, .agg (arr3 [r, f, .num n])] [(b, useM most u)] (outM most (u + c) v.thing) [(b, useM most (u + c))] := by
 have z0 : at3 [r, f, .num n] 0 = r.thing := rfl
 have z1 : at3 [r, f, .num n] 1 = f.thing := rfl
 have z2 : at3 [r, f, .num n] 2 = .iface 3 (dint (n : Int)) := thing_num n
 have hu0 : useM most u = [dint (u : Int), dint (most : Int)] := by unfold useM; rw [if_pos hu]
 unfold arr3
 rw [z0, z1, z2, hu0]
 refine t_in Tryz.func164 ?_
 intro X hP hgl hf hfn hn hR hids hfit
 refine t_g0 ?_
 refine t_a ?_
 refine t_sub [] trivial (W_rounds (fun x : DV × Bool × Nat × Nat => x.1.isCell = true ∧ cellsD x.1 = [x.1] ∧ (x.2.1 = true → x.2.2.1 ≤ n ∧ x.2.2.2 ≤ most ∧ u ≤ x.2.2.2 ∧ ∃ (q : MV) (c' : Nat), x.1 = q.thing ∧ q.nle (M + (x.2.2.2 - u)) ∧ recC ev f (n - x.2.2.1) x.2.2.1 q = some (v, c') ∧ x.2.2.2 + c' = u + c) ∧ (x.2.1 = false → x.1 = nilI ∧ x.2.2.2 = most ∧ ¬ u + c ≤ most ∧ x.2.2.1 ≤ n + 1)) (fun x : DV × Bool × Nat × Nat => [(.slot 6, .one (.v x.1)), (.slot 7, .one (.v (dbool x.2.1))), (.slot 8, .one (.v (dint (x.2.2.1 : Int)))), (.slot 0, .one (.v (ptr b))), (.slot 4, .one (.v nilI)), (.slot 5, .one (.v (dbool false))), (.slot 3, .one (.loc 3 0)), (.loc 3, .row ([.v r.thing, .v f.thing, .v (.iface 3 (dint (n : Int)))])), (.heap  b, .row ([.v (dint (x.2.2.2 : Int)), .v (dint (most : Int))]))]) (fun x : DV × Bool × Nat × Nat => (if x.2.1 then n - x.2.2.1 + 1 else 0)) (r.thing, true, 0, u) (⟨thing_cell r, cellsD_thing r, fun _ => ⟨Nat.zero_le _, hu, Nat.le_refl u, r, c, rfl, by simpa using hr0, by simpa using h, rfl⟩, fun e => by cases e⟩) ?_)
 rintro ⟨y, ok, k, u'⟩ ⟨hy1, hy2, hy3, hy4⟩ ih
 simp only at hy1 hy2 hy3 hy4
 cases ok with
 | false =>
  obtain ⟨rfl, rfl, hbig, hk⟩ := hy4 rfl
  have o3 : outM u' (u + c) v.thing = .tup [nilI, dbool false] := by unfold outM; rw [if_neg hbig]
  have o4 : useM u' (u + c) = [dint (u' : Int), dint (u' : Int)] := by unfold useM; rw [if_neg hbig]
  rw [o3, o4] at hR
  refine t_rg0 ?_
  refine t_no ?_
  refine t_rg0 ?_
  refine t_ro [(b, [dint (u' : Int), dint (u' : Int)])] trivial ?_
  try simp
  try all_goals exact t_f
 | true =>
  obtain ⟨hk, hu', huu, q, c', rfl, hq, hc, hcc⟩ := hy3 rfl
  have hn1 : (n : Int) ≤ 1073741824 := by omega
  by_cases hkn : k < n
  ·have e1 : n - k = (n - (k + 1)) + 1 := by omega
   rw [e1, recC] at hc
   split at hc
   ·cases hc
   rename_i v1 c1 hv1
   split at hc
   ·cases hc
   rename_i w c2 hw
   simp only [Option.some.injEq, Prod.mk.injEq] at hc
   obtain ⟨rfl, rfl⟩ := hc
   have hfg : f.nle (M + (u' - u)) := MV.nle_mono (by omega) _ hf0
   have hlg : MV.nles (M + (u' - u)) [.num k, q] := by simp only [MV.nles, MV.nle]; exact ⟨by omega, hq, trivial⟩
   have W1 := callM_ok hm H hN b (M + (u' - u)) hv1 hu' (by omega) hfg hlg
   have hN1 := hNc hv1 hfg hlg
   have hu1 : useM most u' = [dint (u' : Int), dint (most : Int)] := by unfold useM; rw [if_pos hu']
   have hkn' : (k : Int) < (n : Int) := by omega
   rw [hu1] at W1
   simp only [List.map, thing_num] at W1
   refine t_rg0 ?_
   refine t_yes ?_
   by_cases hfit1 : u' + c1 ≤ most
   ·have o1 : outM most (u' + c1) v1.thing = .tup [v1.thing, dbool true] := by unfold outM; rw [if_pos hfit1]
    have o2 : useM most (u' + c1) = [dint ((u' + c1 : Nat) : Int), dint (most : Int)] := by unfold useM; rw [if_pos hfit1]
    rw [o1, o2] at W1
    refine t_c1 trivial W1 ?_
    refine t_rg0 ?_
    have d1 : k + 1 ≤ n := by omega
    have d2 : u ≤ u' + c1 := by omega
    have d3 : M + (u' - u) + c1 ≤ M + (u' + c1 - u) := by omega
    have d4 : u' + c1 + c2 = u + c := by omega
    have d5 : n - (k + 1) + 1 < n - k + 1 := by omega
    refine t_b ?_
    refine t_sub [] trivial (ih (v1.thing, true, k + 1, u' + c1) ⟨thing_cell v1, cellsD_thing v1, fun _ => ⟨d1, hfit1, d2, v1, c2, rfl, MV.nle_mono d3 _ hN1, hw, d4⟩, fun e => by cases e⟩ d5)
   ·have o1 : outM most (u' + c1) v1.thing = .tup [nilI, dbool false] := by unfold outM; rw [if_neg hfit1]
    have o2 : useM most (u' + c1) = [dint (most : Int), dint (most : Int)] := by unfold useM; rw [if_neg hfit1]
    have hbig : ¬ u + c ≤ most := by omega
    have d1 : k + 1 ≤ n + 1 := by omega
    have d5 : 0 < n - k + 1 := by omega
    rw [o1, o2] at W1
    refine t_c1 trivial W1 ?_
    refine t_rg0 ?_
    refine t_b ?_
    refine t_sub [] trivial (ih (nilI, false, k + 1, most) ⟨rfl, rfl, fun e => (by cases e), fun _ => ⟨rfl, rfl, hbig, d1⟩⟩ d5)
  ·have e0 : n - k = 0 := by omega
   rw [e0, recC] at hc
   simp only [Option.some.injEq, Prod.mk.injEq] at hc
   obtain ⟨rfl, rfl⟩ := hc
   have hkn' : (n : Int) ≤ (k : Int) := by omega
   have hsm : u + c ≤ most := by omega
   have o3 : outM most (u + c) q.thing = .tup [q.thing, dbool true] := by unfold outM; rw [if_pos hsm]
   have o4 : useM most (u + c) = [dint (u' : Int), dint (most : Int)] := by unfold useM; rw [if_pos hsm]; rw [← hcc]; simp
   rw [o3, o4] at hR
   refine t_rg0 ?_
   refine t_no ?_
   refine t_rg0 ?_
   refine t_ro [(b, [dint (u' : Int), dint (most : Int)])] trivial ?_
   try simp
   try all_goals exact t_f
end
section
/-
 Package machine: the walk of eval.
-/
variable {gl : Globs}

theorem evS_pos : ∀ {d : Nat} {t : Tm} {e : List MV} {v : MV} {c : Nat}, evS d t e = some (v, c) → 1 ≤ c
 | 0, t, e, v, c, h => by cases h
 | d + 1, t, e, v, c, h => by
  rw [evS] at h
  repeat' split at h
  all_goals first
   | (cases h; done)
   | (simp only [Option.some.injEq, Prod.mk.injEq] at h; omega)
theorem blC_nil0 : blC [] (some []) = some (True, .ag [] []) := rfl
attribute [go_sem] blC_nil0
theorem thing_list (l : List Nat) : (MV.list l).thing = .iface 173 (cellM l) := by rw [MV.thing]
theorem thing_both (x y : MV) : (MV.both x y).thing = .iface 179 (.ref [x.thing, y.thing]) := by rw [MV.thing]
theorem thing_unit : MV.unit.thing = .iface 183 (.agg []) := by rw [MV.thing]
theorem cellM_nil : cellM [] = nilP := rfl
theorem cellM_cons (n : Nat) (l : List Nat) : cellM (n :: l) = .ref [dint (n : Int), cellM l] := rfl
theorem outM_yes {most n : Nat} (h : n ≤ most) (v : DV) : outM most n v = .tup [v, dbool true] := by unfold outM; rw [if_pos h]
theorem outM_no {most n : Nat} (h : ¬ n ≤ most) (v : DV) : outM most n v = .tup [nilI, dbool false] := by unfold outM; rw [if_neg h]
theorem useM_yes {most n : Nat} (h : n ≤ most) : useM most n = [dint (n : Int), dint (most : Int)] := by unfold useM; rw [if_pos h]
theorem useM_no {most n : Nat} (h : ¬ n ≤ most) : useM most n = [dint (most : Int), dint (most : Int)] := by unfold useM; rw [if_neg h]

def FoldM (P : Program) (gl : Globs) (ff : FuncId) (most : Nat) (ev : Evl) : Prop :=
 ∀ ⦃r f v : MV⦄ ⦃l : List Nat⦄ ⦃u c : Nat⦄ (b M : Nat), foldC ev f r l = some (v, c) → u ≤ most → M + (most - u) ≤ 1073741824 → r.nle M → f.nle M → (l.length ≤ M ∧ ∀ n ∈ l, n ≤ M) →
  Con1 P gl ff [ptr b, .agg (arr3 [r, f, .list l])] [(b, useM most u)] (outM most (u + c) v.thing) [(b, useM most (u + c))]

/-- the first unit is spent; a variable, a function -/
theorem evalM_1 {most : Nat} (hm : most ≤ 1073741824) (t : Tm) {e : List MV} {u : Nat} (b : Nat) (hu : u ≤ most) (h1 : t.kind = 1) (hi : 0 ≤ t.index ∧ t.index.toNat < e.length) :
  Con1 Tryz.prog gl 139 [ptr b, t.dv, MV.envM e] [(b, useM most u)] (outM most (u + 1) (e.getD t.index.toNat .unit).thing) [(b, useM most (u + 1))] := by
 rw [useM_yes hu]
 have hti : (t.index.toNat : Int) = t.index := Int.toNat_of_nonneg hi.1
 have W1 := env_at_ok (gl := gl) e t.index.toNat hi.2
 rw [hti] at W1
 by_cases hf1 : u + 1 ≤ most
 ·rw [useM_yes hf1, outM_yes hf1]
  have hum : ¬ (most : Int) ≤ (u : Int) := by omega
  refine t_in Tryz.func139 ?_
  intro X hP hgl hf hfn hn hR hids hfit
  refine t_g (j2 @hum @h1) ?_
  refine t_c1 trivial W1 ?_
  refine t_ro [(b, [dint ((u + 1 : Nat) : Int), dint (most : Int)])] trivial ?_
  try simp
  try all_goals exact t_f
 ·rw [useM_no hf1, outM_no hf1]
  have hum : (most : Int) ≤ (u : Int) := by omega
  have hue : (u : Int) = (most : Int) := by omega
  refine t_in Tryz.func139 ?_
  intro X hP hgl hf hfn hn hR hids hfit
  refine t_g @hum ?_
  refine t_ro [(b, [dint (most : Int), dint (most : Int)])] @hue ?_
  try simp [hue]
  try all_goals exact t_f

theorem evalM_2 {most : Nat} (hm : most ≤ 1073741824) (t : Tm) {e : List MV} {u : Nat} (b : Nat) (hu : u ≤ most) (h2 : t.kind = 2) {body : Tm} {rest : List Tm} (ha : t.args = body :: rest) :
  Con1 Tryz.prog gl 139 [ptr b, t.dv, MV.envM e] [(b, useM most u)] (outM most (u + 1) (MV.clo body e).thing) [(b, useM most (u + 1))] := by
 rw [useM_yes hu]
 by_cases hf1 : u + 1 ≤ most
 ·rw [useM_yes hf1, outM_yes hf1, thing_clo]
  have hum : ¬ (most : Int) ≤ (u : Int) := by omega
  have hg : (t.args.map Tm.cells)[0]? = some [dint body.kind, dint body.index, dint body.type.kind, .sl (body.type.args.map Ty.cells), .sl (body.args.map Tm.cells)] := by rw [ha]; simp [Tm.cells_eq]
  have hg' : t.args[0]? = some body := by rw [ha]; rfl
  have hT := Tm.fold body
  refine t_in Tryz.func139 ?_
  intro X hP hgl hf hfn hn hR hids hfit
  refine t_g (j2 @hum @h2) ?_
  refine W_reg [42] fun K hK => ?_
  simp [go_sem, hP, hgl, hn, hg, hg', hT, Tm.cells_eq]
  refine vcK_boxR (cs := [dint body.kind, dint body.index, dint body.type.kind, .sl (body.type.args.map Ty.cells), .sl (body.args.map Tm.cells), MV.envM e]) (y := .ag [dint body.kind, dint body.index, dint body.type.kind, .sl (body.type.args.map Ty.cells), .sl (body.args.map Tm.cells), MV.envM e] []) (by simp [go_sem, hP, hgl, hn]) (by simp [go_sem]) (by simp [go_sem]) (by rw [hn]; exact Nat.le_of_ble_eq_true rfl) (by rfl) ?_
  simp [go_sem, hP, hgl, hn]
  refine t_e ?_
  clear hK K
  refine t_ro [(b, [dint ((u + 1 : Nat) : Int), dint (most : Int)])] trivial ?_
  try simp
  try all_goals exact t_f
 ·rw [useM_no hf1, outM_no hf1]
  have hum : (most : Int) ≤ (u : Int) := by omega
  have hue : (u : Int) = (most : Int) := by omega
  refine t_in Tryz.func139 ?_
  intro X hP hgl hf hfn hn hR hids hfit
  refine t_g @hum ?_
  refine t_ro [(b, [dint (most : Int), dint (most : Int)])] @hue ?_
  try simp [hue]
  try all_goals exact t_f
end
section
variable {gl : Globs}

/-- a slice of one-cell elements -/
def ones (l : List DV) : List (List DV) := l.map fun x => [x]
theorem ones_length (l : List DV) : (ones l).length = l.length := by simp [ones]
theorem ones_get {l : List DV} {i : Nat} {x : DV} (h : l[i]? = some x) : (ones l)[i]? = some [x] := by simp [ones, h]
attribute [go_sem] ones_length

theorem backwardM_ok (l : List DV) : Con Tryz.prog gl 176 [.sl (ones l)] [] fun r φ => ∃ b, r = .prim (.func (.func 179) #[] #[.pointer (some ⟨b, 0, none⟩)]) ∧ φ = [(b, [.sl (ones l)])] := by
 refine t_in Tryz.func176 ?_
 intro X hP hgl hf hfn hn hR hids hfit
 refine t_rg0 ?_
 refine W_expose 1 (by simp [go_sem]; rfl) ?_
 intro b hb
 simp [go_sem]
 refine t_rg0 ?_
 refine t_a ?_
 refine W_retR hP hf hfn (.prim (.func (.func 179) #[] #[.pointer (some ⟨b, 0, none⟩)])) [(b, [.sl (ones l)])] (by simp [go_sem, hP, hgl, hn]) (by simp [go_sem]) (by simp) (by rw [hR.1]; exact ⟨b, rfl, rfl⟩) hR.2

/-- what is asked of yield: the numbers from the last one on -/
def BackM (P : Program) (gl : Globs) (l : List DV) (φ : Nat → Objs) (Stop : Objs → Loop → Prop) (lp : Nat) (r : Loop) (D0 : Nat → Nat → Prop) (w0 : World) : Prop :=
 ∀ (i : Nat) (x : DV), l[i]? = some x → YC P gl D0 w0 lp r [dint i, x] (φ (i + 1)) fun b φ' r' => if b = true then φ' = φ i ∧ r' = r else Stop φ' r'

theorem backItM_ok (l : List DV) (hlen : l.length ≤ 2147483648) (b0 : Nat) (φ : Nat → Objs) (hφ : ∀ i, (φ i).map (·.1) = (φ 0).map (·.1)) (hnd : ((φ 0).map (·.1)).Nodup) (hb0 : b0 ∉ (φ 0).map (·.1)) {Stop : Objs → Loop → Prop} (hStop : ∀ ψ r', Stop ψ r' → ψ.map (·.1) = (φ 0).map (·.1)) (lp : Nat) (r : Loop) (hps : r.params.size = 2) :
  ItC Tryz.prog gl 179 [.prim (.func (.yield lp) #[] #[]), ptr b0] ((b0, [.sl (ones l)]) :: φ l.length) lp r (BackM Tryz.prog gl l φ Stop lp r) (fun φ' r' => (φ' = (b0, [.sl (ones l)]) :: φ 0 ∧ r' = r) ∨ ∃ ψ, φ' = (b0, [.sl (ones l)]) :: ψ ∧ Stop ψ r') := by
 refine ItC_intro Tryz.func179 rfl (by kernel_rfl) (Nat.le_of_ble_eq_true rfl) ?_
 intro X hP hgl hf hfn hn hmd hids hfit hlp hY
 simp only [List.map_cons, List.mem_cons, not_or, hφ] at hlp
 obtain ⟨hlb, hlφ⟩ := hlp
 have hin : ∀ (i : Nat) (A : St), (∀ m v, (m, v) ∈ A → ∀ b ∈ (φ 0).map (·.1), m ≠ .heap b) → objsIn (get (A ++ heapSt (φ i))) (φ i) := fun i A h => objsIn_tail (by rw [hφ]; exact hnd) (by rw [hφ]; exact h)
 simp only [entryL, entry, argSt, heapSt, List.map_cons, List.map_nil, List.cons_append, List.nil_append]
 refine t_rg @hlb ?_
 refine t_a ?_
 refine W_tail (A' := [(.slot 3, .one (.v (dint ((l.length : Int) - 1 - (0 : Nat))))), (.slot 0, .one (.v (.prim (.func (.yield lp) #[] #[])))), (.slot 1, .one (.v (ptr b0))), (.heap lp, .ob r), (.heap b0, .row [.v (.sl (ones l))])]) (A := [_, _, _, _, _, _, _, _]) ?_ ?_ ?_
 ·intro m v h
  simp only [List.mem_cons, List.not_mem_nil, or_false, Prod.mk.injEq] at h
  rcases h with ⟨rfl, rfl⟩ | ⟨rfl, rfl⟩ | ⟨rfl, rfl⟩ | ⟨rfl, rfl⟩ | ⟨rfl, rfl⟩ <;> simp [go_sem, hlb]
 ·simp only [List.cons_append, List.nil_append]
  refine W_upto (X := X) l.length (fun _ => True) (fun j => (.slot 3, .one (.v (dint ((l.length : Int) - 1 - (j : Nat))))) :: (.slot 0, .one (.v (.prim (.func (.yield lp) #[] #[])))) :: (.slot 1, .one (.v (ptr b0))) :: (.heap lp, .ob r) :: (.heap b0, .row [.v (.sl (ones l))]) :: heapSt (φ (l.length - j))) trivial ?_ ?_
  ·intro j hj _ hnext
   obtain ⟨i, hi⟩ : ∃ i : Nat, l.length = j + 1 + i := ⟨l.length - (j + 1), by omega⟩
   have hi1 : (l.length : Int) - 1 - (j : Nat) = (i : Nat) := by omega
   have hi2 : l.length - j = i + 1 := by omega
   have hi3 : l.length - (j + 1) = i := by omega
   have hx : l[i]? = some l[i] := List.getElem?_eq_getElem (by omega)
   rw [hi1, hi2]
   rw [hi3] at hnext
   generalize l[i] = x at hx
   have hgi := ones_get hx
   refine t_rg0 ?_
   refine t_yes ?_
   refine t_a ?_
   first | refine W_reg [] fun K hK => ?_ | refine W_regd (by rw [hP]; exact mixed) [] fun K hK => ?_
   refine t_s (j2 @hlb @hgi) ?_
   repeat (refine ⟨by omega, ?_⟩)
   refine vcK_yieldA (by simp [go_sem]) hP hgl (hY i x hx) hps (by simp [go_sem]) rfl ?_ (by rw [hφ]; exact hnd) (by simp [go_sem]) (by rw [hn]; exact Nat.le_of_ble_eq_true rfl) [(.slot 3, .one (.v (dint (i : Nat)))), (.slot 0, .one (.v (.prim (.func (.yield lp) #[] #[])))), (.slot 1, .one (.v (ptr b0))), (.heap b0, .row [.v (.sl (ones l))])] ?_ ?_ ?_
   ·repeat (first | refine objsIn_slot ?_ | refine objsIn_heap (by rw [hφ]; assumption) ?_)
    exact objsIn_self (by rw [hφ]; exact hnd)
   ·intro m v h
    simp only [List.mem_cons, List.not_mem_nil, or_false, Prod.mk.injEq] at h
    rw [hφ]
    rcases h with ⟨rfl, rfl⟩ | ⟨rfl, rfl⟩ | ⟨rfl, rfl⟩ | ⟨rfl, rfl⟩
    ·simp [go_sem]
    ·simp [go_sem]
    ·simp [go_sem]
    ·refine ⟨by simp [go_sem, hlb], by simp, by simp; exact fun e => hlb e.symm, fun b hb e => ?_⟩
     cases e; exact hb0 hb
   ·intro b φ' r' h
    have : φ'.map (·.1) = (φ 0).map (·.1) := by
     split at h
     ·rw [h.1, hφ]
     ·exact hStop _ _ h
    rw [this]
    exact ⟨hnd, hlφ⟩
   ·intro b φ' r' h _
    simp only [List.cons_append, List.nil_append]
    cases b with
    | true =>
     simp only [if_true] at h
     obtain ⟨rfl, rfl⟩ := h
     simp [go_sem, hP, hgl, hn]
     refine t_e ?_
     clear hK K
     refine t_no ?_
     refine t_rg0 ?_
     refine t_a ?_
     refine W_tail (A' := [(.slot 3, .one (.v (dint ((l.length : Int) - 1 - (j + 1 : Nat))))), (.slot 0, .one (.v (.prim (.func (.yield lp) #[] #[])))), (.slot 1, .one (.v (ptr b0))), (.heap lp, .ob r'), (.heap b0, .row [.v (.sl (ones l))])]) (A := [_, _, _, _, _, _, _, _, _]) ?_ (hnext trivial) ?_
     ·intro m v h
      simp only [List.mem_cons, List.not_mem_nil, or_false, Prod.mk.injEq] at h
      rcases h with ⟨rfl, rfl⟩ | ⟨rfl, rfl⟩ | ⟨rfl, rfl⟩ | ⟨rfl, rfl⟩ | ⟨rfl, rfl⟩ <;> simp [go_sem, hlb]
      omega
     ·intro m v h
      simp only [List.mem_cons, List.not_mem_nil, or_false, Prod.mk.injEq] at h
      rw [hφ]
      intro b hb
      rcases h with ⟨rfl, rfl⟩ | ⟨rfl, rfl⟩ | ⟨rfl, rfl⟩ | ⟨rfl, rfl⟩ | ⟨rfl, rfl⟩ | ⟨rfl, rfl⟩ | ⟨rfl, rfl⟩ | ⟨rfl, rfl⟩ | ⟨rfl, rfl⟩ <;> first | (simp; done) | (intro e; cases e; first | exact hb0 hb | exact hlφ hb)
    | false =>
     simp only [Bool.false_eq_true, if_false] at h
     have hids' := hStop _ _ h
     simp [go_sem, hP, hgl, hn]
     refine t_e ?_
     clear hK K
     refine t_yes ?_
     refine t_a ?_
     refine W_itfin hmd (φ := (b0, [.sl (ones l)]) :: φ') (q := r') (r := .tup []) (by rw [hP, hf, hfn]; exact Tryz.func179) (by rw [hfn]; simp [go_sem]) (objsIn_one ?_ ?_) ?_ ?_ (.inr ⟨φ', rfl, h⟩) outs_ret
     ·simp [go_sem, hlb]
     ·repeat (first | refine objsIn_slot ?_ | refine objsIn_heap (by rw [hids']; assumption) ?_)
      exact objsIn_self (by rw [hids']; exact hnd)
     ·simp only [List.map_cons, List.nodup_cons, hids']; exact ⟨hb0, hnd⟩
     ·simp [go_sem, hlb]
  ·intro _
   refine t_rg0 ?_
   refine t_no ?_
   refine t_a ?_
   refine W_itfin hmd (φ := (b0, [.sl (ones l)]) :: φ 0) (q := r) (r := .tup []) (by rw [hP, hf, hfn]; exact Tryz.func179) (by rw [hfn]; simp [go_sem]) (objsIn_one ?_ ?_) ?_ ?_ (.inl ⟨rfl, rfl⟩) outs_end
   ·simp [go_sem, hlb]
   ·repeat (first | refine objsIn_slot ?_ | refine objsIn_heap (by assumption) ?_)
    exact objsIn_self hnd
   ·simp only [List.map_cons, List.nodup_cons]; exact ⟨hb0, hnd⟩
   ·simp [go_sem, hlb]
 ·intro m v h
  simp only [List.mem_cons, List.not_mem_nil, or_false, Prod.mk.injEq] at h
  rw [hφ]
  intro b hb
  rcases h with ⟨rfl, rfl⟩ | ⟨rfl, rfl⟩ | ⟨rfl, rfl⟩ | ⟨rfl, rfl⟩ | ⟨rfl, rfl⟩ | ⟨rfl, rfl⟩ | ⟨rfl, rfl⟩ | ⟨rfl, rfl⟩ <;> first | (simp; done) | (intro e; cases e; first | exact hb0 hb | exact hlφ hb)
end
section
/-
 Package machine: the walk of a fold.
-/
variable {gl : Globs}

/-- the cells of a list, the first one first -/
def cellsOf : List Nat → List DV
 | [] => []
 | n :: l => cellM (n :: l) :: cellsOf l
theorem cellsOf_length : ∀ l, (cellsOf l).length = l.length
 | [] => rfl
 | n :: l => by simp [cellsOf, cellsOf_length l]
theorem cellsOf_get : ∀ {l : List Nat} {i : Nat}, i < l.length → (cellsOf l)[i]? = some (cellM (l.drop i))
 | n :: l, 0, _ => rfl
 | n :: l, i + 1, h => by simpa [cellsOf] using cellsOf_get (l := l) (i := i) (by simpa using h)

theorem fold_drop {ev : Evl} {f r : MV} : ∀ {l : List Nat} {v : MV} {c : Nat} (i : Nat), foldC ev f r l = some (v, c) → ∃ v' c', foldC ev f r (l.drop i) = some (v', c') ∧ c' ≤ c
 | l, v, c, 0, h => ⟨v, c, h, Nat.le_refl _⟩
 | [], v, c, i + 1, h => ⟨v, c, h, Nat.le_refl _⟩
 | x :: l, v, c, i + 1, h => by
  simp only [foldC] at h
  split at h
  ·cases h
  rename_i v1 c1 hv1
  split at h
  ·cases h
  rename_i w c2 hw
  simp only [Option.some.injEq, Prod.mk.injEq] at h
  obtain ⟨rfl, rfl⟩ := h
  obtain ⟨v', c', h1, h2⟩ := fold_drop i hv1
  exact ⟨v', c', h1, by omega⟩
theorem fold_step {ev : Evl} {f r : MV} {x : Nat} {l : List Nat} {v : MV} {c : Nat} (h : foldC ev f r (x :: l) = some (v, c)) : ∃ v1 c1 c2, foldC ev f r l = some (v1, c1) ∧ callC ev f [.num x, .list l, v1] = some (v, c2) ∧ c = c1 + c2 := by
 simp only [foldC] at h
 split at h
 ·cases h
 rename_i v1 c1 hv1
 split at h
 ·cases h
 rename_i w c2 hw
 simp only [Option.some.injEq, Prod.mk.injEq] at h
 obtain ⟨rfl, rfl⟩ := h
 exact ⟨v1, c1, c2, hv1, hw, rfl⟩
def foldS (ev : Evl) (f r : MV) (l : List Nat) (i : Nat) : MV × Nat := (foldC ev f r (l.drop i)).getD (.unit, 0)

theorem room_le {M c1 most u : Nat} (h : M + (most - u) ≤ 1073741824) (k : u + c1 ≤ most) : M + c1 + (most - (u + c1)) ≤ 1073741824 := by omega
set_option maxHeartbeats 1000000 in
theorem foldM_ok {most : Nat} (hm : most ≤ 1073741824) {ev : Evl} (H : WalkM Tryz.prog gl 139 most ev) (hN : NleM most ev) : FoldM Tryz.prog gl 165 most ev := by
 intro r f v l u c b M h hu hM hr0 hf0 hl0
 have z0 : at3 [r, f, .list l] 0 = r.thing := rfl
 have z1 : at3 [r, f, .list l] 1 = f.thing := rfl
 have z2 : at3 [r, f, .list l] 2 = .iface 173 (cellM l) := thing_list l
 have hll : (l.length : Int) ≤ 1073741824 := by omega
 unfold arr3
 rw [z0, z1, z2, useM_yes hu]
 refine t_in Tryz.func165 ?_
 intro X hP hgl hf hfn hn hR hids hfit
 refine t_g0 ?_
 refine t_a ?_
 refine W_sub [(1006, 0)] (by simp [go_sem]) (by simp [go_sem, ones] <;> omega) (by simp [go_sem]) (W_rounds (fun x : List DV × List Nat => x.1 ++ cellsOf x.2 = cellsOf l ∧ x.1.length + x.2.length = l.length) (fun x : List DV × List Nat => [(.slot 6, .one (.own 1006 (ones x.1))), (.tok 1006, .tk 1 x.1.length), (.slot 7, .one (.v (cellM x.2))), (.slot 4, .one (.v nilI)), (.slot 5, .one (.v (dbool false))), (.slot 2, .one (.loc 2 0)), (.loc 2, .row ([.v (ptr b)])), (.slot 3, .one (.loc 3 0)), (.loc 3, .row ([.v r.thing, .v f.thing, .v (.iface 173 (cellM l))])), (.heap  b, .row ([.v (dint (u : Int)), .v (dint (most : Int))]))]) (fun x : List DV × List Nat => x.2.length) (([] : List DV), l) (⟨rfl, by simp⟩) ?_)
 rintro ⟨cs, q⟩ ⟨hq1, hq2⟩ ih
 simp only at hq1 hq2
 cases q with
 | cons n q =>
  have hcm := cellM_cons n q
  have hon := ones_length cs
  simp only [List.length_cons] at hq2
  have hle : (cs.length : Int) + 1 ≤ 1073741824 := by omega
  have hcl : cs.length ≤ 2147483647 := by omega
  have hwid : ∀ e : List DV, e ∈ ones cs → e.length = 1 := by intro e he; simp only [ones, List.mem_map] at he; obtain ⟨x, -, rfl⟩ := he; rfl
  have hone : ones cs ++ [[DV.ref [dint (n : Int), cellM q]]] = ones (cs ++ [DV.ref [dint (n : Int), cellM q]]) := by simp [ones]
  have e1 : (cs ++ [DV.ref [dint (n : Int), cellM q]]) ++ cellsOf q = cellsOf l := by rw [← hq1, cellsOf, hcm]; simp
  have e2 : (cs ++ [DV.ref [dint (n : Int), cellM q]]).length + q.length = l.length := by simp; omega
  have e3 : q.length < (n :: q).length := by simp
  rw [hcm]
  refine t_rg0 ?_
  refine t_yes ?_
  refine t_rg (j2 @hcl (j2 @hwid @hon)) ?_
  refine t_rg0 ?_
  have hl1 : (cs ++ [DV.ref [dint (n : Int), cellM q]]).length = cs.length + 1 := by simp
  refine t_b ?_
  refine t_sub [(1006, 24)] (j2 @hone (j2 @hon @hl1)) (ih (cs ++ [DV.ref [dint (n : Int), cellM q]], q) ⟨e1, e2⟩ e3)
 | nil =>
  simp only [cellsOf, List.append_nil] at hq1
  subst hq1
  have hcm := cellM_nil
  rw [hcm]
  refine t_rg0 ?_
  refine t_no ?_
  refine t_rg0 ?_
  refine t_a ?_
  first | refine W_reg [] fun K hK => ?_ | refine W_regd (by rw [hP]; exact mixed) [] fun K hK => ?_
  refine t_s0 ?_
  repeat (refine ⟨by omega, ?_⟩)
  refine vcK_callR hP hgl (backwardM_ok (cellsOf l)) (by simp [go_sem]) rfl (by simp [go_sem]) (by simp) (by rw [hn]; exact Nat.le_of_ble_eq_true rfl) ?_
  rintro rr ψ ⟨b0, rfl, rfl⟩ hdis
  simp [go_sem] at hdis ⊢
  refine t_e ?_
  clear hK K
  refine t_a ?_
  refine W_expose 2 (by simp [go_sem]; rfl) ?_
  intro b2 hb2
  simp [go_sem, hdis] at hb2 ⊢
  refine W_expose 3 (by simp [go_sem]; rfl) ?_
  intro b3 hb3
  simp [go_sem, hdis, hb2] at hb3 ⊢
  refine W_expose 8 (by simp [go_sem]; rfl) ?_
  intro b8 hb8
  simp [go_sem, hdis, hb2, hb3] at hb8 ⊢
  refine W_expose 9 (by simp [go_sem]; rfl) ?_
  intro b9 hb9
  simp [go_sem, hdis, hb2, hb3, hb8] at hb9 ⊢
  have hnds : ¬ b0 = b := fun e => hdis e.symm
  obtain ⟨q1, q2⟩ := hb2
  obtain ⟨q3, q4, q5⟩ := hb3
  obtain ⟨q6, q7, q8, q9⟩ := hb8
  obtain ⟨q10, q11, q12, q13, q14⟩ := hb9
  have q15 : ¬ b9 = b := fun e => q14 e.symm
  have q16 : ¬ b8 = b := fun e => q9 e.symm
  have q17 : ¬ b3 = b := fun e => q5 e.symm
  have q18 : ¬ b2 = b := fun e => q2 e.symm
  have p1 := Ne.symm q1
  have p3 := Ne.symm q3
  have p4 := Ne.symm q4
  have p6 := Ne.symm q6
  have p7 := Ne.symm q7
  have p8 := Ne.symm q8
  have p10 := Ne.symm q10
  have p11 := Ne.symm q11
  have p12 := Ne.symm q12
  have p13 := Ne.symm q13
  have hS : ∀ i, foldC ev f r (l.drop i) = some (foldS ev f r l i) ∧ (foldS ev f r l i).2 ≤ c := by
   intro i
   obtain ⟨v', c', e1, e2⟩ := fold_drop i h
   unfold foldS
   rw [e1]
   exact ⟨rfl, e2⟩
  have hS0 : foldS ev f r l 0 = (v, c) := by unfold foldS; rw [List.drop_zero, h]; rfl
  have hSl : foldS ev f r l l.length = (r, 0) := by unfold foldS; rw [List.drop_length]; rfl
  generalize hSS : foldS ev f r l = S at hS hS0 hSl
  let Φ : Nat → Objs := fun i => [(b2, [ptr b]), (b3, [r.thing, f.thing, .iface 173 (cellM l)]), (b8, [if u + (S i).2 ≤ most then (S i).1.thing else nilI]), (b9, [dbool (decide (u + (S i).2 ≤ most))]), (b, useM most (u + (S i).2))]
  have hlenc : (cellsOf l).length = l.length := cellsOf_length l
  have hΦl : Φ (cellsOf l).length = [(b2, [ptr b]), (b3, [r.thing, f.thing, .iface 173 (cellM l)]), (b8, [r.thing]), (b9, [dbool true]), (b, [dint (u : Int), dint (most : Int)])] := by
   simp only [Φ, hlenc, hSl, Nat.add_zero, if_pos hu, useM_yes hu, decide_eq_true hu]
  refine W_rangeFunc hR.2 (f := 179) (fi := #[]) (ca := #[.pointer (some ⟨b0, 0, none⟩)]) (by simp [go_sem]) (by simp [primOK]) (φ := (b0, [.sl (ones (cellsOf l))]) :: Φ (cellsOf l).length) ?_ ?_ (Y := BackM X.P X.gl (cellsOf l) Φ (fun ψ r' => ∃ i, ψ = Φ i ∧ ¬ u + (S i).2 ≤ most ∧ r'.state = .done ∧ r'.pending = some (.exit 2))) (R := fun φ' r' => (φ' = (b0, [.sl (ones (cellsOf l))]) :: Φ 0 ∧ r'.state = .ready ∧ r'.pending = none) ∨ ∃ i, φ' = (b0, [.sl (ones (cellsOf l))]) :: Φ i ∧ ¬ u + (S i).2 ≤ most ∧ r'.state = .done ∧ r'.pending = some (.exit 2)) (SL := [(2, ptr b2), (3, ptr b3), (8, ptr b8), (9, ptr b9)]) ?_ ?_ ?_ ?_ ?_
  ·rw [hΦl]
   refine objsIn_one ?_ (objsIn_one ?_ (objsIn_one ?_ (objsIn_one ?_ (objsIn_one ?_ (objsIn_one ?_ (by simp [objsIn]))))))
   all_goals simp [go_sem, hdis, hnds, q1, q2, q3, q4, q5, q6, q7, q8, q9, q10, q11, q12, q13, q14, q15, q16, q17, q18, p1, p3, p4, p6, p7, p8, p10, p11, p12, p13]
  ·rw [hΦl]
   simp [hdis, hnds, q1, q2, q3, q4, q5, q6, q7, q8, q9, q10, q11, q12, q13, q14, q15, q16, q17, q18, p1, p3, p4, p6, p7, p8, p10, p11, p12, p13]
   try (refine ⟨?_, ?_⟩ <;> (intro e; subst e; simp_all))
  ·intro n x h
   simp only [List.mem_cons, List.not_mem_nil, or_false, Prod.mk.injEq] at h
   rcases h with ⟨rfl, rfl⟩ | ⟨rfl, rfl⟩ | ⟨rfl, rfl⟩ | ⟨rfl, rfl⟩ <;> simp [go_sem]
  ·intro lp rr h1 h2 h3 h4
   have := backItM_ok (gl := gl) (cellsOf l) (by rw [hlenc]; omega) b0 Φ (fun _ => rfl) (by simp only [Φ]; simp [hdis, hnds, q1, q2, q3, q4, q5, q6, q7, q8, q9, q10, q11, q12, q13, q14, q15, q16, q17, q18, p1, p3, p4, p6, p7, p8, p10, p11, p12, p13]; try (intro e; subst e; simp_all)) (by simp only [Φ]; simp [hdis, hnds, q1, q2, q3, q4, q5, q6, q7, q8, q9, q10, q11, q12, q13, q14, q15, q16, q17, q18, p1, p3, p4, p6, p7, p8, p10, p11, p12, p13]) (Stop := fun ψ r' => ∃ i, ψ = Φ i ∧ ¬ u + (S i).2 ≤ most ∧ r'.state = .done ∧ r'.pending = some (.exit 2)) (by rintro ψ r' ⟨i, rfl, -⟩; rfl) lp rr (by rw [h3]; rfl)
   rw [hP, hgl]
   refine ⟨this.1, fun D w vs a1 a2 a3 a4 a5 a6 => (this.2 D w vs a1 a2 a3 a4 a5 a6).mono ?_⟩
   rintro e w' ⟨v1, D', φ', r', rfl, hR', rest⟩
   refine ⟨v1, D', φ', r', rfl, ?_, rest⟩
   rcases hR' with ⟨rfl, rfl⟩ | ⟨ψ, hψ, i, rfl, k1, k2, k3⟩
   ·exact .inl ⟨rfl, h1, h2⟩
   ·exact .inr ⟨i, hψ, k1, k2, k3⟩
  ·intro lp rr D0 w0 h1 h2 h3 h4 h5 h6 h7 h8 h9 i x hx
   rw [hP, hgl]
   have hil : i < l.length := by have := (List.getElem?_eq_some_iff.1 hx).1; rw [hlenc] at this; exact this
   rw [cellsOf_get hil, Option.some.injEq] at hx
   subst hx
   refine YC_round X.n h5 h9 h1 (by rw [h3]; rfl) (by rw [h3, hn]; decide) (by rw [h3]; decide) (by rw [h3]; simp) ?_
   intro X' hP' hgl' hf' hn' hmd' hids' hl' hfit'
   rw [h3, h6, h7]
   rw [hn] at hn'
   clear hP hgl hn
   have hP := hP'
   have hgl := hgl'
   have hn := hn'
   have hl2 : ¬ lp = b2 ∧ ¬ lp = b3 ∧ ¬ lp = b8 ∧ ¬ lp = b9 ∧ ¬ lp = b := by simpa [Φ] using hl'
   obtain ⟨x2, x3, x8, x9, xb⟩ := hl2
   have i2 := Ne.symm x2
   have i3 := Ne.symm x3
   have i8 := Ne.symm x8
   have i9 := Ne.symm x9
   have ib := Ne.symm xb
   obtain ⟨n, hdi⟩ : ∃ n, l.drop i = n :: l.drop (i + 1) := ⟨l[i], List.drop_eq_getElem_cons hil⟩
   have hcm := cellM_cons n (l.drop (i + 1))
   have hfS := (hS i).1
   rw [hdi] at hfS ⊢
   obtain ⟨v1, c1, c2, g1, g2, g3⟩ := fold_step hfS
   have hS1 := (hS (i + 1)).1
   rw [g1, Option.some.injEq] at hS1
   rw [hcm]
   by_cases hfa : u + c1 ≤ most
   ·have hΦ1 : Φ (i + 1) = [(b2, [ptr b]), (b3, [r.thing, f.thing, .iface 173 (cellM l)]), (b8, [v1.thing]), (b9, [dbool true]), (b, [dint ((u + c1 : Nat) : Int), dint (most : Int)])] := by
     simp only [Φ, ← hS1, if_pos hfa, useM_yes hfa, decide_eq_true hfa]
    have hbd : ∀ n' ∈ l.drop (i + 1), n' ≤ M := fun n' hn' => hl0.2 n' (List.mem_of_mem_drop hn')
    have hbl : (l.drop (i + 1)).length ≤ M := by have := hl0.1; rw [List.length_drop]; omega
    have hnM : n ≤ M := hl0.2 n (List.mem_of_mem_drop (by rw [hdi]; exact List.mem_cons_self))
    have hv1 := nle_fold hN g1 hf0 hr0 ⟨hbl, hbd⟩
    have w1 : f.nle (M + c1) := MV.nle_mono (Nat.le_add_right M c1) f hf0
    have w2 : M + c1 + (most - (u + c1)) ≤ 1073741824 := room_le hM hfa
    have w3 : MV.nles (M + c1) [.num n, .list (l.drop (i + 1)), v1] := by
     simp only [MV.nles, MV.nle]
     exact ⟨by omega, ⟨by omega, fun n' hn' => Nat.le_trans (hbd n' hn') (Nat.le_add_right M c1)⟩, hv1, trivial⟩
    have W1 := callM_ok hm H hN b (M + c1) g2 hfa w2 w1 w3
    rw [useM_yes hfa] at W1
    simp only [List.map, thing_num, thing_list] at W1
    rw [hΦ1]
    simp only [entryR, h3, parSt, slotSt, heapSt, List.cons_append, List.nil_append]
    refine t_rg (j2 @hdis (j2 @hnds (j2 @q1 (j2 @q2 (j2 @q3 (j2 @q4 (j2 @q5 (j2 @q6 (j2 @q7 (j2 @q8 (j2 @q9 (j2 @q10 (j2 @q11 (j2 @q12 (j2 @q13 (j2 @q14 (j2 @q15 (j2 @q16 (j2 @q17 (j2 @q18 (j2 @p1 (j2 @p3 (j2 @p4 (j2 @p6 (j2 @p7 (j2 @p8 (j2 @p10 (j2 @p11 (j2 @p12 (j2 @p13 (j2 @x2 (j2 @x3 (j2 @x8 (j2 @x9 (j2 @xb (j2 @i2 (j2 @i3 (j2 @i8 (j2 @i9 @ib))))))))))))))))))))))))))))))))))))))) ?_
    refine W_begin (r := rr) (l := lp) (by simp [Ctx.rd, hmd']) (by simp [go_sem]) h1 ?_
    simp [go_sem, hdis, hnds, q1, q2, q3, q4, q5, q6, q7, q8, q9, q10, q11, q12, q13, q14, q15, q16, q17, q18, p1, p3, p4, p6, p7, p8, p10, p11, p12, p13, x2, x3, x8, x9, xb, i2, i3, i8, i9, ib]
    refine t_rg (j2 @hdis (j2 @hnds (j2 @q1 (j2 @q2 (j2 @q3 (j2 @q4 (j2 @q5 (j2 @q6 (j2 @q7 (j2 @q8 (j2 @q9 (j2 @q10 (j2 @q11 (j2 @q12 (j2 @q13 (j2 @q14 (j2 @q15 (j2 @q16 (j2 @q17 (j2 @q18 (j2 @p1 (j2 @p3 (j2 @p4 (j2 @p6 (j2 @p7 (j2 @p8 (j2 @p10 (j2 @p11 (j2 @p12 (j2 @p13 (j2 @x2 (j2 @x3 (j2 @x8 (j2 @x9 (j2 @xb (j2 @i2 (j2 @i3 (j2 @i8 (j2 @i9 @ib))))))))))))))))))))))))))))))))))))))) ?_
    refine t_no ?_
    by_cases hfb : u + c1 + c2 ≤ most
    ·have o1 : outM most (u + c1 + c2) (S i).1.thing = .tup [(S i).1.thing, dbool true] := outM_yes hfb _
     have hΦ0 : Φ i = [(b2, [ptr b]), (b3, [r.thing, f.thing, .iface 173 (cellM l)]), (b8, [(S i).1.thing]), (b9, [dbool true]), (b, [dint ((u + c1 + c2 : Nat) : Int), dint (most : Int)])] := by
      have e9 : u + (S i).2 = u + c1 + c2 := by omega
      simp only [Φ, e9, if_pos hfb, useM_yes hfb, decide_eq_true hfb]
     rw [o1, useM_yes hfb] at W1
     refine t_a ?_
     first | refine W_reg [] fun K hK => ?_ | refine W_regd (by rw [hP]; exact mixed) [] fun K hK => ?_
     refine t_s (j2 @hdis (j2 @hnds (j2 @q1 (j2 @q2 (j2 @q3 (j2 @q4 (j2 @q5 (j2 @q6 (j2 @q7 (j2 @q8 (j2 @q9 (j2 @q10 (j2 @q11 (j2 @q12 (j2 @q13 (j2 @q14 (j2 @q15 (j2 @q16 (j2 @q17 (j2 @q18 (j2 @p1 (j2 @p3 (j2 @p4 (j2 @p6 (j2 @p7 (j2 @p8 (j2 @p10 (j2 @p11 (j2 @p12 (j2 @p13 (j2 @x2 (j2 @x3 (j2 @x8 (j2 @x9 (j2 @xb (j2 @i2 (j2 @i3 (j2 @i8 (j2 @i9 @ib))))))))))))))))))))))))))))))))))))))) ?_
     refine t_cb (j2 @hdis (j2 @hnds (j2 @q1 (j2 @q2 (j2 @q3 (j2 @q4 (j2 @q5 (j2 @q6 (j2 @q7 (j2 @q8 (j2 @q9 (j2 @q10 (j2 @q11 (j2 @q12 (j2 @q13 (j2 @q14 (j2 @q15 (j2 @q16 (j2 @q17 (j2 @q18 (j2 @p1 (j2 @p3 (j2 @p4 (j2 @p6 (j2 @p7 (j2 @p8 (j2 @p10 (j2 @p11 (j2 @p12 (j2 @p13 (j2 @x2 (j2 @x3 (j2 @x8 (j2 @x9 (j2 @xb (j2 @i2 (j2 @i3 (j2 @i8 (j2 @i9 @ib))))))))))))))))))))))))))))))))))))))) (W1) ?_
     refine t_e ?_
     clear hK K
     refine t_a ?_
     refine W_rdfin hmd' (φ := Φ i) ?_ (by simp only [Φ]; simp [hdis, hnds, q1, q2, q3, q4, q5, q6, q7, q8, q9, q10, q11, q12, q13, q14, q15, q16, q17, q18, p1, p3, p4, p6, p7, p8, p10, p11, p12, p13]) (by simp [go_sem, hdis, hnds, q1, q2, q3, q4, q5, q6, q7, q8, q9, q10, q11, q12, q13, q14, q15, q16, q17, q18, p1, p3, p4, p6, p7, p8, p10, p11, p12, p13, x2, x3, x8, x9, xb, i2, i3, i8, i9, ib]) none rfl ?_
     ·rw [hΦ0]
      refine objsIn_one ?_ (objsIn_one ?_ (objsIn_one ?_ (objsIn_one ?_ (objsIn_one ?_ (by simp [objsIn])))))
      all_goals simp [go_sem, hdis, hnds, q1, q2, q3, q4, q5, q6, q7, q8, q9, q10, q11, q12, q13, q14, q15, q16, q17, q18, p1, p3, p4, p6, p7, p8, p10, p11, p12, p13, x2, x3, x8, x9, xb, i2, i3, i8, i9, ib]
     ·simp only [Option.isNone_none, if_true, true_and]
      cases rr; simp only [pastL] at h1 h2 ⊢; subst h1 h2; rfl
    ·have o1 : outM most (u + c1 + c2) (S i).1.thing = .tup [nilI, dbool false] := outM_no hfb _
     have hΦ0 : Φ i = [(b2, [ptr b]), (b3, [r.thing, f.thing, .iface 173 (cellM l)]), (b8, [nilI]), (b9, [dbool false]), (b, [dint (most : Int), dint (most : Int)])] := by
      have e9 : u + (S i).2 = u + c1 + c2 := by omega
      simp only [Φ, e9, if_neg hfb, useM_no hfb, decide_eq_false hfb]
     rw [o1, useM_no hfb] at W1
     refine t_a ?_
     first | refine W_reg [] fun K hK => ?_ | refine W_regd (by rw [hP]; exact mixed) [] fun K hK => ?_
     refine t_s (j2 @hdis (j2 @hnds (j2 @q1 (j2 @q2 (j2 @q3 (j2 @q4 (j2 @q5 (j2 @q6 (j2 @q7 (j2 @q8 (j2 @q9 (j2 @q10 (j2 @q11 (j2 @q12 (j2 @q13 (j2 @q14 (j2 @q15 (j2 @q16 (j2 @q17 (j2 @q18 (j2 @p1 (j2 @p3 (j2 @p4 (j2 @p6 (j2 @p7 (j2 @p8 (j2 @p10 (j2 @p11 (j2 @p12 (j2 @p13 (j2 @x2 (j2 @x3 (j2 @x8 (j2 @x9 (j2 @xb (j2 @i2 (j2 @i3 (j2 @i8 (j2 @i9 @ib))))))))))))))))))))))))))))))))))))))) ?_
     refine t_cb (j2 @hdis (j2 @hnds (j2 @q1 (j2 @q2 (j2 @q3 (j2 @q4 (j2 @q5 (j2 @q6 (j2 @q7 (j2 @q8 (j2 @q9 (j2 @q10 (j2 @q11 (j2 @q12 (j2 @q13 (j2 @q14 (j2 @q15 (j2 @q16 (j2 @q17 (j2 @q18 (j2 @p1 (j2 @p3 (j2 @p4 (j2 @p6 (j2 @p7 (j2 @p8 (j2 @p10 (j2 @p11 (j2 @p12 (j2 @p13 (j2 @x2 (j2 @x3 (j2 @x8 (j2 @x9 (j2 @xb (j2 @i2 (j2 @i3 (j2 @i8 (j2 @i9 @ib))))))))))))))))))))))))))))))))))))))) (W1) ?_
     refine t_e ?_
     clear hK K
     refine t_a ?_
     refine W_rdfin hmd' (φ := Φ i) ?_ (by simp only [Φ]; simp [hdis, hnds, q1, q2, q3, q4, q5, q6, q7, q8, q9, q10, q11, q12, q13, q14, q15, q16, q17, q18, p1, p3, p4, p6, p7, p8, p10, p11, p12, p13]) (by simp [go_sem, hdis, hnds, q1, q2, q3, q4, q5, q6, q7, q8, q9, q10, q11, q12, q13, q14, q15, q16, q17, q18, p1, p3, p4, p6, p7, p8, p10, p11, p12, p13, x2, x3, x8, x9, xb, i2, i3, i8, i9, ib]) none rfl ?_
     ·rw [hΦ0]
      refine objsIn_one ?_ (objsIn_one ?_ (objsIn_one ?_ (objsIn_one ?_ (objsIn_one ?_ (by simp [objsIn])))))
      all_goals simp [go_sem, hdis, hnds, q1, q2, q3, q4, q5, q6, q7, q8, q9, q10, q11, q12, q13, q14, q15, q16, q17, q18, p1, p3, p4, p6, p7, p8, p10, p11, p12, p13, x2, x3, x8, x9, xb, i2, i3, i8, i9, ib]
     ·simp only [Option.isNone_none, if_true, true_and]
      cases rr; simp only [pastL] at h1 h2 ⊢; subst h1 h2; rfl
   ·have hΦ1 : Φ (i + 1) = [(b2, [ptr b]), (b3, [r.thing, f.thing, .iface 173 (cellM l)]), (b8, [nilI]), (b9, [dbool false]), (b, [dint (most : Int), dint (most : Int)])] := by
     simp only [Φ, ← hS1, if_neg hfa, useM_no hfa, decide_eq_false hfa]
    rw [hΦ1]
    simp only [entryR, h3, parSt, slotSt, heapSt, List.cons_append, List.nil_append]
    refine t_rg (j2 @hdis (j2 @hnds (j2 @q1 (j2 @q2 (j2 @q3 (j2 @q4 (j2 @q5 (j2 @q6 (j2 @q7 (j2 @q8 (j2 @q9 (j2 @q10 (j2 @q11 (j2 @q12 (j2 @q13 (j2 @q14 (j2 @q15 (j2 @q16 (j2 @q17 (j2 @q18 (j2 @p1 (j2 @p3 (j2 @p4 (j2 @p6 (j2 @p7 (j2 @p8 (j2 @p10 (j2 @p11 (j2 @p12 (j2 @p13 (j2 @x2 (j2 @x3 (j2 @x8 (j2 @x9 (j2 @xb (j2 @i2 (j2 @i3 (j2 @i8 (j2 @i9 @ib))))))))))))))))))))))))))))))))))))))) ?_
    refine W_begin (r := rr) (l := lp) (by simp [Ctx.rd, hmd']) (by simp [go_sem]) h1 ?_
    simp [go_sem, hdis, hnds, q1, q2, q3, q4, q5, q6, q7, q8, q9, q10, q11, q12, q13, q14, q15, q16, q17, q18, p1, p3, p4, p6, p7, p8, p10, p11, p12, p13, x2, x3, x8, x9, xb, i2, i3, i8, i9, ib]
    refine t_rg (j2 @hdis (j2 @hnds (j2 @q1 (j2 @q2 (j2 @q3 (j2 @q4 (j2 @q5 (j2 @q6 (j2 @q7 (j2 @q8 (j2 @q9 (j2 @q10 (j2 @q11 (j2 @q12 (j2 @q13 (j2 @q14 (j2 @q15 (j2 @q16 (j2 @q17 (j2 @q18 (j2 @p1 (j2 @p3 (j2 @p4 (j2 @p6 (j2 @p7 (j2 @p8 (j2 @p10 (j2 @p11 (j2 @p12 (j2 @p13 (j2 @x2 (j2 @x3 (j2 @x8 (j2 @x9 (j2 @xb (j2 @i2 (j2 @i3 (j2 @i8 (j2 @i9 @ib))))))))))))))))))))))))))))))))))))))) ?_
    refine t_yes ?_
    refine W_rdfin hmd' (φ := Φ (i + 1)) ?_ (by simp only [Φ]; simp [hdis, hnds, q1, q2, q3, q4, q5, q6, q7, q8, q9, q10, q11, q12, q13, q14, q15, q16, q17, q18, p1, p3, p4, p6, p7, p8, p10, p11, p12, p13]) (by simp [go_sem, hdis, hnds, q1, q2, q3, q4, q5, q6, q7, q8, q9, q10, q11, q12, q13, q14, q15, q16, q17, q18, p1, p3, p4, p6, p7, p8, p10, p11, p12, p13, x2, x3, x8, x9, xb, i2, i3, i8, i9, ib]) (some (.exit 2)) ⟨_, rfl, rfl⟩ ?_
    ·rw [hΦ1]
     refine objsIn_one ?_ (objsIn_one ?_ (objsIn_one ?_ (objsIn_one ?_ (objsIn_one ?_ (by simp [objsIn])))))
     all_goals simp [go_sem, hdis, hnds, q1, q2, q3, q4, q5, q6, q7, q8, q9, q10, q11, q12, q13, q14, q15, q16, q17, q18, p1, p3, p4, p6, p7, p8, p10, p11, p12, p13, x2, x3, x8, x9, xb, i2, i3, i8, i9, ib]
    ·rw [if_neg (by simp)]
     exact ⟨i + 1, rfl, by rw [← hS1]; exact hfa, rfl, rfl⟩
  ·rintro φ' r' (⟨-, h, -⟩ | ⟨_, -, -, h, -⟩) <;> (rw [h]; simp)
  ·rintro φ' r' (⟨rfl, -, h⟩ | ⟨i, rfl, hi, -, h⟩) -
   ·rw [h]
    by_cases hfc : u + c ≤ most
    ·rw [outM_yes hfc, useM_yes hfc] at hR
     have hΦ0 : Φ 0 = [(b2, [ptr b]), (b3, [r.thing, f.thing, .iface 173 (cellM l)]), (b8, [v.thing]), (b9, [dbool true]), (b, [dint ((u + c : Nat) : Int), dint (most : Int)])] := by
      simp only [Φ, hS0, if_pos hfc, useM_yes hfc, decide_eq_true hfc]
     rw [hΦ0, hΦl]
     simp [go_sem, hdis, hnds, q1, q2, q3, q4, q5, q6, q7, q8, q9, q10, q11, q12, q13, q14, q15, q16, q17, q18, p1, p3, p4, p6, p7, p8, p10, p11, p12, p13]
     refine t_rg (j2 @hdis (j2 @hnds (j2 @q1 (j2 @q2 (j2 @q3 (j2 @q4 (j2 @q5 (j2 @q6 (j2 @q7 (j2 @q8 (j2 @q9 (j2 @q10 (j2 @q11 (j2 @q12 (j2 @q13 (j2 @q14 (j2 @q15 (j2 @q16 (j2 @q17 (j2 @q18 (j2 @p1 (j2 @p3 (j2 @p4 (j2 @p6 (j2 @p7 (j2 @p8 (j2 @p10 (j2 @p11 (j2 @p12 @p13))))))))))))))))))))))))))))) ?_
     refine t_ro [(b, [dint ((u + c : Nat) : Int), dint (most : Int)])] (j2 @hdis (j2 @hnds (j2 @q1 (j2 @q2 (j2 @q3 (j2 @q4 (j2 @q5 (j2 @q6 (j2 @q7 (j2 @q8 (j2 @q9 (j2 @q10 (j2 @q11 (j2 @q12 (j2 @q13 (j2 @q14 (j2 @q15 (j2 @q16 (j2 @q17 (j2 @q18 (j2 @p1 (j2 @p3 (j2 @p4 (j2 @p6 (j2 @p7 (j2 @p8 (j2 @p10 (j2 @p11 (j2 @p12 @p13))))))))))))))))))))))))))))) ?_
     try simp [hdis, hnds, q1, q2, q3, q4, q5, q6, q7, q8, q9, q10, q11, q12, q13, q14, q15, q16, q17, q18, p1, p3, p4, p6, p7, p8, p10, p11, p12, p13]
     try all_goals exact t_f
    ·rw [outM_no hfc, useM_no hfc] at hR
     have hΦ0 : Φ 0 = [(b2, [ptr b]), (b3, [r.thing, f.thing, .iface 173 (cellM l)]), (b8, [nilI]), (b9, [dbool false]), (b, [dint (most : Int), dint (most : Int)])] := by
      simp only [Φ, hS0, if_neg hfc, useM_no hfc, decide_eq_false hfc]
     rw [hΦ0, hΦl]
     simp [go_sem, hdis, hnds, q1, q2, q3, q4, q5, q6, q7, q8, q9, q10, q11, q12, q13, q14, q15, q16, q17, q18, p1, p3, p4, p6, p7, p8, p10, p11, p12, p13]
     refine t_rg (j2 @hdis (j2 @hnds (j2 @q1 (j2 @q2 (j2 @q3 (j2 @q4 (j2 @q5 (j2 @q6 (j2 @q7 (j2 @q8 (j2 @q9 (j2 @q10 (j2 @q11 (j2 @q12 (j2 @q13 (j2 @q14 (j2 @q15 (j2 @q16 (j2 @q17 (j2 @q18 (j2 @p1 (j2 @p3 (j2 @p4 (j2 @p6 (j2 @p7 (j2 @p8 (j2 @p10 (j2 @p11 (j2 @p12 @p13))))))))))))))))))))))))))))) ?_
     refine t_ro [(b, [dint (most : Int), dint (most : Int)])] (j2 @hdis (j2 @hnds (j2 @q1 (j2 @q2 (j2 @q3 (j2 @q4 (j2 @q5 (j2 @q6 (j2 @q7 (j2 @q8 (j2 @q9 (j2 @q10 (j2 @q11 (j2 @q12 (j2 @q13 (j2 @q14 (j2 @q15 (j2 @q16 (j2 @q17 (j2 @q18 (j2 @p1 (j2 @p3 (j2 @p4 (j2 @p6 (j2 @p7 (j2 @p8 (j2 @p10 (j2 @p11 (j2 @p12 @p13))))))))))))))))))))))))))))) ?_
     try simp [hdis, hnds, q1, q2, q3, q4, q5, q6, q7, q8, q9, q10, q11, q12, q13, q14, q15, q16, q17, q18, p1, p3, p4, p6, p7, p8, p10, p11, p12, p13]
     try all_goals exact t_f
   ·rw [h]
    have hfc : ¬ u + c ≤ most := by have := (hS i).2; omega
    rw [outM_no hfc, useM_no hfc] at hR
    have hΦ0 : Φ i = [(b2, [ptr b]), (b3, [r.thing, f.thing, .iface 173 (cellM l)]), (b8, [nilI]), (b9, [dbool false]), (b, [dint (most : Int), dint (most : Int)])] := by
     simp only [Φ, if_neg hi, useM_no hi, decide_eq_false hi]
    rw [hΦ0, hΦl]
    simp [go_sem, hdis, hnds, q1, q2, q3, q4, q5, q6, q7, q8, q9, q10, q11, q12, q13, q14, q15, q16, q17, q18, p1, p3, p4, p6, p7, p8, p10, p11, p12, p13]
    refine t_rg (j2 @hdis (j2 @hnds (j2 @q1 (j2 @q2 (j2 @q3 (j2 @q4 (j2 @q5 (j2 @q6 (j2 @q7 (j2 @q8 (j2 @q9 (j2 @q10 (j2 @q11 (j2 @q12 (j2 @q13 (j2 @q14 (j2 @q15 (j2 @q16 (j2 @q17 (j2 @q18 (j2 @p1 (j2 @p3 (j2 @p4 (j2 @p6 (j2 @p7 (j2 @p8 (j2 @p10 (j2 @p11 (j2 @p12 @p13))))))))))))))))))))))))))))) ?_
    refine t_ro [(b, [dint (most : Int), dint (most : Int)])] (j2 @hdis (j2 @hnds (j2 @q1 (j2 @q2 (j2 @q3 (j2 @q4 (j2 @q5 (j2 @q6 (j2 @q7 (j2 @q8 (j2 @q9 (j2 @q10 (j2 @q11 (j2 @q12 (j2 @q13 (j2 @q14 (j2 @q15 (j2 @q16 (j2 @q17 (j2 @q18 (j2 @p1 (j2 @p3 (j2 @p4 (j2 @p6 (j2 @p7 (j2 @p8 (j2 @p10 (j2 @p11 (j2 @p12 @p13))))))))))))))))))))))))))))) ?_
    try simp [hdis, hnds, q1, q2, q3, q4, q5, q6, q7, q8, q9, q10, q11, q12, q13, q14, q15, q16, q17, q18, p1, p3, p4, p6, p7, p8, p10, p11, p12, p13]
    try all_goals exact t_f
end
section
/-
 Package machine: eval, kind by kind.
-/
variable {gl : Globs}

/-- nothing is left -/
theorem evalM_0 {most : Nat} (hm : most ≤ 1073741824) (t : Tm) {e : List MV} {u : Nat} (b : Nat) (hu : u ≤ most) (hf1 : ¬ u + 1 ≤ most) :
  Con1 Tryz.prog gl 139 [ptr b, t.dv, MV.envM e] [(b, useM most u)] (.tup [nilI, dbool false]) [(b, [dint (most : Int), dint (most : Int)])] := by
 rw [useM_yes hu]
 have hum : (most : Int) ≤ (u : Int) := by omega
 have hue : (u : Int) = (most : Int) := by omega
 refine t_in Tryz.func139 ?_
 intro X hP hgl hf hfn hn hR hids hfit
 refine t_g @hum ?_
 refine t_ro [(b, [dint (most : Int), dint (most : Int)])] @hue ?_
 try simp [hue]
 try all_goals exact t_f

/-- the parts are too much -/
theorem evalM_all {most : Nat} (hm : most ≤ 1073741824) {ev : Evl} (H : WalkM Tryz.prog gl 139 most ev) (hN : NleM most ev) (t : Tm) {e : List MV} {u : Nat} (b M : Nat) (hu : u ≤ most) (hM : M + (most - u) ≤ 1073741824) (he : MV.nles M e)
  (h3 : t.args.length ≤ 3) (hk1 : ¬ t.kind = 1) (hk2 : ¬ t.kind = 2) {vs : List MV} {c1 : Nat} (hall : allC ev t.args e = some (vs, c1)) (hf1 : u + 1 ≤ most) (hf2 : ¬ u + 1 + c1 ≤ most) :
  Con1 Tryz.prog gl 139 [ptr b, t.dv, MV.envM e] [(b, useM most u)] (.tup [nilI, dbool false]) [(b, [dint (most : Int), dint (most : Int)])] := by
 rw [useM_yes hu]
 have hum : ¬ (most : Int) ≤ (u : Int) := by omega
 have A1 := allM_ok hm H hN b (M + 1) hall h3 hf1 (by omega) (MV.nles_mono (by omega) _ he)
 have o6 : decide (u + 1 + c1 ≤ most) = false := decide_eq_false hf2
 unfold outA arr3 at A1
 rw [useM_yes hf1, useM_no hf2, o6] at A1
 generalize preC ev most e (u + 1) t.args = pp at A1
 refine t_in Tryz.func139 ?_
 intro X hP hgl hf hfn hn hR hids hfit
 refine t_g (j2 @hum (j2 @hk1 @hk2)) ?_
 refine t_c1 trivial A1 ?_
 refine t_g0 ?_
 refine t_ro [(b, [dint (most : Int), dint (most : Int)])] trivial ?_
 try simp
 try all_goals exact t_f

theorem evalM_k3 {most : Nat} (hm : most ≤ 1073741824) {ev : Evl} (H : WalkM Tryz.prog gl 139 most ev) (hN : NleM most ev) (t : Tm) {e : List MV} {u : Nat} (b M : Nat) (hu : u ≤ most) (hM : M + (most - u) ≤ 1073741824) (he : MV.nles M e)
  (h3 : t.args.length ≤ 3) (hk : t.kind = 3) {f x : MV} {v : MV} {c2 : Nat} {c1 : Nat} (hall : allC ev t.args e = some ([f, x], c1)) (hf1 : u + 1 ≤ most) (hf2 : u + 1 + c1 ≤ most) (hnode : callC ev f [x] = some (v, c2)) :
  Con1 Tryz.prog gl 139 [ptr b, t.dv, MV.envM e] [(b, useM most u)] (outM most (u + 1 + c1 + c2) v.thing) [(b, useM most (u + 1 + c1 + c2))] := by
 rw [useM_yes hu]
 have hum : ¬ (most : Int) ≤ (u : Int) := by omega
 have A1 := allM_ok hm H hN b (M + 1) hall h3 hf1 (by omega) (MV.nles_mono (by omega) _ he)
 have B1 := nle_all hN hall he
 have o6 : decide (u + 1 + c1 ≤ most) = true := decide_eq_true hf2
 unfold outA arr3 at A1
 rw [useM_yes hf1, useM_yes hf2, o6, preC_all hall hf2] at A1
 have z0 : at3 [f, x] 0 = f.thing := by first | rfl | (simp only [at3]; rw [MV.thing]; done) | exact rfl
 have z1 : at3 [f, x] 1 = x.thing := by first | rfl | (simp only [at3]; rw [MV.thing]; done) | exact rfl
 have z2 : at3 [f, x] 2 = nilI := by first | rfl | (simp only [at3]; rw [MV.thing]; done) | exact rfl
 rw [z0, z1, z2] at A1
 simp only [MV.nles] at B1
 have W1 := callM_ok hm H hN b (M + c1) hnode hf2 (by omega) B1.1 (by simp only [MV.nles]; exact ⟨B1.2.1, trivial⟩)
 rw [useM_yes hf2] at W1
 simp only [List.map] at W1
 by_cases hf3 : u + 1 + c1 + c2 ≤ most
 ·rw [useM_yes hf3, outM_yes hf3] at W1 ⊢
  refine t_in Tryz.func139 ?_
  intro X hP hgl hf hfn hn hR hids hfit
  refine t_g (j2 @hum @hk) ?_
  refine t_c1 trivial A1 ?_
  refine t_g @hk ?_
  refine t_c1 trivial W1 ?_
  refine t_ro [(b, [dint ((u + 1 + c1 + c2 : Nat) : Int), dint (most : Int)])] trivial ?_
  try simp
  try all_goals exact t_f
 ·rw [useM_no hf3, outM_no hf3] at W1 ⊢
  refine t_in Tryz.func139 ?_
  intro X hP hgl hf hfn hn hR hids hfit
  refine t_g (j2 @hum @hk) ?_
  refine t_c1 trivial A1 ?_
  refine t_g @hk ?_
  refine t_c1 trivial W1 ?_
  refine t_ro [(b, [dint (most : Int), dint (most : Int)])] trivial ?_
  try simp
  try all_goals exact t_f

theorem evalM_k4 {most : Nat} (hm : most ≤ 1073741824) {ev : Evl} (H : WalkM Tryz.prog gl 139 most ev) (hN : NleM most ev) (t : Tm) {e : List MV} {u : Nat} (b M : Nat) (hu : u ≤ most) (hM : M + (most - u) ≤ 1073741824) (he : MV.nles M e)
  (h3 : t.args.length ≤ 3) (hk : t.kind = 4) {vs : List MV} {c1 : Nat} (hall : allC ev t.args e = some (vs, c1)) (hf1 : u + 1 ≤ most) (hf2 : u + 1 + c1 ≤ most) :
  Con1 Tryz.prog gl 139 [ptr b, t.dv, MV.envM e] [(b, useM most u)] (.tup [(.iface 3 (dint (0 : Int))), dbool true]) [(b, [dint ((u + 1 + c1 : Nat) : Int), dint (most : Int)])] := by
 rw [useM_yes hu]
 have hum : ¬ (most : Int) ≤ (u : Int) := by omega
 have A1 := allM_ok hm H hN b (M + 1) hall h3 hf1 (by omega) (MV.nles_mono (by omega) _ he)
 have B1 := nle_all hN hall he
 have o6 : decide (u + 1 + c1 ≤ most) = true := decide_eq_true hf2
 unfold outA arr3 at A1
 rw [useM_yes hf1, useM_yes hf2, o6, preC_all hall hf2] at A1
 refine t_in Tryz.func139 ?_
 intro X hP hgl hf hfn hn hR hids hfit
 refine t_g (j2 @hum @hk) ?_
 refine t_c1 trivial A1 ?_
 refine t_g @hk ?_
 refine t_ro [(b, [dint ((u + 1 + c1 : Nat) : Int), dint (most : Int)])] trivial ?_
 try simp
 try all_goals exact t_f

theorem evalM_k5 {most : Nat} (hm : most ≤ 1073741824) {ev : Evl} (H : WalkM Tryz.prog gl 139 most ev) (hN : NleM most ev) (t : Tm) {e : List MV} {u : Nat} (b M : Nat) (hu : u ≤ most) (hM : M + (most - u) ≤ 1073741824) (he : MV.nles M e)
  (h3 : t.args.length ≤ 3) (hk : t.kind = 5) {n : Nat} {c1 : Nat} (hall : allC ev t.args e = some ([.num n], c1)) (hf1 : u + 1 ≤ most) (hf2 : u + 1 + c1 ≤ most) :
  Con1 Tryz.prog gl 139 [ptr b, t.dv, MV.envM e] [(b, useM most u)] (.tup [(.iface 3 (dint (((n + 1 : Nat)) : Int))), dbool true]) [(b, [dint ((u + 1 + c1 : Nat) : Int), dint (most : Int)])] := by
 rw [useM_yes hu]
 have hum : ¬ (most : Int) ≤ (u : Int) := by omega
 have A1 := allM_ok hm H hN b (M + 1) hall h3 hf1 (by omega) (MV.nles_mono (by omega) _ he)
 have B1 := nle_all hN hall he
 have o6 : decide (u + 1 + c1 ≤ most) = true := decide_eq_true hf2
 unfold outA arr3 at A1
 rw [useM_yes hf1, useM_yes hf2, o6, preC_all hall hf2] at A1
 have z0 : at3 [.num n] 0 = (.iface 3 (dint (n : Int))) := by first | rfl | (simp only [at3]; rw [MV.thing]; done) | exact thing_num _
 have z1 : at3 [.num n] 1 = nilI := by first | rfl | (simp only [at3]; rw [MV.thing]; done) | exact rfl
 have z2 : at3 [.num n] 2 = nilI := by first | rfl | (simp only [at3]; rw [MV.thing]; done) | exact rfl
 rw [z0, z1, z2] at A1
 refine t_in Tryz.func139 ?_
 intro X hP hgl hf hfn hn hR hids hfit
 refine t_g (j2 @hum @hk) ?_
 refine t_c1 trivial A1 ?_
 simp only [MV.nles, MV.nle] at B1
 have hn1 : (n : Int) ≤ 1073741824 := by omega
 have hn2 : ((n + 1 : Nat) : Int) = (n : Int) + 1 := by omega
 refine t_g (j2 @hk @hn1) ?_
 refine t_ro [(b, [dint ((u + 1 + c1 : Nat) : Int), dint (most : Int)])] @hn2 ?_
 try simp [hn2]
 try all_goals exact t_f

theorem evalM_k6 {most : Nat} (hm : most ≤ 1073741824) {ev : Evl} (H : WalkM Tryz.prog gl 139 most ev) (hN : NleM most ev) (t : Tm) {e : List MV} {u : Nat} (b M : Nat) (hu : u ≤ most) (hM : M + (most - u) ≤ 1073741824) (he : MV.nles M e)
  (h3 : t.args.length ≤ 3) (hk : t.kind = 6) {r f : MV} {n : Nat} {v : MV} {c2 : Nat} {c1 : Nat} (hall : allC ev t.args e = some ([r, f, .num n], c1)) (hf1 : u + 1 ≤ most) (hf2 : u + 1 + c1 ≤ most) (hnode : recC ev f n 0 r = some (v, c2)) :
  Con1 Tryz.prog gl 139 [ptr b, t.dv, MV.envM e] [(b, useM most u)] (outM most (u + 1 + c1 + c2) v.thing) [(b, useM most (u + 1 + c1 + c2))] := by
 rw [useM_yes hu]
 have hum : ¬ (most : Int) ≤ (u : Int) := by omega
 have A1 := allM_ok hm H hN b (M + 1) hall h3 hf1 (by omega) (MV.nles_mono (by omega) _ he)
 have B1 := nle_all hN hall he
 have o6 : decide (u + 1 + c1 ≤ most) = true := decide_eq_true hf2
 unfold outA arr3 at A1
 rw [useM_yes hf1, useM_yes hf2, o6, preC_all hall hf2] at A1
 simp only [MV.nles, MV.nle] at B1
 have W1 := recM_ok hm H hN (fun h => nle_call hN h) b (M + c1) hnode hf2 (by omega) B1.1 B1.2.1 B1.2.2.1
 unfold arr3 at W1
 rw [useM_yes hf2] at W1
 by_cases hf3 : u + 1 + c1 + c2 ≤ most
 ·rw [useM_yes hf3, outM_yes hf3] at W1 ⊢
  refine t_in Tryz.func139 ?_
  intro X hP hgl hf hfn hn hR hids hfit
  refine t_g (j2 @hum @hk) ?_
  refine t_c1 trivial A1 ?_
  refine t_g @hk ?_
  refine t_c1 trivial W1 ?_
  refine t_ro [(b, [dint ((u + 1 + c1 + c2 : Nat) : Int), dint (most : Int)])] trivial ?_
  try simp
  try all_goals exact t_f
 ·rw [useM_no hf3, outM_no hf3] at W1 ⊢
  refine t_in Tryz.func139 ?_
  intro X hP hgl hf hfn hn hR hids hfit
  refine t_g (j2 @hum @hk) ?_
  refine t_c1 trivial A1 ?_
  refine t_g @hk ?_
  refine t_c1 trivial W1 ?_
  refine t_ro [(b, [dint (most : Int), dint (most : Int)])] trivial ?_
  try simp
  try all_goals exact t_f

theorem evalM_k7 {most : Nat} (hm : most ≤ 1073741824) {ev : Evl} (H : WalkM Tryz.prog gl 139 most ev) (hN : NleM most ev) (t : Tm) {e : List MV} {u : Nat} (b M : Nat) (hu : u ≤ most) (hM : M + (most - u) ≤ 1073741824) (he : MV.nles M e)
  (h3 : t.args.length ≤ 3) (hk : t.kind = 7) {vs : List MV} {c1 : Nat} (hall : allC ev t.args e = some (vs, c1)) (hf1 : u + 1 ≤ most) (hf2 : u + 1 + c1 ≤ most) :
  Con1 Tryz.prog gl 139 [ptr b, t.dv, MV.envM e] [(b, useM most u)] (.tup [(.iface 173 (cellM [])), dbool true]) [(b, [dint ((u + 1 + c1 : Nat) : Int), dint (most : Int)])] := by
 rw [useM_yes hu]
 have hum : ¬ (most : Int) ≤ (u : Int) := by omega
 have A1 := allM_ok hm H hN b (M + 1) hall h3 hf1 (by omega) (MV.nles_mono (by omega) _ he)
 have B1 := nle_all hN hall he
 have o6 : decide (u + 1 + c1 ≤ most) = true := decide_eq_true hf2
 unfold outA arr3 at A1
 rw [useM_yes hf1, useM_yes hf2, o6, preC_all hall hf2] at A1
 refine t_in Tryz.func139 ?_
 intro X hP hgl hf hfn hn hR hids hfit
 refine t_g (j2 @hum @hk) ?_
 refine t_c1 trivial A1 ?_
 have hnil := cellM_nil
 refine t_g @hk ?_
 refine t_ro [(b, [dint ((u + 1 + c1 : Nat) : Int), dint (most : Int)])] @cellM_nil ?_
 try simp [cellM_nil]
 try all_goals exact t_f

theorem evalM_k9 {most : Nat} (hm : most ≤ 1073741824) {ev : Evl} (H : WalkM Tryz.prog gl 139 most ev) (hN : NleM most ev) (hFold : FoldM Tryz.prog gl 165 most ev) (t : Tm) {e : List MV} {u : Nat} (b M : Nat) (hu : u ≤ most) (hM : M + (most - u) ≤ 1073741824) (he : MV.nles M e)
  (h3 : t.args.length ≤ 3) (hk : t.kind = 9) {r f : MV} {l : List Nat} {v : MV} {c2 : Nat} {c1 : Nat} (hall : allC ev t.args e = some ([r, f, .list l], c1)) (hf1 : u + 1 ≤ most) (hf2 : u + 1 + c1 ≤ most) (hnode : foldC ev f r l = some (v, c2)) :
  Con1 Tryz.prog gl 139 [ptr b, t.dv, MV.envM e] [(b, useM most u)] (outM most (u + 1 + c1 + c2) v.thing) [(b, useM most (u + 1 + c1 + c2))] := by
 rw [useM_yes hu]
 have hum : ¬ (most : Int) ≤ (u : Int) := by omega
 have A1 := allM_ok hm H hN b (M + 1) hall h3 hf1 (by omega) (MV.nles_mono (by omega) _ he)
 have B1 := nle_all hN hall he
 have o6 : decide (u + 1 + c1 ≤ most) = true := decide_eq_true hf2
 unfold outA arr3 at A1
 rw [useM_yes hf1, useM_yes hf2, o6, preC_all hall hf2] at A1
 simp only [MV.nles, MV.nle] at B1
 have W1 := hFold b (M + c1) hnode hf2 (by omega) B1.1 B1.2.1 B1.2.2.1
 unfold arr3 at W1
 rw [useM_yes hf2] at W1
 by_cases hf3 : u + 1 + c1 + c2 ≤ most
 ·rw [useM_yes hf3, outM_yes hf3] at W1 ⊢
  refine t_in Tryz.func139 ?_
  intro X hP hgl hf hfn hn hR hids hfit
  refine t_g (j2 @hum @hk) ?_
  refine t_c1 trivial A1 ?_
  refine t_g @hk ?_
  refine t_c1 trivial W1 ?_
  refine t_ro [(b, [dint ((u + 1 + c1 + c2 : Nat) : Int), dint (most : Int)])] trivial ?_
  try simp
  try all_goals exact t_f
 ·rw [useM_no hf3, outM_no hf3] at W1 ⊢
  refine t_in Tryz.func139 ?_
  intro X hP hgl hf hfn hn hR hids hfit
  refine t_g (j2 @hum @hk) ?_
  refine t_c1 trivial A1 ?_
  refine t_g @hk ?_
  refine t_c1 trivial W1 ?_
  refine t_ro [(b, [dint (most : Int), dint (most : Int)])] trivial ?_
  try simp
  try all_goals exact t_f

theorem evalM_k11 {most : Nat} (hm : most ≤ 1073741824) {ev : Evl} (H : WalkM Tryz.prog gl 139 most ev) (hN : NleM most ev) (t : Tm) {e : List MV} {u : Nat} (b M : Nat) (hu : u ≤ most) (hM : M + (most - u) ≤ 1073741824) (he : MV.nles M e)
  (h3 : t.args.length ≤ 3) (hk : t.kind = 11) {x y : MV} {c1 : Nat} (hall : allC ev t.args e = some ([.both x y], c1)) (hf1 : u + 1 ≤ most) (hf2 : u + 1 + c1 ≤ most) :
  Con1 Tryz.prog gl 139 [ptr b, t.dv, MV.envM e] [(b, useM most u)] (.tup [x.thing, dbool true]) [(b, [dint ((u + 1 + c1 : Nat) : Int), dint (most : Int)])] := by
 rw [useM_yes hu]
 have hum : ¬ (most : Int) ≤ (u : Int) := by omega
 have A1 := allM_ok hm H hN b (M + 1) hall h3 hf1 (by omega) (MV.nles_mono (by omega) _ he)
 have B1 := nle_all hN hall he
 have o6 : decide (u + 1 + c1 ≤ most) = true := decide_eq_true hf2
 unfold outA arr3 at A1
 rw [useM_yes hf1, useM_yes hf2, o6, preC_all hall hf2] at A1
 have z0 : at3 [.both x y] 0 = (.iface 179 (.ref [x.thing, y.thing])) := by first | rfl | (simp only [at3]; rw [MV.thing]; done) | exact thing_both _ _
 have z1 : at3 [.both x y] 1 = nilI := by first | rfl | (simp only [at3]; rw [MV.thing]; done) | exact rfl
 have z2 : at3 [.both x y] 2 = nilI := by first | rfl | (simp only [at3]; rw [MV.thing]; done) | exact rfl
 rw [z0, z1, z2] at A1
 refine t_in Tryz.func139 ?_
 intro X hP hgl hf hfn hn hR hids hfit
 refine t_g (j2 @hum @hk) ?_
 refine t_c1 trivial A1 ?_
 refine t_g @hk ?_
 refine t_ro [(b, [dint ((u + 1 + c1 : Nat) : Int), dint (most : Int)])] trivial ?_
 try simp
 try all_goals exact t_f

theorem evalM_k12 {most : Nat} (hm : most ≤ 1073741824) {ev : Evl} (H : WalkM Tryz.prog gl 139 most ev) (hN : NleM most ev) (t : Tm) {e : List MV} {u : Nat} (b M : Nat) (hu : u ≤ most) (hM : M + (most - u) ≤ 1073741824) (he : MV.nles M e)
  (h3 : t.args.length ≤ 3) (hk : t.kind = 12) {x y : MV} {c1 : Nat} (hall : allC ev t.args e = some ([.both x y], c1)) (hf1 : u + 1 ≤ most) (hf2 : u + 1 + c1 ≤ most) :
  Con1 Tryz.prog gl 139 [ptr b, t.dv, MV.envM e] [(b, useM most u)] (.tup [y.thing, dbool true]) [(b, [dint ((u + 1 + c1 : Nat) : Int), dint (most : Int)])] := by
 rw [useM_yes hu]
 have hum : ¬ (most : Int) ≤ (u : Int) := by omega
 have A1 := allM_ok hm H hN b (M + 1) hall h3 hf1 (by omega) (MV.nles_mono (by omega) _ he)
 have B1 := nle_all hN hall he
 have o6 : decide (u + 1 + c1 ≤ most) = true := decide_eq_true hf2
 unfold outA arr3 at A1
 rw [useM_yes hf1, useM_yes hf2, o6, preC_all hall hf2] at A1
 have z0 : at3 [.both x y] 0 = (.iface 179 (.ref [x.thing, y.thing])) := by first | rfl | (simp only [at3]; rw [MV.thing]; done) | exact thing_both _ _
 have z1 : at3 [.both x y] 1 = nilI := by first | rfl | (simp only [at3]; rw [MV.thing]; done) | exact rfl
 have z2 : at3 [.both x y] 2 = nilI := by first | rfl | (simp only [at3]; rw [MV.thing]; done) | exact rfl
 rw [z0, z1, z2] at A1
 refine t_in Tryz.func139 ?_
 intro X hP hgl hf hfn hn hR hids hfit
 refine t_g (j2 @hum @hk) ?_
 refine t_c1 trivial A1 ?_
 refine t_g @hk ?_
 refine t_ro [(b, [dint ((u + 1 + c1 : Nat) : Int), dint (most : Int)])] trivial ?_
 try simp
 try all_goals exact t_f

theorem evalM_k13 {most : Nat} (hm : most ≤ 1073741824) {ev : Evl} (H : WalkM Tryz.prog gl 139 most ev) (hN : NleM most ev) (t : Tm) {e : List MV} {u : Nat} (b M : Nat) (hu : u ≤ most) (hM : M + (most - u) ≤ 1073741824) (he : MV.nles M e)
  (h3 : t.args.length ≤ 3) (hk : t.kind = 13) {vs : List MV} {c1 : Nat} (hall : allC ev t.args e = some (vs, c1)) (hf1 : u + 1 ≤ most) (hf2 : u + 1 + c1 ≤ most) :
  Con1 Tryz.prog gl 139 [ptr b, t.dv, MV.envM e] [(b, useM most u)] (.tup [(.iface 183 (.agg [])), dbool true]) [(b, [dint ((u + 1 + c1 : Nat) : Int), dint (most : Int)])] := by
 rw [useM_yes hu]
 have hum : ¬ (most : Int) ≤ (u : Int) := by omega
 have A1 := allM_ok hm H hN b (M + 1) hall h3 hf1 (by omega) (MV.nles_mono (by omega) _ he)
 have B1 := nle_all hN hall he
 have o6 : decide (u + 1 + c1 ≤ most) = true := decide_eq_true hf2
 unfold outA arr3 at A1
 rw [useM_yes hf1, useM_yes hf2, o6, preC_all hall hf2] at A1
 refine t_in Tryz.func139 ?_
 intro X hP hgl hf hfn hn hR hids hfit
 refine t_g (j2 @hum @hk) ?_
 refine t_c1 trivial A1 ?_
 refine t_g @hk ?_
 refine t_ro [(b, [dint ((u + 1 + c1 : Nat) : Int), dint (most : Int)])] trivial ?_
 try simp
 try all_goals exact t_f

theorem evalM_k10 {most : Nat} (hm : most ≤ 1073741824) {ev : Evl} (H : WalkM Tryz.prog gl 139 most ev) (hN : NleM most ev) (t : Tm) {e : List MV} {u : Nat} (b M : Nat) (hu : u ≤ most) (hM : M + (most - u) ≤ 1073741824) (he : MV.nles M e)
  (h3 : t.args.length ≤ 3) (hk : t.kind = 10) {x y : MV} {c1 : Nat} (hall : allC ev t.args e = some ([x, y], c1)) (hf1 : u + 1 ≤ most) (hf2 : u + 1 + c1 ≤ most) :
  Con1 Tryz.prog gl 139 [ptr b, t.dv, MV.envM e] [(b, useM most u)] (.tup [(.iface 179 (.ref [x.thing, y.thing])), dbool true]) [(b, [dint ((u + 1 + c1 : Nat) : Int), dint (most : Int)])] := by
 rw [useM_yes hu]
 have hum : ¬ (most : Int) ≤ (u : Int) := by omega
 have A1 := allM_ok hm H hN b (M + 1) hall h3 hf1 (by omega) (MV.nles_mono (by omega) _ he)
 have B1 := nle_all hN hall he
 have o6 : decide (u + 1 + c1 ≤ most) = true := decide_eq_true hf2
 unfold outA arr3 at A1
 rw [useM_yes hf1, useM_yes hf2, o6, preC_all hall hf2] at A1
 have z0 : at3 [x, y] 0 = x.thing := by first | rfl | (simp only [at3]; rw [MV.thing]; done) | exact rfl
 have z1 : at3 [x, y] 1 = y.thing := by first | rfl | (simp only [at3]; rw [MV.thing]; done) | exact rfl
 have z2 : at3 [x, y] 2 = nilI := by first | rfl | (simp only [at3]; rw [MV.thing]; done) | exact rfl
 rw [z0, z1, z2] at A1
 refine t_in Tryz.func139 ?_
 intro X hP hgl hf hfn hn hR hids hfit
 refine t_g (j2 @hum @hk) ?_
 refine t_c1 trivial A1 ?_
 refine t_g @hk ?_
 refine W_reg [109] fun K hK => ?_
 simp [go_sem, hP, hgl, hn]
 refine vcK_boxR (cs := [x.thing, y.thing]) (y := .ag [x.thing, y.thing] []) (by simp [go_sem, hP, hgl, hn]) (by simp [go_sem]) (by simp [go_sem]) (by rw [hn]; exact Nat.le_of_ble_eq_true rfl) (by rfl) ?_
 simp [go_sem, hP, hgl, hn]
 refine t_e ?_
 clear hK K
 refine t_ro [(b, [dint ((u + 1 + c1 : Nat) : Int), dint (most : Int)])] trivial ?_
 try simp
 try all_goals exact t_f

theorem evalM_k8 {most : Nat} (hm : most ≤ 1073741824) {ev : Evl} (H : WalkM Tryz.prog gl 139 most ev) (hN : NleM most ev) (t : Tm) {e : List MV} {u : Nat} (b M : Nat) (hu : u ≤ most) (hM : M + (most - u) ≤ 1073741824) (he : MV.nles M e)
  (h3 : t.args.length ≤ 3) (hk : t.kind = 8) {n : Nat} {l : List Nat} {c1 : Nat} (hall : allC ev t.args e = some ([.num n, .list l], c1)) (hf1 : u + 1 ≤ most) (hf2 : u + 1 + c1 ≤ most) :
  Con1 Tryz.prog gl 139 [ptr b, t.dv, MV.envM e] [(b, useM most u)] (.tup [(.iface 173 (cellM (n :: l))), dbool true]) [(b, [dint ((u + 1 + c1 : Nat) : Int), dint (most : Int)])] := by
 rw [useM_yes hu]
 have hum : ¬ (most : Int) ≤ (u : Int) := by omega
 have A1 := allM_ok hm H hN b (M + 1) hall h3 hf1 (by omega) (MV.nles_mono (by omega) _ he)
 have B1 := nle_all hN hall he
 have o6 : decide (u + 1 + c1 ≤ most) = true := decide_eq_true hf2
 unfold outA arr3 at A1
 rw [useM_yes hf1, useM_yes hf2, o6, preC_all hall hf2] at A1
 have z0 : at3 [.num n, .list l] 0 = (.iface 3 (dint (n : Int))) := by first | rfl | (simp only [at3]; rw [MV.thing]; done) | exact thing_num _
 have z1 : at3 [.num n, .list l] 1 = (.iface 173 (cellM l)) := by first | rfl | (simp only [at3]; rw [MV.thing]; done) | exact thing_list _
 have z2 : at3 [.num n, .list l] 2 = nilI := by first | rfl | (simp only [at3]; rw [MV.thing]; done) | exact rfl
 rw [z0, z1, z2] at A1
 refine t_in Tryz.func139 ?_
 intro X hP hgl hf hfn hn hR hids hfit
 refine t_g (j2 @hum @hk) ?_
 refine t_c1 trivial A1 ?_
 refine t_g @hk ?_
 refine W_regd (by rw [hP]; exact mixed) [93] fun K hK => ?_
 simp [go_sem, hP, hgl, hn]
 refine vcdC_boxR (cs := [dint (n : Int), cellM l]) (y := .ag [dint (n : Int), cellM l] []) (fun _ _ => vcd_sound) (by simp [go_sem, hP, hgl, hn]) (by simp [go_sem]) (by simp [go_sem]) (by rw [hn]; exact Nat.le_of_ble_eq_true rfl) (by rfl) ?_
 simp [go_sem, hP, hgl, hn]
 refine t_e ?_
 clear hK K
 refine t_ro [(b, [dint ((u + 1 + c1 : Nat) : Int), dint (most : Int)])] @cellM_cons ?_
 try simp [cellM_cons]
 try all_goals exact t_f
end
section
/-
 Package machine: eval as a whole, by the depth.
-/
variable {gl : Globs}

theorem evalM_step {most : Nat} (hm : most ≤ 1073741824) {d : Nat} (H : WalkM Tryz.prog gl 139 most (evS d)) (hFold : FoldM Tryz.prog gl 165 most (evS d)) :
  WalkM Tryz.prog gl 139 most (evS (d + 1)) := by
 intro t e u v c b M h hu hM he
 have hN := nle_evS most d
 have hpos := evS_pos h
 by_cases hf1 : u + 1 ≤ most
 rotate_left
 ·have hbig : ¬ u + c ≤ most := by omega
  rw [outM_no hbig, useM_no hbig]
  exact evalM_0 hm t b hu hf1
 rw [evS] at h
 by_cases h1 : t.kind = 1
 ·rw [if_pos h1] at h
  split at h
  ·rename_i hi
   simp only [Option.some.injEq, Prod.mk.injEq] at h
   obtain ⟨rfl, rfl⟩ := h
   exact evalM_1 hm t b hu h1 hi
  ·cases h
 rw [if_neg h1] at h
 by_cases h2 : t.kind = 2
 ·rw [if_pos h2] at h
  split at h
  ·cases h
  ·rename_i ha
   simp only [Option.some.injEq, Prod.mk.injEq] at h
   obtain ⟨rfl, rfl⟩ := h
   cases hargs : t.args with
   | nil => rw [hargs] at ha; exact absurd rfl ha
   | cons body rest =>
    have : t.argN 0 = body := by simp [Tm.argN, hargs]
    rw [this]
    exact evalM_2 hm t b hu h2 hargs
 rw [if_neg h2] at h
 split at h
 ·cases h
 rename_i h3
 have h3 : t.args.length ≤ 3 := by omega
 split at h
 ·cases h
 rename_i vs c1 hall
 split at h
 ·cases h
 rename_i w c2 hnode
 simp only [Option.some.injEq, Prod.mk.injEq] at h
 obtain ⟨rfl, rfl⟩ := h
 have e0 : u + (1 + c1 + c2) = u + 1 + c1 + c2 := by omega
 rw [e0]
 by_cases hf2 : u + 1 + c1 ≤ most
 rotate_left
 ·have hbig : ¬ u + 1 + c1 + c2 ≤ most := by omega
  rw [outM_no hbig, useM_no hbig]
  exact evalM_all hm H hN t b M hu hM he h3 h1 h2 hall hf1 hf2
 unfold nodeS at hnode
 split at hnode
 rotate_left
 ·cases hnode
 rename_i hk
 unfold nodeC at hnode
 by_cases k3 : t.kind = 3
 ·rw [if_pos k3] at hnode
  split at hnode
  ·exact evalM_k3 hm H hN t b M hu hM he h3 k3 hall hf1 hf2 hnode
  ·cases hnode
 rw [if_neg k3] at hnode
 by_cases k4 : t.kind = 4
 ·rw [if_pos k4] at hnode
  simp only [Option.some.injEq, Prod.mk.injEq] at hnode
  obtain ⟨rfl, rfl⟩ := hnode
  rw [Nat.add_zero, outM_yes hf2, useM_yes hf2, thing_num]
  exact evalM_k4 hm H hN t b M hu hM he h3 k4 hall hf1 hf2
 rw [if_neg k4] at hnode
 by_cases k5 : t.kind = 5
 ·rw [if_pos k5] at hnode
  split at hnode
  ·simp only [Option.some.injEq, Prod.mk.injEq] at hnode
   obtain ⟨rfl, rfl⟩ := hnode
   rw [Nat.add_zero, outM_yes hf2, useM_yes hf2, thing_num]
   exact evalM_k5 hm H hN t b M hu hM he h3 k5 hall hf1 hf2
  ·cases hnode
 rw [if_neg k5] at hnode
 by_cases k6 : t.kind = 6
 ·rw [if_pos k6] at hnode
  split at hnode
  ·exact evalM_k6 hm H hN t b M hu hM he h3 k6 hall hf1 hf2 hnode
  ·cases hnode
 rw [if_neg k6] at hnode
 by_cases k7 : t.kind = 7
 ·rw [if_pos k7] at hnode
  simp only [Option.some.injEq, Prod.mk.injEq] at hnode
  obtain ⟨rfl, rfl⟩ := hnode
  rw [Nat.add_zero, outM_yes hf2, useM_yes hf2, thing_list]
  exact evalM_k7 hm H hN t b M hu hM he h3 k7 hall hf1 hf2
 rw [if_neg k7] at hnode
 by_cases k8 : t.kind = 8
 ·rw [if_pos k8] at hnode
  split at hnode
  ·simp only [Option.some.injEq, Prod.mk.injEq] at hnode
   obtain ⟨rfl, rfl⟩ := hnode
   rw [Nat.add_zero, outM_yes hf2, useM_yes hf2, thing_list]
   exact evalM_k8 hm H hN t b M hu hM he h3 k8 hall hf1 hf2
  ·cases hnode
 rw [if_neg k8] at hnode
 by_cases k9 : t.kind = 9
 ·rw [if_pos k9] at hnode
  split at hnode
  ·exact evalM_k9 hm H hN hFold t b M hu hM he h3 k9 hall hf1 hf2 hnode
  ·cases hnode
 rw [if_neg k9] at hnode
 by_cases k10 : t.kind = 10
 ·rw [if_pos k10] at hnode
  split at hnode
  ·simp only [Option.some.injEq, Prod.mk.injEq] at hnode
   obtain ⟨rfl, rfl⟩ := hnode
   rw [Nat.add_zero, outM_yes hf2, useM_yes hf2, thing_both]
   exact evalM_k10 hm H hN t b M hu hM he h3 k10 hall hf1 hf2
  ·cases hnode
 rw [if_neg k10] at hnode
 by_cases k11 : t.kind = 11
 ·rw [if_pos k11] at hnode
  split at hnode
  ·simp only [Option.some.injEq, Prod.mk.injEq] at hnode
   obtain ⟨rfl, rfl⟩ := hnode
   rw [Nat.add_zero, outM_yes hf2, useM_yes hf2]
   exact evalM_k11 hm H hN t b M hu hM he h3 k11 hall hf1 hf2
  ·cases hnode
 rw [if_neg k11] at hnode
 by_cases k12 : t.kind = 12
 ·rw [if_pos k12] at hnode
  split at hnode
  ·simp only [Option.some.injEq, Prod.mk.injEq] at hnode
   obtain ⟨rfl, rfl⟩ := hnode
   rw [Nat.add_zero, outM_yes hf2, useM_yes hf2]
   exact evalM_k12 hm H hN t b M hu hM he h3 k12 hall hf1 hf2
  ·cases hnode
 rw [if_neg k12] at hnode
 have k13 : t.kind = 13 := by omega
 simp only [Option.some.injEq, Prod.mk.injEq] at hnode
 obtain ⟨rfl, rfl⟩ := hnode
 rw [Nat.add_zero, outM_yes hf2, useM_yes hf2, thing_unit]
 exact evalM_k13 hm H hN t b M hu hM he h3 k13 hall hf1 hf2

/-- the walk of a run, if that of a fold is known -/
theorem walkM_all {most : Nat} (hm : most ≤ 1073741824) (hFold : ∀ ev, WalkM Tryz.prog gl 139 most ev → NleM most ev → FoldM Tryz.prog gl 165 most ev) :
  ∀ d, WalkM Tryz.prog gl 139 most (evS d)
 | 0 => by intro t e u v c b M h; cases h
 | d + 1 => evalM_step hm (walkM_all hm hFold d) (hFold _ (walkM_all hm hFold d) (nle_evS most d))
end
section
/-
 Package types: a type without functions is seen to be one (Data).
-/
variable {gl : Globs}

theorem arrRow_at {E : Nat} {full : List (List DV)} (hE : ∀ e ∈ full, e.length = E) {i : Nat} {e : List DV} (h : full[i]? = some e) : toDs (((arrRow full).drop (i * E)).take E) = some e := by
 have he := hE e (List.mem_of_getElem? h)
 have h1 : ((arrRow full).drop (i * E)).take E = e.map SV.v := by
  apply List.ext_getElem?
  intro j
  by_cases hj : j < E
  ·rw [List.getElem?_take_of_lt hj, List.getElem?_drop]
   have hje : e[j]? = some (e[j]'(by omega)) := List.getElem?_eq_getElem (by omega)
   simp only [arrRow, List.getElem?_map, flatten_at hE h hje, hje]
  ·rw [List.getElem?_eq_none (by simp; omega), List.getElem?_eq_none (by simp; omega)]
 rw [h1]
 exact toDs_map e

theorem anyLoc_arr (d : Nat) (ys : List (List DV)) : anyLoc d (arrRow ys) = false := anyLoc_vs d _
theorem anyTok_arr (d : Nat) (ys : List (List DV)) : anyTok d (arrRow ys) = false := anyTok_vs d _
attribute [go_sem] anyLoc_arr anyTok_arr
theorem rowLe_vs (σ : Nat → Nat) (l : List DV) : rowLe σ (l.map SV.v) (l.map SV.v) := by
 induction l with
 | nil => simp [rowLe]
 | cons x r ih => simp [rowLe, svLe, ih]
theorem rowLe_arr (σ : Nat → Nat) (ys : List (List DV)) : rowLe σ (arrRow ys) (arrRow ys) := rowLe_vs σ _
/-- the sizes of some types -/
def sizes : List T → Nat
 | [] => 0
 | a :: r => a.size + sizes r
theorem sizes_append (l r : List T) : sizes (l ++ r) = sizes l + sizes r := by
 induction l with
 | nil => simp [sizes]
 | cons a l ih => simp [sizes, ih]; omega
theorem size_pos (a : T) : 1 ≤ a.size := by cases a <;> simp only [T.size] <;> omega
theorem len_sizes (l : List T) : l.length ≤ sizes l := by
 induction l with
 | nil => simp [sizes]
 | cons a l ih => have := size_pos a; simp only [sizes, List.length_cons]; omega

/-- the parts of a type without functions -/
def T.parts : T → List T
 | .pair a b => [a, b]
 | _ => []
theorem parts_size (a : T) (h : a.plain) : sizes a.parts + 1 = a.size := by
 cases a with
 | pair a b => simp only [T.parts, sizes, T.size]; omega
 | fn a b => exact h.elim
 | _ => rfl
theorem parts_plain (a : T) (h : a.plain) : ∀ x ∈ a.parts, x.plain := by
 cases a with
 | pair a b => intro x hx; simp [T.parts] at hx; rcases hx with rfl | rfl; exact h.1; exact h.2
 | fn a b => exact h.elim
 | _ => intro x hx; simp [T.parts] at hx
theorem parts_args (a : T) (h : a.plain) : a.ty.args.map Ty.cells = a.parts.map fun x => x.ty.cells := by
 cases a with
 | fn a b => exact h.elim
 | _ => rfl
theorem parts_len (a : T) : a.parts.length ≤ 2 := by cases a <;> simp [T.parts]
theorem plain_kind (a : T) (h : a.plain) : ¬ a.ty.kind = 4 := by
 cases a with
 | fn a b => exact h.elim
 | _ => simp [T.ty, Ty.kind]

def tyRows (l : List T) : List (List DV) := l.map fun x => x.ty.cells
theorem tyRows_len (l : List T) : (tyRows l).length = l.length := by simp [tyRows]
theorem tyRows_wid (l : List T) : ∀ e ∈ tyRows l, e.length = 2 := by
 intro e he
 simp only [tyRows, List.mem_map] at he
 obtain ⟨x, -, rfl⟩ := he
 exact Ty.length_cells _

theorem grow_rows {full : List (List DV)} {init parts : List T} (h : full.take init.length = tyRows init) (rest : List (List DV)) : (full.take init.length ++ tyRows parts ++ rest).take (init ++ parts).length = tyRows (init ++ parts) := by
 rw [h]
 have e : tyRows init ++ tyRows parts = tyRows (init ++ parts) := by simp [tyRows]
 rw [e]
 exact List.take_left' (tyRows_len _)
theorem grow_wid {full : List (List DV)} {n : Nat} {zs rest : List (List DV)} (h : ∀ e ∈ full, e.length = 2) (h1 : ∀ e ∈ zs, e.length = 2) (h2 : ∀ e ∈ rest, e.length = 2) : ∀ e ∈ full.take n ++ zs ++ rest, e.length = 2 := by
 intro e he
 rcases List.mem_append.1 he with he | he
 ·rcases List.mem_append.1 he with he | he
  ·exact h e (List.mem_of_mem_take he)
  ·exact h1 e he
 ·exact h2 e he
theorem W_cutA {α : Type} {X : Ctx} {k kk : List Item} {s : St} (E : α → Prop) (S : α → St) (h1 : (∀ x, E x → W X kk (S x)) → W X k s) (h2 : ∀ x, E x → W X kk (S x)) : W X k s := h1 h2

set_option maxHeartbeats 1000000 in
set_option maxRecDepth 10000 in
theorem nodesIt_ok (a0 : T) (hp0 : a0.plain) (hs0 : a0.size ≤ 1000000) (b0 lp : Nat) (r : Loop) (hps : r.params.size = 1) :
  ItC Tryz.prog gl 135 [.prim (.func (.yield lp) #[] #[]), ptr b0] [(b0, a0.ty.cells)] lp r (fun D0 w0 => ∀ a : T, a.plain → YC Tryz.prog gl D0 w0 lp r [a.ty.dv] [] fun b φ' r' => b = true ∧ φ' = [] ∧ r' = r) (fun φ' r' => φ' = [(b0, a0.ty.cells)] ∧ r' = r) := by
 refine ItC_intro Tryz.func135 rfl (by kernel_rfl) (Nat.le_of_ble_eq_true rfl) ?_
 intro X hP hgl hf hfn hn hmd hids hfit hlp hY
 have hlb : ¬ lp = b0 := by simpa using hlp
 have hlb' : ¬ b0 = lp := fun e => hlb e.symm
 simp only [entryL, entry, argSt, heapSt, List.map_cons, List.map_nil, List.cons_append, List.nil_append]
 have hc0 := Ty.cells_eq a0.ty
 refine t_a ?_
 refine W_reg [6] fun K hK => ?_
 simp [go_sem, hP, hgl, hn, hlb, hlb', hc0]
 refine vcK_litX (E := 2) (els := [[dint a0.ty.kind, .sl (a0.ty.args.map Ty.cells)]]) (by simp [go_sem, hP]; rfl) (by simp [go_sem, hP, hgl, hn]) ⟨rfl, by decide⟩ (by rw [hn]; exact Nat.le_of_ble_eq_true rfl) (by rfl) ?_
 intro b hb hw
 simp [go_sem] at hb
 simp [go_sem, hP, hgl, hn, hlb, hlb', hb]
 repeat (refine ⟨by omega, ?_⟩)
 refine hK _ ?_
 clear hK K
 have hb1 : ¬ b = lp := fun e => hb.1 e.symm
 have hb2 : ¬ b = b0 := fun e => hb.2 e.symm
 refine t_a ?_
 refine W_sub [] (by simp [go_sem]) (by simp [go_sem, hb1, hb2, hb, hlb, hlb', tyRows, hc0, rowLe_arr]) (by simp [go_sem]) (W_rounds
  (fun x : Nat × Nat × List (List DV) × List T => x.2.2.1.length = x.2.1 ∧ (∀ e ∈ x.2.2.1, e.length = 2) ∧ x.2.2.1.take x.2.2.2.length = tyRows x.2.2.2 ∧ x.2.2.2.length ≤ x.2.1 ∧ (∀ a ∈ x.2.2.2, a.plain) ∧ sizes x.2.2.2 ≤ 1000000 ∧ ¬ x.1 = lp ∧ ¬ x.1 = b0)
  (fun x => [(.slot 0, .one (.v (.prim (.func (.yield lp) #[] #[])))), (.slot 1, .one (.v (ptr b0))), (.slot 3, .one (.v (rawS x.1 x.2.2.2.length x.2.1))), (.heap lp, .ob r), (.heap b0, .row [.v (dint a0.ty.kind), .v (.sl (a0.ty.args.map Ty.cells))]), (.heap x.1, .row (arrRow x.2.2.1))])
  (fun x => sizes x.2.2.2) (b, 1, tyRows [a0], [a0]) ⟨rfl, tyRows_wid _, rfl, Nat.le_refl _, by simpa using hp0, by simpa [sizes] using hs0, hb1, hb2⟩ ?_)
 clear hb hb1 hb2 b hw
 rintro ⟨b, cap, full, rest⟩ ⟨i1, i2, i3, i4, i5, i6, i7, i8⟩ ih
 simp only at i1 i2 i3 i4 i5 i6 i7 i8
 have i7' : ¬ lp = b := fun e => i7 e.symm
 have i8' : ¬ b0 = b := fun e => i8 e.symm
 rcases List.eq_nil_or_concat rest with rfl | ⟨init, a, hrest⟩
 ·refine t_rg (j2 @hlb (j2 @hlb' (j2 @i7 (j2 @i8 (j2 @i7' @i8'))))) ?_
  refine t_no ?_
  refine t_a ?_
  refine W_itfin hmd (φ := [(b0, a0.ty.cells)]) (q := r) (r := .tup []) (by rw [hP, hf, hfn]; exact Tryz.func135) (by rw [hfn]; simp [go_sem]) (objsIn_one ?_ (by simp [objsIn])) (by simp) ?_ ⟨rfl, rfl⟩ outs_end
  ·simp [go_sem, hlb, hlb', i7, i8, i7', i8', hc0]
  ·simp [go_sem, hlb, hlb', i7, i8, i7', i8']
 ·rw [List.concat_eq_append] at hrest
  subst hrest
  have ha := i5 a (by simp)
  have hln : (init ++ [a]).length = init.length + 1 := by simp
  have hls := len_sizes (init ++ [a])
  rw [hln] at hls i3 i4
  rw [hln]
  have hbig : init.length + 1 ≤ BIG := by unfold BIG; omega
  have hfa : full[init.length]? = some a.ty.cells := by
   have h1 : (full.take (init.length + 1))[init.length]? = some a.ty.cells := by rw [i3]; simp [tyRows]
   rw [List.getElem?_take_of_lt (by omega)] at h1
   exact h1
  have hrd := arrRow_at i2 hfa
  rw [Ty.cells_eq a.ty] at hrd
  have hps' := parts_size a ha
  have hpl := parts_len a
  have hargs := parts_args a ha
  have hsz := sizes_append init [a]
  have hsz2 := sizes_append init a.parts
  simp only [sizes] at hsz
  have hls2 := len_sizes (init ++ a.parts)
  rw [List.length_append] at hls2
  have hfo := Ty.fold a.ty
  have htr : tyRows a.parts = a.ty.args.map Ty.cells := hargs.symm
  have hal : (arrRow full).length = cap * 2 := by rw [arrRow_len i2, i1]
  refine t_rg (j2 @hbig (j2 @hlb (j2 @hlb' (j2 @i7 (j2 @i8 (j2 @i7' @i8')))))) ?_
  refine t_yes ?_
  have hlt : ((init.length : Nat) : Int) < (init.length : Nat) + 1 := by omega
  refine t_rg (j2 @hbig (j2 @hlb (j2 @hlb' (j2 @i7 (j2 @i8 (j2 @i7' (j2 @i8' @hrd))))))) ?_
  have hnb : init.length + (a.ty.args.map Ty.cells).length ≤ BIG := by
   rw [hargs, List.length_map]; unfold BIG; omega
  have hzw : ∀ e ∈ a.ty.args.map Ty.cells, e.length = 2 := by rw [hargs]; exact tyRows_wid a.parts
  have hzl : (a.ty.args.map Ty.cells).length = a.parts.length := by rw [hargs, List.length_map]
  have hil : (init ++ a.parts).length = init.length + a.parts.length := List.length_append
  have hfl1 : full.take init.length = tyRows init := by
   have h1 : (full.take (init.length + 1)).take init.length = (tyRows (init ++ [a])).take init.length := by rw [i3]
   rw [List.take_take, Nat.min_eq_left (by omega)] at h1
   rw [h1]; simp [tyRows]
  generalize a.ty.args.map Ty.cells = zs at *
  apply W_cutA (fun x : Nat × Nat × List (List DV) => x.2.2.length = x.2.1 ∧ (∀ e ∈ x.2.2, e.length = 2) ∧ x.2.2.take (init ++ a.parts).length = tyRows (init ++ a.parts) ∧ (init ++ a.parts).length ≤ x.2.1 ∧ ¬ x.1 = lp ∧ ¬ x.1 = b0)
   (fun x => [(.slot 0, .one (.v (.prim (.func (.yield lp) #[] #[])))), (.slot 1, .one (.v (ptr b0))), (.slot 3, .one (.v (rawS x.1 (init ++ a.parts).length x.2.1))), (.slot 4, .one (.loc 4 0)), (.loc 4, .row [.v (dint a.ty.kind), .v (.sl zs)]), (.heap lp, .ob r), (.heap b0, .row [.v (dint a0.ty.kind), .v (.sl (a0.ty.args.map Ty.cells))]), (.heap x.1, .row (arrRow x.2.2))])
  ·intro hrest
   refine t_a ?_
   refine W_regT (by rw [hP]; exact mixed) 7 ?_ ?_ [] [23] fun K hK => ?_
   ·decide
   ·rfl
   simp [go_sem, hP, hgl, hn, hbig, hlb, hlb', i7, i8, i7', i8', hrd]
   repeat (refine ⟨by omega, ?_⟩)
   refine ⟨by rfl, ?_⟩
   refine vcK_appendR (E := 2) (B := 32) (b := b) (n := init.length) (cap := cap) (full := full) (zs := zs) (zd := [dint 0, .sl []]) (by simp [go_sem, hP, hgl, hn]) (by simp [go_sem, hP, hgl, hn]) (by simp [go_sem, hlb, hlb', i7, i8, i7', i8']) (by simp [go_sem, hP]) (by rw [hP]; kernel_rfl) rfl ⟨by decide, by decide⟩ (by rw [hP]; rfl) (by rw [hn]; exact Nat.le_of_ble_eq_true rfl) i1 (by omega) hnb i2 hzw rfl ?_ ?_
   ·intro hle
    simp [go_sem, hP, hgl, hn, hlb, hlb', i7, i8, i7', i8']
    refine hK _ ?_
    clear hK K
    rw [hzl] at hle
    have q1 : (full.take init.length ++ zs ++ full.drop (init.length + zs.length)).length = cap := by
     simp only [List.length_append, List.length_take, List.length_drop, i1, hzl]; omega
    have q2 := grow_wid (n := init.length) i2 hzw (rest := full.drop (init.length + zs.length)) fun e he => i2 e (List.mem_of_mem_drop he)
    have q3 := grow_rows (parts := a.parts) hfl1 (full.drop (init.length + zs.length))
    rw [htr] at q3
    have q4 : (init ++ a.parts).length ≤ cap := by rw [hil]; exact hle
    have q5 : init.length + zs.length = (init ++ a.parts).length := by rw [hil, hzl]
    have hres := hrest (b, cap, _) ⟨q1, q2, q3, q4, i7, i8⟩
    simp only at hres
    rw [← q5] at hres
    rw [List.append_assoc] at hres
    generalize full.take init.length ++ (zs ++ full.drop (init.length + zs.length)) = fl at *
    refine t_b ?_
    refine t_sub [] (j2 @hlb (j2 @hlb' (j2 @i7 (j2 @i8 (j2 @i7' (j2 @i8' @rowLe_arr)))))) hres
   ·intro hlt b' cap' hc hb' hw'
    simp [go_sem] at hb'
    simp [go_sem, hP, hgl, hn, hlb, hlb', i7, i8, i7', i8', hb']
    refine hK _ ?_
    clear hK K
    have k1 : ¬ b' = lp := fun e => hb'.1 e.symm
    have k2 : ¬ b' = b0 := fun e => hb'.2.1 e.symm
    have k3 : ¬ b = b' := fun e => hb'.2.2 e
    have q1 : (full.take init.length ++ zs ++ List.replicate (cap' - (init.length + zs.length)) [dint 0, DV.sl []]).length = cap' := by
     simp only [List.length_append, List.length_take, List.length_replicate, i1]; omega
    have q2 := grow_wid (n := init.length) i2 hzw (rest := List.replicate (cap' - (init.length + zs.length)) [dint 0, DV.sl []]) fun e he => by rw [(List.mem_replicate.1 he).2]; rfl
    have q3 := grow_rows (parts := a.parts) hfl1 (List.replicate (cap' - (init.length + zs.length)) [dint 0, DV.sl []])
    rw [htr] at q3
    have q5 : init.length + zs.length = (init ++ a.parts).length := by rw [hil, hzl]
    have q4 : (init ++ a.parts).length ≤ cap' := by rw [← q5]; exact hc
    have hres := hrest (b', cap', _) ⟨q1, q2, q3, q4, k1, k2⟩
    simp only at hres
    rw [← q5] at hres
    rw [List.append_assoc] at hres
    generalize full.take init.length ++ (zs ++ List.replicate (cap' - (init.length + zs.length)) [dint 0, DV.sl []]) = fl at *
    refine t_b ?_
    refine t_sub [] (j2 @hlb (j2 @hlb' (j2 @i7 (j2 @i8 (j2 @i7' (j2 @i8' (j2 @hb' (j2 @k1 (j2 @k2 (j2 @k3 @rowLe_arr)))))))))) hres
  ·rintro ⟨b', cap', full'⟩ ⟨w1, w2, w3, w4, w5, w6⟩
   simp only at w1 w2 w3 w4 w5 w6 ⊢
   have w5' : ¬ lp = b' := fun e => w5 e.symm
   have w6' : ¬ b0 = b' := fun e => w6 e.symm
   have w7 : ∀ x ∈ init ++ a.parts, x.plain := by
    intro x hx
    rcases List.mem_append.1 hx with hx | hx
    ·exact i5 x (by simp [hx])
    ·exact parts_plain a ha x hx
   have w8 : sizes (init ++ a.parts) ≤ 1000000 := by omega
   have w9 : sizes (init ++ a.parts) < sizes (init ++ [a]) := by omega
   have hres := ih (b', cap', full', init ++ a.parts) ⟨w1, w2, w3, w4, w7, w8, w5, w6⟩ w9
   simp only at hres
   generalize hnn : (init ++ a.parts).length = nn at *
   refine t_a ?_
   first | refine W_reg [] fun K hK => ?_ | refine W_regd (by rw [hP]; exact mixed) [] fun K hK => ?_
   refine t_s (j2 @hlb (j2 @hlb' (j2 @w5 (j2 @w6 (j2 @w5' (j2 @w6' @hfo)))))) ?_
   repeat (refine ⟨by omega, ?_⟩)
   refine vcK_yieldA (by simp [go_sem]) hP hgl (hY a ha) hps (by simp [go_sem, hlb, hlb', w5, w6, w5', w6', hfo]) rfl (by simp [objsIn]) (by simp) (by simp [go_sem, hlb, hlb', w5, w6, w5', w6']) (by rw [hn]; exact Nat.le_of_ble_eq_true rfl) [(.slot 0, .one (.v (.prim (.func (.yield lp) #[] #[])))), (.slot 1, .one (.v (ptr b0))), (.slot 3, .one (.v (rawS b' nn cap'))), (.heap b0, .row [.v (dint a0.ty.kind), .v (.sl (a0.ty.args.map Ty.cells))]), (.heap b', .row (arrRow full'))] ?_ ?_ ?_
   ·intro m v h
    simp only [List.mem_cons, List.not_mem_nil, or_false, Prod.mk.injEq] at h
    rcases h with ⟨rfl, rfl⟩ | ⟨rfl, rfl⟩ | ⟨rfl, rfl⟩ | ⟨rfl, rfl⟩ | ⟨rfl, rfl⟩ <;> simp [go_sem, hlb, hlb', w5, w6, w5', w6']
   ·rintro _ _ _ ⟨rfl, rfl, rfl⟩
    simp
   ·rintro _ _ _ ⟨rfl, rfl, rfl⟩ -
    simp only [List.cons_append, List.nil_append]
    simp [go_sem, hP, hgl, hn]
    refine t_e ?_
    clear hK K
    refine t_no ?_
    refine t_b ?_
    refine t_sub [] (j2 @hlb (j2 @hlb' (j2 @w5 (j2 @w6 (j2 @w5' (j2 @w6' @rowLe_arr)))))) hres

theorem types_nodes_ok (a : T) : Con Tryz.prog gl 104 [a.ty.dv] [] fun r φ => ∃ b, r = .prim (.func (.func 135) #[] #[.pointer (some ⟨b, 0, none⟩)]) ∧ φ = [(b, a.ty.cells)] := by
 have hc0 := Ty.cells_eq a.ty
 refine t_in Tryz.func104 ?_
 intro X hP hgl hf hfn hn hR hids hfit
 refine t_rg0 ?_
 refine W_expose 1 (by simp [go_sem]; rfl) ?_
 intro b hb
 simp [go_sem]
 refine t_rg0 ?_
 refine t_a ?_
 refine W_retR hP hf hfn (.prim (.func (.func 135) #[] #[.pointer (some ⟨b, 0, none⟩)])) [(b, a.ty.cells)] (by simp [go_sem, hP, hgl, hn]) (by simp [go_sem, hc0]) (by simp) (by rw [hR.1]; exact ⟨b, rfl, rfl⟩) hR.2

set_option maxHeartbeats 1000000 in
theorem data_t_ok (a : T) (hp : a.plain) (ho : a.ok) : Con1 Tryz.prog gl 57 [a.ty.dv] [] (.tup [dbool true, dint 0]) [] := by
 have hs : a.size ≤ 64 := ho
 have hc := T.ty_count a
 have h0 : a.ty.checkN = 0 := (Ty.checkN_iff _).2 (T.ok_ty ho)
 have wc := types_check_ok (gl := gl) a.ty (by omega)
 rw [h0] at wc
 have fa := Ty.fold a.ty
 have hc0 := Ty.cells_eq a.ty
 refine t_in Tryz.func57 ?_
 intro X hP hgl hf hfn hn hR hids hfit
 refine t_g0 ?_
 refine t_c1 @fa wc ?_
 refine t_g0 ?_
 refine t_a ?_
 first | refine W_reg [] fun K hK => ?_ | refine W_regd (by rw [hP]; exact mixed) [] fun K hK => ?_
 refine t_s0 ?_
 repeat (refine ⟨by omega, ?_⟩)
 refine vcK_callR hP hgl (types_nodes_ok a) (by simp [go_sem]) rfl (by simp [go_sem]) (by simp) (by rw [hn]; exact Nat.le_of_ble_eq_true rfl) ?_
 rintro r ψ ⟨b0, rfl, rfl⟩ -
 simp [go_sem]
 refine t_e ?_
 clear hK K
 refine t_a ?_
 refine W_rangeFunc hR.2 (f := 135) (fi := #[]) (ca := #[.pointer (some ⟨b0, 0, none⟩)]) (by simp [go_sem]) (by simp [primOK]) (φ := [(b0, a.ty.cells)]) ?_ ?_ (Y := fun lp r D0 w0 => ∀ x : T, x.plain → YC X.P X.gl D0 w0 lp r [x.ty.dv] [] fun b φ' r' => b = true ∧ φ' = [] ∧ r' = r) (R := fun φ' r' => φ' = [(b0, a.ty.cells)] ∧ r'.state = .ready ∧ r'.pending = none) (SL := []) ?_ ?_ ?_ ?_ ?_
 ·exact objsIn_one (by simp [go_sem, hc0]) (by simp [objsIn])
 ·simp
 ·intro n x h
  cases h
 ·intro lp r h1 h2 h3 h4
  have := nodesIt_ok (gl := gl) a hp (by omega) b0 lp r (by rw [h3]; rfl)
  rw [hP, hgl]
  refine ⟨this.1, fun D w vs a1 a2 a3 a4 a5 a6 => (this.2 D w vs a1 a2 a3 a4 a5 a6).mono ?_⟩
  rintro e w' ⟨v1, D', φ', r', rfl, hR', rest⟩
  refine ⟨v1, D', φ', r', rfl, ?_, rest⟩
  obtain ⟨rfl, rfl⟩ := hR'
  exact ⟨rfl, h1, h2⟩
 ·intro lp r D0 w0 h1 h2 h3 h4 h5 h6 h7 h8 h9 x hx
  rw [hP, hgl]
  refine YC_round X.n h5 h9 h1 (by rw [h3]; rfl) (by rw [h3, hn]; decide) (by rw [h3]; decide) (by rw [h3]; simp) ?_
  intro X' hP' hgl' hf' hn' hmd' hids' hl' hfit'
  rw [h3, h6, h7]
  rw [hn] at hn'
  clear hP hgl hn
  have hP := hP'
  have hgl := hgl'
  have hn := hn'
  have hk := plain_kind x hx
  have fx := Ty.fold x.ty
  simp only [entryR, h3, parSt, slotSt, heapSt, List.cons_append, List.nil_append, List.map_nil]
  refine t_rg0 ?_
  refine W_begin (r := r) (l := lp) (by simp [Ctx.rd, hmd']) (by simp [go_sem]) h1 ?_
  simp [go_sem]
  refine t_rg0 ?_
  refine t_a ?_
  refine W_cond rfl ?_ ?_
  ·intro h; exact absurd (by simpa using h) hk
  intro _
  refine t_a ?_
  refine W_rdfin hmd' (φ := []) (by simp [objsIn]) (by simp) (by simp [go_sem]) none rfl ?_
  simp only [Option.isNone_none, true_and]
  cases r
  simp only [pastL] at h1 h2 ⊢
  subst h1 h2
  rfl
 ·rintro φ' r' ⟨-, h, -⟩
  rw [h]; simp
 ·rintro φ' r' ⟨rfl, -, h⟩ -
  rw [h]
  simp [go_sem]
  refine t_rg0 ?_
  refine t_r ?_
  simp [go_sem, hP, hgl, hn] <;> (try omega)
end
section
/-- what a run of the second form's machine leaves: a value, the work used so far, and whether the work is out; none: stuck -/
abbrev Rn := Option (MV × Int × Bool)
end
section
/-! the second form's machine on typed terms: it is never stuck, and returns what is denoted -/

mutual
/-- a machine's value has a type and a meaning -/
inductive MVT : (a : T) → MV → a.V → Prop
 | num (n : Nat) : MVT .nat (.num n) n
 | list (l : List Nat) : MVT .list (.list l) l
 | unit : MVT .unit .unit ()
 | both {a b : T} {x y : MV} {X : a.V} {Y : b.V} (hx : MVT a x X) (hy : MVT b y Y) : MVT (.pair a b) (.both x y) (X, Y)
 | clo {Γ : List T} {a r : T} {b : Tm} {f : Env (a :: Γ) → r.V} {e : List MV} {ρ : Env Γ} (he : MVE Γ e ρ) (hb : Dn (a :: Γ) b r f) : MVT (.fn a r) (.clo b e) (fun x => f (x, ρ))
inductive MVE : (Γ : List T) → List MV → Env Γ → Prop
 | nil : MVE [] [] ()
 | cons {Γ : List T} {a : T} {x : MV} {X : a.V} {e : List MV} {ρ : Env Γ} (h : MVT a x X) (k : MVE Γ e ρ) : MVE (a :: Γ) (x :: e) (X, ρ)
end

theorem MVE.get {Γ : List T} {i : Nat} {a : T} {p : Env Γ → a.V} (h : At Γ i a p) : ∀ {e : List MV} {ρ : Env Γ}, MVE Γ e ρ → ∃ x, e[i]? = some x ∧ MVT a x (p ρ) := by
 induction h with
 | zero => intro e ρ he; cases he with | cons h k => exact ⟨_, rfl, h⟩
 | succ h ih => intro e ρ he; cases he with | cons h k => obtain ⟨x, e1, e2⟩ := ih k; exact ⟨x, by simpa using e1, e2⟩
/-- a run is not stuck; when the work is not out it leaves a value of the kind that is told -/
def Out (most : Int) (P : MV → Prop) (u : Int) (r : Rn) : Prop := ∃ v u' o, r = some (v, u', o) ∧ u ≤ u' ∧ u' ≤ most ∧ (o = false → P v)
theorem Out.mono {most u u0 : Int} {P Q : MV → Prop} {r : Rn} (h : Out most P u r) (hu : u0 ≤ u) (hq : ∀ v, P v → Q v) : Out most Q u0 r := by
 obtain ⟨v, u', o, h1, h2, h3, h4⟩ := h
 exact ⟨v, u', o, h1, by omega, h3, fun h => hq v (h4 h)⟩
end
section
/-! how large the values of the second form's machine grow -/

mutual
def MV.le (n : Int) : MV → Prop
 | .num k => (k : Int) ≤ n
 | .list l => (l.length : Int) ≤ n ∧ ∀ x ∈ l, (x : Int) ≤ n
 | .both a b => MV.le n a ∧ MV.le n b
 | .unit => True
 | .clo _ e => (e.length : Int) ≤ n ∧ MV.les n e
def MV.les (n : Int) : List MV → Prop
 | [] => True
 | x :: r => MV.le n x ∧ MV.les n r
end
end
section
variable {gl : Globs}

/-! the results of the second form's machine as data -/

mutual
def MV.cells : MV → List DV
 | .num n => [dint (n : Int), .sl [], .sl [], dint 0, dint 0, dint 0, .sl [], .sl [], .sl []]
 | .list l => [dint 0, .sl (ints (l.map Int.ofNat)), .sl [], dint 0, dint 0, dint 0, .sl [], .sl [], .sl []]
 | .both a b => [dint 0, .sl [], .sl [MV.cells a, MV.cells b], dint 0, dint 0, dint 0, .sl [], .sl [], .sl []]
 | .unit => [dint 0, .sl [], .sl [], dint 0, dint 0, dint 0, .sl [], .sl [], .sl []]
 | .clo b e => [dint 0, .sl [], .sl [], dint b.kind, dint b.index, dint b.type.kind, .sl (List.map Ty.cells b.type.args), .sl (List.map Tm.cells b.args), .sl (MV.cellss e).reverse]
def MV.cellss : List MV → List (List DV)
 | [] => []
 | x :: r => MV.cells x :: MV.cellss r
end
namespace MV
set_option linter.unusedSimpArgs false
set_option linter.unusedVariables false
set_option linter.unnecessarySimpa false
theorem cellss_map : ∀ l : List MV, cellss l = l.map cells
 | [] => rfl
 | x :: r => by simp only [cellss, List.map_cons, cellss_map r]
def numF : MV → Int | .num n => n | _ => 0
def listF : MV → List Int | .list l => l.map Int.ofNat | _ => []
def pairF : MV → List MV | .both a b => [a, b] | _ => []
def bodyF : MV → Tm | .clo b _ => b | _ => zeroTm
def envF : MV → List MV | .clo _ e => e.reverse | _ => []
theorem cells_eq (v : MV) : v.cells = [dint v.numF, .sl (ints v.listF), .sl (v.pairF.map cells), dint v.bodyF.kind, dint v.bodyF.index, dint v.bodyF.type.kind, .sl (v.bodyF.type.args.map Ty.cells), .sl (v.bodyF.args.map Tm.cells), .sl (v.envF.map cells)] := by
 cases v with
 | num n => rfl
 | list l => rfl
 | both a b => simp only [cells, numF, listF, pairF, bodyF, envF]; rfl
 | unit => rfl
 | clo b e => simp only [cells, numF, listF, pairF, bodyF, envF, cellss_map, List.map_reverse]; rfl
def dv (v : MV) : DV := .agg v.cells
theorem fold (v : MV) : DV.agg [dint v.numF, .sl (ints v.listF), .sl (v.pairF.map cells), dint v.bodyF.kind, dint v.bodyF.index, dint v.bodyF.type.kind, .sl (v.bodyF.type.args.map Ty.cells), .sl (v.bodyF.args.map Tm.cells), .sl (v.envF.map cells)] = v.dv := by rw [dv, cells_eq]
theorem cellsD_dv (v : MV) : cellsD v.dv = [dint v.numF, .sl (ints v.listF), .sl (v.pairF.map cells), dint v.bodyF.kind, dint v.bodyF.index, dint v.bodyF.type.kind, .sl (v.bodyF.type.args.map Ty.cells), .sl (v.bodyF.args.map Tm.cells), .sl (v.envF.map cells)] := by rw [dv, cellsD, cells_eq]
theorem isCell_dv (v : MV) : v.dv.isCell = false := rfl
theorem isAgg_dv (v : MV) : v.dv.isAgg = true := rfl
theorem length_cells (v : MV) : v.cells.length = 9 := by rw [cells_eq]; rfl
theorem wide (l : List MV) : (∀ e ∈ List.map cells l, e.length = 9) = True := by simp [length_cells]
theorem numF_num (n : Nat) : (MV.num n).numF = n := rfl
theorem listF_list (l : List Nat) : (MV.list l).listF = l.map Int.ofNat := rfl
theorem pairF_both (a b : MV) : (MV.both a b).pairF = [a, b] := rfl
theorem bodyF_clo (b : Tm) (e : List MV) : (MV.clo b e).bodyF = b := rfl
theorem envF_clo (b : Tm) (e : List MV) : (MV.clo b e).envF = e.reverse := rfl
end MV
attribute [go_sem] MV.cells_eq MV.fold MV.cellsD_dv MV.isCell_dv MV.isAgg_dv MV.wide MV.numF_num MV.listF_list MV.pairF_both MV.bodyF_clo MV.envF_clo
end
section
variable {gl : Globs}

/-! types without functions; values of the machine read back and given -/

theorem T.ty_fn (a b : T) : (T.fn a b).ty = Ty.mk 4 [a.ty, b.ty] := rfl

/-- a plain value as one of the machine -/
def ofM : (a : T) → a.V → MV
 | .nat, n => .num n
 | .list, l => .list l
 | .unit, _ => .unit
 | .pair a b, p => .both (ofM a p.1) (ofM b p.2)
 | .fn _ _, _ => .unit
theorem valOf_pair {a b : T} (p : (T.pair a b).V) : valOf (.pair a b) p = Val.mk 3 0 [] [valOf a p.1, valOf b p.2] := rfl
end
section
/-
 Package machine: plain values given to it and read back.
-/
variable {gl : Globs}

theorem thing_num' (n : Nat) : (MV.num n).thing = .iface 3 (dint (n : Int)) := by rw [MV.thing]
theorem thing_list' (l : List Nat) : (MV.list l).thing = .iface 173 (cellM l) := by rw [MV.thing]
theorem thing_both' (a b : MV) : (MV.both a b).thing = .iface 179 (.ref [a.thing, b.thing]) := by rw [MV.thing]
theorem thing_unit' : MV.unit.thing = .iface 183 (.agg []) := by rw [MV.thing]


theorem plain_nat_ok (n : Nat) : Con1 Tryz.prog gl 141 [(MV.num n).thing] [] (Val.mk 1 (n : Nat) [] []).dv [] := by
 rw [thing_num']
 refine t_in Tryz.func141 ?_
 intro X hP hgl hf hfn hn hR hids hfit
 refine t_g0 ?_
 refine t_r ?_
 simp [go_sem, hP, hgl, hn] <;> (try omega)
 all_goals exact t_f
theorem plain_unit_ok : Con1 Tryz.prog gl 141 [MV.unit.thing] [] (Val.mk 4 0 [] []).dv [] := by
 rw [thing_unit']
 refine t_in Tryz.func141 ?_
 intro X hP hgl hf hfn hn hR hids hfit
 refine t_g0 ?_
 refine t_r ?_
 simp [go_sem, hP, hgl, hn] <;> (try omega)
 all_goals exact t_f
theorem ints_snoc (l : List Nat) (n : Nat) : ints (List.map Int.ofNat l) ++ [[dint (n : Int)]] = ints (List.map Int.ofNat (l ++ [n])) := by simp [ints]
theorem plain_list_ok (l : List Nat) (hl : l.length ≤ 1073741824) : Con1 Tryz.prog gl 141 [(MV.list l).thing] [] (Val.mk 2 0 (List.map Int.ofNat l) []).dv [] := by
 rw [thing_list']
 refine t_in Tryz.func141 ?_
 intro X hP hgl hf hfn hn hR hids hfit
 refine t_g0 ?_
 refine t_a ?_
 refine W_sub [(1005, 0)] (by simp [go_sem]) (by simp [go_sem, ints] <;> omega) (by simp [go_sem]) (W_rounds (fun x : List Nat × List Nat => x.1 ++ x.2 = l) (fun x : List Nat × List Nat => [(.slot 4, .one (.v (cellM x.2))), (.slot 5, .one (.loc 5 0)), (.loc 5, .row ([.v (dint 2), .v (dint 0), .own 1005 (ints (x.1.map Int.ofNat)), .own 0 []])), (.tok 1005, .tk 1 x.1.length), (.slot 2, .one (.loc 2 0)), (.loc 2, .row ([.v (dint 0), .v (dint 0), .own 0 [], .own 0 []]))]) (fun x : List Nat × List Nat => x.2.length) (([] : List Nat), l) (rfl) ?_)
 rintro ⟨ds, q⟩ hq ih
 simp only at hq
 have hql : ds.length + q.length = l.length := by rw [← hq]; simp
 cases q with
 | nil =>
  have hcm := cellM_nil
  rw [hcm]
  have hds : ds = l := by rw [← hq]; simp
  subst hds
  refine t_rg0 ?_
  refine t_no ?_
  refine t_g0 ?_
  refine t_r ?_
  simp [go_sem, hP, hgl, hn] <;> (try omega)
  all_goals exact t_f
 | cons n q =>
  have hcm := cellM_cons n q
  have hon := ints_snoc ds n
  have hw1 : ∀ e : List DV, e ∈ ints (List.map Int.ofNat ds) → e.length = 1 := by intro e he; simp only [ints, List.mem_map] at he; obtain ⟨x, -, rfl⟩ := he; rfl
  have hl1 : (ints (List.map Int.ofNat ds)).length = ds.length := by simp [ints]
  have hcl : ds.length ≤ 2147483647 := by simp at hql; omega
  have e2 : (ds ++ [n]) ++ q = l := by rw [← hq]; simp
  have e3 : q.length < (n :: q).length := by simp
  have hl2 : (ds ++ [n]).length = ds.length + 1 := by simp
  have hl3 : (ints (List.map Int.ofNat (ds ++ [n]))).length = ds.length + 1 := by simp [ints]
  have hih := ih (ds ++ [n], q) e2 e3
  rw [← hon] at hih
  simp only [hl2] at hih
  rw [hcm]
  generalize ints (List.map Int.ofNat ds) = L at *
  refine t_rg0 ?_
  refine t_yes ?_
  refine t_rg (j2 @hcl (j2 @hw1 @hl1)) ?_
  refine t_rg0 ?_
  refine t_b ?_
  refine t_sub [(1005, 30)] @hl1 hih
theorem plain_pair_ok (a b : T) (x y : MV) (v w : Val) (h1 : Con1 Tryz.prog gl 141 [x.thing] [] v.dv []) (h2 : Con1 Tryz.prog gl 141 [y.thing] [] w.dv []) :
  Con1 Tryz.prog gl 141 [(MV.both x y).thing] [] (Val.mk 3 0 [] [v, w]).dv [] := by
 rw [thing_both']
 have fv := Val.fold v
 have fw := Val.fold w
 refine t_in Tryz.func141 ?_
 intro X hP hgl hf hfn hn hR hids hfit
 refine t_g0 ?_
 refine t_c2 trivial h1 h2 ?_
 refine t_r ?_
 simp [go_sem, hP, hgl, hn] <;> (try omega)
 all_goals exact t_f

theorem machine_plain_ok : ∀ (a : T) (x : a.V), a.plain → (ofM a x).nle 1073741824 → Con1 Tryz.prog gl 141 [(ofM a x).thing] [] (valOf a x).dv []
 | .nat, n, _, _ => plain_nat_ok n
 | .list, l, _, h => plain_list_ok l (by simp only [ofM, MV.nle] at h; exact h.1)
 | .unit, _, _, _ => plain_unit_ok
 | .pair a b, p, hp, h => by
  simp only [ofM, MV.nle] at h
  exact plain_pair_ok a b _ _ _ _ (machine_plain_ok a p.1 hp.1 h.1) (machine_plain_ok b p.2 hp.2 h.2)
 | .fn _ _, _, hp, _ => hp.elim

theorem from_nat_ok (n : Nat) : Con1 Tryz.prog gl 138 [(Val.mk 1 (n : Nat) [] []).dv] [] (MV.num n).thing [] := by
 rw [thing_num']
 refine t_in Tryz.func138 ?_
 intro X hP hgl hf hfn hn hR hids hfit
 refine t_g0 ?_
 refine t_r ?_
 simp [go_sem, hP, hgl, hn] <;> (try omega)
theorem from_unit_ok : Con1 Tryz.prog gl 138 [(Val.mk 4 0 [] []).dv] [] MV.unit.thing [] := by
 rw [thing_unit']
 refine t_in Tryz.func138 ?_
 intro X hP hgl hf hfn hn hR hids hfit
 refine t_g0 ?_
 refine t_r ?_
 simp [go_sem, hP, hgl, hn] <;> (try omega)
theorem from_pair_ok (x y : MV) (v w : Val) (h1 : Con1 Tryz.prog gl 138 [v.dv] [] x.thing []) (h2 : Con1 Tryz.prog gl 138 [w.dv] [] y.thing []) :
  Con1 Tryz.prog gl 138 [(Val.mk 3 0 [] [v, w]).dv] [] (MV.both x y).thing [] := by
 rw [thing_both']
 have fv := Val.fold v
 have fw := Val.fold w
 have lv := Val.length_cells v
 have lw := Val.length_cells w
 refine t_in Tryz.func138 ?_
 intro X hP hgl hf hfn hn hR hids hfit
 refine t_g0 ?_
 refine t_a ?_
 refine W_regd (by rw [hP]; exact mixed) [34] fun K hK => ?_
 simp [go_sem, hP, hgl, hn, fv, fw, lv, lw]
 refine t_c (j2 @fv @fw) (h1) ?_
 refine t_c (j2 @fv @fw) (h2) ?_
 refine vcdC_boxR (cs := [x.thing, y.thing]) (y := .ag [x.thing, y.thing] []) (fun _ _ => vcd_sound) (by simp [go_sem, hP, hgl, hn]) (by simp [go_sem]) (by simp [go_sem]) (by rw [hn]; exact Nat.le_of_ble_eq_true rfl) (by rfl) ?_
 simp [go_sem, hP, hgl, hn]
 refine t_e ?_
 clear hK K
 refine t_r ?_
 simp [go_sem, hP, hgl, hn] <;> (try omega)

set_option maxHeartbeats 1000000 in
theorem from_list_ok (l : List Nat) : Con1 Tryz.prog gl 138 [(Val.mk 2 0 (List.map Int.ofNat l) []).dv] [] (MV.list l).thing [] := by
 rw [thing_list']
 have hll : (List.map Int.ofNat l).length = l.length := by simp
 refine t_in Tryz.func138 ?_
 intro X hP hgl hf hfn hn hR hids hfit
 have hl2 := Val.fit_list (hfit (Val.mk 2 0 (List.map Int.ofNat l) []).dv (by simp))
 rw [show (Val.mk 2 0 (List.map Int.ofNat l) []).list = List.map Int.ofNat l from rfl] at hl2
 refine t_g0 ?_
 refine t_a ?_
 first | refine W_reg [] fun K hK => ?_ | refine W_regd (by rw [hP]; exact mixed) [] fun K hK => ?_
 refine t_s0 ?_
 repeat (refine ⟨by omega, ?_⟩)
 refine vcK_callR hP hgl (backward_ok (List.map Int.ofNat l)) (by simp [go_sem]) rfl (by simp [go_sem]) (by simp) (by rw [hn]; exact Nat.le_of_ble_eq_true rfl) ?_
 rintro r ψ ⟨b0, rfl, rfl⟩ -
 simp [go_sem]
 refine t_e ?_
 clear hK K
 refine t_a ?_
 refine W_expose 3 (by simp [go_sem]; rfl) ?_
 intro b3 hb
 simp [go_sem] at hb ⊢
 have hb' : b0 ≠ b3 := hb
 let Φ : Nat → Objs := fun i => [(b3, [cellM (l.drop i)])]
 have hlast : cellM (l.drop l.length) = nilP := by rw [List.drop_length]; rfl
 refine W_rangeFunc hR.2 (f := 175) (fi := #[]) (ca := #[.pointer (some ⟨b0, 0, none⟩)]) (by simp [go_sem]) (by simp [primOK]) (φ := (b0, [.sl (ints (List.map Int.ofNat l))]) :: Φ l.length) ?_ ?_ (Y := BackY X.P X.gl (List.map Int.ofNat l) Φ (fun _ _ => False)) (R := fun φ' r' => φ' = (b0, [.sl (ints (List.map Int.ofNat l))]) :: Φ 0 ∧ r'.state = .ready ∧ r'.pending = none) (SL := [(3, ptr b3)]) ?_ ?_ ?_ ?_ ?_
 ·refine objsIn_one (by simp [go_sem]) (objsIn_one ?_ (by simp [objsIn]))
  simp only [hlast]
  simp [go_sem, hb']
 ·simp [Φ, hb']
 ·intro n x h
  simp only [List.mem_singleton, Prod.mk.injEq] at h
  obtain ⟨rfl, rfl⟩ := h
  simp [go_sem]
 ·intro lp r h1 h2 h3 h4
  have := backIt_ok (gl := gl) (List.map Int.ofNat l) (by omega) b0 Φ (fun _ => rfl) (by simp [Φ]) (by simp [Φ]; exact hb') (Stop := fun _ _ => False) (fun _ _ h => h.elim) lp r (by rw [h3]; rfl)
  rw [hll] at this
  rw [hP, hgl]
  refine ⟨this.1, fun D w vs a1 a2 a3 a4 a5 a6 => (this.2 D w vs a1 a2 a3 a4 a5 a6).mono ?_⟩
  rintro e w' ⟨v1, D', φ', r', rfl, hR', rest⟩
  refine ⟨v1, D', φ', r', rfl, ?_, rest⟩
  rcases hR' with ⟨rfl, rfl⟩ | ⟨ψ, -, h⟩
  ·exact ⟨rfl, h1, h2⟩
  ·exact h.elim
 ·intro lp r D0 w0 h1 h2 h3 h4 h5 h6 h7 h8 h9 i x hx
  rw [hP, hgl]
  refine YC_round X.n h5 h9 h1 (by rw [h3]; rfl) (by rw [h3, hn]; decide) (by rw [h3]; decide) (by rw [h3]; simp) ?_
  intro X' hP' hgl' hf' hn' hmd' hids' hl' hfit'
  rw [h3, h6, h7]
  obtain ⟨n, rfl, hdrop⟩ : ∃ n : Nat, x = Int.ofNat n ∧ l.drop i = n :: l.drop (i + 1) := by
   obtain ⟨hi, hxx⟩ := List.getElem?_eq_some_iff.1 hx
   have hi' : i < l.length := by simpa using hi
   refine ⟨l[i], ?_, List.drop_eq_getElem_cons hi'⟩
   rw [← hxx]; simp
  rw [hn] at hn'
  clear hP hgl hn
  have hP := hP'
  have hgl := hgl'
  have hn := hn'
  have hlb3 : lp ≠ b3 := by simpa [Φ] using hl'
  have hcm := cellM_cons n (l.drop (i + 1))
  simp only [entryR, Φ, h3, parSt, slotSt, heapSt, List.cons_append, List.nil_append]
  refine t_rg @hlb3 ?_
  refine W_begin (r := r) (l := lp) (by simp [Ctx.rd, hmd']) (by simp [go_sem]) h1 ?_
  simp [go_sem, hlb3, hlb3.symm]
  refine t_a ?_
  refine W_reg [18] fun K hK => ?_
  simp [go_sem, hP, hgl, hn, hlb3, hlb3.symm]
  refine vcK_boxR (cs := [dint (n : Int), cellM (l.drop (i + 1))]) (y := .ag [dint (n : Int), cellM (l.drop (i + 1))] []) (by simp [go_sem, hP, hgl, hn]) (by simp [go_sem]) (by simp [go_sem]) (by rw [hn]; exact Nat.le_of_ble_eq_true rfl) (by rfl) ?_
  simp [go_sem, hP, hgl, hn, hlb3, hlb3.symm]
  refine t_e ?_
  clear hK K
  refine t_a ?_
  refine W_rdfin hmd' (φ := Φ i) ?_ (by simp [Φ]) (by simp [go_sem, hlb3.symm]) none rfl ?_
  ·refine objsIn_one ?_ (by simp [objsIn])
   rw [hdrop, hcm]
   simp [go_sem, hlb3, hlb3.symm]
  ·simp only [Option.isNone_none, if_true, true_and]
   cases r; simp only [pastL] at h1 h2 ⊢; subst h1 h2; rfl
 ·rintro φ' r' ⟨-, h, -⟩
  rw [h]; simp
 ·rintro φ' r' ⟨rfl, -, h⟩ -
  rw [h]
  simp [go_sem, Φ, hb', hb'.symm]
  refine t_rg @hb' ?_
  refine t_r ?_
  simp [go_sem, hP, hgl, hn] <;> (try omega)

theorem machine_from_ok : ∀ (a : T) (x : a.V), a.plain → Con1 Tryz.prog gl 138 [(valOf a x).dv] [] (ofM a x).thing []
 | .nat, n, _ => from_nat_ok n
 | .list, l, _ => from_list_ok l
 | .unit, _, _ => from_unit_ok
 | .pair a b, p, hp => from_pair_ok _ _ _ _ (machine_from_ok a p.1 hp.1) (machine_from_ok b p.2 hp.2)
 | .fn _ _, _, hp => hp.elim
end
section
variable {gl : Globs}

theorem MV.fit_list {v : MV} (h : v.dv.fit) : v.listF.length ≤ 2147483648 := by
 rw [MV.dv, MV.cells_eq] at h
 simp only [DV.fit, DV.fit.fits, ints_length, BIG] at h
 exact h.2.1.1
end
section
/-! closed functions of several plain arguments, and what a call of them leaves -/

def FnT : List T → T → T
 | [], r => r
 | a :: l, r => .fn a (FnT l r)
def valsOf : (l : List T) → Env l → List Val
 | [], _ => []
 | a :: l, e => valOf a e.1 :: valsOf l e.2
def mvsOf : (l : List T) → Env l → List MV
 | [], _ => []
 | a :: l, e => ofM a e.1 :: mvsOf l e.2
def Plains : List T → Prop
 | [] => True
 | a :: l => a.plain ∧ a.ok ∧ Plains l

theorem valsOf_len : ∀ (l : List T) (X : Env l), (valsOf l X).length = l.length
 | [], _ => rfl
 | a :: l, X => by simp only [valsOf, List.length_cons, valsOf_len l X.2]
theorem mvsOf_len : ∀ (l : List T) (X : Env l), (mvsOf l X).length = l.length
 | [], _ => rfl
 | a :: l, X => by simp only [mvsOf, List.length_cons, mvsOf_len l X.2]
theorem args_at {r : T} : ∀ (l : List T) (X : Env l) (i : Nat), i < l.length → Plains l → ∃ (a : T) (x : a.V), (valsOf l X)[i]? = some (valOf a x) ∧ (mvsOf l X)[i]? = some (ofM a x) ∧ FnT (l.drop i) r = .fn a (FnT (l.drop (i + 1)) r) ∧ a.plain ∧ a.ok
 | [], X, i, h, _ => absurd h (Nat.not_lt_zero _)
 | a :: l, X, 0, h, hp => ⟨a, X.1, rfl, rfl, rfl, hp.1, hp.2.1⟩
 | a :: l, X, i + 1, h, hp => by
  obtain ⟨b, x, h1, h2, h3, h4⟩ := args_at (r := r) l X.2 i (by simpa using h) hp.2.2
  exact ⟨b, x, by simpa [valsOf] using h1, by simpa [mvsOf] using h2, by simpa using h3, h4⟩

theorem valOf_check {a : T} (x : a.V) (hp : a.plain) (hs : a.ok) : (valOf a x).checkN = 0 := by
 obtain ⟨v1, v2⟩ := valOf_nodes a x hp
 have hs : a.size ≤ 64 := hs
 unfold Val.checkN
 rw [if_pos v1, if_neg (by rw [Val.nodes_count _ v1]; omega)]
theorem valOf_ty : ∀ (a : T) (x : a.V), a.plain → (valOf a x).tyN = a.ty
 | .nat, n, _ => by rw [Val.tyN_eq]; rfl
 | .list, l, _ => by rw [Val.tyN_eq]; rfl
 | .unit, _, _ => by rw [Val.tyN_eq]; rfl
 | .pair a b, p, h => by
  rw [Val.tyN_eq, valOf_pair]
  simp only [Val.kind, Val.args, List.map_cons, List.map_nil, valOf_ty a p.1 h.1, valOf_ty b p.2 h.2]
  rfl
 | .fn _ _, _, h => h.elim
theorem valOf_typeE {a : T} (x : a.V) (hp : a.plain) (hs : a.ok) : (valOf a x).typeE = (a.ty, 0) := by
 unfold Val.typeE
 rw [valOf_check x hp hs, valOf_ty a x hp]
 rfl
end
section
/-
 Plain law: a closed term called with plain values, as a run with its work; it always comes to its end.
-/
/-- a closed term called with some values -/
def callS (d : Nat) (t : Tm) (xs : List MV) : Option (MV × Nat) :=
 match evS d t [] with
 | none => none
 | some (g, c1) => match callC (evS d) g xs with
  | none => none
  | some (w, c2) => some (w, c1 + c2)
theorem callS_parts {d : Nat} {t : Tm} {xs : List MV} {w : MV} {c : Nat} (h : callS d t xs = some (w, c)) : ∃ g c1 c2, evS d t [] = some (g, c1) ∧ callC (evS d) g xs = some (w, c2) ∧ c = c1 + c2 := by
 unfold callS at h
 split at h
 ·cases h
 ·rename_i g c1 h1
  split at h
  ·cases h
  ·rename_i w' c2 h2
   cases h
   exact ⟨g, c1, c2, h1, h2, rfl⟩

/-- what a call of the machine returns -/
def outC (v : Val) (c : Nat) (work : Int) : DV := if (c : Int) ≤ work then .tup [v.dv, dint (c : Int), dint 0] else .tup [zeroV.dv, dint 0, dint 5]
theorem outC_yes {v : Val} {c : Nat} {work : Int} (h : (c : Int) ≤ work) : outC v c work = .tup [v.dv, dint (c : Int), dint 0] := if_pos h
theorem outC_no {v : Val} {c : Nat} {work : Int} (h : ¬ (c : Int) ≤ work) : outC v c work = .tup [zeroV.dv, dint 0, dint 5] := if_neg h
end
end Go.Proofs.YtoamlfmdkbmmpaaGreatDoor.Lift

