/-
  The counts of raw types, terms and values, as far as they are counted.
-/
import Derived.Test.YtbmnlkfgkdallaaGreatDoorF6
import Derived.Test.YtbmnlkfgkdallaaGreatDoorH1
namespace Go.Proofs.YtbmnlkfgkdallaaGreatDoor.Lift
set_option linter.unusedSimpArgs false
set_option linter.unusedVariables false
set_option linter.unnecessarySimpa false
open Go
variable {gl : Globs}

namespace Ty
set_option linter.unusedSimpArgs false
set_option linter.unusedVariables false
set_option linter.unnecessarySimpa false
/-- all nodes, with those of its types, and the elements of its lists -/
def tot : Ty → Nat
  | .mk _ a => 1 + tots a
where
  tots : List Ty → Nat
    | [] => 0
    | a :: r => a.tot + tots r
/-- what is counted of a tree, up to a number -/
def cntN : Ty → Int → Int
  | .mk _ a, m => cnts a (1) m
where
  cnts : List Ty → Int → Int → Int
    | [], n, _ => n
    | a :: r, n, m => if n ≤ m then cnts r (n + a.cntN (m - n)) m else n
theorem tot_eq (t : Ty) : t.tot = 1 + tot.tots t.args := by cases t; rfl
theorem tots_append (l r : List Ty) : tot.tots (l ++ r) = tot.tots l + tot.tots r := by
  induction l with
  | nil => simp [tot.tots]
  | cons a l ih => simp [tot.tots, ih]; omega
theorem tot_mem {l : List Ty} {a : Ty} (h : a ∈ l) : a.tot ≤ tot.tots l := by
  induction l with
  | nil => cases h
  | cons b r ih =>
    simp only [tot.tots]
    rcases List.mem_cons.1 h with rfl | h
    · omega
    · have := ih h; omega
theorem cntN_eq (t : Ty) (m : Int) : t.cntN m = cntN.cnts t.args (1) m := by cases t; rfl
theorem cnts_stop (r : List Ty) (n m : Int) (h : ¬ n ≤ m) : cntN.cnts r n m = n := by cases r <;> simp [cntN.cnts, h]
theorem cnts_append (l r : List Ty) (n m : Int) : cntN.cnts (l ++ r) n m = cntN.cnts r (cntN.cnts l n m) m := by
  induction l generalizing n with
  | nil => rfl
  | cons a l ih =>
    simp only [List.cons_append, cntN.cnts]
    split
    · exact ih _
    · rename_i h; rw [cnts_stop _ _ _ h]
theorem cnts_key {l : List Ty} (h : ∀ a ∈ l, ∀ m : Int, 1 ≤ a.cntN m ∧ a.cntN m ≤ a.tot ∧ (a.cntN m ≤ m → a.cntN m = a.tot)) (m : Int) : ∀ n : Int, n ≤ cntN.cnts l n m ∧ cntN.cnts l n m ≤ n + tot.tots l ∧ (cntN.cnts l n m ≤ m → cntN.cnts l n m = n + tot.tots l) := by
  induction l with
  | nil => intro n; simp [cntN.cnts, tot.tots]
  | cons a r ihr =>
    intro n
    obtain ⟨a1, a2, a3⟩ := h a (by simp) (m - n)
    obtain ⟨b1, b2, b3⟩ := ihr (fun b hb => h b (List.mem_cons_of_mem _ hb)) (n + a.cntN (m - n))
    simp only [cntN.cnts, tot.tots]
    split
    · refine ⟨by omega, by omega, fun hm => ?_⟩
      have := b3 hm
      have := a3 (by omega)
      omega
    · exact ⟨by omega, by omega, by omega⟩
theorem cnt_bd (t : Ty) : ∀ m : Int, 1 ≤ t.cntN m ∧ t.cntN m ≤ t.tot ∧ (t.cntN m ≤ m → t.cntN m = t.tot) := by
  induction t using Ty.ind with
  | h t ih =>
  intro m
  have h0 : 1 ≤ (1 : Int) ∧ (1 : Int) ≤ (1 : Nat) ∧ ((1 : Int) ≤ m → (1 : Int) = (1 : Nat)) := by
    exact ⟨by omega, by omega, by omega⟩
  obtain ⟨k1, k2, k3⟩ := cnts_key ih m (1)
  rw [cntN_eq, tot_eq]
  refine ⟨by omega, by omega, fun h => ?_⟩
  have := k3 h
  have := h0.2.2 (by omega)
  omega
theorem cnts_bd (l : List Ty) (n m : Int) : n ≤ cntN.cnts l n m ∧ cntN.cnts l n m ≤ n + tot.tots l := by
  obtain ⟨h1, h2, -⟩ := cnts_key (fun a _ => cnt_bd a) m n (l := l)
  exact ⟨h1, h2⟩
end Ty

theorem counttype_ok (t : Ty) (m : Int) (hm : -1 ≤ m ∧ m ≤ 1000000) (hc : t.tot ≤ 1073741824) : Con1 Tryz.prog gl 82 [t.dv, dint m] [] (dint (t.cntN m)) [] := by
  induction t using Ty.ind generalizing m with
  | h t ih =>
  refine t_in Tryz.func82 ?_
  intro X hP hgl hf hfn hn hR hids hfit
  have hct := Ty.tot_eq t
  have hlen := Ty.fit_len (hfit t.dv (by simp))
  refine t_g0 ?_
  refine t_a ?_
  refine W_sub [] (by simp [go_sem]) (by simp [go_sem, Ty.cntN.cnts] <;> omega) (by simp [go_sem]) (W_list (t.args) (fun done rest => [(.slot 6, .one (.v (dint done.length))), (.slot 5, .one (.v (dint (Ty.cntN.cnts done (1) m)))), (.slot 1, .one (.v (dint m))), (.loc 2, .row ([.v (dint t.kind), .v (.sl (t.args.map Ty.cells))])), (.slot 2, .one (.loc 2 0)), (.slot 4, .one (.v (dint 0)))]) ?_ ?_)
  · intro done x rest hL hg0 hnext
    have hlt : done.length < t.args.length := by rw [hL]; simp
    have hxm := List.mem_of_getElem? hg0
    have hcx := Ty.tot_mem hxm
    have happ := Ty.cnts_append done (x :: rest) (1) m
    have hta := Ty.tots_append done (x :: rest)
    rw [← hL] at happ hta
    have hsn := Ty.cnts_append done [x] (1) m
    simp only [Ty.cntN.cnts] at hsn
    have hbd := Ty.cnts_bd done (1) m
    generalize hn0 : Ty.cntN.cnts done (1) m = n0 at *
    by_cases hle : n0 ≤ m
    · rw [if_pos hle] at hsn
      have hbx := Ty.cnt_bd x (m - n0)
      refine t_g (j2 @hlt @hle) ?_
      refine t_c1 @hg0 (ih x hxm (m - n0) (by omega) (by omega)) ?_
      refine t_gt (wr []) @hsn trivial hnext
    · rw [Ty.cnts_stop _ _ _ hle] at happ
      refine t_g (j2 @hlt @hle) ?_
      refine t_r ?_
      simp [go_sem, hP, hgl, hn, Ty.cntN_eq, happ] <;> (try omega)
  · have hbd := Ty.cnts_bd t.args (1) m
    refine t_g0 ?_
    refine t_r ?_
    simp [go_sem, hP, hgl, hn, Ty.cntN_eq] <;> (try omega)

namespace Tm
set_option linter.unusedSimpArgs false
set_option linter.unusedVariables false
set_option linter.unnecessarySimpa false
/-- all nodes, with those of its types, and the elements of its lists -/
def tot : Tm → Nat
  | .mk _ _ y a => 1 + y.tot + tots a
where
  tots : List Tm → Nat
    | [] => 0
    | a :: r => a.tot + tots r
/-- what is counted of a tree, up to a number -/
def cntN : Tm → Int → Int
  | .mk _ _ y a, m => cnts a (1 + y.cntN (m - 1)) m
where
  cnts : List Tm → Int → Int → Int
    | [], n, _ => n
    | a :: r, n, m => if n ≤ m then cnts r (n + a.cntN (m - n)) m else n
theorem tot_eq (t : Tm) : t.tot = 1 + t.type.tot + tot.tots t.args := by cases t; rfl
theorem tots_append (l r : List Tm) : tot.tots (l ++ r) = tot.tots l + tot.tots r := by
  induction l with
  | nil => simp [tot.tots]
  | cons a l ih => simp [tot.tots, ih]; omega
theorem tot_mem {l : List Tm} {a : Tm} (h : a ∈ l) : a.tot ≤ tot.tots l := by
  induction l with
  | nil => cases h
  | cons b r ih =>
    simp only [tot.tots]
    rcases List.mem_cons.1 h with rfl | h
    · omega
    · have := ih h; omega
theorem cntN_eq (t : Tm) (m : Int) : t.cntN m = cntN.cnts t.args (1 + t.type.cntN (m - 1)) m := by cases t; rfl
theorem cnts_stop (r : List Tm) (n m : Int) (h : ¬ n ≤ m) : cntN.cnts r n m = n := by cases r <;> simp [cntN.cnts, h]
theorem cnts_append (l r : List Tm) (n m : Int) : cntN.cnts (l ++ r) n m = cntN.cnts r (cntN.cnts l n m) m := by
  induction l generalizing n with
  | nil => rfl
  | cons a l ih =>
    simp only [List.cons_append, cntN.cnts]
    split
    · exact ih _
    · rename_i h; rw [cnts_stop _ _ _ h]
theorem cnts_key {l : List Tm} (h : ∀ a ∈ l, ∀ m : Int, 1 ≤ a.cntN m ∧ a.cntN m ≤ a.tot ∧ (a.cntN m ≤ m → a.cntN m = a.tot)) (m : Int) : ∀ n : Int, n ≤ cntN.cnts l n m ∧ cntN.cnts l n m ≤ n + tot.tots l ∧ (cntN.cnts l n m ≤ m → cntN.cnts l n m = n + tot.tots l) := by
  induction l with
  | nil => intro n; simp [cntN.cnts, tot.tots]
  | cons a r ihr =>
    intro n
    obtain ⟨a1, a2, a3⟩ := h a (by simp) (m - n)
    obtain ⟨b1, b2, b3⟩ := ihr (fun b hb => h b (List.mem_cons_of_mem _ hb)) (n + a.cntN (m - n))
    simp only [cntN.cnts, tot.tots]
    split
    · refine ⟨by omega, by omega, fun hm => ?_⟩
      have := b3 hm
      have := a3 (by omega)
      omega
    · exact ⟨by omega, by omega, by omega⟩
theorem cnt_bd (t : Tm) : ∀ m : Int, 1 ≤ t.cntN m ∧ t.cntN m ≤ t.tot ∧ (t.cntN m ≤ m → t.cntN m = t.tot) := by
  induction t using Tm.ind with
  | h t ih =>
  intro m
  have h0 : 1 ≤ (1 + t.type.cntN (m - 1) : Int) ∧ (1 + t.type.cntN (m - 1) : Int) ≤ (1 + t.type.tot : Nat) ∧ ((1 + t.type.cntN (m - 1) : Int) ≤ m → (1 + t.type.cntN (m - 1) : Int) = (1 + t.type.tot : Nat)) := by
    have := Ty.cnt_bd t.type (m - 1); exact ⟨by omega, by omega, by omega⟩
  obtain ⟨k1, k2, k3⟩ := cnts_key ih m (1 + t.type.cntN (m - 1))
  rw [cntN_eq, tot_eq]
  refine ⟨by omega, by omega, fun h => ?_⟩
  have := k3 h
  have := h0.2.2 (by omega)
  omega
theorem cnts_bd (l : List Tm) (n m : Int) : n ≤ cntN.cnts l n m ∧ cntN.cnts l n m ≤ n + tot.tots l := by
  obtain ⟨h1, h2, -⟩ := cnts_key (fun a _ => cnt_bd a) m n (l := l)
  exact ⟨h1, h2⟩
end Tm

theorem countterm_ok (t : Tm) (m : Int) (hm : 0 ≤ m ∧ m ≤ 1000000) (hc : t.tot ≤ 1073741824) : Con1 Tryz.prog gl 41 [t.dv, dint m] [] (dint (t.cntN m)) [] := by
  induction t using Tm.ind generalizing m with
  | h t ih =>
  refine t_in Tryz.func41 ?_
  intro X hP hgl hf hfn hn hR hids hfit
  have hct := Tm.tot_eq t
  have hlen := Tm.fit_len (hfit t.dv (by simp))
  have hty := Ty.cnt_bd t.type (m - 1)
  refine t_g0 ?_
  refine t_c1 trivial (counttype_ok t.type (m - 1) (by omega) (by omega)) ?_
  refine t_g0 ?_
  refine t_a ?_
  refine W_sub [] (by simp [go_sem]) (by simp [go_sem, Tm.cntN.cnts] <;> omega) (by simp [go_sem]) (W_list (t.args) (fun done rest => [(.slot 6, .one (.v (dint done.length))), (.slot 5, .one (.v (dint (Tm.cntN.cnts done (1 + t.type.cntN (m - 1)) m)))), (.slot 1, .one (.v (dint m))), (.loc 2, .row ([.v (dint t.kind), .v (dint t.index), .v (dint t.type.kind), .v (.sl (t.type.args.map Ty.cells)), .v (.sl (t.args.map Tm.cells))])), (.slot 2, .one (.loc 2 0)), (.slot 4, .one (.v (dint 0)))]) ?_ ?_)
  · intro done x rest hL hg0 hnext
    have hlt : done.length < t.args.length := by rw [hL]; simp
    have hxm := List.mem_of_getElem? hg0
    have hcx := Tm.tot_mem hxm
    have happ := Tm.cnts_append done (x :: rest) (1 + t.type.cntN (m - 1)) m
    have hta := Tm.tots_append done (x :: rest)
    rw [← hL] at happ hta
    have hsn := Tm.cnts_append done [x] (1 + t.type.cntN (m - 1)) m
    simp only [Tm.cntN.cnts] at hsn
    have hbd := Tm.cnts_bd done (1 + t.type.cntN (m - 1)) m
    generalize hn0 : Tm.cntN.cnts done (1 + t.type.cntN (m - 1)) m = n0 at *
    by_cases hle : n0 ≤ m
    · rw [if_pos hle] at hsn
      have hbx := Tm.cnt_bd x (m - n0)
      refine t_g (j2 @hlt @hle) ?_
      refine t_c1 @hg0 (ih x hxm (m - n0) (by omega) (by omega)) ?_
      refine t_gt (wr []) @hsn trivial hnext
    · rw [Tm.cnts_stop _ _ _ hle] at happ
      refine t_g (j2 @hlt @hle) ?_
      refine t_r ?_
      simp [go_sem, hP, hgl, hn, Tm.cntN_eq, happ] <;> (try omega)
  · have hbd := Tm.cnts_bd t.args (1 + t.type.cntN (m - 1)) m
    refine t_g0 ?_
    refine t_r ?_
    simp [go_sem, hP, hgl, hn, Tm.cntN_eq] <;> (try omega)

namespace Val
set_option linter.unusedSimpArgs false
set_option linter.unusedVariables false
set_option linter.unnecessarySimpa false
/-- all nodes, with those of its types, and the elements of its lists -/
def tot : Val → Nat
  | .mk _ _ l a => 1 + l.length + tots a
where
  tots : List Val → Nat
    | [] => 0
    | a :: r => a.tot + tots r
/-- what is counted of a tree, up to a number -/
def cntN : Val → Int → Int
  | .mk _ _ l a, m => cnts a (1 + l.length) m
where
  cnts : List Val → Int → Int → Int
    | [], n, _ => n
    | a :: r, n, m => if n ≤ m then cnts r (n + a.cntN (m - n)) m else n
theorem tot_eq (t : Val) : t.tot = 1 + t.list.length + tot.tots t.args := by cases t; rfl
theorem tots_append (l r : List Val) : tot.tots (l ++ r) = tot.tots l + tot.tots r := by
  induction l with
  | nil => simp [tot.tots]
  | cons a l ih => simp [tot.tots, ih]; omega
theorem tot_mem {l : List Val} {a : Val} (h : a ∈ l) : a.tot ≤ tot.tots l := by
  induction l with
  | nil => cases h
  | cons b r ih =>
    simp only [tot.tots]
    rcases List.mem_cons.1 h with rfl | h
    · omega
    · have := ih h; omega
theorem cntN_eq (t : Val) (m : Int) : t.cntN m = cntN.cnts t.args (1 + t.list.length) m := by cases t; rfl
theorem cnts_stop (r : List Val) (n m : Int) (h : ¬ n ≤ m) : cntN.cnts r n m = n := by cases r <;> simp [cntN.cnts, h]
theorem cnts_append (l r : List Val) (n m : Int) : cntN.cnts (l ++ r) n m = cntN.cnts r (cntN.cnts l n m) m := by
  induction l generalizing n with
  | nil => rfl
  | cons a l ih =>
    simp only [List.cons_append, cntN.cnts]
    split
    · exact ih _
    · rename_i h; rw [cnts_stop _ _ _ h]
theorem cnts_key {l : List Val} (h : ∀ a ∈ l, ∀ m : Int, 1 ≤ a.cntN m ∧ a.cntN m ≤ a.tot ∧ (a.cntN m ≤ m → a.cntN m = a.tot)) (m : Int) : ∀ n : Int, n ≤ cntN.cnts l n m ∧ cntN.cnts l n m ≤ n + tot.tots l ∧ (cntN.cnts l n m ≤ m → cntN.cnts l n m = n + tot.tots l) := by
  induction l with
  | nil => intro n; simp [cntN.cnts, tot.tots]
  | cons a r ihr =>
    intro n
    obtain ⟨a1, a2, a3⟩ := h a (by simp) (m - n)
    obtain ⟨b1, b2, b3⟩ := ihr (fun b hb => h b (List.mem_cons_of_mem _ hb)) (n + a.cntN (m - n))
    simp only [cntN.cnts, tot.tots]
    split
    · refine ⟨by omega, by omega, fun hm => ?_⟩
      have := b3 hm
      have := a3 (by omega)
      omega
    · exact ⟨by omega, by omega, by omega⟩
theorem cnt_bd (t : Val) : ∀ m : Int, 1 ≤ t.cntN m ∧ t.cntN m ≤ t.tot ∧ (t.cntN m ≤ m → t.cntN m = t.tot) := by
  induction t using Val.ind with
  | h t ih =>
  intro m
  have h0 : 1 ≤ (1 + t.list.length : Int) ∧ (1 + t.list.length : Int) ≤ (1 + t.list.length : Nat) ∧ ((1 + t.list.length : Int) ≤ m → (1 + t.list.length : Int) = (1 + t.list.length : Nat)) := by
    exact ⟨by omega, by omega, by omega⟩
  obtain ⟨k1, k2, k3⟩ := cnts_key ih m (1 + t.list.length)
  rw [cntN_eq, tot_eq]
  refine ⟨by omega, by omega, fun h => ?_⟩
  have := k3 h
  have := h0.2.2 (by omega)
  omega
theorem cnts_bd (l : List Val) (n m : Int) : n ≤ cntN.cnts l n m ∧ cntN.cnts l n m ≤ n + tot.tots l := by
  obtain ⟨h1, h2, -⟩ := cnts_key (fun a _ => cnt_bd a) m n (l := l)
  exact ⟨h1, h2⟩
end Val

theorem countvalue_ok (t : Val) (m : Int) (hm : 0 ≤ m ∧ m ≤ 1000000) (hc : t.tot ≤ 1073741824) : Con1 Tryz.prog gl 40 [t.dv, dint m] [] (dint (t.cntN m)) [] := by
  induction t using Val.ind generalizing m with
  | h t ih =>
  refine t_in Tryz.func40 ?_
  intro X hP hgl hf hfn hn hR hids hfit
  have hct := Val.tot_eq t
  have hlen := Val.fit_args (hfit t.dv (by simp))
  have hl2 := Val.fit_list (hfit t.dv (by simp))
  refine t_g0 ?_
  refine t_a ?_
  refine W_sub [] (by simp [go_sem]) (by simp [go_sem, Val.cntN.cnts] <;> omega) (by simp [go_sem]) (W_list (t.args) (fun done rest => [(.slot 6, .one (.v (dint done.length))), (.slot 5, .one (.v (dint (Val.cntN.cnts done (1 + t.list.length) m)))), (.slot 1, .one (.v (dint m))), (.loc 2, .row ([.v (dint t.kind), .v (dint t.num), .v (.sl (ints t.list)), .v (.sl (t.args.map Val.cells))])), (.slot 2, .one (.loc 2 0)), (.slot 4, .one (.v (dint 0)))]) ?_ ?_)
  · intro done x rest hL hg0 hnext
    have hlt : done.length < t.args.length := by rw [hL]; simp
    have hxm := List.mem_of_getElem? hg0
    have hcx := Val.tot_mem hxm
    have happ := Val.cnts_append done (x :: rest) (1 + t.list.length) m
    have hta := Val.tots_append done (x :: rest)
    rw [← hL] at happ hta
    have hsn := Val.cnts_append done [x] (1 + t.list.length) m
    simp only [Val.cntN.cnts] at hsn
    have hbd := Val.cnts_bd done (1 + t.list.length) m
    generalize hn0 : Val.cntN.cnts done (1 + t.list.length) m = n0 at *
    by_cases hle : n0 ≤ m
    · rw [if_pos hle] at hsn
      have hbx := Val.cnt_bd x (m - n0)
      refine t_g (j2 @hlt @hle) ?_
      refine t_c1 @hg0 (ih x hxm (m - n0) (by omega) (by omega)) ?_
      refine t_gt (wr []) @hsn trivial hnext
    · rw [Val.cnts_stop _ _ _ hle] at happ
      refine t_g (j2 @hlt @hle) ?_
      refine t_r ?_
      simp [go_sem, hP, hgl, hn, Val.cntN_eq, happ] <;> (try omega)
  · have hbd := Val.cnts_bd t.args (1 + t.list.length) m
    refine t_g0 ?_
    refine t_r ?_
    simp [go_sem, hP, hgl, hn, Val.cntN_eq] <;> (try omega)

theorem Ty.tot_count (t : Ty) : t.tot = t.count := by
  induction t using Ty.ind with
  | h t ih =>
  have key : ∀ l : List Ty, (∀ a ∈ l, a.tot = a.count) → Ty.tot.tots l = Ty.count.counts l := by
    intro l
    induction l with
    | nil => intro _; rfl
    | cons a r ihr => intro h; simp only [Ty.tot.tots, Ty.count.counts, h a (by simp), ihr fun b hb => h b (List.mem_cons_of_mem _ hb)]
  rw [Ty.tot_eq, Ty.count_eq, key t.args ih]
theorem Tm.tot_count (t : Tm) : t.count ≤ t.tot ∧ (t.tot ≤ 1073741824 → t.tys) := by
  induction t using Tm.ind with
  | h t ih =>
  have key : ∀ l : List Tm, (∀ a ∈ l, a.count ≤ a.tot) → Tm.count.counts l ≤ Tm.tot.tots l := by
    intro l
    induction l with
    | nil => intro _; exact Nat.le_refl _
    | cons a r ihr =>
      intro h
      have h1 := h a (by simp)
      have h2 := ihr fun b hb => h b (List.mem_cons_of_mem _ hb)
      simp only [Tm.tot.tots, Tm.count.counts]; omega
  have h1 := key t.args fun a ha => (ih a ha).1
  have h2 := Ty.tot_count t.type
  rw [Tm.tot_eq, Tm.count_eq]
  refine ⟨by omega, fun h => (Tm.tys_eq t).2 ⟨by omega, fun a ha => (ih a ha).2 ?_⟩⟩
  have := Tm.tot_mem ha
  omega
theorem Val.tot_count (t : Val) : t.count ≤ t.tot := by
  induction t using Val.ind with
  | h t ih =>
  have key : ∀ l : List Val, (∀ a ∈ l, a.count ≤ a.tot) → Val.count.counts l ≤ Val.tot.tots l := by
    intro l
    induction l with
    | nil => intro _; exact Nat.le_refl _
    | cons a r ihr =>
      intro h
      have h1 := h a (by simp)
      have h2 := ihr fun b hb => h b (List.mem_cons_of_mem _ hb)
      simp only [Val.tot.tots, Val.count.counts]; omega
  have h1 := key t.args ih
  rw [Val.tot_eq, Val.count_eq]
  omega
end Go.Proofs.YtbmnlkfgkdallaaGreatDoor.Lift
