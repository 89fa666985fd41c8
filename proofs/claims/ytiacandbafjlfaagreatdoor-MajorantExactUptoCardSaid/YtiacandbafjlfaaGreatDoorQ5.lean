import Derived.Test.YtiacandbafjlfaaGreatDoorQ4
namespace Go.Proofs.YtiacandbafjlfaaGreatDoor.Lift
set_option linter.unusedSimpArgs false
set_option linter.unusedVariables false
set_option linter.unnecessarySimpa false
open Go
variable {gl : Globs}

theorem anyLoc_mapv (d : Nat) (l : List DV) : anyLoc d (l.map SV.v) = false := by
  induction l with
  | nil => rfl
  | cons x r ih => simp [anyLoc, hasLoc, ih]
theorem anyTok_mapv (d : Nat) (l : List DV) : anyTok d (l.map SV.v) = false := by
  induction l with
  | nil => rfl
  | cons x r ih => simp [anyTok, hasTok, ih]
theorem exRow_mapv (k b : Nat) (l : List DV) : exRow k b (l.map SV.v) = l.map SV.v := by
  induction l with
  | nil => rfl
  | cons x r ih => simp only [List.map_cons, exRow, ih]; rfl
attribute [go_sem] anyLoc_mapv anyTok_mapv exRow_mapv

theorem mterm1_ok (b bt : Nat) (hb : b ≠ bt) (t : Tm) (hs : t.shape = true) (hc : t.count ≤ 4096) (hl : t.leastN 268435456 = true) :
    Con1 Tryz.prog gl 63 [ptr b, ptr bt] [(b, mk1 0), (bt, t.cells)] (majE t).1.dv [(b, mk1 (majE t).2), (bt, t.cells)] := by
  have w := of_walk (gl := gl) b t (M := 268435456) hs (Tm.idx_of t _ hs hl) (by decide) (by omega)
  have hf' := Tm.fold t
  refine t_in Tryz.func63 ?_
  intro X hP hgl hf hfn hn hR hids hfit
  have hb' : bt ≠ b := fun h => hb h.symm
  refine t_g (j2 @hb (j2 @hb' (Tm.cells_eq t))) ?_
  refine t_c1 (j2 @hb (j2 @hb' @hf')) w ?_
  repeat (first | refine W_seq ?_ | refine W_skip ?_ | refine W_block ?_ | refine W_inBlock ?_ | refine W_label ?_ | refine W_exit rfl ?_)
  first | refine W_retR hP hf hfn _ ([(b, mk1 (majE t).2), (bt, t.cells)]) (by first | (simp [go_sem, hP, hgl, hn, hb, hb', Tm.cells_eq t]; done) | (simp [go_sem, hP, hgl, hn, hb, hb', Tm.cells_eq t]; rfl)) (by simp [go_sem, hP, hgl, hn, hb, hb', Tm.cells_eq t]) (by simp [hb, hb', Tm.cells_eq t]) ?_ hR.2 | refine W_endR hP hf hfn _ ([(b, mk1 (majE t).2), (bt, t.cells)]) (by first | (simp [go_sem, hP, hgl, hn, hb, hb', Tm.cells_eq t]; done) | (simp [go_sem, hP, hgl, hn, hb, hb', Tm.cells_eq t]; rfl)) (by simp [go_sem, hP, hgl, hn, hb, hb', Tm.cells_eq t]) (by simp [hb, hb', Tm.cells_eq t]) ?_ hR.2
  rw [hR.1]
  refine ⟨?_, by simp [hb, hb', Tm.cells_eq t]⟩
  try simp [hb, hb', Tm.cells_eq t]
  try all_goals (simp [Ty.dv, Ty.cells_eq, Ty.kind_mk, Ty.args_mk, Tm.dv, Tm.cells_eq, Tm.kind_mk, Tm.index_mk, Tm.type_mk, Tm.args_mk, Val.dv, Val.cells_eq, Val.kind_mk, Val.num_mk, Val.list_mk, Val.args_mk, ints])

def runT (r : Tm × Int) : Tm × Int := if r.2 = 0 then r else (zeroTm, r.2)

theorem mrun_ok (bt : Nat) (f : FuncId) (cs : List DV) (r : Tm × Int) (hc : ∀ b, b ≠ bt → Con1 Tryz.prog gl f [ptr b, ptr bt] [(b, mk1 0), (bt, cs)] r.1.dv [(b, mk1 r.2), (bt, cs)]) :
    Con1 Tryz.prog gl 47 [.prim (.func (.func f) #[] #[.pointer (some ⟨bt, 0, none⟩)])] [(bt, cs)] (.tup [(runT r).1.dv, dint (runT r).2]) [(bt, cs)] := by
  refine t_in Tryz.func47 ?_
  intro X hP hgl hf hfn hn hR hids hfit
  refine t_rg0 ?_
  refine t_rg0 ?_
  refine W_expose 7 (by simp [go_sem]; rfl) ?_
  intro b hb
  simp [go_sem] at hb ⊢
  have hbt : b ≠ bt := fun h => hb h.symm
  refine t_a ?_
  first | refine W_reg [] fun K hK => ?_ | refine W_regd (by rw [hP]; exact mixed) [] fun K hK => ?_
  refine t_s0 ?_
  repeat (refine ⟨by omega, ?_⟩)
  refine vcK_callV hP hgl (f := f) (fi := #[]) (ca := #[.pointer (some ⟨bt, 0, none⟩)]) (by simp [go_sem]) (by simp [primOK]) (ds := [ptr b]) (hc b hbt) (by simp [go_sem]) rfl (by simp [go_sem, hb, hbt]) (by simp [hbt]) (by rw [hn]; exact Nat.le_of_ble_eq_true rfl) ?_
  simp [go_sem, hP, hgl, hn, hb, hbt]
  refine t_e ?_
  clear hK K
  by_cases h : r.2 = 0
  · refine t_g (j2 @h (j2 @hb @hbt)) ?_
    repeat (first | refine W_seq ?_ | refine W_skip ?_ | refine W_block ?_ | refine W_inBlock ?_ | refine W_label ?_ | refine W_exit rfl ?_)
    first | refine W_retR hP hf hfn _ ([(bt, cs)]) (by first | (simp [go_sem, hP, hgl, hn, h, runT, hb, hbt]; done) | (simp [go_sem, hP, hgl, hn, h, runT, hb, hbt]; rfl)) (by simp [go_sem, hP, hgl, hn, h, runT, hb, hbt]) (by simp [h, runT, hb, hbt]) ?_ hR.2 | refine W_endR hP hf hfn _ ([(bt, cs)]) (by first | (simp [go_sem, hP, hgl, hn, h, runT, hb, hbt]; done) | (simp [go_sem, hP, hgl, hn, h, runT, hb, hbt]; rfl)) (by simp [go_sem, hP, hgl, hn, h, runT, hb, hbt]) (by simp [h, runT, hb, hbt]) ?_ hR.2
    rw [hR.1]
    refine ⟨?_, by simp [h, runT, hb, hbt]⟩
    try simp [h, runT, hb, hbt]
    try all_goals (simp [Ty.dv, Ty.cells_eq, Ty.kind_mk, Ty.args_mk, Tm.dv, Tm.cells_eq, Tm.kind_mk, Tm.index_mk, Tm.type_mk, Tm.args_mk, Val.dv, Val.cells_eq, Val.kind_mk, Val.num_mk, Val.list_mk, Val.args_mk, ints])
  · refine t_g (j2 @h (j2 @hb @hbt)) ?_
    repeat (first | refine W_seq ?_ | refine W_skip ?_ | refine W_block ?_ | refine W_inBlock ?_ | refine W_label ?_ | refine W_exit rfl ?_)
    first | refine W_retR hP hf hfn _ ([(bt, cs)]) (by first | (simp [go_sem, hP, hgl, hn, h, runT, hb, hbt, zeroTm]; done) | (simp [go_sem, hP, hgl, hn, h, runT, hb, hbt, zeroTm]; rfl)) (by simp [go_sem, hP, hgl, hn, h, runT, hb, hbt, zeroTm]) (by simp [h, runT, hb, hbt, zeroTm]) ?_ hR.2 | refine W_endR hP hf hfn _ ([(bt, cs)]) (by first | (simp [go_sem, hP, hgl, hn, h, runT, hb, hbt, zeroTm]; done) | (simp [go_sem, hP, hgl, hn, h, runT, hb, hbt, zeroTm]; rfl)) (by simp [go_sem, hP, hgl, hn, h, runT, hb, hbt, zeroTm]) (by simp [h, runT, hb, hbt, zeroTm]) ?_ hR.2
    rw [hR.1]
    refine ⟨?_, by simp [h, runT, hb, hbt, zeroTm]⟩
    try simp [h, runT, hb, hbt, zeroTm]
    try all_goals (simp [Ty.dv, Ty.cells_eq, Ty.kind_mk, Ty.args_mk, Tm.dv, Tm.cells_eq, Tm.kind_mk, Tm.index_mk, Tm.type_mk, Tm.args_mk, Val.dv, Val.cells_eq, Val.kind_mk, Val.num_mk, Val.list_mk, Val.args_mk, ints])

/-- the majorant of a term, with its error -/
def Tm.mTermE (t : Tm) : Tm × Int := if t.checkN = 0 then if t.leastN 268435456 = true then runT (majE t) else (zeroTm, 1) else (zeroTm, t.checkN)

theorem mterm_ok (har : globOf gl 0 = some arEls) (t : Tm) (ht : t.tys) (hc : t.count ≤ 1073741824) :
    Con1 Tryz.prog gl 21 [t.dv] [] (.tup [t.mTermE.1.dv, dint t.mTermE.2]) [] := by
  refine t_in Tryz.func21 ?_
  intro X hP hgl hf hfn hn hR hids hfit
  have hfo := Tm.fold t
  refine t_g0 ?_
  refine t_c1 @hfo (termscheck_ok har t ht (by omega)) ?_
  by_cases h : t.checkN = 0
  · have hsh := (Tm.checkN_iff t).1 h
    refine t_g @h ?_
    refine t_c1 @hfo (sc_far_ok t) ?_
    by_cases h2 : t.leastN 268435456 = true
    · refine t_g @h2 ?_
      refine W_expose 1 (by simp [go_sem]; rfl) ?_
      intro bt hb
      simp [go_sem] at hb ⊢
      have w := mrun_ok (gl := gl) bt 63 t.cells (majE t) fun b hb => mterm1_ok b bt hb t hsh.1 hsh.2 h2
      refine t_c1 (Tm.cells_eq t) w ?_
      refine t_r ?_
      simp [go_sem, hP, hgl, hn, Tm.mTermE, h, h2] <;> (try omega)
      all_goals exact t_f
    · have h2' : t.leastN 268435456 = false := by simpa using h2
      refine t_g @h2' ?_
      refine t_r ?_
      simp [go_sem, hP, hgl, hn, Tm.mTermE, h, h2', zeroTm] <;> (try omega)
      all_goals exact t_f
  · refine t_g @h ?_
    refine t_r ?_
    simp [go_sem, hP, hgl, hn, Tm.mTermE, h, zeroTm] <;> (try omega)
    all_goals exact t_f

/-- the majorant type of a type, with its error -/
def Ty.mTypeE (t : Ty) : Ty × Int := if t.checkN = 0 then (bareN t, 0) else (zY, t.checkN)

theorem mtype_ok (t : Ty) (hc : t.count ≤ 1073741824) : Con1 Tryz.prog gl 14 [t.dv] [] (.tup [t.mTypeE.1.dv, dint t.mTypeE.2]) [] := by
  refine t_in Tryz.func14 ?_
  intro X hP hgl hf hfn hn hR hids hfit
  have hfo := Ty.fold t
  refine t_g0 ?_
  refine t_c1 @hfo (types_check_ok t (by omega)) ?_
  by_cases h : t.checkN = 0
  · refine t_g @h ?_
    refine t_c1 @hfo (bare_walk t) ?_
    refine t_r ?_
    simp [go_sem, hP, hgl, hn, Ty.mTypeE, h] <;> (try omega)
    all_goals exact t_f
  · refine t_g @h ?_
    refine t_r ?_
    simp [go_sem, hP, hgl, hn, Ty.mTypeE, h, zY] <;> (try omega)
    all_goals exact t_f

mutual
def Ty.listedN : Ty → Bool
  | .mk k a => decide (k = 2) || Ty.listedsN a
def Ty.listedsN : List Ty → Bool
  | [] => false
  | x :: r => x.listedN || Ty.listedsN r
end
theorem Ty.listedN_eq (t : Ty) : t.listedN = (decide (t.kind = 2) || Ty.listedsN t.args) := by cases t; simp only [Ty.listedN]; rfl
theorem Ty.listedsN_append (l r : List Ty) : Ty.listedsN (l ++ r) = (Ty.listedsN l || Ty.listedsN r) := by
  induction l with
  | nil => simp [Ty.listedsN]
  | cons x l ih => simp [Ty.listedsN, ih, Bool.or_assoc]

theorem listed_ok (t : Ty) : Con1 Tryz.prog gl 44 [t.dv] [] (dbool t.listedN) [] := by
  induction t using Ty.ind with
  | h t ih =>
  refine t_in Tryz.func44 ?_
  intro X hP hgl hf hfn hn hR hids hfit
  have hl1 := Ty.fit_len (hfit t.dv (by simp))
  rw [Ty.listedN_eq] at hR
  by_cases h : t.kind = 2
  · refine t_g @h ?_
    refine t_r ?_
    simp [go_sem, hP, hgl, hn, h] <;> (try omega)
  · refine t_g @h ?_
    refine t_a ?_
    refine t_sub [] trivial (W_listI (t.args) (fun done => Ty.listedsN done = false) (fun done rest => [(.slot 11, .one (.v (dint done.length))), (.slot 10, .one (.v (dint t.args.length))), (.slot 9, .one (.v (.sl (t.args.map Ty.cells))))]) (rfl) ?_ ?_)
    · intro done x rest hL hg0 hI hnext
      have hlt : done.length < t.args.length := by rw [hL]; simp
      have hxm := List.mem_of_getElem? hg0
      refine t_rg0 ?_
      refine t_yes ?_
      refine t_g @hg0 ?_
      refine t_c1 @hg0 (ih x hxm) ?_
      by_cases hx : x.listedN = true
      · have hall : Ty.listedsN t.args = true := by rw [hL, Ty.listedsN_append]; simp [Ty.listedsN, hx]
        refine t_g @hx ?_
        refine t_r ?_
        simp [go_sem, hP, hgl, hn, hall] <;> (try omega)
      · have hx' : x.listedN = false := by simpa using hx
        refine t_gt (wr []) trivial @hx' (hnext (by rw [Ty.listedsN_append, hI]; simp [Ty.listedsN, hx']))
    · intro hI
      refine t_rg0 ?_
      refine t_no ?_
      refine t_g0 ?_
      refine t_r ?_
      simp [go_sem, hP, hgl, hn, hI, h] <;> (try omega)
end Go.Proofs.YtiacandbafjlfaaGreatDoor.Lift

/-
  Plain law: the greatest of two terms, and majorants, in the reference's way of cutting what is too large: the same as the program's.
-/
namespace Go.Proofs.YtiacandbafjlfaaGreatDoor.Lift
set_option linter.unusedSimpArgs false
set_option linter.unusedVariables false
set_option linter.unnecessarySimpa false
open Go

/-- a term, or ErrSize -/
def cutE (x : Tm) : Tm × Int := if 4096 < x.count then (zeroTm, 4) else (x, 0)
theorem cutE_big {x : Tm} (h : 4096 < x.count) : cutE x = (zeroTm, 4) := if_pos h
theorem cutE_ok {x : Tm} (h : ¬ 4096 < x.count) : cutE x = (x, 0) := if_neg h
theorem node_cut (k : Int) (s : Ty) (l : List Tm) : nodeE 0 k s l = cutE (Tm.mk k 0 s l) := rfl
theorem node_bad (k : Int) (s : Ty) (l : List Tm) : nodeE 4 k s l = (zeroTm, 4) := rfl
theorem max_bad (y : Ty) (a b : Tm) : maxE y a b 4 = (zeroTm, 4) := by
  cases y; rw [maxE.eq_def]; rfl
/-- a node over a node that was cut -/
theorem node_over {x : Tm} {k : Int} {s : Ty} (f : Tm → List Tm) (h : x.count ≤ (Tm.mk k 0 s (f x)).count) : nodeE (cutE x).2 k s (f (cutE x).1) = cutE (Tm.mk k 0 s (f x)) := by
  by_cases hx : 4096 < x.count
  · rw [cutE_big hx, cutE_big (show 4096 < (Tm.mk k 0 s (f x)).count by omega)]
    rfl
  · rw [cutE_ok hx]; rfl
theorem call_two_cut (f a b : Tm) : callE 0 f [a, b] = cutE (nT 3 [nT 3 [f, a], b]) := by
  show (_, _) = _
  have h := node_over (x := nT 3 [f, a]) (k := 3) (s := zY) (fun x => [x, b]) (by show (nT 3 [f, a]).count ≤ 1 + ((nT 3 [f, a]).count + (b.count + 0)); omega)
  exact h
theorem call_one_cut (f a : Tm) : callE 0 f [a] = cutE (nT 3 [f, a]) := rfl
theorem call_three_cut (f a b c : Tm) : callE 0 f [a, b, c] = cutE (nT 3 [nT 3 [nT 3 [f, a], b], c]) := by
  have h2 := call_two_cut f a b
  have e : callE 0 f [a, b, c] = nodeE (callE 0 f [a, b]).2 3 zY [(callE 0 f [a, b]).1, c] := rfl
  rw [e, h2]
  exact node_over (x := nT 3 [nT 3 [f, a], b]) (k := 3) (s := zY) (fun x => [x, c]) (by show (nT 3 [nT 3 [f, a], b]).count ≤ 1 + ((nT 3 [nT 3 [f, a], b]).count + (c.count + 0)); omega)

/-- the greatest of two terms, each of which is looked at first -/
def max33 (y : Ty) (a b : Tm) : Tm × Int := if 4096 < a.count ∨ 4096 < b.count then (zeroTm, 4) else maxE y a b 0
theorem max33_big {y : Ty} {a b : Tm} (h : 4096 < a.count ∨ 4096 < b.count) : max33 y a b = (zeroTm, 4) := if_pos h
theorem max33_ok {y : Ty} {a b : Tm} (h : ¬ (4096 < a.count ∨ 4096 < b.count)) : max33 y a b = maxE y a b 0 := if_neg h
theorem max33_nat {a b : Tm} (h : ¬ (4096 < a.count ∨ 4096 < b.count)) : max33 (T.ty .nat) a b = cutE (nT 3 [nT 3 [greatT, a], b]) := by
  rw [max33_ok h, maxE_eq _ (T.ok_ty nat_ok0), if_pos rfl, if_pos (show (T.ty .nat).kind = 1 from rfl), call_two_cut]
theorem max33_unit {a b : Tm} (h : ¬ (4096 < a.count ∨ 4096 < b.count)) : max33 (T.ty .unit) a b = (nT 13 [], 0) := by
  rw [max33_ok h, maxE_eq _ (T.ok_ty (a := .unit) (by unfold T.ok; decide)), if_pos rfl]
  rfl
theorem max33_pair {s t : T} (ho : (T.pair s t).ok) {a b : Tm} (h : ¬ (4096 < a.count ∨ 4096 < b.count)) :
    max33 (T.pair s t).ty a b = if (max33 s.ty (nT 11 [a]) (nT 11 [b])).2 = 0 then if (max33 t.ty (nT 12 [a]) (nT 12 [b])).2 = 0 then cutE (nT 10 [(max33 s.ty (nT 11 [a]) (nT 11 [b])).1, (max33 t.ty (nT 12 [a]) (nT 12 [b])).1]) else (zeroTm, (max33 t.ty (nT 12 [a]) (nT 12 [b])).2) else (zeroTm, (max33 s.ty (nT 11 [a]) (nT 11 [b])).2) := by
  rw [max33_ok h, maxE_eq _ (T.ok_ty ho), if_pos rfl, if_neg (show ¬ (T.pair s t).ty.kind = 1 by simp [T.ty, Ty.kind]), if_pos (show (T.pair s t).ty.kind = 3 from rfl)]
  have ca : (nT 11 [a]).count = 1 + (a.count + 0) := rfl
  have cb : (nT 11 [b]).count = 1 + (b.count + 0) := rfl
  have ca' : (nT 12 [a]).count = 1 + (a.count + 0) := rfl
  have cb' : (nT 12 [b]).count = 1 + (b.count + 0) := rfl
  have e0 : (T.pair s t).ty.arg 0 = s.ty := rfl
  have e1 : (T.pair s t).ty.arg 1 = t.ty := rfl
  rw [e0, e1]
  simp only [node_cut]
  have f11 : ∀ x, Tm.mk 11 0 zY [x] = nT 11 [x] := fun _ => rfl
  have f12 : ∀ x, Tm.mk 12 0 zY [x] = nT 12 [x] := fun _ => rfl
  have f10 : ∀ l, Tm.mk 10 0 zY l = nT 10 l := fun _ => rfl
  rw [f11]
  by_cases h1 : 4096 < (nT 11 [a]).count
  · rw [cutE_big h1, max33_big (y := s.ty) (b := nT 11 [b]) (.inl h1)]
    simp only [node_bad, max_bad]
    rfl
  rw [cutE_ok h1]
  simp only [node_cut, f11]
  by_cases h2 : 4096 < (nT 11 [b]).count
  · rw [cutE_big h2, max33_big (y := s.ty) (a := nT 11 [a]) (.inr h2)]
    simp only [node_bad, max_bad]
    rfl
  rw [cutE_ok h2, max33_ok (y := s.ty) (a := nT 11 [a]) (b := nT 11 [b]) (by omega)]
  simp only
  generalize maxE s.ty (nT 11 [a]) (nT 11 [b]) 0 = l
  obtain ⟨l1, l2⟩ := l
  simp only
  by_cases hl : l2 = 0
  · subst hl
    simp only [node_cut, f12, if_true]
    rw [cutE_ok (show ¬ 4096 < (nT 12 [a]).count by omega)]
    simp only [node_cut, f12]
    rw [cutE_ok (show ¬ 4096 < (nT 12 [b]).count by omega), max33_ok (y := t.ty) (a := nT 12 [a]) (b := nT 12 [b]) (by omega)]
    simp only
    generalize maxE t.ty (nT 12 [a]) (nT 12 [b]) 0 = r
    obtain ⟨r1, r2⟩ := r
    simp only
    by_cases hr : r2 = 0
    · subst hr; simp only [node_cut, f10, if_true]
    · rw [if_neg hr]
      unfold nodeE
      rw [if_neg hr]
  · rw [if_neg hl]
    have hn : ∀ k s l, nodeE l2 k s l = (zeroTm, l2) := fun k s l => by unfold nodeE; rw [if_neg hl]
    have hm : ∀ y a b, maxE y a b l2 = (zeroTm, l2) := fun y a b => by cases y; rw [maxE.eq_def]; simp only; rw [if_neg hl]
    simp only [hn, hm]
theorem max33_fn {s t : T} (ho : (T.fn s t).ok) {a b : Tm} (h : ¬ (4096 < a.count ∨ 4096 < b.count)) :
    max33 (T.fn s t).ty a b = if (max33 t.ty (nT 3 [a.upN 0 1, vT 0]) (nT 3 [b.upN 0 1, vT 0])).2 = 0 then cutE (Tm.mk 2 0 s.ty [(max33 t.ty (nT 3 [a.upN 0 1, vT 0]) (nT 3 [b.upN 0 1, vT 0])).1]) else (zeroTm, (max33 t.ty (nT 3 [a.upN 0 1, vT 0]) (nT 3 [b.upN 0 1, vT 0])).2) := by
  rw [max33_ok h, maxE_eq _ (T.ok_ty ho), if_pos rfl, if_neg (show ¬ (T.fn s t).ty.kind = 1 by simp [T.ty, Ty.kind]), if_neg (show ¬ (T.fn s t).ty.kind = 3 by simp [T.ty, Ty.kind]), if_pos (show (T.fn s t).ty.kind = 4 from rfl)]
  have e0 : (T.fn s t).ty.arg 0 = s.ty := rfl
  have e1 : (T.fn s t).ty.arg 1 = t.ty := rfl
  rw [e0, e1]
  simp only [call_one_cut]
  by_cases h1 : 4096 < (nT 3 [a.upN 0 1, vT 0]).count
  · rw [cutE_big h1, max33_big (y := t.ty) (b := nT 3 [b.upN 0 1, vT 0]) (.inl h1)]
    simp only
    have : callE 4 (b.upN 0 1) [vT 0] = (zeroTm, 4) := rfl
    rw [this]
    simp only [max_bad, node_bad]
    rfl
  rw [cutE_ok h1]
  simp only [call_one_cut]
  by_cases h2 : 4096 < (nT 3 [b.upN 0 1, vT 0]).count
  · rw [cutE_big h2, max33_big (y := t.ty) (a := nT 3 [a.upN 0 1, vT 0]) (.inr h2)]
    simp only [max_bad, node_bad]
    rfl
  rw [cutE_ok h2, max33_ok (y := t.ty) (a := nT 3 [a.upN 0 1, vT 0]) (b := nT 3 [b.upN 0 1, vT 0]) (by omega)]
  simp only
  generalize maxE t.ty (nT 3 [a.upN 0 1, vT 0]) (nT 3 [b.upN 0 1, vT 0]) 0 = r
  obtain ⟨r1, r2⟩ := r
  simp only
  by_cases hr : r2 = 0
  · subst hr; simp only [node_cut, if_true]
  · rw [if_neg hr]
    unfold nodeE
    rw [if_neg hr]
end Go.Proofs.YtiacandbafjlfaaGreatDoor.Lift

/-
  Plain law: what the majorant of each kind of node is, in the reference's way.
-/
namespace Go.Proofs.YtiacandbafjlfaaGreatDoor.Lift
set_option linter.unusedSimpArgs false
set_option linter.unusedVariables false
set_option linter.unnecessarySimpa false
open Go

theorem v_count (i : Int) : (vT i).count = 1 := rfl
theorem maj_n8 {i : Int} {y : Ty} {a : List Tm} {p q : Tm} (hp : ¬ 4096 < p.count) : majNodeE 8 i y a [p, q] = max33 natY p (nT 5 [q]) := by
  unfold majNodeE
  rw [if_neg (by decide), if_pos rfl]
  show maxE natY p (cutE (nT 5 [q])).1 (cutE (nT 5 [q])).2 = _
  by_cases h : 4096 < (nT 5 [q]).count
  · rw [cutE_big h, max33_big (.inr h)]
    exact max_bad _ _ _
  · rw [cutE_ok h, max33_ok (by omega)]
theorem step_cut {s : Ty} (next : Tm) : stepE s (cutE next).1 (cutE next).2 = if (max33 s (vT 0) next).2 = 0 then cutE (Tm.mk 2 0 natY [Tm.mk 2 0 s [(max33 s (vT 0) next).1]]) else (zeroTm, (max33 s (vT 0) next).2) := by
  unfold stepE
  have h0 : ¬ 4096 < (vT 0).count := by rw [v_count]; decide
  by_cases h : 4096 < next.count
  · rw [cutE_big h, max33_big (.inr h)]
    simp only [max_bad, node_bad]
    rfl
  rw [cutE_ok h, max33_ok (show ¬ (4096 < (vT 0).count ∨ 4096 < next.count) by omega)]
  simp only
  generalize maxE s (vT 0) next 0 = m
  obtain ⟨m1, m2⟩ := m
  simp only
  by_cases hm : m2 = 0
  · subst hm
    rw [if_pos rfl]
    simp only [node_cut]
    exact node_over (x := Tm.mk 2 0 s [m1]) (k := 2) (s := natY) (fun x => [x]) (by show (Tm.mk 2 0 s [m1]).count ≤ 1 + ((Tm.mk 2 0 s [m1]).count + 0); omega)
  · rw [if_neg hm]
    have hn : ∀ k s l, nodeE m2 k s l = (zeroTm, m2) := fun k s l => by unfold nodeE; rw [if_neg hm]
    simp only [hn]
def recNext (q : Tm) : Tm := nT 3 [nT 3 [q.upN 0 2, vT 1], vT 0]
def foldNext (q : Tm) : Tm := nT 3 [nT 3 [nT 3 [q.upN 0 3, vT 2], vT 2], vT 0]
theorem maj_n6 {i : Int} {y : Ty} {a : List Tm} {p q r : Tm} : majNodeE 6 i y a [p, q, r] = if (max33 (bareN y) (vT 0) (recNext q)).2 = 0 then cutE (Tm.mk 6 0 (bareN y) [p, Tm.mk 2 0 natY [Tm.mk 2 0 (bareN y) [(max33 (bareN y) (vT 0) (recNext q)).1]], r]) else (zeroTm, (max33 (bareN y) (vT 0) (recNext q)).2) := by
  unfold majNodeE
  rw [if_neg (by decide), if_neg (by decide), if_neg (by decide), if_pos rfl]
  show nodeE (stepE (bareN y) (callE 0 (q.upN 0 2) [vT 1, vT 0]).1 (callE 0 (q.upN 0 2) [vT 1, vT 0]).2).2 6 (bareN y) [p, (stepE (bareN y) (callE 0 (q.upN 0 2) [vT 1, vT 0]).1 (callE 0 (q.upN 0 2) [vT 1, vT 0]).2).1, r] = _
  rw [call_two_cut]
  show nodeE (stepE (bareN y) (cutE (recNext q)).1 (cutE (recNext q)).2).2 6 (bareN y) [p, (stepE (bareN y) (cutE (recNext q)).1 (cutE (recNext q)).2).1, r] = _
  rw [step_cut]
  generalize max33 (bareN y) (vT 0) (recNext q) = m
  obtain ⟨m1, m2⟩ := m
  simp only
  by_cases hm : m2 = 0
  · rw [if_pos hm, if_pos hm]
    exact node_over (x := Tm.mk 2 0 natY [Tm.mk 2 0 (bareN y) [m1]]) (k := 6) (s := bareN y) (fun x => [p, x, r]) (by show (Tm.mk 2 0 natY [Tm.mk 2 0 (bareN y) [m1]]).count ≤ 1 + (p.count + ((Tm.mk 2 0 natY [Tm.mk 2 0 (bareN y) [m1]]).count + (r.count + 0))); omega)
  · rw [if_neg hm, if_neg hm]
    unfold nodeE; rw [if_neg hm]
theorem maj_n9 {i : Int} {y : Ty} {a : List Tm} {p q r : Tm} : majNodeE 9 i y a [p, q, r] = if (max33 (bareN y) (vT 0) (foldNext q)).2 = 0 then cutE (nT 3 [Tm.mk 2 0 natY [Tm.mk 6 0 (bareN y) [p.upN 0 1, Tm.mk 2 0 natY [Tm.mk 2 0 (bareN y) [(max33 (bareN y) (vT 0) (foldNext q)).1]], vT 0]], r]) else (zeroTm, (max33 (bareN y) (vT 0) (foldNext q)).2) := by
  unfold majNodeE
  rw [if_neg (by decide), if_neg (by decide), if_neg (by decide), if_neg (by decide), if_pos rfl]
  have e3 : callE 0 (([p, q, r].getD 1 zeroTm).upN 0 3) [vT 2, vT 2, vT 0] = cutE (foldNext q) := call_three_cut _ _ _ _
  simp only [e3]
  rw [step_cut]
  generalize max33 (bareN y) (vT 0) (foldNext q) = m
  obtain ⟨m1, m2⟩ := m
  simp only
  by_cases hm : m2 = 0
  · rw [if_pos hm, if_pos hm]
    have o1 := node_over (x := Tm.mk 2 0 natY [Tm.mk 2 0 (bareN y) [m1]]) (k := 6) (s := bareN y) (fun x => [p.upN 0 1, x, vT 0]) (by show (Tm.mk 2 0 natY [Tm.mk 2 0 (bareN y) [m1]]).count ≤ 1 + ((p.upN 0 1).count + ((Tm.mk 2 0 natY [Tm.mk 2 0 (bareN y) [m1]]).count + ((vT 0).count + 0))); omega)
    have e0 : ([p, q, r].getD 0 zeroTm).upN 0 1 = p.upN 0 1 := rfl
    have e2 : [p, q, r].getD 2 zeroTm = r := rfl
    rw [e0, e2, o1]
    generalize Tm.mk 6 0 (bareN y) [p.upN 0 1, Tm.mk 2 0 natY [Tm.mk 2 0 (bareN y) [m1]], vT 0] = z
    have o2 := node_over (x := z) (k := 2) (s := natY) (fun x => [x]) (by show z.count ≤ 1 + (z.count + 0); omega)
    rw [o2]
    have o3 := node_over (x := Tm.mk 2 0 natY [z]) (k := 3) (s := zY) (fun x => [x, r]) (by show (Tm.mk 2 0 natY [z]).count ≤ 1 + ((Tm.mk 2 0 natY [z]).count + (r.count + 0)); omega)
    exact o3
  · rw [if_neg hm, if_neg hm]
    have hn : ∀ k s l, nodeE m2 k s l = (zeroTm, m2) := fun k s l => by unfold nodeE; rw [if_neg hm]
    simp only [hn, callE]
theorem cut_small {x : Tm} (h : (cutE x).2 = 0) : (cutE x).1.count ≤ 4096 := by
  by_cases hx : 4096 < x.count
  · rw [cutE_big hx] at h; cases h
  · rw [cutE_ok hx]; show x.count ≤ 4096; omega
theorem node_small {e k : Int} {s : Ty} {l : List Tm} (h : (nodeE e k s l).2 = 0) : (nodeE e k s l).1.count ≤ 4096 := by
  obtain ⟨-, h2, h3⟩ := node_ok h
  rw [h2]; exact h3
theorem max_small (c : T) (ho : c.ok) {a b : Tm} {e : Int} (h : (maxE c.ty a b e).2 = 0) : (maxE c.ty a b e).1.count ≤ 4096 := by
  rw [maxE_eq _ (T.ok_ty ho)] at h ⊢
  by_cases he : e = 0
  rotate_left
  · rw [if_neg he] at h; exact absurd h he
  rw [if_pos he] at h ⊢
  cases c with
  | nat =>
    rw [if_pos (show (T.ty .nat).kind = 1 from rfl), call_two_cut] at h ⊢
    exact cut_small h
  | list => exact (show (nT 13 []).count ≤ 4096 by decide)
  | unit => exact (show (nT 13 []).count ≤ 4096 by decide)
  | pair s t =>
    rw [if_neg (show ¬ (T.pair s t).ty.kind = 1 by simp [T.ty, Ty.kind]), if_pos (show (T.pair s t).ty.kind = 3 from rfl)] at h ⊢
    exact node_small h
  | fn s t =>
    rw [if_neg (show ¬ (T.fn s t).ty.kind = 1 by simp [T.ty, Ty.kind]), if_neg (show ¬ (T.fn s t).ty.kind = 3 by simp [T.ty, Ty.kind]), if_pos (show (T.fn s t).ty.kind = 4 from rfl)] at h ⊢
    exact node_small h
theorem call_small {e : Int} {f a : Tm} (h : (callE e f [a]).2 = 0) : (callE e f [a]).1.count ≤ 4096 := node_small (k := 3) (s := zY) (l := [f, a]) h
theorem maj_small (t : Tm) (hs : t.shape = true) (h : (majE t).2 = 0) : (majE t).1.count ≤ 4096 := by
  obtain ⟨hlen, -, -, -, -⟩ := Tm.shape_node hs
  rw [majE_eq] at h ⊢
  by_cases h0 : (majE.majsE t.args).2 = 0
  rotate_left
  · rw [if_neg h0] at h; exact absurd h h0
  rw [if_pos h0] at h ⊢
  generalize (majE.majsE t.args).1 = l at *
  unfold majNodeE at h ⊢
  by_cases h7 : t.kind = 7
  · rw [if_pos h7]; exact (show (nT 4 []).count ≤ 4096 by decide)
  rw [if_neg h7] at h ⊢
  by_cases h8 : t.kind = 8
  · rw [if_pos h8] at h ⊢
    exact max_small .nat nat_ok0 h
  rw [if_neg h8] at h ⊢
  by_cases h2 : t.kind = 2
  · rw [if_pos h2] at h ⊢
    exact node_small h
  rw [if_neg h2] at h ⊢
  by_cases h6 : t.kind = 6
  · rw [if_pos h6] at h ⊢
    exact node_small h
  rw [if_neg h6] at h ⊢
  by_cases h9 : t.kind = 9
  · rw [if_pos h9] at h ⊢
    exact call_small h
  rw [if_neg h9] at h ⊢
  by_cases h1 : t.kind = 1
  · rw [if_pos h1] at h ⊢
    have ha : t.args = [] := by
      rw [h1] at hlen
      exact List.length_eq_zero_iff.1 (by simpa [arityI] using hlen)
    rw [ha]
    exact (show (Tm.mk t.kind t.index t.type []).count ≤ 4096 from Nat.le_of_ble_eq_true rfl)
  rw [if_neg h1] at h ⊢
  exact node_small h
end Go.Proofs.YtiacandbafjlfaaGreatDoor.Lift

namespace Go.Proofs.YtiacandbafjlfaaGreatDoor.Lift
set_option linter.unusedSimpArgs false
set_option linter.unusedVariables false
set_option linter.unnecessarySimpa false
open Go
variable {gl : Globs}

def mostOf (n : Int) : List Int → Int
  | [] => n
  | x :: r => mostOf (max n x) r
theorem mostOf_append (n : Int) (l r : List Int) : mostOf n (l ++ r) = mostOf (mostOf n l) r := by
  induction l generalizing n with
  | nil => rfl
  | cons x l ih => exact ih _

/-- the least majorant of a value -/
def Val.boundN : Val → Val
  | .mk k n l a => if k = 2 then .mk 1 (mostOf l.length l) [] [] else if k = 3 then .mk 3 0 [] (bounds a) else .mk k n l a
where
  bounds : List Val → List Val
    | [] => []
    | x :: r => x.boundN :: bounds r
theorem Val.boundN_eq (v : Val) : v.boundN = if v.kind = 2 then .mk 1 (mostOf v.list.length v.list) [] [] else if v.kind = 3 then .mk 3 0 [] (boundN.bounds v.args) else v := by cases v; rw [boundN]; rfl

theorem bound_ok (v : Val) (ht : v.two) : Con1 Tryz.prog gl 69 [v.dv] [] v.boundN.dv [] := by
  induction v using Val.ind with
  | h v ih =>
  obtain ⟨ht1, ht2⟩ := (Val.two_eq v).1 ht
  refine t_in Tryz.func69 ?_
  intro X hP hgl hf hfn hn hR hids hfit
  have hl2 := Val.fit_list (hfit v.dv (by simp))
  have hli := ((Val.fit_eq v).1 ((Val.dv_fit v).1 (hfit v.dv (by simp)))).2.2.1.2
  rw [Val.boundN_eq] at hR
  by_cases h2 : v.kind = 2
  · rw [if_pos h2] at hR
    refine t_g @h2 ?_
    refine t_a ?_
    refine W_sub [] (by simp [go_sem]) (by simp [go_sem, mostOf] <;> omega) (by simp [go_sem]) (W_listI (v.list) (fun done => True) (fun done rest => [(.slot 16, .one (.v (dint done.length))), (.slot 15, .one (.v (dint v.list.length))), (.slot 14, .one (.v (.sl (ints v.list)))), (.slot 3, .one (.v (dint (mostOf v.list.length done)))), (.slot 2, .one (.loc 2 0)), (.loc 2, .row ([.v (dint 0), .v (dint 0), .own 0 [], .own 0 []]))]) (trivial) ?_ ?_)
    · intro done x rest hL hg0 hI hnext
      have hlt : done.length < v.list.length := by rw [hL]; simp
      have hgi := ints_get hg0
      have hm : mostOf v.list.length (done ++ [x]) = max (mostOf v.list.length done) x := mostOf_append _ _ _
      have hxm := List.mem_of_getElem? hg0
      have hi1 := (intOK_i64 x).1 (hli x hxm)
      refine t_rg0 ?_
      refine t_yes ?_
      refine t_g @hgi ?_
      refine t_gt (wr []) @hm @hi1 (hnext trivial)
    · intro _
      refine t_rg0 ?_
      refine t_no ?_
      refine t_g0 ?_
      refine t_r ?_
      simp [go_sem, hP, hgl, hn] <;> (try omega)
      all_goals exact t_f
  rw [if_neg h2] at hR
  by_cases h3 : v.kind = 3
  · rw [if_pos h3] at hR
    have h2l := ht1 h3
    match hargs : v.args, h2l with
    | [x, y], _ =>
    have hx : x ∈ v.args := by rw [hargs]; simp
    have hy : y ∈ v.args := by rw [hargs]; simp
    rw [hargs] at hR
    refine t_g (j2 @h2 @h3) ?_
    refine t_c2 @hargs (ih x hx (ht2 x hx)) (ih y hy (ht2 y hy)) ?_
    refine t_r ?_
    simp [go_sem, hP, hgl, hn, Val.boundN.bounds] <;> (try omega)
    all_goals exact t_f
  · rw [if_neg h3] at hR
    have hfo := Val.fold v
    refine t_g (j2 @h2 @h3) ?_
    refine t_r ?_
    simp [go_sem, hP, hgl, hn, hfo] <;> (try omega)
    all_goals exact t_f

abbrev zV : Val := .mk 0 0 [] []
def Val.mValueE (v : Val) : Val × Int := if v.checkN = 0 then (v.boundN, 0) else (zV, v.checkN)

theorem Val.two_of (v : Val) (h : v.checkN = 0) : v.two := by
  unfold Val.checkN at h
  by_cases hn : v.nodesN.2 = true
  · exact (Val.ok_all v hn).2
  · rw [if_neg hn] at h; exact absurd h (by decide)

theorem mvalue_ok (v : Val) (hc : v.count ≤ 1073741824) : Con1 Tryz.prog gl 26 [v.dv] [] (.tup [v.mValueE.1.dv, dint v.mValueE.2]) [] := by
  have hck : (if v.nodesN.2 = true then if v.nodesN.1 > 64 then 4 else 0 else 2) = v.checkN := rfl
  have hcon := check_ok (gl := gl) v (by omega)
  rw [hck] at hcon
  refine t_in Tryz.func26 ?_
  intro X hP hgl hf hfn hn hR hids hfit
  have hfo := Val.fold v
  refine t_g0 ?_
  refine t_c1 @hfo hcon ?_
  by_cases h : v.checkN = 0
  · refine t_g @h ?_
    refine t_c1 @hfo (bound_ok v (Val.two_of v h)) ?_
    refine t_r ?_
    simp [go_sem, hP, hgl, hn, Val.mValueE, h] <;> (try omega)
    all_goals exact t_f
  · refine t_g @h ?_
    refine t_r ?_
    simp [go_sem, hP, hgl, hn, Val.mValueE, h, zV] <;> (try omega)
    all_goals exact t_f

/-- whether a value bounds another one -/
def Val.overN : Val → Val → Bool
  | .mk k n l a, v =>
    if k = 1 ∧ (v.kind = 1 ∨ v.kind = 2) then decide (v.boundN.num ≤ n)
    else if k = 3 ∧ v.kind = 3 then overs a v.args else decide (k = 4 ∧ v.kind = 4)
where
  overs : List Val → List Val → Bool
    | x :: r, y :: q => x.overN y && overs r q
    | _, _ => true
theorem Val.overN_eq (a v : Val) : a.overN v = if a.kind = 1 ∧ (v.kind = 1 ∨ v.kind = 2) then decide (v.boundN.num ≤ a.num)
    else if a.kind = 3 ∧ v.kind = 3 then overN.overs a.args v.args else decide (a.kind = 4 ∧ v.kind = 4) := by cases a; rw [overN]; rfl

theorem over_ok (a : Val) : ∀ (v : Val), a.two → v.two → Con1 Tryz.prog gl 71 [a.dv, v.dv] [] (dbool (a.overN v)) [] := by
  induction a using Val.ind with
  | h a ih =>
  intro v ha hv
  obtain ⟨ha1, ha2⟩ := (Val.two_eq a).1 ha
  obtain ⟨hv1, hv2⟩ := (Val.two_eq v).1 hv
  refine t_in Tryz.func71 ?_
  intro X hP hgl hf hfn hn hR hids hfit
  rw [Val.overN_eq] at hR
  have hfv := Val.fold v
  have hfa := Val.fold a
  by_cases h1 : a.kind = 1
  · by_cases h2 : v.kind = 1 ∨ v.kind = 2
    · rw [if_pos ⟨h1, h2⟩] at hR
      rcases h2 with h2 | h2
      · rw [h2] at hfv
        refine t_g (j2 @h1 @h2) ?_
        refine t_c1 @hfv (bound_ok v hv) ?_
        refine t_r ?_
        simp [go_sem, hP, hgl, hn] <;> (try omega)
      · rw [h2] at hfv
        refine t_g (j2 @h1 @h2) ?_
        refine t_c1 @hfv (bound_ok v hv) ?_
        refine t_r ?_
        simp [go_sem, hP, hgl, hn] <;> (try omega)
    · rw [if_neg (fun h => h2 h.2), if_neg (fun h => by rw [h1] at h; exact absurd h.1 (by decide))] at hR
      have h3 : ¬ v.kind = 1 := fun h => h2 (.inl h)
      have h4 : ¬ v.kind = 2 := fun h => h2 (.inr h)
      refine t_g (j2 @h1 (j2 @h3 @h4)) ?_
      refine t_r ?_
      simp [go_sem, hP, hgl, hn, h1] <;> (try omega)
  rw [if_neg (fun h => h1 h.1)] at hR
  by_cases h3 : a.kind = 3
  · by_cases h4 : v.kind = 3
    · rw [if_pos ⟨h3, h4⟩] at hR
      have hal := ha1 h3
      have hvl := hv1 h4
      match hargs : a.args, hal, hargs2 : v.args, hvl with
      | [x, y], _, [x', y'], _ =>
      have hx : x ∈ a.args := by rw [hargs]; simp
      have hy : y ∈ a.args := by rw [hargs]; simp
      have hx' : x' ∈ v.args := by rw [hargs2]; simp
      have hy' : y' ∈ v.args := by rw [hargs2]; simp
      rw [hargs, hargs2] at hR
      simp only [Val.overN.overs, Bool.and_true] at hR
      by_cases hq : x.overN x' = true
      · refine t_g (j2 @h1 (j2 @h3 @h4)) ?_
        refine t_c2 (j2 @hargs (j2 @hargs2 @hq)) (ih x hx x' (ha2 x hx) (hv2 x' hx')) (ih y hy y' (ha2 y hy) (hv2 y' hy')) ?_
        refine t_r ?_
        simp [go_sem, hP, hgl, hn, hq] <;> (try omega)
      · have hq' : x.overN x' = false := by simpa using hq
        refine t_g (j2 @h1 (j2 @h3 @h4)) ?_
        refine t_c1 (j2 @hargs (j2 @hargs2 @hq')) (ih x hx x' (ha2 x hx) (hv2 x' hx')) ?_
        refine t_r ?_
        simp [go_sem, hP, hgl, hn, hq'] <;> (try omega)
    · rw [if_neg (fun h => h4 h.2)] at hR
      refine t_g (j2 @h1 (j2 @h3 @h4)) ?_
      refine t_r ?_
      simp [go_sem, hP, hgl, hn, h3] <;> (try omega)
  · rw [if_neg (fun h => h3 h.1)] at hR
    by_cases h5 : a.kind = 4
    · refine t_g (j2 @h1 (j2 @h3 @h5)) ?_
      refine t_r ?_
      simp [go_sem, hP, hgl, hn, h5] <;> (try omega)
    · refine t_g (j2 @h1 (j2 @h3 @h5)) ?_
      refine t_r ?_
      simp [go_sem, hP, hgl, hn, h5] <;> (try omega)

def Val.majorizesN (a v : Val) : Bool := decide (a.checkN = 0) && decide (v.checkN = 0) && a.overN v

theorem majorizes_ok (a v : Val) (hc : a.count ≤ 1073741824) (hc2 : v.count ≤ 1073741824) : Con1 Tryz.prog gl 28 [a.dv, v.dv] [] (dbool (a.majorizesN v)) [] := by
  have hk : ∀ v : Val, (if v.nodesN.2 = true then if v.nodesN.1 > 64 then 4 else 0 else 2) = v.checkN := fun _ => rfl
  have ca := check_ok (gl := gl) a (by omega)
  have cv := check_ok (gl := gl) v (by omega)
  rw [hk] at ca cv
  refine t_in Tryz.func28 ?_
  intro X hP hgl hf hfn hn hR hids hfit
  have hfv := Val.fold v
  have hfa := Val.fold a
  by_cases h1 : a.checkN = 0
  · by_cases h2 : v.checkN = 0
    · refine t_g0 ?_
      refine t_c3 (j2 @hfa (j2 @hfv (j2 @h1 @h2))) ca cv (over_ok a v (Val.two_of a h1) (Val.two_of v h2)) ?_
      refine t_r ?_
      simp [go_sem, hP, hgl, hn, Val.majorizesN, h1, h2] <;> (try omega)
    · refine t_g0 ?_
      refine t_c2 (j2 @hfa (j2 @hfv (j2 @h1 @h2))) ca cv ?_
      refine t_r ?_
      simp [go_sem, hP, hgl, hn, Val.majorizesN, h1, h2] <;> (try omega)
  · refine t_g0 ?_
    refine t_c1 (j2 @hfa (j2 @hfv @h1)) ca ?_
    refine t_r ?_
    simp [go_sem, hP, hgl, hn, Val.majorizesN, h1] <;> (try omega)
end Go.Proofs.YtiacandbafjlfaaGreatDoor.Lift

namespace Go.Proofs.YtiacandbafjlfaaGreatDoor.Lift
set_option linter.unusedSimpArgs false
set_option linter.unusedVariables false
set_option linter.unnecessarySimpa false
open Go
variable {gl : Globs}

theorem mrun3_ok (b1 b2 b3 : Nat) (h12 : b1 ≠ b2) (h13 : b1 ≠ b3) (h23 : b2 ≠ b3) (f : FuncId) (c1 c2 c3 : List DV) (r : Tm × Int) (hc : ∀ b, b ≠ b1 → b ≠ b2 → b ≠ b3 → Con1 Tryz.prog gl f [ptr b, ptr b1, ptr b2, ptr b3] [(b, mk1 0), (b1, c1), (b2, c2), (b3, c3)] r.1.dv [(b, mk1 r.2), (b1, c1), (b2, c2), (b3, c3)]) :
    Con1 Tryz.prog gl 47 [.prim (.func (.func f) #[] #[.pointer (some ⟨b1, 0, none⟩), .pointer (some ⟨b2, 0, none⟩), .pointer (some ⟨b3, 0, none⟩)])] [(b1, c1), (b2, c2), (b3, c3)] (.tup [(runT r).1.dv, dint (runT r).2]) [(b1, c1), (b2, c2), (b3, c3)] := by
  have h21 := h12.symm
  have h31 := h13.symm
  have h32 := h23.symm
  refine t_in Tryz.func47 ?_
  intro X hP hgl hf hfn hn hR hids hfit
  refine t_rg0 ?_
  refine t_rg0 ?_
  refine W_expose 7 (by simp [go_sem]; rfl) ?_
  intro b hb
  simp [go_sem] at hb ⊢
  obtain ⟨g1, g2, g3⟩ := hb
  have q1 : b ≠ b1 := fun h => g1 h.symm
  have q2 : b ≠ b2 := fun h => g2 h.symm
  have q3 : b ≠ b3 := fun h => g3 h.symm
  refine t_a ?_
  first | refine W_reg [] fun K hK => ?_ | refine W_regd (by rw [hP]; exact mixed) [] fun K hK => ?_
  refine t_s0 ?_
  repeat (refine ⟨by omega, ?_⟩)
  refine vcK_callV hP hgl (f := f) (fi := #[]) (ca := #[.pointer (some ⟨b1, 0, none⟩), .pointer (some ⟨b2, 0, none⟩), .pointer (some ⟨b3, 0, none⟩)]) (by simp [go_sem]) (by simp [primOK]) (ds := [ptr b]) (hc b q1 q2 q3) (by simp [go_sem]) rfl (by simp [go_sem, g1, g2, g3, q1, q2, q3, h12, h13, h23, h21, h31, h32]) (by simp [q1, q2, q3, h12, h13, h23]) (by rw [hn]; exact Nat.le_of_ble_eq_true rfl) ?_
  simp [go_sem, hP, hgl, hn, g1, g2, g3, q1, q2, q3, h12, h13, h23, h21, h31, h32]
  refine t_e ?_
  clear hK K
  by_cases h : r.2 = 0
  · refine t_g (j2 @h (j2 @g1 (j2 @g2 (j2 @g3 (j2 @q1 (j2 @q2 (j2 @q3 (j2 @h12 (j2 @h13 (j2 @h23 (j2 @h21 (j2 @h31 @h32)))))))))))) ?_
    repeat (first | refine W_seq ?_ | refine W_skip ?_ | refine W_block ?_ | refine W_inBlock ?_ | refine W_label ?_ | refine W_exit rfl ?_)
    first | refine W_retR hP hf hfn _ ([(b1, c1), (b2, c2), (b3, c3)]) (by first | (simp [go_sem, hP, hgl, hn, h, runT, g1, g2, g3, q1, q2, q3, h12, h13, h23, h21, h31, h32]; done) | (simp [go_sem, hP, hgl, hn, h, runT, g1, g2, g3, q1, q2, q3, h12, h13, h23, h21, h31, h32]; rfl)) (by simp [go_sem, hP, hgl, hn, h, runT, g1, g2, g3, q1, q2, q3, h12, h13, h23, h21, h31, h32]) (by simp [h, runT, g1, g2, g3, q1, q2, q3, h12, h13, h23, h21, h31, h32]) ?_ hR.2 | refine W_endR hP hf hfn _ ([(b1, c1), (b2, c2), (b3, c3)]) (by first | (simp [go_sem, hP, hgl, hn, h, runT, g1, g2, g3, q1, q2, q3, h12, h13, h23, h21, h31, h32]; done) | (simp [go_sem, hP, hgl, hn, h, runT, g1, g2, g3, q1, q2, q3, h12, h13, h23, h21, h31, h32]; rfl)) (by simp [go_sem, hP, hgl, hn, h, runT, g1, g2, g3, q1, q2, q3, h12, h13, h23, h21, h31, h32]) (by simp [h, runT, g1, g2, g3, q1, q2, q3, h12, h13, h23, h21, h31, h32]) ?_ hR.2
    rw [hR.1]
    refine ⟨?_, by simp [h, runT, g1, g2, g3, q1, q2, q3, h12, h13, h23, h21, h31, h32]⟩
    try simp [h, runT, g1, g2, g3, q1, q2, q3, h12, h13, h23, h21, h31, h32]
    try all_goals (simp [Ty.dv, Ty.cells_eq, Ty.kind_mk, Ty.args_mk, Tm.dv, Tm.cells_eq, Tm.kind_mk, Tm.index_mk, Tm.type_mk, Tm.args_mk, Val.dv, Val.cells_eq, Val.kind_mk, Val.num_mk, Val.list_mk, Val.args_mk, ints])
  · refine t_g (j2 @h (j2 @g1 (j2 @g2 (j2 @g3 (j2 @q1 (j2 @q2 (j2 @q3 (j2 @h12 (j2 @h13 (j2 @h23 (j2 @h21 (j2 @h31 @h32)))))))))))) ?_
    repeat (first | refine W_seq ?_ | refine W_skip ?_ | refine W_block ?_ | refine W_inBlock ?_ | refine W_label ?_ | refine W_exit rfl ?_)
    first | refine W_retR hP hf hfn _ ([(b1, c1), (b2, c2), (b3, c3)]) (by first | (simp [go_sem, hP, hgl, hn, h, runT, g1, g2, g3, q1, q2, q3, h12, h13, h23, h21, h31, h32, zeroTm]; done) | (simp [go_sem, hP, hgl, hn, h, runT, g1, g2, g3, q1, q2, q3, h12, h13, h23, h21, h31, h32, zeroTm]; rfl)) (by simp [go_sem, hP, hgl, hn, h, runT, g1, g2, g3, q1, q2, q3, h12, h13, h23, h21, h31, h32, zeroTm]) (by simp [h, runT, g1, g2, g3, q1, q2, q3, h12, h13, h23, h21, h31, h32, zeroTm]) ?_ hR.2 | refine W_endR hP hf hfn _ ([(b1, c1), (b2, c2), (b3, c3)]) (by first | (simp [go_sem, hP, hgl, hn, h, runT, g1, g2, g3, q1, q2, q3, h12, h13, h23, h21, h31, h32, zeroTm]; done) | (simp [go_sem, hP, hgl, hn, h, runT, g1, g2, g3, q1, q2, q3, h12, h13, h23, h21, h31, h32, zeroTm]; rfl)) (by simp [go_sem, hP, hgl, hn, h, runT, g1, g2, g3, q1, q2, q3, h12, h13, h23, h21, h31, h32, zeroTm]) (by simp [h, runT, g1, g2, g3, q1, q2, q3, h12, h13, h23, h21, h31, h32, zeroTm]) ?_ hR.2
    rw [hR.1]
    refine ⟨?_, by simp [h, runT, g1, g2, g3, q1, q2, q3, h12, h13, h23, h21, h31, h32, zeroTm]⟩
    try simp [h, runT, g1, g2, g3, q1, q2, q3, h12, h13, h23, h21, h31, h32, zeroTm]
    try all_goals (simp [Ty.dv, Ty.cells_eq, Ty.kind_mk, Ty.args_mk, Tm.dv, Tm.cells_eq, Tm.kind_mk, Tm.index_mk, Tm.type_mk, Tm.args_mk, Val.dv, Val.cells_eq, Val.kind_mk, Val.num_mk, Val.list_mk, Val.args_mk, ints])

theorem mmax1_ok (b b1 b2 b3 : Nat) (q1 : b ≠ b1) (q2 : b ≠ b2) (q3 : b ≠ b3) (h12 : b1 ≠ b2) (h13 : b1 ≠ b3) (h23 : b2 ≠ b3) (a : T) (x y : Tm) (ho : a.ok)
    (hx : x.shape = true) (hxc : x.count ≤ 4096) (hxl : x.leastN 268435456 = true) (hy : y.shape = true) (hyc : y.count ≤ 4096) (hyl : y.leastN 268435456 = true) :
    Con1 Tryz.prog gl 48 [ptr b, ptr b1, ptr b2, ptr b3] [(b, mk1 0), (b1, a.ty.cells), (b2, x.cells), (b3, y.cells)] (maxE a.ty x y 0).1.dv [(b, mk1 (maxE a.ty x y 0).2), (b1, a.ty.cells), (b2, x.cells), (b3, y.cells)] := by
  have w := max_walk (gl := gl) b a x y 0 268435456 ho (by decide) (by have := ho; unfold T.ok at this; omega) ⟨by omega, fun _ => ⟨hx, Tm.idx_of x _ hx hxl⟩⟩ ⟨by omega, fun _ => ⟨hy, Tm.idx_of y _ hy hyl⟩⟩
  have h21 := h12.symm
  have h31 := h13.symm
  have h32 := h23.symm
  have g1 := q1.symm
  have g2 := q2.symm
  have g3 := q3.symm
  have fx := Tm.fold x
  have fy := Tm.fold y
  have fa := Ty.fold a.ty
  generalize a.ty = s at *
  refine t_in Tryz.func48 ?_
  intro X hP hgl hf hfn hn hR hids hfit
  refine t_g (j2 (Tm.cells_eq x) (j2 (Tm.cells_eq y) (j2 (Ty.cells_eq s) (j2 @g1 (j2 @g2 (j2 @g3 (j2 @q1 (j2 @q2 (j2 @q3 (j2 @h12 (j2 @h13 (j2 @h23 (j2 @h21 (j2 @h31 @h32)))))))))))))) ?_
  refine t_c1 (j2 @fx (j2 @fy (j2 @fa (j2 @g1 (j2 @g2 (j2 @g3 (j2 @q1 (j2 @q2 (j2 @q3 (j2 @h12 (j2 @h13 (j2 @h23 (j2 @h21 (j2 @h31 @h32)))))))))))))) w ?_
  repeat (first | refine W_seq ?_ | refine W_skip ?_ | refine W_block ?_ | refine W_inBlock ?_ | refine W_label ?_ | refine W_exit rfl ?_)
  first | refine W_retR hP hf hfn _ ([(b, mk1 (maxE s x y 0).2), (b1, s.cells), (b2, x.cells), (b3, y.cells)]) (by first | (simp [go_sem, hP, hgl, hn, Tm.cells_eq x, Tm.cells_eq y, Ty.cells_eq s, g1, g2, g3, q1, q2, q3, h12, h13, h23, h21, h31, h32]; done) | (simp [go_sem, hP, hgl, hn, Tm.cells_eq x, Tm.cells_eq y, Ty.cells_eq s, g1, g2, g3, q1, q2, q3, h12, h13, h23, h21, h31, h32]; rfl)) (by simp [go_sem, hP, hgl, hn, Tm.cells_eq x, Tm.cells_eq y, Ty.cells_eq s, g1, g2, g3, q1, q2, q3, h12, h13, h23, h21, h31, h32]) (by simp [Tm.cells_eq x, Tm.cells_eq y, Ty.cells_eq s, g1, g2, g3, q1, q2, q3, h12, h13, h23, h21, h31, h32]) ?_ hR.2 | refine W_endR hP hf hfn _ ([(b, mk1 (maxE s x y 0).2), (b1, s.cells), (b2, x.cells), (b3, y.cells)]) (by first | (simp [go_sem, hP, hgl, hn, Tm.cells_eq x, Tm.cells_eq y, Ty.cells_eq s, g1, g2, g3, q1, q2, q3, h12, h13, h23, h21, h31, h32]; done) | (simp [go_sem, hP, hgl, hn, Tm.cells_eq x, Tm.cells_eq y, Ty.cells_eq s, g1, g2, g3, q1, q2, q3, h12, h13, h23, h21, h31, h32]; rfl)) (by simp [go_sem, hP, hgl, hn, Tm.cells_eq x, Tm.cells_eq y, Ty.cells_eq s, g1, g2, g3, q1, q2, q3, h12, h13, h23, h21, h31, h32]) (by simp [Tm.cells_eq x, Tm.cells_eq y, Ty.cells_eq s, g1, g2, g3, q1, q2, q3, h12, h13, h23, h21, h31, h32]) ?_ hR.2
  rw [hR.1]
  refine ⟨?_, by simp [Tm.cells_eq x, Tm.cells_eq y, Ty.cells_eq s, g1, g2, g3, q1, q2, q3, h12, h13, h23, h21, h31, h32]⟩
  try simp [Tm.cells_eq x, Tm.cells_eq y, Ty.cells_eq s, g1, g2, g3, q1, q2, q3, h12, h13, h23, h21, h31, h32]
  try all_goals (simp [Ty.dv, Ty.cells_eq, Ty.kind_mk, Ty.args_mk, Tm.dv, Tm.cells_eq, Tm.kind_mk, Tm.index_mk, Tm.type_mk, Tm.args_mk, Val.dv, Val.cells_eq, Val.kind_mk, Val.num_mk, Val.list_mk, Val.args_mk, ints])

def firstErr : List Tm → Int
  | [] => 0
  | z :: r => if z.checkN = 0 then firstErr r else z.checkN
theorem firstErr_append (l r : List Tm) : firstErr (l ++ r) = if firstErr l = 0 then firstErr r else firstErr l := by
  induction l with
  | nil => rfl
  | cons z l ih =>
    by_cases h : z.checkN = 0
    · simp only [List.cons_append, firstErr, if_pos h, ih]
    · simp only [List.cons_append, firstErr, if_neg h]

def mMaxE (s : Ty) (x y : Tm) : Tm × Int :=
  if s.checkN = 0 then
    if s.listedN = true then (zeroTm, 7)
    else if firstErr [x, y] = 0 then
      if x.leastN 268435456 = true then if y.leastN 268435456 = true then runT (maxE s x y 0) else (zeroTm, 1) else (zeroTm, 1)
    else (zeroTm, firstErr [x, y])
  else (zeroTm, s.checkN)

theorem mmax_ok (har : globOf gl 0 = some arEls) (s : Ty) (x y : Tm) (hs : s.count ≤ 1073741824) (hx : x.tys) (hxc : x.count ≤ 1073741824) (hy : y.tys) (hyc : y.count ≤ 1073741824) :
    Con1 Tryz.prog gl 17 [s.dv, x.dv, y.dv] [] (.tup [(mMaxE s x y).1.dv, dint (mMaxE s x y).2]) [] := by
  have fx := Tm.fold x
  have fy := Tm.fold y
  have fa := Ty.fold s
  refine t_in Tryz.func17 ?_
  intro X hP hgl hf hfn hn hR hids hfit
  refine t_g0 ?_
  refine t_c1 @fa (types_check_ok s (by omega)) ?_
  by_cases h : s.checkN = 0
  rotate_left
  · refine t_g @h ?_
    refine t_r ?_
    simp [go_sem, hP, hgl, hn, mMaxE, h, zeroTm] <;> (try omega)
    all_goals exact t_f
  refine t_g @h ?_
  refine t_c1 @fa (listed_ok s) ?_
  by_cases h2 : s.listedN = true
  · refine t_g @h2 ?_
    refine t_r ?_
    simp [go_sem, hP, hgl, hn, mMaxE, h, h2, zeroTm] <;> (try omega)
    all_goals exact t_f
  have h2' : s.listedN = false := by simpa using h2
  refine t_g @h2' ?_
  refine t_a ?_
  refine t_sub [] (j2 (Tm.cells_eq x) (Tm.cells_eq y)) (W_listI ([x, y]) (fun done => firstErr done = 0) (fun done rest => [(.slot 25, .one (.v (dint done.length))), (.slot 24, .one (.v (dint 2))), (.slot 23, .one (.v (.sl ([x, y].map Tm.cells)))), (.slot 6, .one (.loc 6 0)), (.loc 6, .row ([.v (dint 0), .v (dint 0), .v (dint 0), .own 0 [], .own 0 []])), (.slot 3, .one (.loc 3 0)), (.loc 3, .row ([.v (dint s.kind), .v (.sl (s.args.map Ty.cells))])), (.slot 4, .one (.loc 4 0)), (.loc 4, .row ([.v (dint x.kind), .v (dint x.index), .v (dint x.type.kind), .v (.sl (x.type.args.map Ty.cells)), .v (.sl (x.args.map Tm.cells))])), (.slot 5, .one (.loc 5 0)), (.loc 5, .row ([.v (dint y.kind), .v (dint y.index), .v (dint y.type.kind), .v (.sl (y.type.args.map Ty.cells)), .v (.sl (y.args.map Tm.cells))]))]) (rfl) ?_ ?_)
  · intro done z rest hL hg0 hI hnext
    have hlt : done.length < 2 := by have := congrArg List.length hL; simp at this; omega
    have hzm : z = x ∨ z = y := by have := List.mem_of_getElem? hg0; simpa using this
    have hz : z.tys ∧ z.count ≤ 1073741824 := by rcases hzm with rfl | rfl; exact ⟨hx, hxc⟩; exact ⟨hy, hyc⟩
    have fz := Tm.fold z
    have hgz : (List.map Tm.cells [x, y])[done.length]? = some z.cells := by rw [List.getElem?_map, hg0]; rfl
    generalize hxy : List.map Tm.cells [x, y] = cs at *
    have hcs : cs.length = 2 := by rw [← hxy]; rfl
    refine t_rg0 ?_
    refine t_yes ?_
    refine t_g (j2 @hgz (j2 @hcs (Tm.cells_eq z))) ?_
    refine t_c1 @fz (termscheck_ok har z hz.1 (by omega)) ?_
    by_cases hq : z.checkN = 0
    · refine t_gt (wr []) trivial @hq (hnext (by rw [firstErr_append, if_pos hI]; simp only [firstErr, if_pos hq]))
    · have hfe : firstErr [x, y] = z.checkN := by rw [hL, firstErr_append, if_pos hI]; simp only [firstErr, if_neg hq]
      refine t_g @hq ?_
      refine t_r ?_
      simp [go_sem, hP, hgl, hn, mMaxE, h, h2', hfe, hq, zeroTm] <;> (try omega)
      all_goals exact t_f
  · intro hI
    have hsx : x.checkN = 0 := by
      by_cases hq : x.checkN = 0
      · exact hq
      · simp only [firstErr, if_neg hq] at hI; exact hI
    have hsy : y.checkN = 0 := by
      by_cases hq : y.checkN = 0
      · exact hq
      · simp only [firstErr, if_pos hsx, if_neg hq] at hI; exact hI
    have gx := (Tm.checkN_iff x).1 hsx
    have gy := (Tm.checkN_iff y).1 hsy
    refine t_rg0 ?_
    refine t_no ?_
    by_cases hlx : x.leastN 268435456 = true
    · by_cases hly : y.leastN 268435456 = true
      · refine t_g0 ?_
        refine t_c2 (j2 @fx (j2 @fy (j2 @hlx @hly))) (sc_far_ok x) (sc_far_ok y) ?_
        refine t_g (j2 @hlx @hly) ?_
        have hok := (Ty.checkN_iff s).1 h
        obtain ⟨a, ha⟩ := T.of_shape s hok.1
        have hao : a.ok := T.ty_ok (by rw [ha]; exact hok)
        refine W_expose 3 (by simp [go_sem]; rfl) ?_
        intro b1 hb1
        simp [go_sem] at hb1 ⊢
        refine W_expose 4 (by simp [go_sem]; rfl) ?_
        intro b2 hb2
        simp [go_sem] at hb2 ⊢
        refine W_expose 5 (by simp [go_sem]; rfl) ?_
        intro b3 hb3
        simp [go_sem] at hb3 ⊢
        have h12 : b1 ≠ b2 := by intro e; simp_all
        have h13 : b1 ≠ b3 := by intro e; simp_all
        have h23 : b2 ≠ b3 := by intro e; simp_all
        have h21 := h12.symm
        have h31 := h13.symm
        have h32 := h23.symm
        have w := mrun3_ok (gl := gl) b1 b2 b3 h12 h13 h23 48 a.ty.cells x.cells y.cells (maxE a.ty x y 0) fun b q1 q2 q3 => mmax1_ok b b1 b2 b3 q1 q2 q3 h12 h13 h23 a x y hao gx.1 gx.2 hlx gy.1 gy.2 hly
        rw [ha] at w
        refine t_a ?_
        first | refine W_reg [] fun K hK => ?_ | refine W_regd (by rw [hP]; exact mixed) [] fun K hK => ?_
        refine t_s0 ?_
        repeat (refine ⟨by omega, ?_⟩)
        first | refine vcK_call hP hgl (w) (by simp [go_sem, hP, hgl, hn, Tm.cells_eq x, Tm.cells_eq y, Ty.cells_eq s, h12, h13, h23, h21, h31, h32]) rfl (by simp [go_sem, hP, hgl, hn, Tm.cells_eq x, Tm.cells_eq y, Ty.cells_eq s, h12, h13, h23, h21, h31, h32]) (by simp [Tm.cells_eq x, Tm.cells_eq y, Ty.cells_eq s, h12, h13, h23, h21, h31, h32]) (by rw [hn]; exact Nat.le_of_ble_eq_true rfl) ?_ | refine vcdC_call (fun _ _ => vcd_sound) hP hgl (w) (by simp [go_sem, hP, hgl, hn, Tm.cells_eq x, Tm.cells_eq y, Ty.cells_eq s, h12, h13, h23, h21, h31, h32]) rfl (by simp [go_sem, hP, hgl, hn, Tm.cells_eq x, Tm.cells_eq y, Ty.cells_eq s, h12, h13, h23, h21, h31, h32]) (by simp [Tm.cells_eq x, Tm.cells_eq y, Ty.cells_eq s, h12, h13, h23, h21, h31, h32]) (by rw [hn]; exact Nat.le_of_ble_eq_true rfl) ?_
        simp [go_sem, hP, hgl, hn, Tm.cells_eq x, Tm.cells_eq y, Ty.cells_eq s, h12, h13, h23, h21, h31, h32]
        refine t_e ?_
        clear hK K
        refine t_r ?_
        simp [go_sem, hP, hgl, hn, mMaxE, h, h2', hI, hlx, hly] <;> (try omega)
        all_goals exact t_f
      · have hly' : y.leastN 268435456 = false := by simpa using hly
        refine t_g0 ?_
        refine t_c2 (j2 @fx (j2 @fy (j2 @hlx @hly'))) (sc_far_ok x) (sc_far_ok y) ?_
        refine t_g (j2 @hlx @hly') ?_
        refine t_r ?_
        simp [go_sem, hP, hgl, hn, mMaxE, h, h2', hI, hlx, hly', zeroTm] <;> (try omega)
        all_goals exact t_f
    · have hlx' : x.leastN 268435456 = false := by simpa using hlx
      refine t_g0 ?_
      refine t_c1 (j2 @fx (j2 @fy @hlx')) (sc_far_ok x) ?_
      refine t_g @hlx' ?_
      refine t_r ?_
      simp [go_sem, hP, hgl, hn, mMaxE, h, h2', hI, hlx', zeroTm] <;> (try omega)
      all_goals exact t_f
end Go.Proofs.YtiacandbafjlfaaGreatDoor.Lift

namespace Go.Proofs.YtiacandbafjlfaaGreatDoor.Lift
set_option linter.unusedSimpArgs false
set_option linter.unusedVariables false
set_option linter.unnecessarySimpa false
open Go

/-- the type is found, or something is too large -/
def Fits (t : Tm) (g : List Ty) (a : T) : Prop := t.inferN g = (a.ty, 0) ∨ (t.inferN g).2 = 4
def AllFit (g : List Ty) : List Tm → List T → Prop
  | [], [] => True
  | t :: r, a :: s => Fits t g a ∧ AllFit g r s
  | _, _ => False

theorem infers_fit {g : List Ty} : ∀ {l : List Tm} {ts : List T}, AllFit g l ts → (Tm.inferN.infers l g = (ts.map T.ty, 0)) ∨ (Tm.inferN.infers l g).2 = 4
  | [], [], _ => .inl rfl
  | [], _ :: _, h => h.elim
  | _ :: _, [], h => h.elim
  | t :: r, a :: s, ⟨h, hr⟩ => by
    simp only [Tm.inferN.infers]
    rcases h with h | h
    · rw [h]
      rcases infers_fit hr with h2 | h2
      · rw [h2]; exact .inl rfl
      · right; rw [if_pos rfl, if_neg (by rw [h2]; decide)]; exact h2
    · right; rw [if_neg (by rw [h]; decide)]; exact h

theorem fits_node {k : Int} {y : Ty} {l : List Tm} {g : List Ty} {ts : List T} {a : T} (hk : ¬ k = 1) (h : AllFit (if k = 2 then g ++ [y] else g) l ts)
    (hr : ruleN k y (ts.map T.ty) = (a.ty, 0) ∨ (ruleN k y (ts.map T.ty)).2 = 4) : Fits (Tm.mk k 0 y l) g a := by
  have e0 : (Tm.mk k 0 y l).inferN g = if (Tm.inferN.infers l (if k = 2 then g ++ [y] else g)).2 = 0 then ruleN k y (Tm.inferN.infers l (if k = 2 then g ++ [y] else g)).1 else (zeroTy, (Tm.inferN.infers l (if k = 2 then g ++ [y] else g)).2) := by
    rw [Tm.inferN_eq, if_neg (show ¬ (Tm.mk k 0 y l).kind = 1 from hk)]
    rfl
  unfold Fits
  rw [e0]
  rcases infers_fit h with e | e
  · rw [e, if_pos rfl]
    exact hr
  · right
    rw [if_neg (by rw [e]; decide)]
    exact e
theorem okN_fit (y : Ty) : okN y = (y, 0) ∨ (okN y).2 = 4 := by
  unfold okN
  split
  · exact .inl rfl
  · exact .inr rfl

/-- a term that means something of a type has that type, or is too large -/
theorem infer_of_dn {Γ : List T} {t : Tm} {a : T} {F : Env Γ → a.V} (h : Dn Γ t a F) : Fits t (Γ.reverse.map T.ty) a := by
  induction h with
  | @var Γ i a p h =>
    left
    have hg := At.get h
    have hlt : i < Γ.length := (List.getElem?_eq_some_iff.1 hg).1
    rw [Tm.inferN_eq, if_pos (show (vT i).kind = 1 from rfl)]
    rw [if_neg (by show ¬ (((Γ.reverse.map T.ty).length : Int) ≤ (i : Int)); simp; omega)]
    have hi : (vT i).index.toNat = i := rfl
    rw [hi, List.getD_eq_getElem?_getD, List.getElem?_map]
    have : Γ.reverse[(Γ.reverse.map T.ty).length - 1 - i]? = some a := by
      rw [List.getElem?_reverse (by simp; omega)]
      simp only [List.length_map, List.length_reverse]
      rw [show Γ.length - 1 - (Γ.length - 1 - i) = i by omega]
      exact hg
    rw [this]
    rfl
  | @lam Γ a r b f ha h ih =>
    refine fits_node (ts := [r]) (by decide) ⟨?_, trivial⟩ (okN_fit _)
    rw [if_pos rfl]
    simpa using ih
  | @app Γ a b f x F X hf hx ih1 ih2 =>
    refine fits_node (ts := [.fn a b, a]) (by decide) ⟨ih1, ih2, trivial⟩ (.inl ?_)
    show (if (4 : Int) = 4 ∧ a.ty.same a.ty = true then (b.ty, (0 : Int)) else (zeroTy, 7)) = (b.ty, 0)
    rw [if_pos ⟨rfl, (Ty.same_iff _ _).2 rfl⟩]
  | zero => exact fits_node (ts := []) (by decide) trivial (.inl rfl)
  | succ hx ih => exact fits_node (ts := [.nat]) (by decide) ⟨ih, trivial⟩ (.inl rfl)
  | @rc Γ a b f n B F N ha hb hf hn ih1 ih2 ih3 =>
    refine fits_node (ts := [a, .fn .nat (.fn a a), .nat]) (by decide) ⟨ih1, ih2, ih3, trivial⟩ (.inl ?_)
    show (if a.ty.same a.ty = true ∧ (T.fn .nat (.fn a a)).ty.same (Ty.mk 4 [Ty.mk 1 [], Ty.mk 4 [a.ty, a.ty]]) = true ∧ (T.ty .nat).same (Ty.mk 1 []) = true then (a.ty, (0 : Int)) else (zeroTy, 7)) = (a.ty, 0)
    rw [if_pos ⟨(Ty.same_iff _ _).2 rfl, (Ty.same_iff _ _).2 rfl, (Ty.same_iff _ _).2 rfl⟩]
  | nil => exact fits_node (ts := []) (by decide) trivial (.inl rfl)
  | cons hx hl ih1 ih2 => exact fits_node (ts := [.nat, .list]) (by decide) ⟨ih1, ih2, trivial⟩ (.inl rfl)
  | @fold Γ a b f n B F N ha hb hf hn ih1 ih2 ih3 =>
    refine fits_node (ts := [a, .fn .nat (.fn .list (.fn a a)), .list]) (by decide) ⟨ih1, ih2, ih3, trivial⟩ (.inl ?_)
    show (if a.ty.same a.ty = true ∧ (T.fn .nat (.fn .list (.fn a a))).ty.same (Ty.mk 4 [Ty.mk 1 [], Ty.mk 4 [Ty.mk 2 [], Ty.mk 4 [a.ty, a.ty]]]) = true ∧ (T.ty .list).same (Ty.mk 2 []) = true then (a.ty, (0 : Int)) else (zeroTy, 7)) = (a.ty, 0)
    rw [if_pos ⟨(Ty.same_iff _ _).2 rfl, (Ty.same_iff _ _).2 rfl, (Ty.same_iff _ _).2 rfl⟩]
  | @pair Γ a b x y X Y hx hy ih1 ih2 => exact fits_node (ts := [a, b]) (by decide) ⟨ih1, ih2, trivial⟩ (okN_fit _)
  | @fst Γ a b x X hx ih => exact fits_node (ts := [.pair a b]) (by decide) ⟨ih, trivial⟩ (.inl rfl)
  | @snd Γ a b x X hx ih => exact fits_node (ts := [.pair a b]) (by decide) ⟨ih, trivial⟩ (.inl rfl)
  | unit => exact fits_node (ts := []) (by decide) trivial (.inl rfl)
end Go.Proofs.YtiacandbafjlfaaGreatDoor.Lift

/-
  Plain law: a machine that evaluates terms and counts its work; it returns what is denoted.
-/
namespace Go.Proofs.YtiacandbafjlfaaGreatDoor.Lift
set_option linter.unusedSimpArgs false
set_option linter.unusedVariables false
set_option linter.unnecessarySimpa false
open Go

/-- a value of a machine -/
inductive MV where
  | num (n : Nat)
  | list (l : List Nat)
  | both (a b : MV)
  | unit
  | clo (b : Tm) (e : List MV)

abbrev Evl := Tm → List MV → Option (MV × Nat)

/-- some terms, one after the other -/
def allC (ev : Evl) : List Tm → List MV → Option (List MV × Nat)
  | [], _ => some ([], 0)
  | t :: r, e => match ev t e with
    | none => none
    | some (v, c) => match allC ev r e with
      | none => none
      | some (l, c') => some (v :: l, c + c')
/-- a closure called with some values -/
def callC (ev : Evl) : MV → List MV → Option (MV × Nat)
  | f, [] => some (f, 0)
  | .clo b e, a :: r => match ev b (a :: e) with
    | none => none
    | some (v, c) => match callC ev v r with
      | none => none
      | some (w, c') => some (w, c + c')
  | _, _ => none
/-- n rounds from k on -/
def recC (ev : Evl) (f : MV) : Nat → Nat → MV → Option (MV × Nat)
  | 0, _, r => some (r, 0)
  | n + 1, k, r => match callC ev f [.num k, r] with
    | none => none
    | some (r', c) => match recC ev f n (k + 1) r' with
      | none => none
      | some (w, c') => some (w, c + c')
/-- through a list, from its end -/
def foldC (ev : Evl) (f : MV) (r : MV) : List Nat → Option (MV × Nat)
  | [] => some (r, 0)
  | x :: l => match foldC ev f r l with
    | none => none
    | some (r', c) => match callC ev f [.num x, .list l, r'] with
      | none => none
      | some (w, c') => some (w, c + c')
/-- a node whose parts have values -/
def nodeC (ev : Evl) (k : Int) (l : List MV) : Option (MV × Nat) :=
  if k = 3 then match l with
    | [f, x] => callC ev f [x]
    | _ => none
  else if k = 4 then some (.num 0, 0)
  else if k = 5 then match l with
    | [.num n] => some (.num (n + 1), 0)
    | _ => none
  else if k = 6 then match l with
    | [b, f, .num n] => recC ev f n 0 b
    | _ => none
  else if k = 7 then some (.list [], 0)
  else if k = 8 then match l with
    | [.num n, .list m] => some (.list (n :: m), 0)
    | _ => none
  else if k = 9 then match l with
    | [b, f, .list m] => foldC ev f b m
    | _ => none
  else if k = 10 then match l with
    | [x, y] => some (.both x y, 0)
    | _ => none
  else if k = 11 then match l with
    | [.both x _] => some (x, 0)
    | _ => none
  else if k = 12 then match l with
    | [.both _ y] => some (y, 0)
    | _ => none
  else some (.unit, 0)
/-- a term below some values, to a depth: its value and the work -/
def evC : Nat → Tm → List MV → Option (MV × Nat)
  | 0, _, _ => none
  | d + 1, t, e =>
    if t.kind = 1 then some (e.getD t.index.toNat .unit, 1)
    else if t.kind = 2 then some (.clo (t.argN 0) e, 1)
    else match allC (evC d) t.args e with
      | none => none
      | some (l, c) => match nodeC (evC d) t.kind l with
        | none => none
        | some (v, c') => some (v, 1 + c + c')

/-- what a value of a machine is a value of -/
def Rl : (a : T) → MV → a.V → Prop
  | .nat, v, n => v = .num n
  | .list, v, l => v = .list l
  | .unit, v, _ => v = .unit
  | .pair a b, v, p => ∃ x y, v = .both x y ∧ Rl a x p.1 ∧ Rl b y p.2
  | .fn a b, v, f => ∃ body e, v = .clo body e ∧ ∀ (x : MV) (y : a.V), Rl a x y → ∀ (d : Nat) (r : MV) (c : Nat), evC d body (x :: e) = some (r, c) → Rl b r (f y)

/-- the values of the variables -/
def RlE : (Γ : List T) → List MV → Env Γ → Prop
  | [], e, _ => e = []
  | a :: Γ, e, ρ => ∃ x r, e = x :: r ∧ Rl a x ρ.1 ∧ RlE Γ r ρ.2

theorem RlE.get {Γ : List T} {i : Nat} {a : T} {p : Env Γ → a.V} (h : At Γ i a p) : ∀ {e : List MV} {ρ : Env Γ}, RlE Γ e ρ → Rl a (e.getD i .unit) (p ρ) := by
  induction h with
  | zero => rintro e ρ ⟨x, r, rfl, h1, h2⟩; exact h1
  | succ h ih => rintro e ρ ⟨x, r, rfl, h1, h2⟩; simpa using ih h2

theorem natRec_range {α : Type} (b : α) (f : Nat → α → α) : ∀ n : Nat, natRec b f n = (List.range' 0 n).foldl (fun r i => f i r) b
  | 0 => rfl
  | n + 1 => by
    rw [List.range'_1_concat, List.foldl_append, ← natRec_range b f n]
    simp [natRec]
end Go.Proofs.YtiacandbafjlfaaGreatDoor.Lift

namespace Go.Proofs.YtiacandbafjlfaaGreatDoor.Lift
set_option linter.unusedSimpArgs false
set_option linter.unusedVariables false
set_option linter.unnecessarySimpa false
open Go

/-- what a run of the second form's machine leaves: a value, the work used so far, and whether the work is out; none: stuck -/
abbrev Rn := Option (MV × Int × Bool)
abbrev Ev6 := Tm → List MV → Int → Rn
/-- the zero result -/
def zeroM : MV := .num 0
def callRun (ev : Ev6) (f x : MV) (u : Int) : Rn :=
  match f with
  | .clo b e => ev b (x :: e) u
  | _ => none
/-- the rounds of a recursion: after the work is out the rounds stop -/
def recRun (ev : Ev6) (f : MV) : Nat → Nat → MV → Int → Rn
  | 0, _, r, u => some (r, u, false)
  | n + 1, k, r, u => match callRun ev f (.num k) u with
    | none => none
    | some (_, u1, true) => some (r, u1, true)
    | some (g, u1, false) => match callRun ev g r u1 with
      | none => none
      | some (r', u2, true) => some (r', u2, true)
      | some (r', u2, false) => recRun ev f n (k + 1) r' u2
/-- the rounds of a fold, from the last element on: what is given is the list in reverse, and what lies behind -/
def foldRun (ev : Ev6) (f : MV) : List Nat → List Nat → MV → Int → Rn
  | [], _, r, u => some (r, u, false)
  | x :: l, rest, r, u => match callRun ev f (.num x) u with
    | none => none
    | some (_, u1, true) => some (r, u1, true)
    | some (g, u1, false) => match callRun ev g (.list rest) u1 with
      | none => none
      | some (_, u2, true) => some (r, u2, true)
      | some (g2, u2, false) => match callRun ev g2 r u2 with
        | none => none
        | some (r', u3, true) => some (r', u3, true)
        | some (r', u3, false) => foldRun ev f l (x :: rest) r' u3
/-- the arguments, one after the other -/
def allRun (ev : Ev6) : List Tm → List MV → Int → Option (List MV × Int × Bool)
  | [], _, u => some ([], u, false)
  | t :: r, e, u => match ev t e u with
    | none => none
    | some (_, u1, true) => some ([], u1, true)
    | some (v, u1, false) => match allRun ev r e u1 with
      | none => none
      | some (l, u2, o) => some (v :: l, u2, o)
def nodeRun (ev : Ev6) (k : Int) (l : List MV) (u : Int) : Rn :=
  if k = 3 then match l with
    | [f, x] => callRun ev f x u
    | _ => none
  else if k = 4 then some (.num 0, u, false)
  else if k = 5 then match l with
    | [.num n] => some (.num (n + 1), u, false)
    | _ => none
  else if k = 6 then match l with
    | [b, f, .num n] => recRun ev f n 0 b u
    | _ => none
  else if k = 7 then some (.list [], u, false)
  else if k = 8 then match l with
    | [.num n, .list r] => some (.list (n :: r), u, false)
    | _ => none
  else if k = 9 then match l with
    | [b, f, .list r] => foldRun ev f r.reverse [] b u
    | _ => none
  else if k = 10 then match l with
    | [a, b] => some (.both a b, u, false)
    | _ => none
  else if k = 11 then match l with
    | [.both a _] => some (a, u, false)
    | _ => none
  else if k = 12 then match l with
    | [.both _ b] => some (b, u, false)
    | _ => none
  else some (.unit, u, false)
def ev6 (most : Int) : Nat → Ev6
  | 0, _, _, _ => none
  | d + 1, t, e, u =>
    if u = most then some (zeroM, u, true)
    else if t.kind = 1 then if 0 ≤ t.index then match e[t.index.toNat]? with
      | some v => some (v, u + 1, false)
      | none => none
      else none
    else if t.kind = 2 then match t.args with
      | b :: _ => some (.clo b e, u + 1, false)
      | [] => none
    else match allRun (ev6 most d) t.args e (u + 1) with
      | none => none
      | some (_, u1, true) => some (zeroM, u1, true)
      | some (l, u1, false) => nodeRun (ev6 most d) t.kind l u1
end Go.Proofs.YtiacandbafjlfaaGreatDoor.Lift

namespace Go.Proofs.YtiacandbafjlfaaGreatDoor.Lift
set_option linter.unusedSimpArgs false
set_option linter.unusedVariables false
set_option linter.unnecessarySimpa false
open Go

/-! the second form's machine on typed terms: it is never stuck, and returns what is denoted -/

mutual
/-- a machine's value has a type and a meaning -/
inductive MVT : (a : T) → MV → a.V → Prop
  | num (n : Nat) : MVT .nat (.num n) n
  | list (l : List Nat) : MVT .list (.list l) l
  | unit : MVT .unit .unit ()
  | both {a b : T} {x y : MV} {X : a.V} {Y : b.V} (hx : MVT a x X) (hy : MVT b y Y) : MVT (.pair a b) (.both x y) (X, Y)
  | clo {Γ : List T} {a r : T} {b : Tm} {f : Env (a :: Γ) → r.V} {e : List MV} {ρ : Env Γ} (he : MVE Γ e ρ) (hb : Dn (a :: Γ) b r f) : MVT (.fn a r) (.clo b e) (fun x => f (x, ρ))
inductive MVE : (Γ : List T) → List MV → Env Γ → Prop
  | nil : MVE [] [] ()
  | cons {Γ : List T} {a : T} {x : MV} {X : a.V} {e : List MV} {ρ : Env Γ} (h : MVT a x X) (k : MVE Γ e ρ) : MVE (a :: Γ) (x :: e) (X, ρ)
end

theorem MVE.get {Γ : List T} {i : Nat} {a : T} {p : Env Γ → a.V} (h : At Γ i a p) : ∀ {e : List MV} {ρ : Env Γ}, MVE Γ e ρ → ∃ x, e[i]? = some x ∧ MVT a x (p ρ) := by
  induction h with
  | zero => intro e ρ he; cases he with | cons h k => exact ⟨_, rfl, h⟩
  | succ h ih => intro e ρ he; cases he with | cons h k => obtain ⟨x, e1, e2⟩ := ih k; exact ⟨x, by simpa using e1, e2⟩
theorem mvt_nat {v : MV} {n : Nat} (h : MVT .nat v n) : v = .num n := by cases h; rfl
theorem mvt_list {v : MV} {l : List Nat} (h : MVT .list v l) : v = .list l := by cases h; rfl
theorem mvt_pair {a b : T} {v : MV} {p : (T.pair a b).V} (h : MVT (.pair a b) v p) : ∃ x y, v = .both x y ∧ MVT a x p.1 ∧ MVT b y p.2 := by
  cases h with | both hx hy => exact ⟨_, _, rfl, hx, hy⟩
theorem mvt_fn {a b : T} {v : MV} {f : (T.fn a b).V} (h : MVT (.fn a b) v f) : ∃ (Γ : List T) (t : Tm) (e : List MV) (ρ : Env Γ) (g : Env (a :: Γ) → b.V), v = .clo t e ∧ MVE Γ e ρ ∧ Dn (a :: Γ) t b g ∧ f = fun x => g (x, ρ) := by
  cases h with | clo he hb => exact ⟨_, _, _, _, _, rfl, he, hb, rfl⟩

/-- a run is not stuck; when the work is not out it leaves a value of the kind that is told -/
def Out (most : Int) (P : MV → Prop) (u : Int) (r : Rn) : Prop := ∃ v u' o, r = some (v, u', o) ∧ u ≤ u' ∧ u' ≤ most ∧ (o = false → P v)
theorem Out.mono {most u u0 : Int} {P Q : MV → Prop} {r : Rn} (h : Out most P u r) (hu : u0 ≤ u) (hq : ∀ v, P v → Q v) : Out most Q u0 r := by
  obtain ⟨v, u', o, h1, h2, h3, h4⟩ := h
  exact ⟨v, u', o, h1, by omega, h3, fun h => hq v (h4 h)⟩

/-- evaluation is good to a depth -/
def Evs (most : Int) (d : Nat) (ev : Ev6) : Prop := ∀ ⦃Γ : List T⦄ ⦃t : Tm⦄ ⦃a : T⦄ ⦃F : Env Γ → a.V⦄ ⦃e : List MV⦄ ⦃ρ : Env Γ⦄ ⦃u : Int⦄, Dn Γ t a F → MVE Γ e ρ → u ≤ most → most - u < d → Out most (fun v => MVT a v (F ρ)) u (ev t e u)

theorem callRun_out {most : Int} {d : Nat} {ev : Ev6} (H : Evs most d ev) {a b : T} {f x : MV} {F : (T.fn a b).V} {X : a.V} (hf : MVT (.fn a b) f F) (hx : MVT a x X) {u : Int} (hu : u ≤ most) (hd : most - u < d) :
    Out most (fun v => MVT b v (F X)) u (callRun ev f x u) := by
  obtain ⟨Γ, t, e, ρ, g, rfl, he, hb, rfl⟩ := mvt_fn hf
  exact H hb (.cons hx he) hu hd

theorem recRun_out {most : Int} {d : Nat} {ev : Ev6} (H : Evs most d ev) {a : T} {f : MV} {F : (T.fn .nat (.fn a a)).V} (hf : MVT (.fn .nat (.fn a a)) f F) : ∀ (n k : Nat) {r : MV} {R : a.V} {u : Int}, MVT a r R → u ≤ most → most - u < d →
    Out most (fun v => MVT a v ((List.range' k n).foldl (fun r i => F i r) R)) u (recRun ev f n k r u)
  | 0, k, r, R, u, hr, hu, hd => ⟨r, u, false, rfl, by omega, hu, fun _ => hr⟩
  | n + 1, k, r, R, u, hr, hu, hd => by
    obtain ⟨g, u1, o1, h1, l1, m1, q1⟩ := callRun_out H hf (.num k) hu hd
    cases o1 with
    | true => exact ⟨r, u1, true, by rw [recRun, h1], l1, m1, fun h => by cases h⟩
    | false =>
      obtain ⟨r', u2, o2, h2, l2, m2, q2⟩ := callRun_out H (q1 rfl) hr m1 (by omega)
      cases o2 with
      | true => exact ⟨r', u2, true, by rw [recRun, h1]; simp only [h2], by omega, m2, fun h => by cases h⟩
      | false =>
        have := recRun_out H hf n (k + 1) (q2 rfl) m2 (by omega)
        have e : recRun ev f (n + 1) k r u = recRun ev f n (k + 1) r' u2 := by rw [recRun, h1]; simp only [h2]
        rw [e]
        exact this.mono (by omega) fun v h => h

theorem foldRun_out {most : Int} {d : Nat} {ev : Ev6} (H : Evs most d ev) {a : T} {f : MV} {F : (T.fn .nat (.fn .list (.fn a a))).V} (hf : MVT (.fn .nat (.fn .list (.fn a a))) f F) (B : a.V) : ∀ (l rest : List Nat) {r : MV} {u : Int}, MVT a r (listRec B F rest) → u ≤ most → most - u < d →
    Out most (fun v => MVT a v (listRec B F (l.reverse ++ rest))) u (foldRun ev f l rest r u)
  | [], rest, r, u, hr, hu, hd => ⟨r, u, false, rfl, by omega, hu, fun _ => hr⟩
  | x :: l, rest, r, u, hr, hu, hd => by
    obtain ⟨g, u1, o1, h1, l1, m1, q1⟩ := callRun_out H hf (.num x) hu hd
    cases o1 with
    | true => exact ⟨r, u1, true, by rw [foldRun, h1], l1, m1, fun h => by cases h⟩
    | false =>
      obtain ⟨g2, u2, o2, h2, l2, m2, q2⟩ := callRun_out H (q1 rfl) (.list rest) m1 (by omega)
      cases o2 with
      | true => exact ⟨r, u2, true, by rw [foldRun, h1]; simp only [h2], by omega, m2, fun h => by cases h⟩
      | false =>
        obtain ⟨r', u3, o3, h3, l3, m3, q3⟩ := callRun_out H (q2 rfl) hr m2 (by omega)
        cases o3 with
        | true => exact ⟨r', u3, true, by rw [foldRun, h1]; simp only [h2, h3], by omega, m3, fun h => by cases h⟩
        | false =>
          have := foldRun_out H hf B l (x :: rest) (r := r') (q3 rfl) m3 (by omega)
          have e : foldRun ev f (x :: l) rest r u = foldRun ev f l (x :: rest) r' u3 := by rw [foldRun, h1]; simp only [h2, h3]
          rw [e]
          refine this.mono (by omega) fun v h => ?_
          simpa using h

/-- values of some kinds, one after the other -/
def Fits2 : List MV → List (MV → Prop) → Prop
  | [], [] => True
  | v :: l, P :: r => P v ∧ Fits2 l r
  | _, _ => False

theorem allRun_out {most : Int} {ev : Ev6} {d : Nat} {e : List MV} : ∀ (l : List Tm) (Ps : List (MV → Prop)), l.length = Ps.length → (∀ (i : Nat) (t : Tm) (P : MV → Prop), l[i]? = some t → Ps[i]? = some P → ∀ u : Int, u ≤ most → most - u < d → Out most P u (ev t e u)) → ∀ {u : Int}, u ≤ most → most - u < d →
    ∃ vs u' o, allRun ev l e u = some (vs, u', o) ∧ u ≤ u' ∧ u' ≤ most ∧ (o = false → Fits2 vs Ps)
  | [], [], _, _, u, hu, hd => ⟨[], u, false, rfl, by omega, hu, fun _ => trivial⟩
  | [], _ :: _, hl, _, _, _, _ => by cases hl
  | _ :: _, [], hl, _, _, _, _ => by cases hl
  | t :: l, P :: Ps, hl, h, u, hu, hd => by
    obtain ⟨v, u1, o1, h1, l1, m1, q1⟩ := h 0 t P rfl rfl u hu hd
    cases o1 with
    | true => exact ⟨[], u1, true, by rw [allRun, h1], l1, m1, fun h => by cases h⟩
    | false =>
      obtain ⟨vs, u2, o2, h2, l2, m2, q2⟩ := allRun_out l Ps (by simpa using hl) (fun i t P ht hP => h (i + 1) t P (by simpa using ht) (by simpa using hP)) m1 (by omega)
      exact ⟨v :: vs, u2, o2, by rw [allRun, h1]; simp only [h2], by omega, m2, fun h => ⟨q1 rfl, q2 h⟩⟩

theorem ev6_node {most : Int} {d : Nat} {t : Tm} {e : List MV} {u : Int} (h1 : t.kind ≠ 1) (h2 : t.kind ≠ 2) (hu : u ≤ most) (Ps : List (MV → Prop)) (hl : t.args.length = Ps.length) {Q : MV → Prop} (hd : most - u < (d + 1 : Nat))
    (h : ∀ (i : Nat) (x : Tm) (P : MV → Prop), t.args[i]? = some x → Ps[i]? = some P → ∀ u : Int, u ≤ most → most - u < d → Out most P u (ev6 most d x e u))
    (hn : ∀ l u, Fits2 l Ps → u ≤ most → most - u < d → Out most Q u (nodeRun (ev6 most d) t.kind l u)) : Out most Q u (ev6 most (d + 1) t e u) := by
  rw [ev6]
  by_cases hum : u = most
  · rw [if_pos hum]; exact ⟨_, _, _, rfl, by omega, hu, fun h => by cases h⟩
  rw [if_neg hum, if_neg h1, if_neg h2]
  obtain ⟨vs, u1, o, e1, l1, m1, q1⟩ := allRun_out (ev := ev6 most d) (e := e) (d := d) t.args Ps hl h (u := u + 1) (by omega) (by omega)
  rw [e1]
  cases o with
  | true => exact ⟨_, _, _, rfl, by omega, m1, fun h => by cases h⟩
  | false => exact (hn vs u1 (q1 rfl) m1 (by omega)).mono (by omega) fun _ h => h

theorem fits1 {l : List MV} {P : MV → Prop} (h : Fits2 l [P]) : ∃ x, l = [x] ∧ P x := by
  match l, h with
  | [x], h => exact ⟨x, rfl, h.1⟩
theorem fits2 {l : List MV} {P Q : MV → Prop} (h : Fits2 l [P, Q]) : ∃ x y, l = [x, y] ∧ P x ∧ Q y := by
  match l, h with
  | [x, y], h => exact ⟨x, y, rfl, h.1, h.2.1⟩
theorem fits3 {l : List MV} {P Q R : MV → Prop} (h : Fits2 l [P, Q, R]) : ∃ x y z, l = [x, y, z] ∧ P x ∧ Q y ∧ R z := by
  match l, h with
  | [x, y, z], h => exact ⟨x, y, z, rfl, h.1, h.2.1, h.2.2.1⟩
theorem fits0 {l : List MV} (h : Fits2 l []) : l = [] := by
  match l, h with
  | [], _ => rfl
theorem at1 {x : Tm} {P : MV → Prop} {S : Tm → (MV → Prop) → Prop} (h : S x P) : ∀ (i : Nat) (y : Tm) (Q : MV → Prop), ([x] : List Tm)[i]? = some y → ([P] : List (MV → Prop))[i]? = some Q → S y Q := by
  intro i y Q h1 h2
  match i with
  | 0 => simp at h1 h2; subst h1; subst h2; exact h
  | i + 1 => simp at h1
theorem at2 {x y : Tm} {P Q : MV → Prop} {S : Tm → (MV → Prop) → Prop} (h : S x P) (k : S y Q) : ∀ (i : Nat) (z : Tm) (R : MV → Prop), ([x, y] : List Tm)[i]? = some z → ([P, Q] : List (MV → Prop))[i]? = some R → S z R := by
  intro i z R h1 h2
  match i with
  | 0 => simp at h1 h2; subst h1; subst h2; exact h
  | 1 => simp at h1 h2; subst h1; subst h2; exact k
  | i + 2 => simp at h1
theorem atM3 {x y w : Tm} {P Q P' : MV → Prop} {S : Tm → (MV → Prop) → Prop} (h : S x P) (k : S y Q) (j : S w P') : ∀ (i : Nat) (z : Tm) (R : MV → Prop), ([x, y, w] : List Tm)[i]? = some z → ([P, Q, P'] : List (MV → Prop))[i]? = some R → S z R := by
  intro i z R h1 h2
  match i with
  | 0 => simp at h1 h2; subst h1; subst h2; exact h
  | 1 => simp at h1 h2; subst h1; subst h2; exact k
  | 2 => simp at h1 h2; subst h1; subst h2; exact j
  | i + 3 => simp at h1

theorem out_val {most u : Int} {P : MV → Prop} {v : MV} (hu : u ≤ most) (h : P v) : Out most P u (some (v, u, false)) := ⟨v, u, false, rfl, by omega, hu, fun _ => h⟩

/-- THE MACHINE OF THE SECOND FORM RETURNS WHAT IS DENOTED, if the work is not out; it is never stuck -/
theorem ev6_ok (most : Int) : ∀ d : Nat, Evs most d (ev6 most d)
  | 0 => fun Γ t a F e ρ u h he hu hd => absurd hd (by omega)
  | d + 1 => fun Γ t a F e ρ u h he hu hd => by
    have H := @ev6_ok most d
    cases h with
    | var h =>
      obtain ⟨x, e1, e2⟩ := MVE.get h he
      rw [ev6]
      by_cases hum : u = most
      · rw [if_pos hum]; exact ⟨_, _, _, rfl, by omega, hu, fun h => by cases h⟩
      rw [if_neg hum, if_pos (show (vT _).kind = 1 from rfl), if_pos (show 0 ≤ (vT (↑(_ : Nat))).index from Int.natCast_nonneg _)]
      have : e[(vT (↑(_ : Nat))).index.toNat]? = some x := e1
      rw [this]
      exact ⟨x, u + 1, false, rfl, by omega, by omega, fun _ => e2⟩
    | lam ha hb =>
      rw [ev6]
      by_cases hum : u = most
      · rw [if_pos hum]; exact ⟨_, _, _, rfl, by omega, hu, fun h => by cases h⟩
      rw [if_neg hum, if_neg (by simp [lamT, Tm.kind]), if_pos (show (lamT _ _).kind = 2 from rfl)]
      exact ⟨_, u + 1, false, rfl, by omega, by omega, fun _ => .clo he hb⟩
    | app hf hx =>
      refine ev6_node (by simp [nT, Tm.kind]) (by simp [nT, Tm.kind]) hu [_, _] rfl hd (at2 (S := fun x P => ∀ u : Int, u ≤ most → most - u < d → Out most P u (ev6 most d x e u)) (fun u hu hd => H hf he hu hd) (fun u hu hd => H hx he hu hd)) fun l u hl hu hd => ?_
      obtain ⟨f, x, rfl, h1, h2⟩ := fits2 hl
      exact callRun_out H h1 h2 hu hd
    | zero =>
      refine ev6_node (by simp [nT, Tm.kind]) (by simp [nT, Tm.kind]) hu [] rfl hd (by intro i x P h; simp [nT, Tm.args] at h) fun l u hl hu hd => ?_
      obtain rfl := fits0 hl
      exact out_val hu (.num 0)
    | succ hx =>
      refine ev6_node (by simp [nT, Tm.kind]) (by simp [nT, Tm.kind]) hu [_] rfl hd (at1 (S := fun x P => ∀ u : Int, u ≤ most → most - u < d → Out most P u (ev6 most d x e u)) (fun u hu hd => H hx he hu hd)) fun l u hl hu hd => ?_
      obtain ⟨x, rfl, h1⟩ := fits1 hl
      obtain rfl := mvt_nat h1
      exact out_val hu (.num _)
    | rc ha hb hf hn =>
      refine ev6_node (by simp [Tm.kind]) (by simp [Tm.kind]) hu [_, _, _] rfl hd (atM3 (S := fun x P => ∀ u : Int, u ≤ most → most - u < d → Out most P u (ev6 most d x e u)) (fun u hu hd => H hb he hu hd) (fun u hu hd => H hf he hu hd) (fun u hu hd => H hn he hu hd)) fun l u hl hu hd => ?_
      obtain ⟨b, f, n, rfl, h1, h2, h3⟩ := fits3 hl
      obtain rfl := mvt_nat h3
      refine (recRun_out H h2 _ 0 h1 hu hd).mono (by omega) fun v hv => ?_
      exact Eq.mpr (congrArg (MVT _ v) (natRec_range _ _ _)) hv
    | nil =>
      refine ev6_node (by simp [nT, Tm.kind]) (by simp [nT, Tm.kind]) hu [] rfl hd (by intro i x P h; simp [nT, Tm.args] at h) fun l u hl hu hd => ?_
      obtain rfl := fits0 hl
      exact out_val hu (.list [])
    | cons hx hl =>
      refine ev6_node (by simp [nT, Tm.kind]) (by simp [nT, Tm.kind]) hu [_, _] rfl hd (at2 (S := fun x P => ∀ u : Int, u ≤ most → most - u < d → Out most P u (ev6 most d x e u)) (fun u hu hd => H hx he hu hd) (fun u hu hd => H hl he hu hd)) fun l u hl hu hd => ?_
      obtain ⟨f, x, rfl, h1, h2⟩ := fits2 hl
      obtain rfl := mvt_nat h1
      obtain rfl := mvt_list h2
      exact out_val hu (.list _)
    | fold ha hb hf hn =>
      refine ev6_node (by simp [Tm.kind]) (by simp [Tm.kind]) hu [_, _, _] rfl hd (atM3 (S := fun x P => ∀ u : Int, u ≤ most → most - u < d → Out most P u (ev6 most d x e u)) (fun u hu hd => H hb he hu hd) (fun u hu hd => H hf he hu hd) (fun u hu hd => H hn he hu hd)) fun l u hl hu hd => ?_
      obtain ⟨b, f, n, rfl, h1, h2, h3⟩ := fits3 hl
      obtain rfl := mvt_list h3
      have key := fun L : List Nat => foldRun_out H h2 _ L.reverse [] h1 hu hd
      simp only [List.reverse_reverse, List.append_nil] at key
      exact key _
    | pair hx hy =>
      refine ev6_node (by simp [nT, Tm.kind]) (by simp [nT, Tm.kind]) hu [_, _] rfl hd (at2 (S := fun x P => ∀ u : Int, u ≤ most → most - u < d → Out most P u (ev6 most d x e u)) (fun u hu hd => H hx he hu hd) (fun u hu hd => H hy he hu hd)) fun l u hl hu hd => ?_
      obtain ⟨f, x, rfl, h1, h2⟩ := fits2 hl
      exact out_val hu (.both h1 h2)
    | fst hx =>
      refine ev6_node (by simp [nT, Tm.kind]) (by simp [nT, Tm.kind]) hu [_] rfl hd (at1 (S := fun x P => ∀ u : Int, u ≤ most → most - u < d → Out most P u (ev6 most d x e u)) (fun u hu hd => H hx he hu hd)) fun l u hl hu hd => ?_
      obtain ⟨x, rfl, h1⟩ := fits1 hl
      obtain ⟨p, q, rfl, h2, h3⟩ := mvt_pair h1
      exact out_val hu h2
    | snd hx =>
      refine ev6_node (by simp [nT, Tm.kind]) (by simp [nT, Tm.kind]) hu [_] rfl hd (at1 (S := fun x P => ∀ u : Int, u ≤ most → most - u < d → Out most P u (ev6 most d x e u)) (fun u hu hd => H hx he hu hd)) fun l u hl hu hd => ?_
      obtain ⟨x, rfl, h1⟩ := fits1 hl
      obtain ⟨p, q, rfl, h2, h3⟩ := mvt_pair h1
      exact out_val hu h3
    | unit =>
      refine ev6_node (by simp [nT, Tm.kind]) (by simp [nT, Tm.kind]) hu [] rfl hd (by intro i x P h; simp [nT, Tm.args] at h) fun l u hl hu hd => ?_
      obtain rfl := fits0 hl
      exact out_val hu .unit
end Go.Proofs.YtiacandbafjlfaaGreatDoor.Lift

namespace Go.Proofs.YtiacandbafjlfaaGreatDoor.Lift
set_option linter.unusedSimpArgs false
set_option linter.unusedVariables false
set_option linter.unnecessarySimpa false
open Go

/-! how large the values of the second form's machine grow -/

mutual
def MV.le (n : Int) : MV → Prop
  | .num k => (k : Int) ≤ n
  | .list l => (l.length : Int) ≤ n ∧ ∀ x ∈ l, (x : Int) ≤ n
  | .both a b => MV.le n a ∧ MV.le n b
  | .unit => True
  | .clo _ e => (e.length : Int) ≤ n ∧ MV.les n e
def MV.les (n : Int) : List MV → Prop
  | [] => True
  | x :: r => MV.le n x ∧ MV.les n r
end
theorem MV.les_iff {n : Int} : ∀ {l : List MV}, MV.les n l ↔ ∀ x ∈ l, x.le n
  | [] => by simp [MV.les]
  | x :: r => by simp [MV.les, MV.les_iff (l := r)]
mutual
theorem MV.le_mono {n m : Int} (h : n ≤ m) : ∀ {v : MV}, v.le n → v.le m
  | .num k, hv => by simp only [MV.le] at hv ⊢; omega
  | .list l, hv => by
    simp only [MV.le] at hv ⊢
    exact ⟨by omega, fun x hx => by have := hv.2 x hx; omega⟩
  | .both a b, hv => by
    simp only [MV.le] at hv ⊢
    exact ⟨MV.le_mono h hv.1, MV.le_mono h hv.2⟩
  | .unit, _ => by simp only [MV.le]
  | .clo b e, hv => by
    simp only [MV.le] at hv ⊢
    exact ⟨by omega, MV.les_mono h hv.2⟩
theorem MV.les_mono {n m : Int} (h : n ≤ m) : ∀ {l : List MV}, MV.les n l → MV.les m l
  | [], _ => by simp only [MV.les]
  | x :: r, hv => by
    simp only [MV.les] at hv ⊢
    exact ⟨MV.le_mono h hv.1, MV.les_mono h hv.2⟩
end

/-- evaluation grows by the work at most -/
def Bds (most : Int) (ev : Ev6) : Prop := ∀ ⦃t : Tm⦄ ⦃e : List MV⦄ ⦃u M : Int⦄ ⦃v : MV⦄ ⦃u' : Int⦄ ⦃o : Bool⦄, ev t e u = some (v, u', o) → u ≤ most → 0 ≤ M → MV.les M e → (e.length : Int) ≤ M + 1 → u ≤ u' ∧ u' ≤ most ∧ v.le (M + (u' - u))

theorem callRun_bd {most : Int} {ev : Ev6} (H : Bds most ev) {f x : MV} {u M : Int} {v : MV} {u' : Int} {o : Bool} (h : callRun ev f x u = some (v, u', o)) (hu : u ≤ most) (hM : 0 ≤ M) (hf : f.le M) (hx : x.le M) : u ≤ u' ∧ u' ≤ most ∧ v.le (M + (u' - u)) := by
  cases f with
  | clo b e =>
    simp only [MV.le] at hf
    exact H h hu hM (by simp only [MV.les]; exact ⟨hx, hf.2⟩) (by simp only [List.length_cons]; omega)
  | num n => cases h
  | list l => cases h
  | both a b => cases h
  | unit => cases h

theorem recRun_bd {most : Int} {ev : Ev6} (H : Bds most ev) {f : MV} : ∀ (n k : Nat) {r : MV} {u M : Int} {v : MV} {u' : Int} {o : Bool}, recRun ev f n k r u = some (v, u', o) → u ≤ most → 0 ≤ M → f.le M → r.le M → ((n : Int) + k ≤ M) → u ≤ u' ∧ u' ≤ most ∧ v.le (M + (u' - u))
  | 0, k, r, u, M, v, u', o, h, hu, hM, hf, hr, hk => by
    simp only [recRun, Option.some.injEq, Prod.mk.injEq] at h
    obtain ⟨rfl, rfl, rfl⟩ := h
    exact ⟨by omega, by omega, MV.le_mono (by omega) hr⟩
  | n + 1, k, r, u, M, v, u', o, h, hu, hM, hf, hr, hk => by
    simp only [recRun] at h
    split at h
    · cases h
    · rename_i u1 h1
      obtain ⟨l1, m1, b1⟩ := callRun_bd H h1 hu hM hf (by simp only [MV.le]; omega)
      simp only [Option.some.injEq, Prod.mk.injEq] at h
      obtain ⟨rfl, rfl, rfl⟩ := h
      exact ⟨l1, m1, MV.le_mono (by omega) hr⟩
    · rename_i g u1 h1
      obtain ⟨l1, m1, b1⟩ := callRun_bd H h1 hu hM hf (by simp only [MV.le]; omega)
      split at h
      · cases h
      · rename_i r' u2 h2
        obtain ⟨l2, m2, b2⟩ := callRun_bd H h2 m1 (by omega) b1 (MV.le_mono (by omega) hr)
        simp only [Option.some.injEq, Prod.mk.injEq] at h
        obtain ⟨rfl, rfl, rfl⟩ := h
        exact ⟨by omega, by omega, MV.le_mono (by omega) b2⟩
      · rename_i r' u2 h2
        obtain ⟨l2, m2, b2⟩ := callRun_bd H h2 m1 (by omega) b1 (MV.le_mono (by omega) hr)
        obtain ⟨l3, m3, b3⟩ := recRun_bd H n (k + 1) h m2 (M := M + (u2 - u)) (by omega) (MV.le_mono (by omega) hf) (MV.le_mono (by omega) b2) (by omega)
        exact ⟨by omega, by omega, MV.le_mono (by omega) b3⟩

theorem foldRun_bd {most : Int} {ev : Ev6} (H : Bds most ev) {f : MV} : ∀ (l rest : List Nat) {r : MV} {u M : Int} {v : MV} {u' : Int} {o : Bool}, foldRun ev f l rest r u = some (v, u', o) → u ≤ most → 0 ≤ M → f.le M → r.le M → ((l.length : Int) + rest.length ≤ M) → (∀ x ∈ l, (x : Int) ≤ M) → (∀ x ∈ rest, (x : Int) ≤ M) → u ≤ u' ∧ u' ≤ most ∧ v.le (M + (u' - u))
  | [], rest, r, u, M, v, u', o, h, hu, hM, hf, hr, hk, _, _ => by
    simp only [foldRun, Option.some.injEq, Prod.mk.injEq] at h
    obtain ⟨rfl, rfl, rfl⟩ := h
    exact ⟨by omega, by omega, MV.le_mono (by omega) hr⟩
  | x :: l, rest, r, u, M, v, u', o, h, hu, hM, hf, hr, hk, hl, hrest => by
    have hx := hl x (by simp)
    have hlen : ((x :: l).length : Int) = l.length + 1 := by simp
    simp only [foldRun] at h
    split at h
    · cases h
    · rename_i u1 h1
      obtain ⟨l1, m1, b1⟩ := callRun_bd H h1 hu hM hf (by simp only [MV.le]; omega)
      simp only [Option.some.injEq, Prod.mk.injEq] at h
      obtain ⟨rfl, rfl, rfl⟩ := h
      exact ⟨l1, m1, MV.le_mono (by omega) hr⟩
    · rename_i g u1 h1
      obtain ⟨l1, m1, b1⟩ := callRun_bd H h1 hu hM hf (by simp only [MV.le]; omega)
      split at h
      · cases h
      · rename_i u2 h2
        obtain ⟨l2, m2, b2⟩ := callRun_bd H h2 m1 (by omega) b1 (by simp only [MV.le]; exact ⟨by omega, fun y hy => by have := hrest y hy; omega⟩)
        simp only [Option.some.injEq, Prod.mk.injEq] at h
        obtain ⟨rfl, rfl, rfl⟩ := h
        exact ⟨by omega, by omega, MV.le_mono (by omega) hr⟩
      · rename_i g2 u2 h2
        obtain ⟨l2, m2, b2⟩ := callRun_bd H h2 m1 (by omega) b1 (by simp only [MV.le]; exact ⟨by omega, fun y hy => by have := hrest y hy; omega⟩)
        split at h
        · cases h
        · rename_i r' u3 h3
          obtain ⟨l3, m3, b3⟩ := callRun_bd H h3 m2 (by omega) b2 (MV.le_mono (by omega) hr)
          simp only [Option.some.injEq, Prod.mk.injEq] at h
          obtain ⟨rfl, rfl, rfl⟩ := h
          exact ⟨by omega, by omega, MV.le_mono (by omega) b3⟩
        · rename_i r' u3 h3
          obtain ⟨l3, m3, b3⟩ := callRun_bd H h3 m2 (by omega) b2 (MV.le_mono (by omega) hr)
          obtain ⟨l4, m4, b4⟩ := foldRun_bd H l (x :: rest) h m3 (M := M + (u3 - u)) (by omega) (MV.le_mono (by omega) hf) (MV.le_mono (by omega) b3) (by simp only [List.length_cons]; omega)
            (fun y hy => by have := hl y (by simp [hy]); omega) (fun y hy => by rcases List.mem_cons.1 hy with rfl | hy; omega; have := hrest y hy; omega)
          exact ⟨by omega, by omega, MV.le_mono (by omega) b4⟩

theorem allRun_bd {most : Int} {ev : Ev6} (H : Bds most ev) {e : List MV} : ∀ (l : List Tm) {u M : Int} {vs : List MV} {u' : Int} {o : Bool}, allRun ev l e u = some (vs, u', o) → u ≤ most → 0 ≤ M → MV.les M e → (e.length : Int) ≤ M + 1 → u ≤ u' ∧ u' ≤ most ∧ MV.les (M + (u' - u)) vs
  | [], u, M, vs, u', o, h, hu, hM, he, hl => by
    simp only [allRun, Option.some.injEq, Prod.mk.injEq] at h
    obtain ⟨rfl, rfl, rfl⟩ := h
    exact ⟨by omega, by omega, by simp only [MV.les]⟩
  | t :: r, u, M, vs, u', o, h, hu, hM, he, hl => by
    simp only [allRun] at h
    split at h
    · cases h
    · rename_i u1 h1
      obtain ⟨l1, m1, b1⟩ := H h1 hu hM he hl
      simp only [Option.some.injEq, Prod.mk.injEq] at h
      obtain ⟨rfl, rfl, rfl⟩ := h
      exact ⟨by omega, by omega, by simp only [MV.les]⟩
    · rename_i v1 u1 h1
      obtain ⟨l1, m1, b1⟩ := H h1 hu hM he hl
      split at h
      · cases h
      · rename_i vs2 u2 o2 h2
        obtain ⟨l2, m2, b2⟩ := allRun_bd H r h2 m1 (M := M + (u1 - u)) (by omega) (MV.les_mono (by omega) he) (by omega)
        simp only [Option.some.injEq, Prod.mk.injEq] at h
        obtain ⟨rfl, rfl, rfl⟩ := h
        exact ⟨by omega, by omega, by simp only [MV.les]; exact ⟨MV.le_mono (by omega) b1, MV.les_mono (by omega) b2⟩⟩

theorem nodeRun_bd {most : Int} {ev : Ev6} (H : Bds most ev) {k : Int} {l : List MV} {u M : Int} {v : MV} {u' : Int} {o : Bool} (h : nodeRun ev k l u = some (v, u', o)) (hu : u ≤ most) (hM : 0 ≤ M) (hl : MV.les M l) : u ≤ u' ∧ u' ≤ most ∧ v.le (M + 1 + (u' - u)) := by
  unfold nodeRun at h
  split at h
  · split at h
    · simp only [MV.les] at hl
      obtain ⟨l1, m1, b1⟩ := callRun_bd H h hu hM hl.1 hl.2.1
      exact ⟨l1, m1, MV.le_mono (by omega) b1⟩
    · cases h
  split at h
  · simp only [Option.some.injEq, Prod.mk.injEq] at h
    obtain ⟨rfl, rfl, rfl⟩ := h
    exact ⟨by omega, by omega, by simp only [MV.le]; omega⟩
  split at h
  · split at h
    · simp only [MV.les, MV.le] at hl
      simp only [Option.some.injEq, Prod.mk.injEq] at h
      obtain ⟨rfl, rfl, rfl⟩ := h
      exact ⟨by omega, by omega, by simp only [MV.le]; omega⟩
    · cases h
  split at h
  · split at h
    · simp only [MV.les] at hl
      obtain ⟨a1, a2, a3, -⟩ := hl
      simp only [MV.le] at a3
      obtain ⟨l1, m1, b1⟩ := recRun_bd H _ 0 h hu hM a2 a1 (by omega)
      exact ⟨l1, m1, MV.le_mono (by omega) b1⟩
    · cases h
  split at h
  · simp only [Option.some.injEq, Prod.mk.injEq] at h
    obtain ⟨rfl, rfl, rfl⟩ := h
    exact ⟨by omega, by omega, by simp only [MV.le]; exact ⟨by simp only [List.length_nil]; omega, fun x hx => by cases hx⟩⟩
  split at h
  · split at h
    · simp only [MV.les, MV.le] at hl
      obtain ⟨a1, ⟨a2, a3⟩, -⟩ := hl
      simp only [Option.some.injEq, Prod.mk.injEq] at h
      obtain ⟨rfl, rfl, rfl⟩ := h
      exact ⟨by omega, by omega, by simp only [MV.le]; exact ⟨by simp only [List.length_cons]; omega, fun x hx => by rcases List.mem_cons.1 hx with rfl | hx; omega; have := a3 x hx; omega⟩⟩
    · cases h
  split at h
  · split at h
    · simp only [MV.les] at hl
      obtain ⟨a1, a2, a3, -⟩ := hl
      simp only [MV.le] at a3
      obtain ⟨l1, m1, b1⟩ := foldRun_bd H _ [] h hu hM a2 a1 (by simp only [List.length_reverse, List.length_nil]; omega) (fun x hx => a3.2 x (by simpa using hx)) (fun x hx => by cases hx)
      exact ⟨l1, m1, MV.le_mono (by omega) b1⟩
    · cases h
  split at h
  · split at h
    · simp only [MV.les] at hl
      simp only [Option.some.injEq, Prod.mk.injEq] at h
      obtain ⟨rfl, rfl, rfl⟩ := h
      exact ⟨by omega, by omega, by simp only [MV.le]; exact ⟨MV.le_mono (by omega) hl.1, MV.le_mono (by omega) hl.2.1⟩⟩
    · cases h
  split at h
  · split at h
    · simp only [MV.les, MV.le] at hl
      simp only [Option.some.injEq, Prod.mk.injEq] at h
      obtain ⟨rfl, rfl, rfl⟩ := h
      exact ⟨by omega, by omega, MV.le_mono (by omega) hl.1.1⟩
    · cases h
  split at h
  · split at h
    · simp only [MV.les, MV.le] at hl
      simp only [Option.some.injEq, Prod.mk.injEq] at h
      obtain ⟨rfl, rfl, rfl⟩ := h
      exact ⟨by omega, by omega, MV.le_mono (by omega) hl.1.2⟩
    · cases h
  · simp only [Option.some.injEq, Prod.mk.injEq] at h
    obtain ⟨rfl, rfl, rfl⟩ := h
    exact ⟨by omega, by omega, by simp only [MV.le]⟩

theorem ev6_bd (most : Int) : ∀ d : Nat, Bds most (ev6 most d)
  | 0 => fun t e u M v u' o h => by cases h
  | d + 1 => fun t e u M v u' o h hu hM he hl => by
    have H := @ev6_bd most d
    rw [ev6] at h
    split at h
    · simp only [Option.some.injEq, Prod.mk.injEq] at h
      obtain ⟨rfl, rfl, rfl⟩ := h
      exact ⟨by omega, by omega, by simp only [zeroM, MV.le]; omega⟩
    split at h
    · split at h
      · split at h
        · rename_i v1 hv
          simp only [Option.some.injEq, Prod.mk.injEq] at h
          obtain ⟨rfl, rfl, rfl⟩ := h
          exact ⟨by omega, by omega, MV.le_mono (by omega) (MV.les_iff.1 he _ (List.mem_of_getElem? hv))⟩
        · cases h
      · cases h
    split at h
    · split at h
      · simp only [Option.some.injEq, Prod.mk.injEq] at h
        obtain ⟨rfl, rfl, rfl⟩ := h
        exact ⟨by omega, by omega, by simp only [MV.le]; exact ⟨by omega, MV.les_mono (by omega) he⟩⟩
      · cases h
    split at h
    · cases h
    · rename_i u1 h1
      obtain ⟨l1, m1, b1⟩ := allRun_bd H _ h1 (by omega) hM he hl
      simp only [Option.some.injEq, Prod.mk.injEq] at h
      obtain ⟨rfl, rfl, rfl⟩ := h
      exact ⟨by omega, by omega, by simp only [zeroM, MV.le]; omega⟩
    · rename_i vs u1 h1
      obtain ⟨l1, m1, b1⟩ := allRun_bd H _ h1 (by omega) hM he hl
      obtain ⟨l2, m2, b2⟩ := nodeRun_bd H h m1 (by omega) b1
      exact ⟨by omega, by omega, MV.le_mono (by omega) b2⟩
end Go.Proofs.YtiacandbafjlfaaGreatDoor.Lift

namespace Go.Proofs.YtiacandbafjlfaaGreatDoor.Lift
set_option linter.unusedSimpArgs false
set_option linter.unusedVariables false
set_option linter.unnecessarySimpa false
open Go
variable {gl : Globs}

/-! the results of the second form's machine as data -/

mutual
def MV.cells : MV → List DV
  | .num n => [dint (n : Int), .sl [], .sl [], dint 0, dint 0, dint 0, .sl [], .sl [], .sl []]
  | .list l => [dint 0, .sl (ints (l.map Int.ofNat)), .sl [], dint 0, dint 0, dint 0, .sl [], .sl [], .sl []]
  | .both a b => [dint 0, .sl [], .sl [MV.cells a, MV.cells b], dint 0, dint 0, dint 0, .sl [], .sl [], .sl []]
  | .unit => [dint 0, .sl [], .sl [], dint 0, dint 0, dint 0, .sl [], .sl [], .sl []]
  | .clo b e => [dint 0, .sl [], .sl [], dint b.kind, dint b.index, dint b.type.kind, .sl (List.map Ty.cells b.type.args), .sl (List.map Tm.cells b.args), .sl (MV.cellss e).reverse]
def MV.cellss : List MV → List (List DV)
  | [] => []
  | x :: r => MV.cells x :: MV.cellss r
end
namespace MV
set_option linter.unusedSimpArgs false
set_option linter.unusedVariables false
set_option linter.unnecessarySimpa false
theorem cellss_map : ∀ l : List MV, cellss l = l.map cells
  | [] => rfl
  | x :: r => by simp only [cellss, List.map_cons, cellss_map r]
def numF : MV → Int | .num n => n | _ => 0
def listF : MV → List Int | .list l => l.map Int.ofNat | _ => []
def pairF : MV → List MV | .both a b => [a, b] | _ => []
def bodyF : MV → Tm | .clo b _ => b | _ => zeroTm
def envF : MV → List MV | .clo _ e => e.reverse | _ => []
theorem cells_eq (v : MV) : v.cells = [dint v.numF, .sl (ints v.listF), .sl (v.pairF.map cells), dint v.bodyF.kind, dint v.bodyF.index, dint v.bodyF.type.kind, .sl (v.bodyF.type.args.map Ty.cells), .sl (v.bodyF.args.map Tm.cells), .sl (v.envF.map cells)] := by
  cases v with
  | num n => rfl
  | list l => rfl
  | both a b => simp only [cells, numF, listF, pairF, bodyF, envF]; rfl
  | unit => rfl
  | clo b e => simp only [cells, numF, listF, pairF, bodyF, envF, cellss_map, List.map_reverse]; rfl
def dv (v : MV) : DV := .agg v.cells
theorem fold (v : MV) : DV.agg [dint v.numF, .sl (ints v.listF), .sl (v.pairF.map cells), dint v.bodyF.kind, dint v.bodyF.index, dint v.bodyF.type.kind, .sl (v.bodyF.type.args.map Ty.cells), .sl (v.bodyF.args.map Tm.cells), .sl (v.envF.map cells)] = v.dv := by rw [dv, cells_eq]
theorem cellsD_dv (v : MV) : cellsD v.dv = [dint v.numF, .sl (ints v.listF), .sl (v.pairF.map cells), dint v.bodyF.kind, dint v.bodyF.index, dint v.bodyF.type.kind, .sl (v.bodyF.type.args.map Ty.cells), .sl (v.bodyF.args.map Tm.cells), .sl (v.envF.map cells)] := by rw [dv, cellsD, cells_eq]
theorem isCell_dv (v : MV) : v.dv.isCell = false := rfl
theorem isAgg_dv (v : MV) : v.dv.isAgg = true := rfl
theorem length_cells (v : MV) : v.cells.length = 9 := by rw [cells_eq]; rfl
theorem wide (l : List MV) : (∀ e ∈ List.map cells l, e.length = 9) = True := by simp [length_cells]
theorem numF_num (n : Nat) : (MV.num n).numF = n := rfl
theorem listF_list (l : List Nat) : (MV.list l).listF = l.map Int.ofNat := rfl
theorem pairF_both (a b : MV) : (MV.both a b).pairF = [a, b] := rfl
theorem bodyF_clo (b : Tm) (e : List MV) : (MV.clo b e).bodyF = b := rfl
theorem envF_clo (b : Tm) (e : List MV) : (MV.clo b e).envF = e.reverse := rfl
end MV
attribute [go_sem] MV.cells_eq MV.fold MV.cellsD_dv MV.isCell_dv MV.isAgg_dv MV.wide MV.numF_num MV.listF_list MV.pairF_both MV.bodyF_clo MV.envF_clo

/-- the machine's cells -/
def mach6 (u most : Int) (o : Bool) : List DV := [dint u, dint most, dbool o]

/-- what is asked of evaluation, to be walked -/
def Walk6 (P : Program) (gl : Globs) (fe : FuncId) (most : Int) (ev : Ev6) : Prop :=
  ∀ ⦃t : Tm⦄ ⦃e : List MV⦄ ⦃u : Int⦄ ⦃v : MV⦄ ⦃u' : Int⦄ ⦃o : Bool⦄ (b : Nat) (M : Int), ev t e u = some (v, u', o) → 0 ≤ u → u ≤ most → 0 ≤ M → M + (most - u) ≤ 1073741824 → MV.les M e → (e.length : Int) ≤ M + 1 →
    Con1 P gl fe [ptr b, t.dv, .sl (e.reverse.map MV.cells)] [(b, mach6 u most false)] v.dv [(b, mach6 u' most o)]

theorem call6_ok {most : Int} (hm : most ≤ 1073741824) {ev : Ev6} (H : Walk6 Tryz.prog gl 111 most ev) {f x v : MV} {u u' : Int} {o : Bool} (b : Nat) (M : Int)
    (h : callRun ev f x u = some (v, u', o)) (hu0 : 0 ≤ u) (hu : u ≤ most) (hM : 0 ≤ M) (hMb : M + (most - u) ≤ 1073741824) (hf : f.le M) (hx : x.le M) :
    Con1 Tryz.prog gl 112 [ptr b, f.dv, x.dv] [(b, mach6 u most false)] v.dv [(b, mach6 u' most o)] := by
  cases f with
  | num n => cases h
  | list l => cases h
  | both a b => cases h
  | unit => cases h
  | clo body e =>
    simp only [MV.le] at hf
    have w := H (e := x :: e) b M h hu0 hu hM hMb (by simp only [MV.les]; exact ⟨hx, hf.2⟩) (by simp only [List.length_cons]; omega)
    have hfx := MV.cells_eq x
    have hft := Tm.fold body
    have hbF : (MV.clo body e).bodyF = body := rfl
    have heF : (MV.clo body e).envF = e.reverse := rfl
    have hl : (e.reverse.length : Int) ≤ M := by rw [List.length_reverse]; exact hf.1
    have htk : List.take e.reverse.length (e.reverse.map MV.cells) = e.reverse.map MV.cells := List.take_of_length_le (by simp)
    rw [List.reverse_cons, List.map_append] at w
    generalize e.reverse = r at *
    generalize MV.clo body e = f at *
    unfold mach6 at *
    refine t_in Tryz.func112 ?_
    intro X hP hgl hf hfn hn hR hids hfit
    refine t_g0 ?_
    refine t_c1 (j2 @hft (j2 @hbF (j2 @heF (j2 @htk @hfx)))) w ?_
    repeat (first | refine W_seq ?_ | refine W_skip ?_ | refine W_block ?_ | refine W_inBlock ?_ | refine W_label ?_ | refine W_exit rfl ?_)
    first | refine W_retR hP hf hfn _ ([(b, [dint u', dint most, dbool o])]) (by first | (simp [go_sem, hP, hgl, hn]; done) | (simp [go_sem, hP, hgl, hn]; rfl)) (by simp [go_sem, hP, hgl, hn]) (by simp) ?_ hR.2 | refine W_endR hP hf hfn _ ([(b, [dint u', dint most, dbool o])]) (by first | (simp [go_sem, hP, hgl, hn]; done) | (simp [go_sem, hP, hgl, hn]; rfl)) (by simp [go_sem, hP, hgl, hn]) (by simp) ?_ hR.2
    rw [hR.1]
    refine ⟨?_, by simp⟩
    try simp
    try all_goals (simp [Ty.dv, Ty.cells_eq, Ty.kind_mk, Ty.args_mk, Tm.dv, Tm.cells_eq, Tm.kind_mk, Tm.index_mk, Tm.type_mk, Tm.args_mk, Val.dv, Val.cells_eq, Val.kind_mk, Val.num_mk, Val.list_mk, Val.args_mk, ints])
end Go.Proofs.YtiacandbafjlfaaGreatDoor.Lift

namespace Go.Proofs.YtiacandbafjlfaaGreatDoor.Lift
set_option linter.unusedSimpArgs false
set_option linter.unusedVariables false
set_option linter.unnecessarySimpa false
open Go
variable {gl : Globs}

/-! types without functions; values of the machine read back and given -/

def T.level : T → Nat
  | .pair a b => Nat.max a.level b.level
  | .fn a b => Nat.max (a.level + 1) b.level
  | _ => 0
theorem T.level_le (a : T) : a.level < a.size := by
  induction a with
  | nat => decide
  | list => decide
  | unit => decide
  | pair a b iha ihb =>
    simp only [T.level, T.size, Nat.max_def]
    split <;> omega
  | fn a b iha ihb =>
    simp only [T.level, T.size, Nat.max_def]
    split <;> omega
theorem T.level_plain (a : T) : a.level = 0 ↔ a.plain := by
  induction a with
  | nat => simp [T.level, T.plain]
  | list => simp [T.level, T.plain]
  | unit => simp [T.level, T.plain]
  | pair a b iha ihb =>
    simp only [T.level, T.plain, ← iha, ← ihb, Nat.max_def]
    split <;> omega
  | fn a b iha ihb =>
    simp only [T.level, T.plain, Nat.max_def, iff_false]
    split <;> omega
theorem max_if (x y : Nat) : (if (y : Int) > (x : Int) then (y : Int) else (x : Int)) = ((Nat.max x y : Nat) : Int) := by
  simp only [Nat.max_def]
  split <;> split <;> omega
theorem T.ty_nat : T.nat.ty = Ty.mk 1 [] := rfl
theorem T.ty_list : T.list.ty = Ty.mk 2 [] := rfl
theorem T.ty_unit : T.unit.ty = Ty.mk 5 [] := rfl
theorem T.ty_pair (a b : T) : (T.pair a b).ty = Ty.mk 3 [a.ty, b.ty] := rfl
theorem T.ty_fn (a b : T) : (T.fn a b).ty = Ty.mk 4 [a.ty, b.ty] := rfl

theorem level_ok (a : T) (hs : a.size ≤ 1000000) : Con1 Tryz.prog gl 130 [a.ty.dv] [] (dint (a.level : Nat)) [] := by
  induction a with
  | nat =>
    refine t_in Tryz.func130 ?_
    intro X hP hgl hf hfn hn hR hids hfit
    rw [T.ty_nat]
    refine t_g0 ?_
    refine t_r ?_
    simp [go_sem, hP, hgl, hn, T.level] <;> (try omega)
  | list =>
    refine t_in Tryz.func130 ?_
    intro X hP hgl hf hfn hn hR hids hfit
    rw [T.ty_list]
    refine t_g0 ?_
    refine t_r ?_
    simp [go_sem, hP, hgl, hn, T.level] <;> (try omega)
  | unit =>
    refine t_in Tryz.func130 ?_
    intro X hP hgl hf hfn hn hR hids hfit
    rw [T.ty_unit]
    refine t_g0 ?_
    refine t_r ?_
    simp [go_sem, hP, hgl, hn, T.level] <;> (try omega)
  | pair a b iha ihb =>
    simp only [T.size] at hs
    have la := T.level_le a
    have lb := T.level_le b
    have wa := iha (by omega)
    have wb := ihb (by omega)
    have hm := max_if a.level b.level
    have fa := Ty.fold a.ty
    have fb := Ty.fold b.ty
    have hL : (T.pair a b).level = Nat.max a.level b.level := rfl
    rw [hL]
    refine t_in Tryz.func130 ?_
    intro X hP hgl hf hfn hn hR hids hfit
    rw [T.ty_pair]
    generalize a.ty = ta at *
    generalize b.ty = tb at *
    refine t_g0 ?_
    refine t_c2 (j2 @fa @fb) wa wb ?_
    refine t_r ?_
    simp [go_sem, hP, hgl, hn, hm] <;> (try omega)
  | fn a b iha ihb =>
    simp only [T.size] at hs
    have la := T.level_le a
    have lb := T.level_le b
    have wa := iha (by omega)
    have wb := ihb (by omega)
    have hm := max_if (a.level + 1) b.level
    have fa := Ty.fold a.ty
    have fb := Ty.fold b.ty
    have hL : (T.fn a b).level = Nat.max (a.level + 1) b.level := rfl
    rw [hL]
    have h1 : ((a.level + 1 : Nat) : Int) = (a.level : Int) + 1 := by omega
    rw [h1] at hm
    refine t_in Tryz.func130 ?_
    intro X hP hgl hf hfn hn hR hids hfit
    rw [T.ty_fn]
    generalize a.ty = ta at *
    generalize b.ty = tb at *
    refine t_g0 ?_
    refine t_c2 (j2 @fa @fb) wa wb ?_
    refine t_r ?_
    simp [go_sem, hP, hgl, hn, hm] <;> (try omega)

theorem data_ok (a : T) (ha : a.ok) : Con1 Tryz.prog gl 110 [a.ty.dv] [] (.tup [dbool (decide (a.level = 0)), dint 0]) [] := by
  have hs : a.size ≤ 64 := ha
  have hc := T.ty_count a
  have h0 : a.ty.checkN = 0 := (Ty.checkN_iff _).2 (T.ok_ty ha)
  have w1 := ref01_check_ok (gl := gl) a.ty (by omega)
  have w2 := level_ok (gl := gl) a (by omega)
  have ll := T.level_le a
  have fa := Ty.fold a.ty
  rw [h0] at w1
  generalize a.ty = ta at *
  refine t_in Tryz.func110 ?_
  intro X hP hgl hf hfn hn hR hids hfit
  refine t_g0 ?_
  refine t_c1 @fa w1 ?_
  refine t_g0 ?_
  refine t_c1 @fa w2 ?_
  refine t_r ?_
  simp [go_sem, hP, hgl, hn] <;> (try omega)

/-- a plain value as one of the machine -/
def ofM : (a : T) → a.V → MV
  | .nat, n => .num n
  | .list, l => .list l
  | .unit, _ => .unit
  | .pair a b, p => .both (ofM a p.1) (ofM b p.2)
  | .fn _ _, _ => .unit
theorem ofM_typed : ∀ (a : T) (x : a.V), a.plain → MVT a (ofM a x) x
  | .nat, n, _ => .num n
  | .list, l, _ => .list l
  | .unit, _, _ => .unit
  | .pair a b, p, h => .both (ofM_typed a p.1 h.1) (ofM_typed b p.2 h.2)
  | .fn _ _, _, h => h.elim

theorem valOf_nat (n : T.nat.V) : valOf .nat n = Val.mk 1 (Int.ofNat n) [] [] := rfl
theorem valOf_list (l : T.list.V) : valOf .list l = Val.mk 2 0 (List.map Int.ofNat l) [] := rfl
theorem valOf_unit (u : T.unit.V) : valOf .unit u = Val.mk 4 0 [] [] := rfl
theorem valOf_pair {a b : T} (p : (T.pair a b).V) : valOf (.pair a b) p = Val.mk 3 0 [] [valOf a p.1, valOf b p.2] := rfl
end Go.Proofs.YtiacandbafjlfaaGreatDoor.Lift

namespace Go.Proofs.YtiacandbafjlfaaGreatDoor.Lift
set_option linter.unusedSimpArgs false
set_option linter.unusedVariables false
set_option linter.unnecessarySimpa false
open Go
variable {gl : Globs}

theorem num_cells (n : Nat) : (MV.num n).cells = [dint (n : Int), .sl [], .sl [], dint 0, dint 0, dint 0, .sl [], .sl [], .sl []] := by rw [MV.cells]
theorem list_cells (l : List Nat) : (MV.list l).cells = [dint 0, .sl (ints (l.map Int.ofNat)), .sl [], dint 0, dint 0, dint 0, .sl [], .sl [], .sl []] := by rw [MV.cells]
theorem both_cells (a b : MV) : (MV.both a b).cells = [dint 0, .sl [], .sl [a.cells, b.cells], dint 0, dint 0, dint 0, .sl [], .sl [], .sl []] := by rw [MV.cells]
theorem unit_cells : MV.unit.cells = [dint 0, .sl [], .sl [], dint 0, dint 0, dint 0, .sl [], .sl [], .sl []] := by rw [MV.cells]

theorem of6_ok (a : T) (x : a.V) (hp : a.plain) : Con1 Tryz.prog gl 113 [(valOf a x).dv] [] (ofM a x).dv [] := by
  induction a with
  | nat =>
    have hc := num_cells x
    have hd : (ofM .nat x).dv = .agg (MV.num x).cells := rfl
    rw [valOf_nat, hd, hc]
    refine t_in Tryz.func113 ?_
    intro X hP hgl hf hfn hn hR hids hfit
    refine t_g0 ?_
    refine t_a ?_
    refine t_sub [] @ints_nil (W_upto (0) (fun i => True) (fun i => [(.slot 14, .one (.v (dint i))), (.slot 13, .one (.v (dint 0))), (.slot 12, .one (.v (.sl []))), (.slot 2, .one (.loc 2 0)), (.loc 2, .row ([.v (dint 0), .own 0 [], .own 0 [], .v (dint 0), .v (dint 0), .v (dint 0), .own 0 [], .own 0 [], .own 0 []])), (.slot 3, .one (.loc 3 0)), (.loc 3, .row ([.v (dint (Int.ofNat x)), .v (.sl []), .v (.sl []), .v (dint 0), .v (dint 0), .v (dint 0), .v (.sl []), .v (.sl []), .v (.sl [])]))]) (trivial) ?_ ?_)
    · intro i hi; exact absurd hi (by omega)
    · intro _
      refine t_rg0 ?_
      refine t_no ?_
      refine t_g0 ?_
      refine t_r ?_
      simp [go_sem, hP, hgl, hn] <;> (try omega)
      rfl
  | list =>
    have hc := list_cells x
    have hd : (ofM .list x).dv = .agg (MV.list x).cells := rfl
    rw [valOf_list, hd, hc]
    refine t_in Tryz.func113 ?_
    intro X hP hgl hf hfn hn hR hids hfit
    refine t_g0 ?_
    refine t_a ?_
    refine t_sub [] @ints_nil (W_upto (0) (fun i => True) (fun i => [(.slot 14, .one (.v (dint i))), (.slot 13, .one (.v (dint 0))), (.slot 12, .one (.v (.sl []))), (.slot 2, .one (.loc 2 0)), (.loc 2, .row ([.v (dint 0), .own 0 [], .own 0 [], .v (dint 0), .v (dint 0), .v (dint 0), .own 0 [], .own 0 [], .own 0 []])), (.slot 3, .one (.loc 3 0)), (.loc 3, .row ([.v (dint 0), .v (.sl (ints (List.map Int.ofNat x))), .v (.sl []), .v (dint 0), .v (dint 0), .v (dint 0), .v (.sl []), .v (.sl []), .v (.sl [])]))]) (trivial) ?_ ?_)
    · intro i hi; exact absurd hi (by omega)
    · intro _
      refine t_rg0 ?_
      refine t_no ?_
      refine t_g0 ?_
      refine t_r ?_
      simp [go_sem, hP, hgl, hn] <;> (try omega)
  | unit =>
    have hc := unit_cells
    have hd : (ofM .unit x).dv = .agg MV.unit.cells := rfl
    rw [valOf_unit, hd, hc]
    refine t_in Tryz.func113 ?_
    intro X hP hgl hf hfn hn hR hids hfit
    refine t_g0 ?_
    refine t_a ?_
    refine t_sub [] @ints_nil (W_upto (0) (fun i => True) (fun i => [(.slot 14, .one (.v (dint i))), (.slot 13, .one (.v (dint 0))), (.slot 12, .one (.v (.sl []))), (.slot 2, .one (.loc 2 0)), (.loc 2, .row ([.v (dint 0), .own 0 [], .own 0 [], .v (dint 0), .v (dint 0), .v (dint 0), .own 0 [], .own 0 [], .own 0 []])), (.slot 3, .one (.loc 3 0)), (.loc 3, .row ([.v (dint 0), .v (.sl []), .v (.sl []), .v (dint 0), .v (dint 0), .v (dint 0), .v (.sl []), .v (.sl []), .v (.sl [])]))]) (trivial) ?_ ?_)
    · intro i hi; exact absurd hi (by omega)
    · intro _
      refine t_rg0 ?_
      refine t_no ?_
      refine t_g0 ?_
      refine t_r ?_
      simp [go_sem, hP, hgl, hn] <;> (try omega)
  | pair a b iha ihb =>
    have w1 := iha x.1 hp.1
    have w2 := ihb x.2 hp.2
    have hc := both_cells (ofM a x.1) (ofM b x.2)
    have hd : (ofM (.pair a b) x).dv = .agg (MV.both (ofM a x.1) (ofM b x.2)).cells := rfl
    have l1 := MV.length_cells (ofM a x.1)
    have l2 := MV.length_cells (ofM b x.2)
    rw [valOf_pair, hd, hc]
    generalize valOf a x.1 = v1 at *
    generalize valOf b x.2 = v2 at *
    generalize ofM a x.1 = m1 at *
    generalize ofM b x.2 = m2 at *
    have f1 := Val.fold v1
    have f2 := Val.fold v2
    have g1 := MV.cells_eq m1
    have g2 := MV.cells_eq m2
    refine t_in Tryz.func113 ?_
    intro X hP hgl hf hfn hn hR hids hfit
    refine t_g0 ?_
    refine t_a ?_
    refine t_sub [(1003, 0)] @ints_nil (W_upto (2) (fun i => True) (fun i => [(.slot 14, .one (.v (dint i))), (.slot 13, .one (.v (dint 2))), (.slot 12, .one (.v (.sl [v1.cells, v2.cells]))), (.slot 2, .one (.loc 2 0)), (.loc 2, .row ([.v (dint 0), .own 0 [], .own 0 [], .v (dint 0), .v (dint 0), .v (dint 0), .own 0 [], .own 0 [], .own 0 []])), (.slot 3, .one (.loc 3 0)), (.loc 3, .row ([.v (dint 0), .v (.sl []), .own 1003 ([m1.cells, m2.cells].take i), .v (dint 0), .v (dint 0), .v (dint 0), .v (.sl []), .v (.sl []), .v (.sl [])])), (.tok 1003, .tk 9 i)]) (trivial) ?_ ?_)
    · intro i hi _ hnext
      match i, hi with
      | 0, _ =>
        refine t_rg0 ?_
        refine t_yes ?_
        refine t_g0 ?_
        refine t_c1 (j2 @f1 @l1) w1 ?_
        refine t_gt (wr [(1003, 23)]) @g1 @l1 (hnext trivial)
      | 1, _ =>
        refine t_rg0 ?_
        refine t_yes ?_
        refine t_g0 ?_
        refine t_c1 (j2 @f2 (j2 @l1 @l2)) w2 ?_
        refine t_gt (wr [(1003, 23)]) (j2 @g1 @g2) (j2 @l1 @l2) (hnext trivial)
    · intro _
      refine t_rg0 ?_
      refine t_no ?_
      refine t_g0 ?_
      refine t_r ?_
      simp [go_sem, hP, hgl, hn] <;> (try omega)
  | fn a b iha ihb => exact hp.elim

theorem MV.fit_list {v : MV} (h : v.dv.fit) : v.listF.length ≤ 2147483648 := by
  rw [MV.dv, MV.cells_eq] at h
  simp only [DV.fit, DV.fit.fits, ints_length, BIG] at h
  exact h.2.1.1
theorem plain6_ok {a : T} {v : MV} {x : a.V} (h : MVT a v x) (hp : a.plain) : Con1 Tryz.prog gl 114 [v.dv, a.ty.dv] [] (valOf a x).dv [] := by
  induction a generalizing v with
  | nat =>
    obtain rfl := mvt_nat h
    rw [valOf_nat, T.ty_nat]
    have hq : (MV.num x).numF = Int.ofNat x := rfl
    generalize MV.num x = m at *
    refine t_in Tryz.func114 ?_
    intro X hP hgl hf hfn hn hR hids hfit
    refine t_g0 ?_
    refine t_r ?_
    simp [go_sem, hP, hgl, hn, hq] <;> (try omega)
    all_goals exact t_f
  | list =>
    obtain rfl := mvt_list h
    rw [valOf_list, T.ty_list]
    have hq : (MV.list x).listF = List.map Int.ofNat x := rfl
    generalize MV.list x = m at *
    refine t_in Tryz.func114 ?_
    intro X hP hgl hf hfn hn hR hids hfit
    have hl := MV.fit_list (hfit m.dv (by simp))
    refine t_g0 ?_
    refine t_r ?_
    simp [go_sem, hP, hgl, hn, hq] <;> (try omega)
    all_goals exact t_f
  | unit =>
    rw [valOf_unit, T.ty_unit]
    refine t_in Tryz.func114 ?_
    intro X hP hgl hf hfn hn hR hids hfit
    refine t_g0 ?_
    refine t_r ?_
    simp [go_sem, hP, hgl, hn] <;> (try omega)
    all_goals exact t_f
  | pair a b iha ihb =>
    obtain ⟨y, z, rfl, hy, hz⟩ := mvt_pair h
    have w1 := iha hy hp.1
    have w2 := ihb hz hp.2
    rw [valOf_pair, T.ty_pair]
    have fa := Ty.fold a.ty
    have fb := Ty.fold b.ty
    have fy := MV.fold y
    have fz := MV.fold z
    generalize a.ty = ta at *
    generalize b.ty = tb at *
    refine t_in Tryz.func114 ?_
    intro X hP hgl hf hfn hn hR hids hfit
    refine t_g0 ?_
    refine t_c2 (j2 @fa (j2 @fb (j2 @fy @fz))) w1 w2 ?_
    refine t_r ?_
    simp [go_sem, hP, hgl, hn] <;> (try omega)
    all_goals exact t_f
  | fn a b iha ihb => exact hp.elim
end Go.Proofs.YtiacandbafjlfaaGreatDoor.Lift

namespace Go.Proofs.YtiacandbafjlfaaGreatDoor.Lift
set_option linter.unusedSimpArgs false
set_option linter.unusedVariables false
set_option linter.unnecessarySimpa false
open Go

/-! closed functions of several plain arguments, and what a call of them leaves -/

def FnT : List T → T → T
  | [], r => r
  | a :: l, r => .fn a (FnT l r)
def appl : (l : List T) → {r : T} → (FnT l r).V → Env l → r.V
  | [], _, f, _ => f
  | _ :: l, _, f, e => appl l (f e.1) e.2
def valsOf : (l : List T) → Env l → List Val
  | [], _ => []
  | a :: l, e => valOf a e.1 :: valsOf l e.2
def mvsOf : (l : List T) → Env l → List MV
  | [], _ => []
  | a :: l, e => ofM a e.1 :: mvsOf l e.2
def Plains : List T → Prop
  | [] => True
  | a :: l => a.plain ∧ a.ok ∧ Plains l

theorem valsOf_len : ∀ (l : List T) (X : Env l), (valsOf l X).length = l.length
  | [], _ => rfl
  | a :: l, X => by simp only [valsOf, List.length_cons, valsOf_len l X.2]
theorem mvsOf_len : ∀ (l : List T) (X : Env l), (mvsOf l X).length = l.length
  | [], _ => rfl
  | a :: l, X => by simp only [mvsOf, List.length_cons, mvsOf_len l X.2]
theorem args_at {r : T} : ∀ (l : List T) (X : Env l) (i : Nat), i < l.length → Plains l → ∃ (a : T) (x : a.V), (valsOf l X)[i]? = some (valOf a x) ∧ (mvsOf l X)[i]? = some (ofM a x) ∧ FnT (l.drop i) r = .fn a (FnT (l.drop (i + 1)) r) ∧ a.plain ∧ a.ok
  | [], X, i, h, _ => absurd h (Nat.not_lt_zero _)
  | a :: l, X, 0, h, hp => ⟨a, X.1, rfl, rfl, rfl, hp.1, hp.2.1⟩
  | a :: l, X, i + 1, h, hp => by
    obtain ⟨b, x, h1, h2, h3, h4⟩ := args_at (r := r) l X.2 i (by simpa using h) hp.2.2
    exact ⟨b, x, by simpa [valsOf] using h1, by simpa [mvsOf] using h2, by simpa using h3, h4⟩

theorem valOf_check {a : T} (x : a.V) (hp : a.plain) (hs : a.ok) : (valOf a x).checkN = 0 := by
  obtain ⟨v1, v2⟩ := valOf_nodes a x hp
  have hs : a.size ≤ 64 := hs
  unfold Val.checkN
  rw [if_pos v1, if_neg (by rw [Val.nodes_count _ v1]; omega)]
theorem valOf_ty : ∀ (a : T) (x : a.V), a.plain → (valOf a x).tyN = a.ty
  | .nat, n, _ => by rw [Val.tyN_eq]; rfl
  | .list, l, _ => by rw [Val.tyN_eq]; rfl
  | .unit, _, _ => by rw [Val.tyN_eq]; rfl
  | .pair a b, p, h => by
    rw [Val.tyN_eq, valOf_pair]
    simp only [Val.kind, Val.args, List.map_cons, List.map_nil, valOf_ty a p.1 h.1, valOf_ty b p.2 h.2]
    rfl
  | .fn _ _, _, h => h.elim
theorem valOf_typeE {a : T} (x : a.V) (hp : a.plain) (hs : a.ok) : (valOf a x).typeE = (a.ty, 0) := by
  unfold Val.typeE
  rw [valOf_check x hp hs, valOf_ty a x hp]
  rfl

theorem typeE_dn {t : Tm} {a : T} {F : Env [] → a.V} (h : Dn [] t a F) : t.typeE [] = (a.ty, 0) ∨ (t.typeE []).2 = 4 := by
  have hc : ctxN [] = 0 := rfl
  unfold Tm.typeE Tm.typedE
  rw [if_pos hc]
  by_cases h0 : t.checkN = 0
  · rw [if_pos h0]
    exact infer_of_dn h
  · rw [if_neg h0]
    right
    have hs := dn_shape h
    unfold Tm.checkN at h0 ⊢
    rw [if_pos hs] at h0 ⊢
    split at h0
    · rename_i hq; rw [if_pos hq]
    · exact absurd rfl h0

/-- a closure called with some values, one after the other -/
def callsRun (ev : Ev6) : MV → List MV → Int → Rn
  | r, [], u => some (r, u, false)
  | r, x :: l, u => match callRun ev r x u with
    | none => none
    | some (v, u1, true) => some (v, u1, true)
    | some (v, u1, false) => callsRun ev v l u1
/-- a closed function called -/
def call6N (most : Int) (t : Tm) (xs : List MV) : Rn :=
  match ev6 most (most.toNat + 1) t [] 0 with
  | none => none
  | some (v, u, true) => some (v, u, true)
  | some (v, u, false) => callsRun (ev6 most (most.toNat + 1)) v xs u

theorem callsRun_out {most : Int} {d : Nat} {ev : Ev6} (H : Evs most d ev) : ∀ (l : List T) {r : T} {f : MV} {F : (FnT l r).V} (X : Env l) {u : Int}, MVT (FnT l r) f F → Plains l → u ≤ most → most - u < d →
    Out most (fun v => MVT r v (appl l F X)) u (callsRun ev f (mvsOf l X) u)
  | [], r, f, F, X, u, hf, hp, hu, hd => ⟨f, u, false, rfl, by omega, hu, fun _ => hf⟩
  | a :: l, r, f, F, X, u, hf, hp, hu, hd => by
    obtain ⟨g, u1, o1, h1, l1, m1, q1⟩ := callRun_out H hf (ofM_typed a X.1 hp.1) hu hd
    simp only [mvsOf, callsRun, h1]
    cases o1 with
    | true => exact ⟨g, u1, true, rfl, l1, m1, fun h => by cases h⟩
    | false => exact (callsRun_out H l X.2 (q1 rfl) hp.2.2 m1 (by omega)).mono l1 fun _ h => h
theorem call6_out {most : Int} (hm : 0 ≤ most) {t : Tm} {l : List T} {r : T} {F : Env [] → (FnT l r).V} (h : Dn [] t (FnT l r) F) (X : Env l) (hp : Plains l) :
    Out most (fun v => MVT r v (appl l (F ()) X)) 0 (call6N most t (mvsOf l X)) := by
  have H := ev6_ok most (most.toNat + 1)
  obtain ⟨v, u, o, h1, l1, m1, q1⟩ := H h .nil hm (by omega)
  unfold call6N
  rw [h1]
  cases o with
  | true => exact ⟨v, u, true, rfl, l1, m1, fun h => by cases h⟩
  | false => exact (callsRun_out H l X (q1 rfl) hp m1 (by omega)).mono l1 fun _ h => h

/-- what a call returns: the value, the work, the error -/
def callOut (t : Tm) (l : List T) {r : T} (F : (FnT l r).V) (X : Env l) (work : Int) : Val × Int × Int :=
  if (t.typeE []).2 = 0 then match call6N work t (mvsOf l X) with
    | some (_, u, false) => (valOf r (appl l F X), u, 0)
    | _ => (zeroV, 0, 5)
  else (zeroV, 0, (t.typeE []).2)
theorem callOut_err {t : Tm} {l : List T} {r : T} {F : Env [] → (FnT l r).V} (h : Dn [] t (FnT l r) F) (X : Env l) (work : Int) :
    (callOut t l (F ()) X work).2.2 = 4 ∨ (callOut t l (F ()) X work).2.2 = 5 ∨ ((callOut t l (F ()) X work).2.2 = 0 ∧ (callOut t l (F ()) X work).1 = valOf r (appl l (F ()) X)) := by
  unfold callOut
  by_cases h0 : (t.typeE []).2 = 0
  · rw [if_pos h0]
    split
    · exact .inr (.inr ⟨rfl, rfl⟩)
    · exact .inr (.inl rfl)
  · rw [if_neg h0]
    rcases typeE_dn h with h1 | h1
    · rw [h1] at h0; exact absurd rfl h0
    · exact .inl h1
end Go.Proofs.YtiacandbafjlfaaGreatDoor.Lift

namespace Go.Proofs.YtiacandbafjlfaaGreatDoor.Lift
set_option linter.unusedSimpArgs false
set_option linter.unusedVariables false
set_option linter.unnecessarySimpa false
open Go
variable {gl : Globs}

/-! sizes of what is drawn, and of the terms of values -/
theorem shape_tys (t : Tm) (h : t.shape = true) : t.tys := by
  induction t using Tm.ind with
  | h t ih =>
  obtain ⟨-, -, -, h4, h5⟩ := Tm.shape_node h
  rw [Tm.tys_eq]
  refine ⟨?_, fun a ha => ih a ha (h5 a ha)⟩
  split at h4
  · have := h4.2; omega
  · unfold Ty.zero at h4
    simp at h4
    rw [Ty.count_eq, h4.2]
    decide

theorem pickD_count {l : List Int} {t : Ty} {g : List Ty} {p q : Nat} {x : Tm} (h : pickD l t g p = (some x, q)) : x.count = 1 := by
  obtain ⟨i, rfl, -⟩ := pickD_some h
  rfl
theorem numD_count (l : List Int) (p : Nat) : (numD l p).1.count ≤ 3 := by
  have := nextD_bd (l := l) (p := p) (n := 3) (by decide)
  show (numTm _).count ≤ 3
  rw [numTm_count]
  omega
theorem leafD_count (l : List Int) (t : Ty) : t.small → ∀ (g : List Ty) (p : Nat), (leafD l t g p).1.count ≤ 3 * t.count := by
  generalize hn : t.count = n
  induction n using Nat.strongRecOn generalizing t with
  | _ n ih =>
  intro ht g p
  have h1 : 1 ≤ t.count := by rw [Ty.count_eq]; omega
  rw [leafD_eq l t g p ht.ok]
  split
  · rename_i x q hx
    have := pickD_count hx
    simp only; omega
  · rename_i q hx
    have hN := numD_count l q
    rcases small_kinds ht with ⟨h, e⟩ | ⟨h, e⟩ | ⟨h, e⟩ | ⟨h, e⟩ | ⟨h, e⟩
    · rw [if_pos h]; omega
    · rw [if_neg (by omega), if_pos h]; show 1 + 0 ≤ _; omega
    · rw [if_neg (by omega), if_neg (by omega), if_neg (by omega), if_neg (by omega)]; show 1 + 0 ≤ _; omega
    · rw [if_neg (by omega), if_neg (by omega), if_pos h]
      obtain ⟨s0, s1, hc⟩ := ht.arg (.inl h)
      have a := ih _ (by omega) (t.arg 0) rfl s0 g q
      have b := ih _ (by omega) (t.arg 1) rfl s1 g (leafD l (t.arg 0) g q).2
      show 1 + (_ + (_ + 0)) ≤ _
      omega
    · rw [if_neg (by omega), if_neg (by omega), if_neg (by omega), if_pos h]
      obtain ⟨s0, s1, hc⟩ := ht.arg (.inr h)
      have b := ih _ (by omega) (t.arg 1) rfl s1 (g ++ [t.arg 0]) q
      show 1 + (_ + 0) ≤ _
      omega

def Small (l : List Int) (F : Ty → List Ty → Nat → Tm × Nat) (B : Nat) : Prop := ∀ t g p, t.small → (∀ x ∈ g, x.small) → p ≤ l.length → (F t g p).1.count ≤ B
theorem plusT_count : plusT.count = 9 := by decide
theorem subT_count : subT.count ≤ 16 := by decide
theorem app2_count (f x y : Tm) : (appsT f [x, y]).count = 2 + f.count + x.count + y.count := by
  show 1 + ((1 + (f.count + (x.count + 0))) + (y.count + 0)) = _
  omega
theorem endD_count {l : List Int} {F : Ty → List Ty → Nat → Tm × Nat} {B : Nat} (hD : Draws l F (fun _ _ x => x.shape = true)) (hF : Small l F B) : Small l (endD l F) (2 * B + 20) := by
  intro t g q ht hg hq
  have h5 := nextD_le (n := 5) hq
  have h2 := nextD_le (n := 2) hq
  have c1 := hF t g (nextD l q 5).2 ht hg h5
  have d1 := (hD t g (nextD l q 5).2 ht hg h5).1
  have c2 := hF t g _ ht hg d1
  have e1 := hF (Ty.mk 1 []) g (nextD l q 2).2 small_nat hg h2
  have f1 := (hD (Ty.mk 1 []) g (nextD l q 2).2 small_nat hg h2).1
  have e2 := hF t g _ ht hg f1
  have hN := numD_count l (nextD l q 5).2
  have hp := plusT_count
  have hs := subT_count
  unfold endD
  split
  · split
    · show 1 + (_ + 0) ≤ _; omega
    split
    · simp only [app2_count]; omega
    split
    · simp only [app2_count]; omega
    · omega
  split
  · split
    · show 1 + (_ + (_ + 0)) ≤ _; omega
    · show 1 + 0 ≤ _; omega
  split
  · rename_i h
    obtain ⟨s0, s1, -⟩ := ht.arg (.inl h)
    have a1 := hF (t.arg 0) g q s0 hg hq
    have a2 := hF (t.arg 1) g _ s1 hg (hD (t.arg 0) g q s0 hg hq).1
    show 1 + (_ + (_ + 0)) ≤ _; omega
  split
  · rename_i h
    obtain ⟨s0, s1, -⟩ := ht.arg (.inr h)
    have a2 := hF (t.arg 1) (g ++ [t.arg 0]) q s1 (by intro x hx; rcases List.mem_append.1 hx with hx | hx; exact hg x hx; rw [List.mem_singleton.1 hx]; exact s0) hq
    show 1 + (_ + 0) ≤ _; omega
  · show 1 + 0 ≤ _; omega
theorem stepD_count {l : List Int} {F : Ty → List Ty → Nat → Tm × Nat} {B : Nat} (hD : Draws l F (fun _ _ x => x.shape = true)) (hF : Small l F B) (k : Int) : Small l (fun t g p => stepD l F t g k p) (3 * B + 20) := by
  intro t g p ht hg hp
  have hg1 : ∀ a : List Ty, (∀ x ∈ a, x.small) → ∀ x ∈ g ++ a, x.small := by
    intro a ha x hx
    rcases List.mem_append.1 hx with hx | hx
    · exact hg x hx
    · exact ha x hx
  have hE := endD_count hD hF t g p ht hg hp
  obtain ⟨s1, s2⟩ := typeD_small l (n := 0) hp (by decide)
  show (stepD l F t g k p).1.count ≤ _
  unfold stepD
  split
  · have gs := hg1 [(typeD l 0 p).1] (by simpa using s2)
    have a := hF t _ _ ht gs s1
    have b := hF _ g _ s2 hg (hD t _ _ ht gs s1).1
    show 1 + ((1 + (_ + 0)) + (_ + 0)) ≤ _; omega
  split
  · have a := hF t g _ ht hg s1
    have b := hF _ g _ s2 hg (hD t g _ ht hg s1).1
    show 1 + ((1 + (_ + (_ + 0))) + 0) ≤ _; omega
  split
  · have gs := hg1 [Ty.mk 1 [], t] (by intro x hx; simp at hx; rcases hx with rfl | rfl; exact small_nat; exact ht)
    have d := (hD t _ _ ht gs hp).1
    have a := hF t _ _ ht gs hp
    have b := hF t g _ ht hg d
    have c := numD_count l (F t g (F t (g ++ [Ty.mk 1 [], t]) p).2).2
    show 1 + (_ + ((1 + ((1 + (_ + 0)) + 0)) + (_ + 0))) ≤ _; omega
  split
  · have gs := hg1 [Ty.mk 1 [], Ty.mk 2 [], t] (by intro x hx; simp at hx; rcases hx with rfl | rfl | rfl; exact small_nat; exact small_list; exact ht)
    have d := (hD t _ _ ht gs hp).1
    have a := hF t _ _ ht gs hp
    have b := hF t g _ ht hg d
    have c := hF (Ty.mk 2 []) g _ small_list hg (hD t g _ ht hg d).1
    show 1 + (_ + ((1 + ((1 + ((1 + (_ + 0)) + 0)) + 0)) + (_ + 0))) ≤ _; omega
  split
  · have a := hF _ g _ s2 hg s1
    have b := hF t g _ ht hg (hD _ g _ s2 hg s1).1
    show 1 + ((1 + (_ + (_ + 0))) + 0) ≤ _; omega
  split
  · split
    · rename_i i hi
      obtain ⟨f1, f2, f3⟩ := funN_some hi
      obtain ⟨c0, c1, -⟩ := (hg _ (varTy_mem f1).1).arg (.inr f2)
      have a := hF _ g _ c0 hg hp
      show 1 + ((1 + 0) + (_ + 0)) ≤ _; omega
    · omega
  · omega
def drawB : Nat → Nat
  | 0 => 45
  | n + 1 => 3 * drawB n + 20
theorem termD_count (l : List Int) : ∀ n, Small l (termD l n) (drawB n)
  | 0 => by intro t g p ht hg hp; have := leafD_count l t ht g p; have := ht.2; show _ ≤ 45; simp only [termD]; omega
  | n + 1 => by
    intro t g p ht hg hp
    have hq := pickD_le (t := t) (g := g) hp
    have ih := stepD_count (termD_facts closed_shape n) (termD_count l n)
    unfold termD
    split
    · rename_i x q hx
      have := pickD_count hx
      simp only [drawB]; omega
    · rename_i q hx
      rw [hx] at hq
      exact ih _ t g _ ht hg (nextD_le hq)

end Go.Proofs.YtiacandbafjlfaaGreatDoor.Lift

namespace Go.Proofs.YtiacandbafjlfaaGreatDoor.Lift
set_option linter.unusedSimpArgs false
set_option linter.unusedVariables false
set_option linter.unnecessarySimpa false
open Go

/-! functions of plain types with values for them, as they are drawn -/
theorem plainD_T (l : List Int) (p : Nat) : ∃ a : T, (plainD l p).1 = a.ty ∧ a.plain ∧ a.size ≤ 3 := by
  rcases plainD_cases l p with h | h | h | h | h
  · exact ⟨.nat, h, trivial, by decide⟩
  · exact ⟨.list, h, trivial, by decide⟩
  · exact ⟨.unit, h, trivial, by decide⟩
  · exact ⟨.pair .nat .list, h, ⟨trivial, trivial⟩, by decide⟩
  · exact ⟨.pair .nat .nat, h, ⟨trivial, trivial⟩, by decide⟩
theorem plainD_le {l : List Int} {p : Nat} (h : p ≤ l.length) : (plainD l p).2 ≤ l.length := nextD_le (n := 6) h

end Go.Proofs.YtiacandbafjlfaaGreatDoor.Lift

namespace Go.Proofs.YtiacandbafjlfaaGreatDoor.Lift
set_option linter.unusedSimpArgs false
set_option linter.unusedVariables false
set_option linter.unnecessarySimpa false
open Go
variable {gl : Globs}

theorem lam24_ok (s : Ty) (b : Tm) : Con1 Tryz.prog gl 97 [s.dv, b.dv] [] (Tm.mk 2 0 s [b]).dv [] := by
  refine t_in Tryz.func97 ?_
  intro X hP hgl hf hfn hn hR hids hfit
  refine t_g0 ?_
  refine t_r ?_
  simp [go_sem, hP, hgl, hn] <;> (try omega)
  all_goals exact t_f

end Go.Proofs.YtiacandbafjlfaaGreatDoor.Lift

namespace Go.Proofs.YtiacandbafjlfaaGreatDoor.Lift
set_option linter.unusedSimpArgs false
set_option linter.unusedVariables false
set_option linter.unnecessarySimpa false
open Go
variable {gl : Globs}

theorem allRun_split {ev : Ev6} {e : List MV} {x : Tm} {rest : List Tm} : ∀ (done : List Tm) {u : Int} {r : List MV × Int × Bool} {vs : List MV} {uk : Int}, allRun ev (done ++ x :: rest) e u = some r → allRun ev done e u = some (vs, uk, false) →
    ∃ v u1 o, ev x e uk = some (v, u1, o) ∧ (o = true → r.2.1 = u1 ∧ r.2.2 = true) ∧ (o = false → allRun ev (done ++ [x]) e u = some (vs ++ [v], u1, false))
  | [], u, r, vs, uk, h, hd => by
    simp only [allRun, Option.some.injEq, Prod.mk.injEq] at hd
    obtain ⟨rfl, rfl, -⟩ := hd
    simp only [List.nil_append, allRun] at h ⊢
    split at h
    · cases h
    · rename_i v1 u1 h1
      obtain rfl := Option.some.inj h
      exact ⟨v1, u1, true, h1, fun _ => ⟨rfl, rfl⟩, fun h => by cases h⟩
    · rename_i v1 u1 h1
      exact ⟨v1, u1, false, h1, fun h => (by cases h), fun _ => (by simp only [h1])⟩
  | t :: done, u, r, vs, uk, h, hd => by
    simp only [List.cons_append, allRun] at h hd ⊢
    split at hd
    · cases hd
    · simp at hd
    · rename_i v1 u1 h1
      simp only [h1] at h ⊢
      split at hd
      · cases hd
      · rename_i vs2 u2 o2 h2
        simp only [Option.some.injEq, Prod.mk.injEq] at hd
        obtain ⟨rfl, rfl, rfl⟩ := hd
        split at h
        · cases h
        · rename_i vs3 u3 o3 h3
          obtain ⟨v, u4, o4, g1, g2, g3⟩ := allRun_split done h3 h2
          obtain rfl := Option.some.inj h
          exact ⟨v, u4, o4, g1, g2, fun h => by simp only [g3 h]; rfl⟩
def vsD (ev : Ev6) (e : List MV) (u : Int) (l : List Tm) : List MV := ((allRun ev l e u).getD ([], 0, false)).1
def ukD (ev : Ev6) (e : List MV) (u : Int) (l : List Tm) : Int := ((allRun ev l e u).getD ([], 0, false)).2.1
theorem allD {ev : Ev6} {e : List MV} {u : Int} {l : List Tm} (h : ∃ vs uk, allRun ev l e u = some (vs, uk, false)) : allRun ev l e u = some (vsD ev e u l, ukD ev e u l, false) := by
  obtain ⟨vs, uk, h⟩ := h
  simp only [vsD, ukD, h, Option.getD_some]
theorem allRun_len {ev : Ev6} {e : List MV} : ∀ {l : List Tm} {u : Int} {vs : List MV} {uk : Int}, allRun ev l e u = some (vs, uk, false) → vs.length = l.length
  | [], u, vs, uk, h => by
    simp only [allRun, Option.some.injEq, Prod.mk.injEq] at h
    obtain ⟨rfl, -, -⟩ := h
    rfl
  | t :: l, u, vs, uk, h => by
    simp only [allRun] at h
    split at h
    · cases h
    · simp at h
    · rename_i v1 u1 h1
      split at h
      · cases h
      · rename_i vs2 u2 o2 h2
        simp only [Option.some.injEq, Prod.mk.injEq] at h
        obtain ⟨rfl, rfl, rfl⟩ := h
        simp [allRun_len h2]
theorem vsD_nil (ev : Ev6) (e : List MV) (u : Int) : vsD ev e u [] = [] := rfl
theorem ukD_nil (ev : Ev6) (e : List MV) (u : Int) : ukD ev e u [] = u := rfl
theorem num_dv (n : Nat) : (MV.num n).dv = .agg [dint (n : Int), .sl [], .sl [], dint 0, dint 0, dint 0, .sl [], .sl [], .sl []] := by rw [MV.dv, MV.cells]
theorem list_dv (l : List Nat) : (MV.list l).dv = .agg [dint 0, .sl (ints (l.map Int.ofNat)), .sl [], dint 0, dint 0, dint 0, .sl [], .sl [], .sl []] := by rw [MV.dv, MV.cells]
theorem both_dv (a b : MV) : (MV.both a b).dv = .agg [dint 0, .sl [], .sl [a.cells, b.cells], dint 0, dint 0, dint 0, .sl [], .sl [], .sl []] := by rw [MV.dv, MV.cells]
theorem unit_dv : MV.unit.dv = .agg [dint 0, .sl [], .sl [], dint 0, dint 0, dint 0, .sl [], .sl [], .sl []] := by rw [MV.dv, MV.cells]
theorem clo_dv (b : Tm) (e : List MV) : (MV.clo b e).dv = .agg [dint 0, .sl [], .sl [], dint b.kind, dint b.index, dint b.type.kind, .sl (List.map Ty.cells b.type.args), .sl (List.map Tm.cells b.args), .sl (e.reverse.map MV.cells)] := by rw [MV.dv, MV.cells, MV.cellss_map, List.map_reverse]
theorem zero_dv : zeroM.dv = .agg [dint 0, .sl [], .sl [], dint 0, dint 0, dint 0, .sl [], .sl [], .sl []] := by rw [zeroM, num_dv]; rfl
end Go.Proofs.YtiacandbafjlfaaGreatDoor.Lift

/-
  Part V of the small logic: a slice literal that is one's own (it may be appended to).
-/
namespace Go.Proofs.YtiacandbafjlfaaGreatDoor.Lift
set_option linter.unusedSimpArgs false
set_option linter.unusedVariables false
set_option linter.unnecessarySimpa false
open Go
section
variable {X : Ctx} {s : St}

theorem step_litO {o : Oper} {t len E B : Nat} {parts : Array (Nat × Operand)} (ho : o.op = .buildSlice t len parts) {d : Nat} (hd : o.dst = some d) (hn : d < X.n) (hd0 : d ≠ 0) (hf : freshT d s = true) (he : elemZ X.P t = some (E, B)) {els : List (List DV)}
    (h : litEls X (get s) E 0 parts.toList = some els) (hc : els.length = len ∧ len * E ≤ 16777216 ∧ len ≤ BIG) : StepOK X s o (upd (upd (del s (.tok 0)) (.slot d) (.one (.own d els))) (.tok d) (.tk E len)) := by
  intro G a w R next Q hK
  obtain ⟨c, e, h1, h2, h3⟩ := buildSlice_run R he h hc.1 hc.2.1 hc.2.2
  refine opIn (by intro c e; rw [ho] at e; cases e) ?_
  simp only [execOp, ho, Sem.run_bind, h1, Result.andThen_ok, Sem.run_pure, upn_value, hd]
  have hτ0 : (setτ G (withData G.D w.heap.size 0 (len * E)) d (some ⟨w.heap.size, 0, none⟩, len)).τ 0 = (none, 0) := by simp only [setτ, if_neg (Ne.symm hd0)]; exact R.nil
  have T : Trans X G a w (setτ G (withData G.D w.heap.size 0 (len * E)) d (some ⟨w.heap.size, 0, none⟩, len)) a (w.alloc (.cells c e)) (fun _ => False) := trans_data R (hi := len * E) (by omega) rfl hτ0
  refine hK (setτ G (withData G.D w.heap.size 0 (len * E)) d (some ⟨w.heap.size, 0, none⟩, len)) _ _ (R.ownNew (t := 0) hn hf T rfl (fun k hk => by simp [setτ, hk]) (fun b h => h.elim) ?_ ?_ (fun b hb => ?_))
  · simp only [RSV, setτ, if_true]
    rw [← hc.1] at h3 ⊢
    exact ⟨rfl, h3⟩
  · simp only [TokAt, setτ, if_true]
    exact ⟨Nat.le_refl _, fun h => absurd h (Nat.lt_irrefl _)⟩
  · simp [tokBlk, setτ] at hb

theorem vcdC_litO {ops : Array Oper} {s0 : St} {K : St → Prop} {l : List Oper} {k : St → List Ev → Prop} {ev : List Ev} {fp wr : List Loc} {d : Tmp} {t len : Nat} {parts : Array (Nat × Operand)} {ty : TypeId} {pos : String} {af : Array Edge} {q : Option (Prop × St)} {E B : Nat} {els : List (List DV)}
    (hk : ∀ s ev, k s ev → VD X ops s0 l s ev K) (he : elemZ X.P t = some (E, B)) (h : litEls X (get (restr s fp)) E 0 parts.toList = some els) (hc : els.length = len ∧ len * E ≤ 16777216 ∧ len ≤ BIG) (hn : d < X.n) (hd0 : d ≠ 0) (hq : q = none)
    (g : vcdD k ev s fp [d] [(.tok 0, none), (.slot d, some (.one (.own d els))), (.tok d, some (.tk E len))]) :
    vcdC X ops s0 l K k ⟨some d, .buildSlice t len parts, ty, pos, af, none⟩ ev s fp wr q := by
  subst hq
  show VD X ops s0 _ s ev K
  refine VD_step ⟨fp, _, [d]⟩ (fun s' hs hfr => opOK_of (.inl rfl) ?_) (hk _ _ g)
  have hf := fresh_iff (hfr d (by simp))
  exact step_litO (o := ⟨some d, .buildSlice t len parts, ty, pos, af, none⟩) rfl rfl hn hd0 hf.2 he (litEls_mono hs h) hc
end
end Go.Proofs.YtiacandbafjlfaaGreatDoor.Lift

namespace Go.Proofs.YtiacandbafjlfaaGreatDoor.Lift
set_option linter.unusedSimpArgs false
set_option linter.unusedVariables false
set_option linter.unnecessarySimpa false
open Go
variable {gl : Globs}

theorem rev_at {α : Type} {e : List α} {i : Nat} {x : α} (h : e[i]? = some x) : e.reverse[e.length - 1 - i]? = some x := by
  have hi := (List.getElem?_eq_some_iff.1 h).1
  rw [List.getElem?_reverse (by omega), ← h]
  congr 1
  omega

set_option maxHeartbeats 4000000 in
set_option maxRecDepth 100000 in
theorem eval6_step {most : Int} (hm : most ≤ 1073741824) {d : Nat} (H : Walk6 Tryz.prog gl 111 most (ev6 most d)) : Walk6 Tryz.prog gl 111 most (ev6 most (d + 1)) := fun t e u v u' o b M h hu0 hu hM hMb he hel => by
  have B := @ev6_bd most d
  rw [ev6] at h
  have hft := Tm.fold t
  have hlen : e.reverse.length = e.length := List.length_reverse
  unfold mach6
  refine t_in Tryz.func111 ?_
  intro X hP hgl hf hfn hn hR hids hfit
  have hlt := Tm.fit_len (hfit t.dv (by simp))
  by_cases hum : u = most
  · rw [if_pos hum] at h
    simp only [Option.some.injEq, Prod.mk.injEq] at h
    obtain ⟨rfl, rfl, rfl⟩ := h
    subst hum
    refine t_g0 ?_
    repeat (first | refine W_seq ?_ | refine W_skip ?_ | refine W_block ?_ | refine W_inBlock ?_ | refine W_label ?_ | refine W_exit rfl ?_)
    first | refine W_retR hP hf hfn _ ([(b, [dint u, dint u, dbool true])]) (by first | (simp [go_sem, hP, hgl, hn, zero_dv]; done) | (simp [go_sem, hP, hgl, hn, zero_dv]; rfl)) (by simp [go_sem, hP, hgl, hn, zero_dv]) (by simp) ?_ hR.2 | refine W_endR hP hf hfn _ ([(b, [dint u, dint u, dbool true])]) (by first | (simp [go_sem, hP, hgl, hn, zero_dv]; done) | (simp [go_sem, hP, hgl, hn, zero_dv]; rfl)) (by simp [go_sem, hP, hgl, hn, zero_dv]) (by simp) ?_ hR.2
    rw [hR.1]
    refine ⟨?_, by simp [zero_dv]⟩
    try simp [zero_dv]
    try all_goals (simp [Ty.dv, Ty.cells_eq, Ty.kind_mk, Ty.args_mk, Tm.dv, Tm.cells_eq, Tm.kind_mk, Tm.index_mk, Tm.type_mk, Tm.args_mk, Val.dv, Val.cells_eq, Val.kind_mk, Val.num_mk, Val.list_mk, Val.args_mk, ints])
  rw [if_neg hum] at h
  by_cases h1 : t.kind = 1
  · rw [if_pos h1] at h
    split at h
    · rename_i hi0
      split at h
      · rename_i v1 hv
        simp only [Option.some.injEq, Prod.mk.injEq] at h
        obtain ⟨rfl, rfl, rfl⟩ := h
        have hgv := rev_at hv
        have hl1 := (List.getElem?_eq_some_iff.1 hv).1
        generalize e.reverse = r at *
        have hix : (e.length : Int) - 1 - t.index = ((e.length - 1 - t.index.toNat : Nat) : Int) := by omega
        refine t_g (j2 @hum (j2 @h1 (j2 @hlen (j2 @hix @hgv)))) ?_
        repeat (first | refine W_seq ?_ | refine W_skip ?_ | refine W_block ?_ | refine W_inBlock ?_ | refine W_label ?_ | refine W_exit rfl ?_)
        first | refine W_retR hP hf hfn _ ([(b, [dint (u + 1), dint most, dbool false])]) (by first | (simp [go_sem, hP, hgl, hn]; done) | (simp [go_sem, hP, hgl, hn]; rfl)) (by simp [go_sem, hP, hgl, hn]) (by simp) ?_ hR.2 | refine W_endR hP hf hfn _ ([(b, [dint (u + 1), dint most, dbool false])]) (by first | (simp [go_sem, hP, hgl, hn]; done) | (simp [go_sem, hP, hgl, hn]; rfl)) (by simp [go_sem, hP, hgl, hn]) (by simp) ?_ hR.2
        rw [hR.1]
        refine ⟨?_, by simp⟩
        try simp
        try all_goals (simp [Ty.dv, Ty.cells_eq, Ty.kind_mk, Ty.args_mk, Tm.dv, Tm.cells_eq, Tm.kind_mk, Tm.index_mk, Tm.type_mk, Tm.args_mk, Val.dv, Val.cells_eq, Val.kind_mk, Val.num_mk, Val.list_mk, Val.args_mk, ints])
      · cases h
    · cases h
  rw [if_neg h1] at h
  by_cases h2 : t.kind = 2
  · rw [if_pos h2] at h
    split at h
    · rename_i body r hargs
      simp only [Option.some.injEq, Prod.mk.injEq] at h
      obtain ⟨rfl, rfl, rfl⟩ := h
      have hg0 : t.args[0]? = some body := by rw [hargs]; rfl
      refine t_g (j2 @hum (j2 @h1 (j2 @h2 @hg0))) ?_
      repeat (first | refine W_seq ?_ | refine W_skip ?_ | refine W_block ?_ | refine W_inBlock ?_ | refine W_label ?_ | refine W_exit rfl ?_)
      first | refine W_retR hP hf hfn _ ([(b, [dint (u + 1), dint most, dbool false])]) (by first | (simp [go_sem, hP, hgl, hn, clo_dv]; done) | (simp [go_sem, hP, hgl, hn, clo_dv]; rfl)) (by simp [go_sem, hP, hgl, hn, clo_dv]) (by simp) ?_ hR.2 | refine W_endR hP hf hfn _ ([(b, [dint (u + 1), dint most, dbool false])]) (by first | (simp [go_sem, hP, hgl, hn, clo_dv]; done) | (simp [go_sem, hP, hgl, hn, clo_dv]; rfl)) (by simp [go_sem, hP, hgl, hn, clo_dv]) (by simp) ?_ hR.2
      rw [hR.1]
      refine ⟨?_, by simp [clo_dv]⟩
      try simp [clo_dv]
      try all_goals (simp [Ty.dv, Ty.cells_eq, Ty.kind_mk, Ty.args_mk, Tm.dv, Tm.cells_eq, Tm.kind_mk, Tm.index_mk, Tm.type_mk, Tm.args_mk, Val.dv, Val.cells_eq, Val.kind_mk, Val.num_mk, Val.list_mk, Val.args_mk, ints])
    · cases h
  rw [if_neg h2] at h
  obtain ⟨r, hall⟩ : ∃ r, allRun (ev6 most d) t.args e (u + 1) = some r := by
    cases hq : allRun (ev6 most d) t.args e (u + 1) with
    | none => rw [hq] at h; cases h
    | some r => exact ⟨r, rfl⟩
  rw [hall] at h
  obtain ⟨el, hela⟩ : ∃ el, el = e.reverse := ⟨_, rfl⟩
  refine t_g (j2 @hum (j2 @h1 @h2)) ?_
  refine t_a ?_
  refine t_sub [(1007, 0)] (j2 @vsD_nil @ukD_nil) (W_listI (t.args) (fun done => (∃ vs uk, allRun (ev6 most d) done e (u + 1) = some (vs, uk, false))) (fun done rest => [(.slot 66, .one (.v (dint done.length))), (.slot 65, .one (.v (dint t.args.length))), (.slot 64, .one (.v (.sl (t.args.map Tm.cells)))), (.slot 0, .one (.v (ptr b))), (.slot 2, .one (.v (.sl (e.reverse.map MV.cells)))), (.slot 4, .one (.loc 4 0)), (.loc 4, .row ([.v (dint t.kind), .v (dint t.index), .v (dint t.type.kind), .v (.sl (t.type.args.map Ty.cells)), .v (.sl (t.args.map Tm.cells))])), (.slot 6, .one (.loc 6 0)), (.loc 6, .row ([.v (dint 0), .own 0 [], .own 0 [], .v (dint 0), .v (dint 0), .v (dint 0), .own 0 [], .own 0 [], .own 0 []])), (.slot 7, .one (.own 1007 ((vsD (ev6 most d) e (u + 1) done).map MV.cells))), (.tok 1007, .tk 9 (vsD (ev6 most d) e (u + 1) done).length), (.heap  b, .row ([.v (dint (ukD (ev6 most d) e (u + 1) done)), .v (dint most), .v (dbool false)]))]) (⟨[], u + 1, rfl⟩) ?_ ?_)
  · intro done x rest hL hg0 hI hnext
    have hlt1 : done.length < t.args.length := by rw [hL]; simp
    have hd := allD hI
    rw [hL] at hall
    obtain ⟨v1, u1, o1, g1, g2, g3⟩ := allRun_split done hall hd
    obtain ⟨b1, b2, b3⟩ := allRun_bd B done hd (by omega) hM he hel
    have hlv := allRun_len hd
    have w := H b M g1 (by omega) b2 hM (by omega) he hel
    unfold mach6 at w
    have hfx := Tm.fold x
    refine t_rg0 ?_
    refine t_yes ?_
    refine t_g @hg0 ?_
    cases o1 with
    | true =>
      obtain ⟨k1, k2⟩ := g2 rfl
      obtain ⟨rv, ru, ro⟩ := r
      simp only at k1 k2
      subst k1 k2
      simp only [Option.some.injEq, Prod.mk.injEq] at h
      obtain ⟨rfl, rfl, rfl⟩ := h
      refine t_c1 (j2 @hg0 @hfx) w ?_
      refine t_g0 ?_
      repeat (first | refine W_seq ?_ | refine W_skip ?_ | refine W_block ?_ | refine W_inBlock ?_ | refine W_label ?_ | refine W_exit rfl ?_)
      first | refine W_retR hP hf hfn _ ([(b, [dint ru, dint most, dbool true])]) (by first | (simp [go_sem, hP, hgl, hn, zero_dv]; done) | (simp [go_sem, hP, hgl, hn, zero_dv]; rfl)) (by simp [go_sem, hP, hgl, hn, zero_dv]) (by simp) ?_ hR.2 | refine W_endR hP hf hfn _ ([(b, [dint ru, dint most, dbool true])]) (by first | (simp [go_sem, hP, hgl, hn, zero_dv]; done) | (simp [go_sem, hP, hgl, hn, zero_dv]; rfl)) (by simp [go_sem, hP, hgl, hn, zero_dv]) (by simp) ?_ hR.2
      rw [hR.1]
      refine ⟨?_, by simp [zero_dv]⟩
      try simp [zero_dv]
      try all_goals (simp [Ty.dv, Ty.cells_eq, Ty.kind_mk, Ty.args_mk, Tm.dv, Tm.cells_eq, Tm.kind_mk, Tm.index_mk, Tm.type_mk, Tm.args_mk, Val.dv, Val.cells_eq, Val.kind_mk, Val.num_mk, Val.list_mk, Val.args_mk, ints])
    | false =>
      have g3 := g3 rfl
      have e1 : vsD (ev6 most d) e (u + 1) (done ++ [x]) = vsD (ev6 most d) e (u + 1) done ++ [v1] := by simp only [vsD, g3, Option.getD_some]
      have e2 : ukD (ev6 most d) e (u + 1) (done ++ [x]) = u1 := by simp only [ukD, g3, Option.getD_some]
      have hv1 := MV.cells_eq v1
      refine t_c1 (j2 @hg0 @hfx) w ?_
      refine t_gt (wr [(1007, 76)]) (j2 @e1 (j2 @e2 (j2 @hlv @hv1))) @hlv (hnext ⟨_, _, g3⟩)
  · intro hI
    have hd := allD hI
    rw [hd] at hall
    obtain rfl := Option.some.inj hall
    simp only at h
    obtain ⟨b1, b2, b3⟩ := allRun_bd B _ hd (by omega) hM he hel
    have hll := allRun_len hd
    clear hall hI
    clear hd
    generalize vsD (ev6 most d) e (u + 1) t.args = l at *
    generalize ukD (ev6 most d) e (u + 1) t.args = u1 at *
    obtain ⟨M2, hM2⟩ : ∃ M2, M2 = M + (u1 - (u + 1)) := ⟨_, rfl⟩
    rw [← hM2] at b3
    have hM20 : 0 ≤ M2 := by omega
    have hM2b : M2 + (most - u1) ≤ 1073741824 := by omega
    unfold nodeRun at h
    refine t_rg0 ?_
    refine t_no ?_
    by_cases h3 : t.kind = 3
    · rw [if_pos h3] at h
      split at h
      · rename_i f x
        simp only [MV.les] at b3
        have w := call6_ok hm H b M2 h (by omega) b2 hM20 hM2b b3.1 b3.2.1
        unfold mach6 at w
        refine t_g @h3 ?_
        refine t_c1 @h3 w ?_
        repeat (first | refine W_seq ?_ | refine W_skip ?_ | refine W_block ?_ | refine W_inBlock ?_ | refine W_label ?_ | refine W_exit rfl ?_)
        first | refine W_retR hP hf hfn _ ([(b, [dint u', dint most, dbool o])]) (by first | (simp [go_sem, hP, hgl, hn]; done) | (simp [go_sem, hP, hgl, hn]; rfl)) (by simp [go_sem, hP, hgl, hn]) (by simp) ?_ hR.2 | refine W_endR hP hf hfn _ ([(b, [dint u', dint most, dbool o])]) (by first | (simp [go_sem, hP, hgl, hn]; done) | (simp [go_sem, hP, hgl, hn]; rfl)) (by simp [go_sem, hP, hgl, hn]) (by simp) ?_ hR.2
        rw [hR.1]
        refine ⟨?_, by simp⟩
        try simp
        try all_goals (simp [Ty.dv, Ty.cells_eq, Ty.kind_mk, Ty.args_mk, Tm.dv, Tm.cells_eq, Tm.kind_mk, Tm.index_mk, Tm.type_mk, Tm.args_mk, Val.dv, Val.cells_eq, Val.kind_mk, Val.num_mk, Val.list_mk, Val.args_mk, ints])
      · cases h
    rw [if_neg h3] at h
    by_cases h4 : t.kind = 4
    · rw [if_pos h4] at h
      simp only [Option.some.injEq, Prod.mk.injEq] at h
      obtain ⟨rfl, rfl, rfl⟩ := h
      have hz : (MV.num 0).dv = _ := zero_dv
      refine t_g @h4 ?_
      repeat (first | refine W_seq ?_ | refine W_skip ?_ | refine W_block ?_ | refine W_inBlock ?_ | refine W_label ?_ | refine W_exit rfl ?_)
      first | refine W_retR hP hf hfn _ ([(b, [dint u1, dint most, dbool false])]) (by first | (simp [go_sem, hP, hgl, hn, hz]; done) | (simp [go_sem, hP, hgl, hn, hz]; rfl)) (by simp [go_sem, hP, hgl, hn, hz]) (by simp) ?_ hR.2 | refine W_endR hP hf hfn _ ([(b, [dint u1, dint most, dbool false])]) (by first | (simp [go_sem, hP, hgl, hn, hz]; done) | (simp [go_sem, hP, hgl, hn, hz]; rfl)) (by simp [go_sem, hP, hgl, hn, hz]) (by simp) ?_ hR.2
      rw [hR.1]
      refine ⟨?_, by simp [hz]⟩
      try simp [hz]
      try all_goals (simp [Ty.dv, Ty.cells_eq, Ty.kind_mk, Ty.args_mk, Tm.dv, Tm.cells_eq, Tm.kind_mk, Tm.index_mk, Tm.type_mk, Tm.args_mk, Val.dv, Val.cells_eq, Val.kind_mk, Val.num_mk, Val.list_mk, Val.args_mk, ints])
    rw [if_neg h4] at h
    by_cases h5 : t.kind = 5
    · rw [if_pos h5] at h
      split at h
      · rename_i n
        simp only [Option.some.injEq, Prod.mk.injEq] at h
        obtain ⟨rfl, rfl, rfl⟩ := h
        simp only [MV.les, MV.le] at b3
        have hz := num_dv (n + 1)
        have hq : ((n + 1 : Nat) : Int) = (n : Int) + 1 := by omega
        rw [hq] at hz
        refine t_g @h5 ?_
        repeat (first | refine W_seq ?_ | refine W_skip ?_ | refine W_block ?_ | refine W_inBlock ?_ | refine W_label ?_ | refine W_exit rfl ?_)
        first | refine W_retR hP hf hfn _ ([(b, [dint u1, dint most, dbool false])]) (by first | (simp [go_sem, hP, hgl, hn, hz]; done) | (simp [go_sem, hP, hgl, hn, hz]; rfl)) (by simp [go_sem, hP, hgl, hn, hz]) (by simp) ?_ hR.2 | refine W_endR hP hf hfn _ ([(b, [dint u1, dint most, dbool false])]) (by first | (simp [go_sem, hP, hgl, hn, hz]; done) | (simp [go_sem, hP, hgl, hn, hz]; rfl)) (by simp [go_sem, hP, hgl, hn, hz]) (by simp) ?_ hR.2
        rw [hR.1]
        refine ⟨?_, by simp [hz]⟩
        try simp [hz]
        try all_goals (simp [Ty.dv, Ty.cells_eq, Ty.kind_mk, Ty.args_mk, Tm.dv, Tm.cells_eq, Tm.kind_mk, Tm.index_mk, Tm.type_mk, Tm.args_mk, Val.dv, Val.cells_eq, Val.kind_mk, Val.num_mk, Val.list_mk, Val.args_mk, ints])
      · cases h
    rw [if_neg h5] at h
    by_cases h6 : t.kind = 6
    · rw [if_pos h6] at h
      split at h
      · rename_i b0 f n
        simp only [MV.les] at b3
        obtain ⟨c1, c2, c3, -⟩ := b3
        simp only [MV.le] at c3
        have hq1 := MV.numF_num n
        have hc1 := MV.cells_eq f
        have hf1 := MV.fold f
        generalize hnn : MV.num n = nn at *
        refine t_g @h6 ?_
        refine t_a ?_
        refine t_sub [] trivial (W_rounds (fun x : Nat × MV × Int × Bool => x.1 ≤ n ∧ u1 ≤ x.2.2.1 ∧ x.2.2.1 ≤ most ∧ x.2.1.le (M2 + (x.2.2.1 - u1)) ∧ (x.2.2.2 = false → recRun (ev6 most d) f (n - x.1) x.1 x.2.1 x.2.2.1 = some (v, u', o)) ∧ (x.2.2.2 = true → v = x.2.1 ∧ u' = x.2.2.1 ∧ o = true)) (fun x : Nat × MV × Int × Bool => [(.slot 0, .one (.v (ptr b))), (.slot 6, .one (.loc 6 0)), (.loc 6, .row ([.v (dint 0), .own 0 [], .own 0 [], .v (dint 0), .v (dint 0), .v (dint 0), .own 0 [], .own 0 [], .own 0 []])), (.slot 7, .one (.v (.sl [b0.cells, f.cells, nn.cells]))), (.slot 10, .one (.loc 10 0)), (.loc 10, .row ([.v (dint x.2.1.numF), .v (.sl (ints x.2.1.listF)), .v (.sl (x.2.1.pairF.map MV.cells)), .v (dint x.2.1.bodyF.kind), .v (dint x.2.1.bodyF.index), .v (dint x.2.1.bodyF.type.kind), .v (.sl (x.2.1.bodyF.type.args.map Ty.cells)), .v (.sl (x.2.1.bodyF.args.map Tm.cells)), .v (.sl (x.2.1.envF.map MV.cells))])), (.slot 11, .one (.v (dint x.1))), (.heap  b, .row ([.v (dint x.2.2.1), .v (dint most), .v (dbool x.2.2.2)]))]) (fun x : Nat × MV × Int × Bool => n - x.1) (0, b0, u1, false) (⟨Nat.zero_le _, Int.le_refl u1, b2, MV.le_mono (by show M2 ≤ M2 + (u1 - u1); omega) c1, fun _ => h, fun h => (by cases h)⟩) ?_)
        rintro ⟨k, r, uk, ok⟩ ⟨i1, i2, i3, i4, i5, i6⟩ ih
        simp only at i1 i2 i3 i4 i5 i6
        have hr1 := MV.fold r
        cases ok with
        | true =>
          obtain ⟨rfl, rfl, rfl⟩ := i6 rfl
          by_cases hk : (k : Int) < n
          · refine t_g (j2 @hk @hq1) ?_
            repeat (first | refine W_seq ?_ | refine W_skip ?_ | refine W_block ?_ | refine W_inBlock ?_ | refine W_label ?_ | refine W_exit rfl ?_)
            first | refine W_retR hP hf hfn _ ([(b, [dint u', dint most, dbool true])]) (by first | (simp [go_sem, hP, hgl, hn]; done) | (simp [go_sem, hP, hgl, hn]; rfl)) (by simp [go_sem, hP, hgl, hn]) (by simp) ?_ hR.2 | refine W_endR hP hf hfn _ ([(b, [dint u', dint most, dbool true])]) (by first | (simp [go_sem, hP, hgl, hn]; done) | (simp [go_sem, hP, hgl, hn]; rfl)) (by simp [go_sem, hP, hgl, hn]) (by simp) ?_ hR.2
            rw [hR.1]
            refine ⟨?_, by simp⟩
            try simp
            try all_goals (simp [Ty.dv, Ty.cells_eq, Ty.kind_mk, Ty.args_mk, Tm.dv, Tm.cells_eq, Tm.kind_mk, Tm.index_mk, Tm.type_mk, Tm.args_mk, Val.dv, Val.cells_eq, Val.kind_mk, Val.num_mk, Val.list_mk, Val.args_mk, ints])
          · refine t_g (j2 @hk @hq1) ?_
            repeat (first | refine W_seq ?_ | refine W_skip ?_ | refine W_block ?_ | refine W_inBlock ?_ | refine W_label ?_ | refine W_exit rfl ?_)
            first | refine W_retR hP hf hfn _ ([(b, [dint u', dint most, dbool true])]) (by first | (simp [go_sem, hP, hgl, hn]; done) | (simp [go_sem, hP, hgl, hn]; rfl)) (by simp [go_sem, hP, hgl, hn]) (by simp) ?_ hR.2 | refine W_endR hP hf hfn _ ([(b, [dint u', dint most, dbool true])]) (by first | (simp [go_sem, hP, hgl, hn]; done) | (simp [go_sem, hP, hgl, hn]; rfl)) (by simp [go_sem, hP, hgl, hn]) (by simp) ?_ hR.2
            rw [hR.1]
            refine ⟨?_, by simp⟩
            try simp
            try all_goals (simp [Ty.dv, Ty.cells_eq, Ty.kind_mk, Ty.args_mk, Tm.dv, Tm.cells_eq, Tm.kind_mk, Tm.index_mk, Tm.type_mk, Tm.args_mk, Val.dv, Val.cells_eq, Val.kind_mk, Val.num_mk, Val.list_mk, Val.args_mk, ints])
        | false =>
          have i5 := i5 rfl
          by_cases hk : (k : Int) < n
          rotate_left
          · have hk0 : n - k = 0 := by omega
            rw [hk0] at i5
            simp only [recRun, Option.some.injEq, Prod.mk.injEq] at i5
            obtain ⟨rfl, rfl, rfl⟩ := i5
            refine t_g (j2 @hk @hq1) ?_
            repeat (first | refine W_seq ?_ | refine W_skip ?_ | refine W_block ?_ | refine W_inBlock ?_ | refine W_label ?_ | refine W_exit rfl ?_)
            first | refine W_retR hP hf hfn _ ([(b, [dint uk, dint most, dbool false])]) (by first | (simp [go_sem, hP, hgl, hn]; done) | (simp [go_sem, hP, hgl, hn]; rfl)) (by simp [go_sem, hP, hgl, hn]) (by simp) ?_ hR.2 | refine W_endR hP hf hfn _ ([(b, [dint uk, dint most, dbool false])]) (by first | (simp [go_sem, hP, hgl, hn]; done) | (simp [go_sem, hP, hgl, hn]; rfl)) (by simp [go_sem, hP, hgl, hn]) (by simp) ?_ hR.2
            rw [hR.1]
            refine ⟨?_, by simp⟩
            try simp
            try all_goals (simp [Ty.dv, Ty.cells_eq, Ty.kind_mk, Ty.args_mk, Tm.dv, Tm.cells_eq, Tm.kind_mk, Tm.index_mk, Tm.type_mk, Tm.args_mk, Val.dv, Val.cells_eq, Val.kind_mk, Val.num_mk, Val.list_mk, Val.args_mk, ints])
          · have hk0 : n - k = (n - (k + 1)) + 1 := by omega
            rw [hk0] at i5
            simp only [recRun] at i5
            have hk1 : ((k + 1 : Nat) : Int) = (k : Int) + 1 := by omega
            split at i5
            · cases i5
            · rename_i g u2 g1
              have w := call6_ok (gl := gl) hm H b (M2 + (uk - u1)) g1 (by omega) i3 (by omega) (by omega) (MV.le_mono (by omega) c2) (by simp only [MV.le]; omega)
              obtain ⟨d1, d2, d3⟩ := callRun_bd B g1 i3 (M := M2 + (uk - u1)) (by omega) (MV.le_mono (by omega) c2) (by simp only [MV.le]; omega)
              simp only [Option.some.injEq, Prod.mk.injEq] at i5
              obtain ⟨rfl, rfl, rfl⟩ := i5
              unfold mach6 at w
              have hkd := num_dv k
              refine t_g (j2 @hk @hq1) ?_
              refine t_c1 (j2 @hkd @hf1) w ?_
              refine t_gt (wr []) @hk1 trivial (ih (k + 1, r, u2, true) ⟨by show k + 1 ≤ n; omega, by show u1 ≤ u2; omega, d2, MV.le_mono (by show _ ≤ M2 + (u2 - u1); omega) i4, fun h => (by cases h), fun _ => ⟨rfl, rfl, rfl⟩⟩ (by show n - (k + 1) < n - k; omega))
            · rename_i g u2 g1
              have w := call6_ok (gl := gl) hm H b (M2 + (uk - u1)) g1 (by omega) i3 (by omega) (by omega) (MV.le_mono (by omega) c2) (by simp only [MV.le]; omega)
              obtain ⟨d1, d2, d3⟩ := callRun_bd B g1 i3 (M := M2 + (uk - u1)) (by omega) (MV.le_mono (by omega) c2) (by simp only [MV.le]; omega)
              have hg1 := MV.fold g
              have hkd := num_dv k
              split at i5
              · cases i5
              · rename_i r2 u3 g2
                have w2 := call6_ok (gl := gl) hm H b (M2 + (u2 - u1)) g2 (by omega) d2 (by omega) (by omega) (MV.le_mono (by omega) d3) (MV.le_mono (by omega) i4)
                obtain ⟨d4, d5, d6⟩ := callRun_bd B g2 d2 (M := M2 + (u2 - u1)) (by omega) (MV.le_mono (by omega) d3) (MV.le_mono (by omega) i4)
                simp only [Option.some.injEq, Prod.mk.injEq] at i5
                obtain ⟨rfl, rfl, rfl⟩ := i5
                unfold mach6 at w w2
                have hr2 := MV.cells_eq r2
                refine t_g (j2 @hk @hq1) ?_
                refine t_c1 (j2 @hkd @hf1) w ?_
                refine t_g0 ?_
                refine t_c1 (j2 @hg1 @hr1) w2 ?_
                refine t_gt (wr []) (j2 @hk1 @hr2) trivial (ih (k + 1, r2, u3, true) ⟨by show k + 1 ≤ n; omega, by show u1 ≤ u3; omega, d5, MV.le_mono (by show _ ≤ M2 + (u3 - u1); omega) d6, fun h => (by cases h), fun _ => ⟨rfl, rfl, rfl⟩⟩ (by show n - (k + 1) < n - k; omega))
              · rename_i r2 u3 g2
                have w2 := call6_ok (gl := gl) hm H b (M2 + (u2 - u1)) g2 (by omega) d2 (by omega) (by omega) (MV.le_mono (by omega) d3) (MV.le_mono (by omega) i4)
                obtain ⟨d4, d5, d6⟩ := callRun_bd B g2 d2 (M := M2 + (u2 - u1)) (by omega) (MV.le_mono (by omega) d3) (MV.le_mono (by omega) i4)
                unfold mach6 at w w2
                have hr2 := MV.cells_eq r2
                refine t_g (j2 @hk @hq1) ?_
                refine t_c1 (j2 @hkd @hf1) w ?_
                refine t_g0 ?_
                refine t_c1 (j2 @hg1 @hr1) w2 ?_
                refine t_gt (wr []) (j2 @hk1 @hr2) trivial (ih (k + 1, r2, u3, false) ⟨by show k + 1 ≤ n; omega, by show u1 ≤ u3; omega, d5, MV.le_mono (by show _ ≤ M2 + (u3 - u1); omega) d6, fun _ => i5, fun h => (by cases h)⟩ (by show n - (k + 1) < n - k; omega))
      · cases h
    rw [if_neg h6] at h
    by_cases h7 : t.kind = 7
    · rw [if_pos h7] at h
      simp only [Option.some.injEq, Prod.mk.injEq] at h
      obtain ⟨rfl, rfl, rfl⟩ := h
      have hz : (MV.list []).dv = .agg [dint 0, .sl [], .sl [], dint 0, dint 0, dint 0, .sl [], .sl [], .sl []] := list_dv []
      refine t_g @h7 ?_
      repeat (first | refine W_seq ?_ | refine W_skip ?_ | refine W_block ?_ | refine W_inBlock ?_ | refine W_label ?_ | refine W_exit rfl ?_)
      first | refine W_retR hP hf hfn _ ([(b, [dint u1, dint most, dbool false])]) (by first | (simp [go_sem, hP, hgl, hn, hz]; done) | (simp [go_sem, hP, hgl, hn, hz]; rfl)) (by simp [go_sem, hP, hgl, hn, hz]) (by simp) ?_ hR.2 | refine W_endR hP hf hfn _ ([(b, [dint u1, dint most, dbool false])]) (by first | (simp [go_sem, hP, hgl, hn, hz]; done) | (simp [go_sem, hP, hgl, hn, hz]; rfl)) (by simp [go_sem, hP, hgl, hn, hz]) (by simp) ?_ hR.2
      rw [hR.1]
      refine ⟨?_, by simp [hz]⟩
      try simp [hz]
      try all_goals (simp [Ty.dv, Ty.cells_eq, Ty.kind_mk, Ty.args_mk, Tm.dv, Tm.cells_eq, Tm.kind_mk, Tm.index_mk, Tm.type_mk, Tm.args_mk, Val.dv, Val.cells_eq, Val.kind_mk, Val.num_mk, Val.list_mk, Val.args_mk, ints])
    rw [if_neg h7] at h
    by_cases h8 : t.kind = 8
    · rw [if_pos h8] at h
      split at h
      · rename_i n rl
        simp only [Option.some.injEq, Prod.mk.injEq] at h
        obtain ⟨rfl, rfl, rfl⟩ := h
        simp only [MV.les, MV.le] at b3
        have hz := list_dv (n :: rl)
        have hq : ints (List.map Int.ofNat (n :: rl)) = [dint (n : Int)] :: ints (List.map Int.ofNat rl) := rfl
        rw [hq] at hz
        have hrl := b3.2.1.1
        refine t_g @h8 ?_
        refine W_regd (by rw [hP]; exact mixed) [146] fun K hK => ?_
        simp [go_sem, hP, hgl, hn]
        refine vcdC_litO (E := 1) (els := [[dint (n : Int)]]) (fun _ _ => vcd_sound) (by simp [go_sem, hP]; rfl) (by simp [go_sem, hP, hgl, hn]) ⟨rfl, by decide, by decide⟩ (by rw [hn]; exact Nat.le_of_ble_eq_true rfl) (by decide) (by rfl) ?_
        simp [go_sem, hP, hgl, hn]
        refine t_e ?_
        clear hK K
        repeat (first | refine W_seq ?_ | refine W_skip ?_ | refine W_block ?_ | refine W_inBlock ?_ | refine W_label ?_ | refine W_exit rfl ?_)
        first | refine W_retR hP hf hfn _ ([(b, [dint u1, dint most, dbool false])]) (by first | (simp [go_sem, hP, hgl, hn, hz]; done) | (simp [go_sem, hP, hgl, hn, hz]; rfl)) (by simp [go_sem, hP, hgl, hn, hz]) (by simp) ?_ hR.2 | refine W_endR hP hf hfn _ ([(b, [dint u1, dint most, dbool false])]) (by first | (simp [go_sem, hP, hgl, hn, hz]; done) | (simp [go_sem, hP, hgl, hn, hz]; rfl)) (by simp [go_sem, hP, hgl, hn, hz]) (by simp) ?_ hR.2
        rw [hR.1]
        refine ⟨?_, by simp [hz]⟩
        try simp [hz]
        try all_goals (simp [Ty.dv, Ty.cells_eq, Ty.kind_mk, Ty.args_mk, Tm.dv, Tm.cells_eq, Tm.kind_mk, Tm.index_mk, Tm.type_mk, Tm.args_mk, Val.dv, Val.cells_eq, Val.kind_mk, Val.num_mk, Val.list_mk, Val.args_mk, ints])
      · cases h
    rw [if_neg h8] at h
    by_cases h10 : t.kind = 10
    · rw [if_neg (show ¬ t.kind = 9 by omega), if_pos h10] at h
      split at h
      · rename_i p q
        simp only [Option.some.injEq, Prod.mk.injEq] at h
        obtain ⟨rfl, rfl, rfl⟩ := h
        have hz := both_dv p q
        have hp1 := MV.cells_eq p
        have hp2 := MV.cells_eq q
        refine t_g @h10 ?_
        repeat (first | refine W_seq ?_ | refine W_skip ?_ | refine W_block ?_ | refine W_inBlock ?_ | refine W_label ?_ | refine W_exit rfl ?_)
        first | refine W_retR hP hf hfn _ ([(b, [dint u1, dint most, dbool false])]) (by first | (simp [go_sem, hP, hgl, hn, hz, hp1, hp2]; done) | (simp [go_sem, hP, hgl, hn, hz, hp1, hp2]; rfl)) (by simp [go_sem, hP, hgl, hn, hz, hp1, hp2]) (by simp) ?_ hR.2 | refine W_endR hP hf hfn _ ([(b, [dint u1, dint most, dbool false])]) (by first | (simp [go_sem, hP, hgl, hn, hz, hp1, hp2]; done) | (simp [go_sem, hP, hgl, hn, hz, hp1, hp2]; rfl)) (by simp [go_sem, hP, hgl, hn, hz, hp1, hp2]) (by simp) ?_ hR.2
        rw [hR.1]
        refine ⟨?_, by simp [hz, hp1, hp2]⟩
        try simp [hz, hp1, hp2]
        try all_goals (simp [Ty.dv, Ty.cells_eq, Ty.kind_mk, Ty.args_mk, Tm.dv, Tm.cells_eq, Tm.kind_mk, Tm.index_mk, Tm.type_mk, Tm.args_mk, Val.dv, Val.cells_eq, Val.kind_mk, Val.num_mk, Val.list_mk, Val.args_mk, ints])
      · cases h
    by_cases h11 : t.kind = 11
    · rw [if_neg (show ¬ t.kind = 9 by omega), if_neg h10, if_pos h11] at h
      split at h
      · rename_i p q
        simp only [Option.some.injEq, Prod.mk.injEq] at h
        obtain ⟨rfl, rfl, rfl⟩ := h
        have hf1 := MV.fold p
        refine t_g @h11 ?_
        repeat (first | refine W_seq ?_ | refine W_skip ?_ | refine W_block ?_ | refine W_inBlock ?_ | refine W_label ?_ | refine W_exit rfl ?_)
        first | refine W_retR hP hf hfn _ ([(b, [dint u1, dint most, dbool false])]) (by first | (simp [go_sem, hP, hgl, hn, hf1]; done) | (simp [go_sem, hP, hgl, hn, hf1]; rfl)) (by simp [go_sem, hP, hgl, hn, hf1]) (by simp) ?_ hR.2 | refine W_endR hP hf hfn _ ([(b, [dint u1, dint most, dbool false])]) (by first | (simp [go_sem, hP, hgl, hn, hf1]; done) | (simp [go_sem, hP, hgl, hn, hf1]; rfl)) (by simp [go_sem, hP, hgl, hn, hf1]) (by simp) ?_ hR.2
        rw [hR.1]
        refine ⟨?_, by simp [hf1]⟩
        try simp [hf1]
        try all_goals (simp [Ty.dv, Ty.cells_eq, Ty.kind_mk, Ty.args_mk, Tm.dv, Tm.cells_eq, Tm.kind_mk, Tm.index_mk, Tm.type_mk, Tm.args_mk, Val.dv, Val.cells_eq, Val.kind_mk, Val.num_mk, Val.list_mk, Val.args_mk, ints])
      · cases h
    by_cases h12 : t.kind = 12
    · rw [if_neg (show ¬ t.kind = 9 by omega), if_neg h10, if_neg h11, if_pos h12] at h
      split at h
      · rename_i p q
        simp only [Option.some.injEq, Prod.mk.injEq] at h
        obtain ⟨rfl, rfl, rfl⟩ := h
        have hf1 := MV.fold q
        refine t_g @h12 ?_
        repeat (first | refine W_seq ?_ | refine W_skip ?_ | refine W_block ?_ | refine W_inBlock ?_ | refine W_label ?_ | refine W_exit rfl ?_)
        first | refine W_retR hP hf hfn _ ([(b, [dint u1, dint most, dbool false])]) (by first | (simp [go_sem, hP, hgl, hn, hf1]; done) | (simp [go_sem, hP, hgl, hn, hf1]; rfl)) (by simp [go_sem, hP, hgl, hn, hf1]) (by simp) ?_ hR.2 | refine W_endR hP hf hfn _ ([(b, [dint u1, dint most, dbool false])]) (by first | (simp [go_sem, hP, hgl, hn, hf1]; done) | (simp [go_sem, hP, hgl, hn, hf1]; rfl)) (by simp [go_sem, hP, hgl, hn, hf1]) (by simp) ?_ hR.2
        rw [hR.1]
        refine ⟨?_, by simp [hf1]⟩
        try simp [hf1]
        try all_goals (simp [Ty.dv, Ty.cells_eq, Ty.kind_mk, Ty.args_mk, Tm.dv, Tm.cells_eq, Tm.kind_mk, Tm.index_mk, Tm.type_mk, Tm.args_mk, Val.dv, Val.cells_eq, Val.kind_mk, Val.num_mk, Val.list_mk, Val.args_mk, ints])
      · cases h
    by_cases h9 : t.kind = 9
    rotate_left
    · rw [if_neg h9, if_neg h10, if_neg h11, if_neg h12] at h
      simp only [Option.some.injEq, Prod.mk.injEq] at h
      obtain ⟨rfl, rfl, rfl⟩ := h
      refine t_g (j2 @h3 (j2 @h4 (j2 @h5 (j2 @h6 (j2 @h7 (j2 @h8 (j2 @h9 (j2 @h10 (j2 @h11 @h12))))))))) ?_
      repeat (first | refine W_seq ?_ | refine W_skip ?_ | refine W_block ?_ | refine W_inBlock ?_ | refine W_label ?_ | refine W_exit rfl ?_)
      first | refine W_retR hP hf hfn _ ([(b, [dint u1, dint most, dbool false])]) (by first | (simp [go_sem, hP, hgl, hn, unit_dv]; done) | (simp [go_sem, hP, hgl, hn, unit_dv]; rfl)) (by simp [go_sem, hP, hgl, hn, unit_dv]) (by simp) ?_ hR.2 | refine W_endR hP hf hfn _ ([(b, [dint u1, dint most, dbool false])]) (by first | (simp [go_sem, hP, hgl, hn, unit_dv]; done) | (simp [go_sem, hP, hgl, hn, unit_dv]; rfl)) (by simp [go_sem, hP, hgl, hn, unit_dv]) (by simp) ?_ hR.2
      rw [hR.1]
      refine ⟨?_, by simp [unit_dv]⟩
      try simp [unit_dv]
      try all_goals (simp [Ty.dv, Ty.cells_eq, Ty.kind_mk, Ty.args_mk, Tm.dv, Tm.cells_eq, Tm.kind_mk, Tm.index_mk, Tm.type_mk, Tm.args_mk, Val.dv, Val.cells_eq, Val.kind_mk, Val.num_mk, Val.list_mk, Val.args_mk, ints])
    rw [if_pos h9] at h
    split at h
    · rename_i b0 f L
      simp only [MV.les] at b3
      obtain ⟨c1, c2, c3, -⟩ := b3
      simp only [MV.le] at c3
      obtain ⟨c3, c4⟩ := c3
      have hq1 := MV.listF_list L
      have hc1 := MV.cells_eq f
      have hf1 := MV.fold f
      generalize hnn : MV.list L = nn at *
      have hL8 := c3
      refine t_g (j2 @h9 @hq1) ?_
      refine t_a ?_
      refine t_sub [] @hq1 (W_rounds (fun x : Nat × MV × Int × Bool => x.1 ≤ L.length ∧ u1 ≤ x.2.2.1 ∧ x.2.2.1 ≤ most ∧ x.2.1.le (M2 + (x.2.2.1 - u1)) ∧ (x.2.2.2 = false → foldRun (ev6 most d) f (L.take x.1).reverse (L.drop x.1) x.2.1 x.2.2.1 = some (v, u', o)) ∧ (x.2.2.2 = true → v = x.2.1 ∧ u' = x.2.2.1 ∧ o = true)) (fun x : Nat × MV × Int × Bool => [(.slot 0, .one (.v (ptr b))), (.slot 6, .one (.loc 6 0)), (.loc 6, .row ([.v (dint 0), .own 0 [], .own 0 [], .v (dint 0), .v (dint 0), .v (dint 0), .own 0 [], .own 0 [], .own 0 []])), (.slot 7, .one (.v (.sl [b0.cells, f.cells, nn.cells]))), (.slot 13, .one (.loc 13 0)), (.loc 13, .row ([.v (dint x.2.1.numF), .v (.sl (ints x.2.1.listF)), .v (.sl (x.2.1.pairF.map MV.cells)), .v (dint x.2.1.bodyF.kind), .v (dint x.2.1.bodyF.index), .v (dint x.2.1.bodyF.type.kind), .v (.sl (x.2.1.bodyF.type.args.map Ty.cells)), .v (.sl (x.2.1.bodyF.args.map Tm.cells)), .v (.sl (x.2.1.envF.map MV.cells))])), (.slot 14, .one (.v (dint ((x.1 : Int) - 1)))), (.heap  b, .row ([.v (dint x.2.2.1), .v (dint most), .v (dbool x.2.2.2)]))]) (fun x : Nat × MV × Int × Bool => x.1) (L.length, b0, u1, false) (⟨Nat.le_refl _, Int.le_refl u1, b2, MV.le_mono (by show M2 ≤ M2 + (u1 - u1); omega) c1, fun _ => by simpa using h, fun h => (by cases h)⟩) ?_)
      rintro ⟨j, r, uk, ok⟩ ⟨i1, i2, i3, i4, i5, i6⟩ ih
      simp only at i1 i2 i3 i4 i5 i6
      have hr1 := MV.fold r
      cases ok with
      | true =>
        obtain ⟨rfl, rfl, rfl⟩ := i6 rfl
        cases j with
        | zero =>
          refine t_g0 ?_
          repeat (first | refine W_seq ?_ | refine W_skip ?_ | refine W_block ?_ | refine W_inBlock ?_ | refine W_label ?_ | refine W_exit rfl ?_)
          first | refine W_retR hP hf hfn _ ([(b, [dint u', dint most, dbool true])]) (by first | (simp [go_sem, hP, hgl, hn]; done) | (simp [go_sem, hP, hgl, hn]; rfl)) (by simp [go_sem, hP, hgl, hn]) (by simp) ?_ hR.2 | refine W_endR hP hf hfn _ ([(b, [dint u', dint most, dbool true])]) (by first | (simp [go_sem, hP, hgl, hn]; done) | (simp [go_sem, hP, hgl, hn]; rfl)) (by simp [go_sem, hP, hgl, hn]) (by simp) ?_ hR.2
          rw [hR.1]
          refine ⟨?_, by simp⟩
          try simp
          try all_goals (simp [Ty.dv, Ty.cells_eq, Ty.kind_mk, Ty.args_mk, Tm.dv, Tm.cells_eq, Tm.kind_mk, Tm.index_mk, Tm.type_mk, Tm.args_mk, Val.dv, Val.cells_eq, Val.kind_mk, Val.num_mk, Val.list_mk, Val.args_mk, ints])
        | succ m =>
          have hk : (0 : Int) ≤ m := by omega
          refine t_g @hk ?_
          repeat (first | refine W_seq ?_ | refine W_skip ?_ | refine W_block ?_ | refine W_inBlock ?_ | refine W_label ?_ | refine W_exit rfl ?_)
          first | refine W_retR hP hf hfn _ ([(b, [dint u', dint most, dbool true])]) (by first | (simp [go_sem, hP, hgl, hn]; done) | (simp [go_sem, hP, hgl, hn]; rfl)) (by simp [go_sem, hP, hgl, hn]) (by simp) ?_ hR.2 | refine W_endR hP hf hfn _ ([(b, [dint u', dint most, dbool true])]) (by first | (simp [go_sem, hP, hgl, hn]; done) | (simp [go_sem, hP, hgl, hn]; rfl)) (by simp [go_sem, hP, hgl, hn]) (by simp) ?_ hR.2
          rw [hR.1]
          refine ⟨?_, by simp⟩
          try simp
          try all_goals (simp [Ty.dv, Ty.cells_eq, Ty.kind_mk, Ty.args_mk, Tm.dv, Tm.cells_eq, Tm.kind_mk, Tm.index_mk, Tm.type_mk, Tm.args_mk, Val.dv, Val.cells_eq, Val.kind_mk, Val.num_mk, Val.list_mk, Val.args_mk, ints])
      | false =>
        have i5 := i5 rfl
        cases j with
        | zero =>
          simp only [List.take_zero, List.reverse_nil, foldRun, Option.some.injEq, Prod.mk.injEq] at i5
          obtain ⟨rfl, rfl, rfl⟩ := i5
          refine t_g0 ?_
          repeat (first | refine W_seq ?_ | refine W_skip ?_ | refine W_block ?_ | refine W_inBlock ?_ | refine W_label ?_ | refine W_exit rfl ?_)
          first | refine W_retR hP hf hfn _ ([(b, [dint uk, dint most, dbool false])]) (by first | (simp [go_sem, hP, hgl, hn]; done) | (simp [go_sem, hP, hgl, hn]; rfl)) (by simp [go_sem, hP, hgl, hn]) (by simp) ?_ hR.2 | refine W_endR hP hf hfn _ ([(b, [dint uk, dint most, dbool false])]) (by first | (simp [go_sem, hP, hgl, hn]; done) | (simp [go_sem, hP, hgl, hn]; rfl)) (by simp [go_sem, hP, hgl, hn]) (by simp) ?_ hR.2
          rw [hR.1]
          refine ⟨?_, by simp⟩
          try simp
          try all_goals (simp [Ty.dv, Ty.cells_eq, Ty.kind_mk, Ty.args_mk, Tm.dv, Tm.cells_eq, Tm.kind_mk, Tm.index_mk, Tm.type_mk, Tm.args_mk, Val.dv, Val.cells_eq, Val.kind_mk, Val.num_mk, Val.list_mk, Val.args_mk, ints])
        | succ m =>
          have hk : (0 : Int) ≤ m := by omega
          obtain ⟨y, hy⟩ : ∃ y, L[m]? = some y := ⟨_, List.getElem?_eq_getElem (by omega)⟩
          have htk : L.take (m + 1) = L.take m ++ [y] := by rw [List.take_add_one, hy]; rfl
          have hdr : L.drop m = y :: L.drop (m + 1) := by
            obtain ⟨q1, q2⟩ := List.getElem?_eq_some_iff.1 hy
            rw [List.drop_eq_getElem_cons q1, q2]
          rw [htk, List.reverse_append, List.reverse_singleton, List.singleton_append] at i5
          simp only [foldRun] at i5
          rw [← hdr] at i5
          have hyM : (y : Int) ≤ M2 := c4 y (List.mem_of_getElem? hy)
          have hgy : (ints (List.map Int.ofNat L))[m]? = some [dint (y : Int)] := by
            have : (List.map Int.ofNat L)[m]? = some (y : Int) := by rw [List.getElem?_map, hy]; rfl
            exact ints_get this
          have hsl : List.drop (m + 1) (List.take L.length (ints (List.map Int.ofNat L))) = ints (List.drop (m + 1) (List.map Int.ofNat L)) := by
            rw [List.take_of_length_le (by simp [ints])]
            simp only [ints, List.map_drop]
          have hm1 : ((m + 1 : Nat) : Int) - 1 = (m : Int) := by omega
          have hm2 : ((m + 1 : Nat) : Int) - 1 - 1 = (m : Int) - 1 := by omega
          have hyd := num_dv y
          have hrd := list_dv (L.drop (m + 1))
          have hle1 : (MV.num y).le (M2 + (uk - u1)) := by simp only [MV.le]; omega
          have hrest : ∀ N : Int, M2 ≤ N → (MV.list (L.drop (m + 1))).le N := by
            intro N hN
            simp only [MV.le, List.length_drop]
            exact ⟨by omega, fun z hz => by have := c4 z (List.mem_of_mem_drop hz); omega⟩
          split at i5
          · cases i5
          · rename_i g u2 g1
            have w1 := call6_ok (gl := gl) hm H b (M2 + (uk - u1)) g1 (by omega) i3 (by omega) (by omega) (MV.le_mono (by omega) c2) hle1
            obtain ⟨d1, d2, d3⟩ := callRun_bd B g1 i3 (M := M2 + (uk - u1)) (by omega) (MV.le_mono (by omega) c2) hle1
            simp only [Option.some.injEq, Prod.mk.injEq] at i5
            obtain ⟨rfl, rfl, rfl⟩ := i5
            unfold mach6 at w1
            refine t_g (j2 @hk @hq1) ?_
            refine t_c1 (j2 @hyd (j2 @hf1 (j2 @hq1 @hgy))) w1 ?_
            refine t_gt (wr []) @hq1 trivial (ih (m, r, u2, true) ⟨by show m ≤ L.length; omega, by show u1 ≤ u2; omega, d2, MV.le_mono (by show _ ≤ M2 + (u2 - u1); omega) i4, fun h => (by cases h), fun _ => ⟨rfl, rfl, rfl⟩⟩ (by show m < m + 1; omega))
          · rename_i g u2 g1
            have w1 := call6_ok (gl := gl) hm H b (M2 + (uk - u1)) g1 (by omega) i3 (by omega) (by omega) (MV.le_mono (by omega) c2) hle1
            obtain ⟨d1, d2, d3⟩ := callRun_bd B g1 i3 (M := M2 + (uk - u1)) (by omega) (MV.le_mono (by omega) c2) hle1
            have hg1 := MV.fold g
            have hle2 := hrest (M2 + (u2 - u1)) (by omega)
            split at i5
            · cases i5
            · rename_i g' u3 g2
              have w2 := call6_ok (gl := gl) hm H b (M2 + (u2 - u1)) g2 (by omega) d2 (by omega) (by omega) (MV.le_mono (by omega) d3) hle2
              obtain ⟨d4, d5, d6⟩ := callRun_bd B g2 d2 (M := M2 + (u2 - u1)) (by omega) (MV.le_mono (by omega) d3) hle2
              simp only [Option.some.injEq, Prod.mk.injEq] at i5
              obtain ⟨rfl, rfl, rfl⟩ := i5
              unfold mach6 at w1 w2
              refine t_g (j2 @hk @hq1) ?_
              refine t_c1 (j2 @hyd (j2 @hf1 (j2 @hq1 @hgy))) w1 ?_
              refine t_g0 ?_
              refine t_c1 (j2 @hg1 (j2 @hq1 (j2 @hsl @hrd))) w2 ?_
              refine t_gt (wr []) @hq1 trivial (ih (m, r, u3, true) ⟨by show m ≤ L.length; omega, by show u1 ≤ u3; omega, d5, MV.le_mono (by show _ ≤ M2 + (u3 - u1); omega) i4, fun h => (by cases h), fun _ => ⟨rfl, rfl, rfl⟩⟩ (by show m < m + 1; omega))
            · rename_i g' u3 g2
              have w2 := call6_ok (gl := gl) hm H b (M2 + (u2 - u1)) g2 (by omega) d2 (by omega) (by omega) (MV.le_mono (by omega) d3) hle2
              obtain ⟨d4, d5, d6⟩ := callRun_bd B g2 d2 (M := M2 + (u2 - u1)) (by omega) (MV.le_mono (by omega) d3) hle2
              have hg2 := MV.fold g'
              split at i5
              · cases i5
              · rename_i r2 u4 g3
                have w3 := call6_ok (gl := gl) hm H b (M2 + (u3 - u1)) g3 (by omega) d5 (by omega) (by omega) (MV.le_mono (by omega) d6) (MV.le_mono (by omega) i4)
                obtain ⟨d7, d8, d9⟩ := callRun_bd B g3 d5 (M := M2 + (u3 - u1)) (by omega) (MV.le_mono (by omega) d6) (MV.le_mono (by omega) i4)
                simp only [Option.some.injEq, Prod.mk.injEq] at i5
                obtain ⟨rfl, rfl, rfl⟩ := i5
                have hr2 := MV.cells_eq r2
                unfold mach6 at w1 w2 w3
                refine t_g (j2 @hk @hq1) ?_
                refine t_c1 (j2 @hyd (j2 @hf1 (j2 @hq1 @hgy))) w1 ?_
                refine t_g0 ?_
                refine t_c1 (j2 @hg1 (j2 @hq1 (j2 @hsl @hrd))) w2 ?_
                refine t_g0 ?_
                refine t_c1 (j2 @hg2 @hr1) w3 ?_
                refine t_gt (wr []) (j2 @hr2 @hq1) trivial (ih (m, r2, u4, true) ⟨by show m ≤ L.length; omega, by show u1 ≤ u4; omega, d8, MV.le_mono (by show _ ≤ M2 + (u4 - u1); omega) d9, fun h => (by cases h), fun _ => ⟨rfl, rfl, rfl⟩⟩ (by show m < m + 1; omega))
              · rename_i r2 u4 g3
                have w3 := call6_ok (gl := gl) hm H b (M2 + (u3 - u1)) g3 (by omega) d5 (by omega) (by omega) (MV.le_mono (by omega) d6) (MV.le_mono (by omega) i4)
                obtain ⟨d7, d8, d9⟩ := callRun_bd B g3 d5 (M := M2 + (u3 - u1)) (by omega) (MV.le_mono (by omega) d6) (MV.le_mono (by omega) i4)
                have hr2 := MV.cells_eq r2
                unfold mach6 at w1 w2 w3
                refine t_g (j2 @hk @hq1) ?_
                refine t_c1 (j2 @hyd (j2 @hf1 (j2 @hq1 @hgy))) w1 ?_
                refine t_g0 ?_
                refine t_c1 (j2 @hg1 (j2 @hq1 (j2 @hsl @hrd))) w2 ?_
                refine t_g0 ?_
                refine t_c1 (j2 @hg2 @hr1) w3 ?_
                refine t_gt (wr []) (j2 @hr2 @hq1) trivial (ih (m, r2, u4, false) ⟨by show m ≤ L.length; omega, by show u1 ≤ u4; omega, d8, MV.le_mono (by show _ ≤ M2 + (u4 - u1); omega) d9, fun _ => i5, fun h => (by cases h)⟩ (by show m < m + 1; omega))
    · cases h

theorem eval6_ok {most : Int} (hm : most ≤ 1073741824) : ∀ d : Nat, Walk6 Tryz.prog gl 111 most (ev6 most d)
  | 0 => fun t e u v u' o b M h => by cases h
  | d + 1 => eval6_step hm (eval6_ok hm d)
end Go.Proofs.YtiacandbafjlfaaGreatDoor.Lift

namespace Go.Proofs.YtiacandbafjlfaaGreatDoor.Lift
set_option linter.unusedSimpArgs false
set_option linter.unusedVariables false
set_option linter.unnecessarySimpa false
open Go
variable {gl : Globs}

theorem sh_tys (t : Tm) (h : t.shape = true) : t.tys := by
  induction t using Tm.ind with
  | h t ih =>
  obtain ⟨-, -, -, h4, h5⟩ := Tm.shape_node h
  rw [Tm.tys_eq]
  refine ⟨?_, fun a ha => ih a ha (h5 a ha)⟩
  split at h4
  · have := h4.2; omega
  · unfold Ty.zero at h4
    simp at h4
    rw [Ty.count_eq, h4.2]
    decide
theorem dn_tys {Γ : List T} {t : Tm} {a : T} {F : Env Γ → a.V} (h : Dn Γ t a F) : t.tys := sh_tys _ (dn_shape h)

set_option maxHeartbeats 4000000 in
set_option maxRecDepth 100000 in
theorem call6_walk (t : Tm) (l : List T) (r : T) (F : Env [] → (FnT l r).V) (Z : Env l) (work M : Int) (h : Dn [] t (FnT l r) F) (hc : t.count ≤ 536870912) (hl : Plains l) (hll : l.length ≤ 1000000) (hr : r.plain) (hro : r.ok) (hw0 : 0 ≤ work) (hw : work ≤ 65536) (hM : 0 ≤ M) (hMb : M + work ≤ 1073741824) (hX : MV.les M (mvsOf l Z)) :
    Con1 Tryz.prog gl 73 [t.dv, .sl ((valsOf l Z).map Val.cells), dint work] [] (.tup [(callOut t l (F ()) Z work).1.dv, dint (callOut t l (F ()) Z work).2.1, dint (callOut t l (F ()) Z work).2.2]) [] := by
  have hte := ref02_typeof_ok (gl := gl) t [] (by simp) (dn_tys h) (by omega)
  have hco := callOut_err h Z work
  have hvl := valsOf_len l Z
  have hml := mvsOf_len l Z
  have hft := Tm.fold t
  have hfz : (Ty.mk 0 []).cells = [dint 0, .sl []] := rfl
  refine t_in Tryz.func73 ?_
  intro X hP hgl hf hfn hn hR hids hfit
  unfold callOut at hR
  refine t_g0 ?_
  refine t_c1 @hft hte ?_
  by_cases he : (t.typeE []).2 = 0
  rotate_left
  · rw [if_neg he] at hR
    refine t_g @he ?_
    refine t_r ?_
    simp [go_sem, hP, hgl, hn, zeroV] <;> (try omega)
    all_goals exact t_f
  rw [if_pos he] at hR
  have hty : (t.typeE []).1 = (FnT l r).ty := by
    rcases typeE_dn h with h1 | h1
    · rw [h1]
    · rw [he] at h1; cases h1
  have hfr := Ty.fold (FnT l r).ty
  refine t_g @he ?_
  refine t_a ?_
  refine t_sub [] (j2 @hty @hvl) (W_upto (l.length) (fun i => True) (fun i => [(.slot 1, .one (.v (.sl ((valsOf l Z).map Val.cells)))), (.slot 2, .one (.v (dint work))), (.slot 3, .one (.loc 3 0)), (.loc 3, .row ([.v (dint t.kind), .v (dint t.index), .v (dint t.type.kind), .v (.sl (t.type.args.map Ty.cells)), .v (.sl (t.args.map Tm.cells))])), (.slot 6, .one (.loc 6 0)), (.loc 6, .row ([.v (dint 0), .v (dint 0), .own 0 [], .own 0 []])), (.slot 9, .one (.loc 9 0)), (.loc 9, .row ([.v (dint (FnT (l.drop i) r).ty.kind), .v (.sl ((FnT (l.drop i) r).ty.args.map Ty.cells))])), (.slot 30, .one (.v (.sl ((valsOf l Z).map Val.cells)))), (.slot 31, .one (.v (dint l.length))), (.slot 32, .one (.v (dint i)))]) (trivial) ?_ ?_)
  · intro i hi _ hnext
    obtain ⟨a, x, g1, g2, g3, g4, g5⟩ := args_at (r := r) l Z i hi hl
    have hvg : (List.map Val.cells (valsOf l Z))[i]? = some (valOf a x).cells := by rw [List.getElem?_map, g1]; rfl
    have hfv := Val.fold (valOf a x)
    have hcv := Val.cells_eq (valOf a x)
    have hvc := (valOf_nodes a x g4).2
    have hsz : a.size ≤ 64 := g5
    have w1 := typeE5_ok (gl := gl) (valOf a x) (by omega)
    rw [valOf_typeE x g4 g5] at w1
    have w2 := ref01_same_ok (gl := gl) a.ty a.ty
    rw [show a.ty.same a.ty = true from (Ty.same_iff _ _).2 rfl] at w2
    have hti : (FnT (l.drop i) r).ty = Ty.mk 4 [a.ty, (FnT (l.drop (i + 1)) r).ty] := by rw [g3, T.ty_fn]
    have hfa := Ty.fold a.ty
    generalize (FnT (l.drop (i + 1)) r).ty = ty' at *
    generalize (FnT (l.drop i) r).ty = ty0 at *
    generalize a.ty = ta at *
    subst hti
    have hct := Ty.cells_eq ty'
    refine t_rg0 ?_
    refine t_yes ?_
    refine t_g (j2 @hvg @hcv) ?_
    refine t_c1 @hfv w1 ?_
    refine t_g0 ?_
    refine t_c1 @hfa w2 ?_
    refine t_g0 ?_
    refine t_gt (wr []) @hct trivial (hnext trivial)
  · intro _
    have hdl : FnT (l.drop l.length) r = r := by rw [List.drop_length]; rfl
    rw [hdl]
    have wd := data_ok (gl := gl) r hro
    rw [show decide (r.level = 0) = true from decide_eq_true ((T.level_plain r).2 hr)] at wd
    have hfr := Ty.fold r.ty
    have hwn : ¬ (work < 0) := by omega
    have hwm : ¬ (65536 < work) := by omega
    have hH := eval6_ok (gl := gl) (most := work) (by omega) (work.toNat + 1)
    have hB := ev6_bd work (work.toNat + 1)
    obtain ⟨v0, u0, o0, e1, l1, m1, q1⟩ := ev6_ok work (work.toNat + 1) h .nil hw0 (by omega)
    obtain ⟨cr, hcr⟩ : ∃ cr, cr = call6N work t (mvsOf l Z) := ⟨_, rfl⟩
    have hout := call6_out hw0 h Z hl
    rw [← hcr] at hR hout
    obtain ⟨vf, uf, of, r1, r2, r3, r4⟩ := hout
    unfold call6N at hcr
    rw [e1] at hcr
    obtain ⟨k1, k2, k3⟩ := hB e1 hw0 hM trivial (by simp only [List.length_nil]; omega)
    refine t_rg0 ?_
    refine t_no ?_
    refine t_g0 ?_
    refine t_c1 @hfr wd ?_
    refine t_g (j2 @hwn @hwm) ?_
    refine W_expose 80 (by simp [go_sem]; rfl) ?_
    intro b hb
    simp [go_sem] at hb ⊢
    have we := hH b M e1 (by omega) hw0 hM (by omega) trivial (by simp only [List.length_nil]; omega)
    unfold mach6 at we
    have hv0 := MV.cells_eq v0
    refine t_c1 @hft we ?_
    refine t_g0 ?_
    refine t_a ?_
    refine t_sub [] (j2 @hv0 @hvl) (W_rounds (fun x : Nat × MV × Int × Bool => x.1 ≤ l.length ∧ 0 ≤ x.2.2.1 ∧ x.2.2.1 ≤ work ∧ x.2.1.le (M + x.2.2.1) ∧ (x.2.2.2 = false → callsRun (ev6 work (work.toNat + 1)) x.2.1 ((mvsOf l Z).drop x.1) x.2.2.1 = cr) ∧ (x.2.2.2 = true → of = true)) (fun x : Nat × MV × Int × Bool => [(.slot 17, .one (.v (ptr b))), (.slot 6, .one (.loc 6 0)), (.loc 6, .row ([.v (dint 0), .v (dint 0), .own 0 [], .own 0 []])), (.slot 9, .one (.loc 9 0)), (.loc 9, .row ([.v (dint r.ty.kind), .v (.sl (r.ty.args.map Ty.cells))])), (.slot 18, .one (.loc 18 0)), (.loc 18, .row ([.v (dint x.2.1.numF), .v (.sl (ints x.2.1.listF)), .v (.sl (x.2.1.pairF.map MV.cells)), .v (dint x.2.1.bodyF.kind), .v (dint x.2.1.bodyF.index), .v (dint x.2.1.bodyF.type.kind), .v (.sl (x.2.1.bodyF.type.args.map Ty.cells)), .v (.sl (x.2.1.bodyF.args.map Tm.cells)), .v (.sl (x.2.1.envF.map MV.cells))])), (.slot 84, .one (.v (.sl ((valsOf l Z).map Val.cells)))), (.slot 85, .one (.v (dint l.length))), (.slot 86, .one (.v (dint x.1))), (.heap  b, .row ([.v (dint x.2.2.1), .v (dint work), .v (dbool x.2.2.2)]))]) (fun x : Nat × MV × Int × Bool => l.length - x.1) (0, v0, u0, o0) (⟨Nat.zero_le _, by show 0 ≤ u0; omega, m1, MV.le_mono (by show M + (u0 - 0) ≤ M + u0; omega) k3, fun h => ?_, fun h => ?_⟩) ?_)
    · have h : o0 = false := h
      subst h
      exact hcr.symm
    · have h : o0 = true := h
      subst h
      have hcr : cr = some (v0, u0, true) := hcr
      rw [hcr] at r1
      cases r1
      rfl
    rintro ⟨i, m, u, ok⟩ ⟨i1, i2, i3, i4, i5, i6⟩ ih
    simp only at i1 i2 i3 i4 i5 i6
    by_cases hi : i < l.length
    · obtain ⟨a, x, g1, g2, -, g4, g5⟩ := args_at (r := r) l Z i hi hl
      have hvg : (List.map Val.cells (valsOf l Z))[i]? = some (valOf a x).cells := by rw [List.getElem?_map, g1]; rfl
      have hfv := Val.fold (valOf a x)
      have hcv := Val.cells_eq (valOf a x)
      cases ok with
      | true =>
        refine t_rg0 ?_
        refine t_yes ?_
        refine t_g (j2 @hvg @hcv) ?_
        refine t_gt (wr []) trivial trivial (ih (i + 1, m, u, true) ⟨by show i + 1 ≤ l.length; omega, i2, i3, i4, fun h => (by cases h), fun _ => i6 rfl⟩ (by show l.length - (i + 1) < l.length - i; omega))
      | false =>
        have i5 := i5 rfl
        have hdr : (mvsOf l Z).drop i = ofM a x :: (mvsOf l Z).drop (i + 1) := by
          obtain ⟨p1, p2⟩ := List.getElem?_eq_some_iff.1 g2
          rw [List.drop_eq_getElem_cons p1, p2]
        rw [hdr] at i5
        simp only [callsRun] at i5
        have hxM : (ofM a x).le (M + u) := MV.le_mono (by omega) (MV.les_iff.1 hX _ (List.mem_of_getElem? g2))
        have wo := of6_ok (gl := gl) a x g4
        have hfm := MV.fold m
        split at i5
        · rw [← i5] at r1; cases r1
        · rename_i v1 u1 c1
          have w := call6_ok (gl := gl) (by omega) hH b (M + u) c1 i2 i3 (by omega) (by omega) i4 hxM
          obtain ⟨d1, d2, d3⟩ := callRun_bd hB c1 i3 (M := M + u) (by omega) i4 hxM
          have hof : of = true := by rw [← i5] at r1; cases r1; rfl
          have hv1 := MV.cells_eq v1
          unfold mach6 at w
          generalize valOf a x = vx at *
          generalize ofM a x = mx at *
          refine t_rg0 ?_
          refine t_yes ?_
          refine t_g (j2 @hvg @hcv) ?_
          refine t_c2 (j2 @hfv @hfm) wo w ?_
          refine t_gt (wr []) @hv1 trivial (ih (i + 1, v1, u1, true) ⟨by show i + 1 ≤ l.length; omega, by show 0 ≤ u1; omega, d2, MV.le_mono (by show _ ≤ M + u1; omega) d3, fun h => (by cases h), fun _ => hof⟩ (by show l.length - (i + 1) < l.length - i; omega))
        · rename_i v1 u1 c1
          have w := call6_ok (gl := gl) (by omega) hH b (M + u) c1 i2 i3 (by omega) (by omega) i4 hxM
          obtain ⟨d1, d2, d3⟩ := callRun_bd hB c1 i3 (M := M + u) (by omega) i4 hxM
          have hv1 := MV.cells_eq v1
          unfold mach6 at w
          generalize valOf a x = vx at *
          generalize ofM a x = mx at *
          refine t_rg0 ?_
          refine t_yes ?_
          refine t_g (j2 @hvg @hcv) ?_
          refine t_c2 (j2 @hfv @hfm) wo w ?_
          refine t_gt (wr []) @hv1 trivial (ih (i + 1, v1, u1, false) ⟨by show i + 1 ≤ l.length; omega, by show 0 ≤ u1; omega, d2, MV.le_mono (by show _ ≤ M + u1; omega) d3, fun _ => i5, fun h => (by cases h)⟩ (by show l.length - (i + 1) < l.length - i; omega))
    · have hin : i = l.length := by omega
      subst hin
      cases ok with
      | true =>
        have hof := i6 rfl
        subst hof
        rw [r1] at hR
        refine t_rg0 ?_
        refine t_no ?_
        refine t_g0 ?_
        refine t_r ?_
        simp [go_sem, hP, hgl, hn, zeroV] <;> (try omega)
        all_goals exact t_f
      | false =>
        have i5 := i5 rfl
        have hdr : (mvsOf l Z).drop l.length = [] := by rw [← hml, List.drop_length]
        rw [hdr] at i5
        simp only [callsRun] at i5
        rw [← i5] at r1 hR
        have hq : m = vf ∧ of = false := by cases r1; exact ⟨rfl, rfl⟩
        have r4 := r4 hq.2
        rw [← hq.1] at r4
        have wp := plain6_ok (gl := gl) r4 hr
        have hfm := MV.fold m
        generalize valOf r (appl l (F ()) Z) = vr at *
        refine t_rg0 ?_
        refine t_no ?_
        refine t_g0 ?_
        refine t_c1 (j2 @hfm @hfr) wp ?_
        refine t_r ?_
        simp [go_sem, hP, hgl, hn] <;> (try omega)
        all_goals exact t_f
end Go.Proofs.YtiacandbafjlfaaGreatDoor.Lift

namespace Go.Proofs.YtiacandbafjlfaaGreatDoor.Lift
set_option linter.unusedSimpArgs false
set_option linter.unusedVariables false
set_option linter.unnecessarySimpa false
open Go
variable {gl : Globs}

theorem eval6w (t : Tm) (r : T) (F : Env [] → r.V) (work : Int) (h : Dn [] t r F) (hc : t.count ≤ 536870912) (hr : r.plain) (hro : r.ok) (hw0 : 0 ≤ work) (hw : work ≤ 65536) :
    Con1 Tryz.prog gl 30 [t.dv, dint work] [] (.tup [(callOut t [] (r := r) (F ()) () work).1.dv, dint (callOut t [] (r := r) (F ()) () work).2.1, dint (callOut t [] (r := r) (F ()) () work).2.2]) [] := by
  have w := call6_walk (gl := gl) t [] r F () work 0 h hc trivial (by decide) hr hro hw0 hw (by omega) (by omega) trivial
  have hft := Tm.fold t
  generalize callOut t [] (r := r) (F ()) () work = c at *
  refine t_in Tryz.func30 ?_
  intro X hP hgl hf hfn hn hR hids hfit
  have e0 : DV.sl (List.map Val.cells (valsOf [] ())) = .sl [] := rfl
  rw [e0] at w
  have hfc := Val.fold c.1
  refine t_g0 ?_
  refine t_c1 @hft w ?_
  refine t_g0 ?_
  refine t_r ?_
  simp [go_sem, hP, hgl, hn] <;> (try omega)
  all_goals exact t_f

/-! the sanity check of law 33 -/
def tC : Tm := nT 8 [nT 4 [], nT 7 []]
def mC : Tm := appsT greatT [nT 4 [], nT 5 [nT 4 []]]
theorem mC_maj : tC.mTermE = (mC, 0) := by kernel_rfl
theorem mC_dn : Dn [] mC .nat (fun _ => maxD .nat (0 : Nat) (Nat.succ 0)) := .app (.app (dn_great []) .zero) (.succ .zero)
theorem mC_run : (callOut mC [] (r := .nat) (maxD .nat (0 : Nat) (Nat.succ 0)) () 500).2.2 = 0 := by kernel_rfl

theorem awake33_ok (har : globOf gl 0 = some arEls) : Con1 Tryz.prog gl 4 [] [] (dbool true) [] := by
  have w1 := mterm_ok har tC (sh_tys _ rfl) (by decide)
  rw [mC_maj, show tC.dv = .agg [dint 8, dint 0, dint 0, .sl [], .sl [[dint 4, dint 0, dint 0, .sl [], .sl []], [dint 7, dint 0, dint 0, .sl [], .sl []]]] from rfl] at w1
  have w2 := eval6w (gl := gl) mC .nat _ 500 mC_dn (by decide) trivial (by unfold T.ok; decide) (by decide) (by decide)
  have hc1 := mC_run
  have hc2 : (callOut mC [] (r := .nat) (maxD .nat (0 : Nat) (Nat.succ 0)) () 500).1 = Val.mk 1 1 [] [] := by
    rcases callOut_err (l := []) (r := .nat) mC_dn () 500 with h | h | h
    · rw [hc1] at h; cases h
    · rw [hc1] at h; cases h
    · exact h.2
  generalize callOut mC [] (r := .nat) (maxD .nat (0 : Nat) (Nat.succ 0)) () 500 = c at *
  rw [hc1, hc2, show (Val.mk 1 1 [] []).dv = .agg [dint 1, dint 1, .sl [], .sl []] from rfl] at w2
  have w3 := mtype_ok (gl := gl) (Ty.mk 2 []) (by decide)
  rw [show (Ty.mk 2 []).mTypeE = (Ty.mk 1 [], 0) from rfl, show (Ty.mk 2 []).dv = .agg [dint 2, .sl []] from rfl, show (Ty.mk 1 []).dv = .agg [dint 1, .sl []] from rfl] at w3
  have w4 := mvalue_ok (gl := gl) (Val.mk 2 0 [1, 7] []) (by decide)
  rw [show (Val.mk 2 0 [1, 7] []).mValueE = (Val.mk 1 7 [] [], 0) from rfl, show (Val.mk 2 0 [1, 7] []).dv = .agg [dint 2, dint 0, .sl [[dint 1], [dint 7]], .sl []] from rfl, show (Val.mk 1 7 [] []).dv = .agg [dint 1, dint 7, .sl [], .sl []] from rfl] at w4
  have w5 := majorizes_ok (gl := gl) (Val.mk 1 7 [] []) (Val.mk 2 0 [1, 7] []) (by decide) (by decide)
  rw [show (Val.mk 1 7 [] []).majorizesN (Val.mk 2 0 [1, 7] []) = true from rfl, show (Val.mk 2 0 [1, 7] []).dv = .agg [dint 2, dint 0, .sl [[dint 1], [dint 7]], .sl []] from rfl, show (Val.mk 1 7 [] []).dv = .agg [dint 1, dint 7, .sl [], .sl []] from rfl] at w5
  have hfm := Tm.fold mC
  have hcm := Tm.cells_eq mC
  generalize mC = m at *
  refine t_in Tryz.func4 ?_
  intro X hP hgl hf hfn hn hR hids hfit
  refine t_g0 ?_
  refine t_c1 trivial w1 ?_
  refine t_c1 @hfm w2 ?_
  refine t_c1 trivial w3 ?_
  refine t_c1 trivial w4 ?_
  refine t_c1 trivial w5 ?_
  refine t_r ?_
  simp [go_sem, hP, hgl, hn] <;> (try omega)
end Go.Proofs.YtiacandbafjlfaaGreatDoor.Lift

namespace Go.Proofs.YtiacandbafjlfaaGreatDoor.Lift
set_option linter.unusedSimpArgs false
set_option linter.unusedVariables false
set_option linter.unnecessarySimpa false
open Go
variable {gl : Globs}

theorem nat23_ok : Con1 Tryz.prog gl 80 [] [] (Ty.mk 1 []).dv [] := by
  refine t_in Tryz.func80 ?_
  intro X hP hgl hf hfn hn hR hids hfit
  refine t_g0 ?_
  refine t_r ?_
  simp [go_sem, hP, hgl, hn] <;> (try omega)
  all_goals exact t_f
theorem node24_ok (k : Int) (l : List Tm) : Con1 Tryz.prog gl 92 [dint k, .sl (l.map Tm.cells)] [] (Tm.mk k 0 (Ty.mk 0 []) l).dv [] := by
  refine t_in Tryz.func92 ?_
  intro X hP hgl hf hfn hn hR hids hfit
  refine t_g0 ?_
  refine t_r ?_
  simp [go_sem, hP, hgl, hn] <;> (try omega)
  all_goals exact t_f
theorem unit24_ok : Con1 Tryz.prog gl 91 [] [] (Tm.mk 13 0 (Ty.mk 0 []) []).dv [] := by
  refine t_in Tryz.func91 ?_
  intro X hP hgl hf hfn hn hR hids hfit
  refine t_g0 ?_
  refine t_r ?_
  simp [go_sem, hP, hgl, hn] <;> (try omega)
  all_goals exact t_f
theorem var24_ok (i : Int) : Con1 Tryz.prog gl 96 [dint i] [] (Tm.mk 1 i (Ty.mk 0 []) []).dv [] := by
  refine t_in Tryz.func96 ?_
  intro X hP hgl hf hfn hn hR hids hfit
  refine t_g0 ?_
  refine t_r ?_
  simp [go_sem, hP, hgl, hn] <;> (try omega)
  all_goals exact t_f

/-! the plain law of MajorantGreatest -/
end Go.Proofs.YtiacandbafjlfaaGreatDoor.Lift

namespace Go.Proofs.YtiacandbafjlfaaGreatDoor.Lift
set_option linter.unusedSimpArgs false
set_option linter.unusedVariables false
set_option linter.unnecessarySimpa false
open Go

/-! the plain law of MajorantBounds: least majorants of plain values, and calls with them -/
def bnd : (a : T) → a.V → a.maj.V
  | .nat, n => n
  | .list, l => (mostOf (List.length l : Nat) (List.map Int.ofNat l)).toNat
  | .unit, _ => ()
  | .pair a b, p => (bnd a p.1, bnd b p.2)
  | .fn a b, _ => (T.fn a b).maj.dflt
end Go.Proofs.YtiacandbafjlfaaGreatDoor.Lift

namespace Go.Proofs.YtiacandbafjlfaaGreatDoor.Lift
set_option linter.unusedSimpArgs false
set_option linter.unusedVariables false
set_option linter.unnecessarySimpa false
open Go
variable {gl : Globs}

/-- the least majorant, as the second form makes it -/
def Val.val33N : Val → Val
  | .mk k n l a => if k = 2 then .mk 1 (mostOf l.length l) [] [] else .mk k n [] (vals a)
where
  vals : List Val → List Val
    | [] => []
    | x :: r => x.val33N :: vals r
theorem Val.val33N_eq (v : Val) : v.val33N = if v.kind = 2 then .mk 1 (mostOf v.list.length v.list) [] [] else .mk v.kind v.num [] (val33N.vals v.args) := by cases v; rw [val33N]; rfl
theorem Val.vals33_append (l r : List Val) : val33N.vals (l ++ r) = val33N.vals l ++ val33N.vals r := by
  induction l with
  | nil => rfl
  | cons x l ih => simp only [List.cons_append, val33N.vals, ih]
theorem Val.vals33_len (l : List Val) : (val33N.vals l).length = l.length := by
  induction l with
  | nil => rfl
  | cons x l ih => simp only [val33N.vals, List.length_cons, ih]

theorem value33_ok (v : Val) : Con1 Tryz.prog gl 67 [v.dv] [] v.val33N.dv [] := by
  induction v using Val.ind with
  | h v ih =>
  refine t_in Tryz.func67 ?_
  intro X hP hgl hf hfn hn hR hids hfit
  have hl2 := Val.fit_list (hfit v.dv (by simp))
  have hli := ((Val.fit_eq v).1 ((Val.dv_fit v).1 (hfit v.dv (by simp)))).2.2.1.2
  have hal := ((Val.fit_eq v).1 ((Val.dv_fit v).1 (hfit v.dv (by simp)))).2.2.2.1
  have hb : BIG = 2147483648 := rfl
  rw [hb] at hal
  rw [Val.val33N_eq] at hR
  by_cases h2 : v.kind = 2
  · rw [if_pos h2] at hR
    refine t_g @h2 ?_
    refine t_a ?_
    refine W_sub [] (by simp [go_sem]) (by simp [go_sem, mostOf, h2] <;> omega) (by simp [go_sem]) (W_listI (v.list) (fun done => True) (fun done rest => [(.slot 3, .one (.v (dint (mostOf v.list.length done)))), (.slot 4, .one (.v (dint done.length))), (.slot 1, .one (.loc 1 0)), (.loc 1, .row ([.v (dint v.kind), .v (dint v.num), .v (.sl (ints v.list)), .v (.sl (v.args.map Val.cells))])), (.slot 2, .one (.loc 2 0)), (.loc 2, .row ([.v (dint 0), .v (dint 0), .own 0 [], .own 0 []]))]) (trivial) ?_ ?_)
    · intro done x rest hL hg0 hI hnext
      have hlt : done.length < v.list.length := by rw [hL]; simp
      have hgi := ints_get hg0
      have hm : mostOf v.list.length (done ++ [x]) = max (mostOf v.list.length done) x := mostOf_append _ _ _
      have hi1 := (intOK_i64 x).1 (hli x (List.mem_of_getElem? hg0))
      refine t_rg0 ?_
      refine t_yes ?_
      refine t_g @hgi ?_
      refine t_gt (wr []) @hm @hi1 (hnext trivial)
    · intro _
      refine t_rg0 ?_
      refine t_no ?_
      refine t_g0 ?_
      refine t_r ?_
      simp [go_sem, hP, hgl, hn] <;> (try omega)
      all_goals exact t_f
  · rw [if_neg h2] at hR
    refine t_g @h2 ?_
    refine t_a ?_
    refine W_sub [(1005, 0)] (by simp [go_sem]) (by simp [go_sem, Val.val33N.vals] <;> omega) (by simp [go_sem]) (W_listI (v.args) (fun done => True) (fun done rest => [(.slot 6, .one (.v (dint done.length))), (.slot 1, .one (.loc 1 0)), (.loc 1, .row ([.v (dint v.kind), .v (dint v.num), .v (.sl (ints v.list)), .v (.sl (v.args.map Val.cells))])), (.slot 2, .one (.loc 2 0)), (.loc 2, .row ([.v (dint 0), .v (dint 0), .own 0 [], .own 0 []])), (.slot 5, .one (.loc 5 0)), (.loc 5, .row ([.v (dint v.kind), .v (dint v.num), .v (.sl []), .own 1005 ((Val.val33N.vals done).map Val.cells)])), (.tok 1005, .tk 4 (Val.val33N.vals done).length)]) (trivial) ?_ ?_)
    · intro done x rest hL hg0 hI hnext
      have hlt : done.length < v.args.length := by rw [hL]; simp
      have hsn : Val.val33N.vals (done ++ [x]) = Val.val33N.vals done ++ [x.val33N] := by rw [Val.vals33_append]; rfl
      have hvl := Val.vals33_len done
      have hfx := Val.fold x
      have hcx := Val.cells_eq x.val33N
      refine t_rg0 ?_
      refine t_yes ?_
      refine t_c1 (j2 @hg0 @hfx) (ih x (List.mem_of_getElem? hg0)) ?_
      refine t_gt (wr [(1005, 50)]) (j2 @hsn (j2 @hvl @hcx)) @hvl (hnext trivial)
    · intro _
      refine t_rg0 ?_
      refine t_no ?_
      refine t_g0 ?_
      refine t_r ?_
      simp [go_sem, hP, hgl, hn] <;> (try omega)
      all_goals exact t_f

def Val.value33E (v : Val) : Val × Int := if v.checkN = 0 then (v.val33N, 0) else (zV, v.checkN)
theorem refvalue33_ok (v : Val) (hc : v.count ≤ 1073741824) : Con1 Tryz.prog gl 25 [v.dv] [] (.tup [v.value33E.1.dv, dint v.value33E.2]) [] := by
  have hfv := Val.fold v
  refine t_in Tryz.func25 ?_
  intro X hP hgl hf hfn hn hR hids hfit
  refine t_g0 ?_
  refine t_c1 @hfv (check5_ok v hc) ?_
  by_cases h : v.checkN = 0
  · refine t_g @h ?_
    refine t_c1 @hfv (value33_ok v) ?_
    refine t_r ?_
    simp [go_sem, hP, hgl, hn, Val.value33E, h] <;> (try omega)
    all_goals exact t_f
  · refine t_g @h ?_
    refine t_r ?_
    simp [go_sem, hP, hgl, hn, Val.value33E, h, zV] <;> (try omega)
    all_goals exact t_f

end Go.Proofs.YtiacandbafjlfaaGreatDoor.Lift

/-
  The reference's majorants walked: ref33.
-/
namespace Go.Proofs.YtiacandbafjlfaaGreatDoor.Lift
set_option linter.unusedSimpArgs false
set_option linter.unusedVariables false
set_option linter.unnecessarySimpa false
open Go
variable {gl : Globs}

theorem of33_ok (t : Ty) : Con1 Tryz.prog gl 43 [t.dv] [] (bareN t).dv [] := by
  induction t using Ty.ind with
  | h t ih =>
  refine t_in Tryz.func43 ?_
  intro X hP hgl hf hfn hn hR hids hfit
  have hlen := Ty.fit_len (hfit t.dv (by simp))
  have wn := nat23_ok (gl := gl)
  rw [bareN_eq] at hR
  by_cases h : t.kind = 2
  · refine t_g @h ?_
    refine t_c1 trivial wn ?_
    refine t_r ?_
    simp [go_sem, hP, hgl, hn, h, natY] <;> (try omega)
    all_goals exact t_f
  · refine t_g @h ?_
    refine t_a ?_
    refine t_sub [(1003, 0)] trivial (W_list (t.args) (fun done rest => [(.slot 4, .one (.v (dint done.length))), (.slot 1, .one (.loc 1 0)), (.loc 1, .row ([.v (dint t.kind), .v (.sl (t.args.map Ty.cells))])), (.loc 3, .row ([.v (dint t.kind), .own 1003 (done.map fun x => (bareN x).cells)])), (.slot 3, .one (.loc 3 0)), (.tok 1003, .tk 2 done.length), (.loc 2, .row ([.v (dint 0), .own 0 []])), (.slot 2, .one (.loc 2 0))]) ?_ ?_)
    · intro done x rest hL hg0 hnext
      have hlt : done.length < t.args.length := by rw [hL]; simp
      have hxm := List.mem_of_getElem? hg0
      refine t_rg0 ?_
      refine t_yes ?_
      refine t_c1 @hg0 (ih x hxm) ?_
      refine t_gt (wr [(1003, 28)]) (Ty.cells_eq (bareN x)) trivial hnext
    · refine t_rg0 ?_
      refine t_no ?_
      refine t_g0 ?_
      refine t_r ?_
      simp [go_sem, hP, hgl, hn, h] <;> (try omega)
      simp [Ty.dv, Ty.cells_eq, Ty.kind_mk, Ty.args_mk]

theorem type33_ok (t : Ty) (hc : t.count ≤ 1073741824) : Con1 Tryz.prog gl 15 [t.dv] [] (.tup [t.mTypeE.1.dv, dint t.mTypeE.2]) [] := by
  have hfo := Ty.fold t
  have wc := ref01_check_ok (gl := gl) t (by omega)
  have wo := of33_ok (gl := gl) t
  refine t_in Tryz.func15 ?_
  intro X hP hgl hf hfn hn hR hids hfit
  by_cases h : t.checkN = 0
  · refine t_g0 ?_
    refine t_c1 @hfo wc ?_
    refine t_g @h ?_
    refine t_c1 @hfo wo ?_
    refine t_r ?_
    simp [go_sem, hP, hgl, hn, Ty.mTypeE, h] <;> (try omega)
    all_goals exact t_f
  · refine t_g0 ?_
    refine t_c1 @hfo wc ?_
    refine t_g @h ?_
    refine t_r ?_
    simp [go_sem, hP, hgl, hn, Ty.mTypeE, h, zY] <;> (try omega)
    all_goals exact t_f

theorem cut33_ok (x : Tm) (hs : x.shape = true) (hc : x.count ≤ 2147483648) : Con1 Tryz.prog gl 93 [x.dv] [] (.tup [(cutE x).1.dv, dint (cutE x).2]) [] := by
  have hfo := Tm.fold x
  have wc := ref02_check_ok (gl := gl) x (shape_tys x hs) hc
  refine t_in Tryz.func93 ?_
  intro X hP hgl hf hfn hn hR hids hfit
  by_cases h : 4096 < x.count
  · have hk : ¬ x.checkN = 0 := fun h0 => by have := ((Tm.checkN_iff x).1 h0).2; omega
    rw [cutE_big h] at hR
    refine t_g0 ?_
    refine t_c1 (j2 @hfo @hk) wc ?_
    refine t_g0 ?_
    refine t_r ?_
    simp [go_sem, hP, hgl, hn, zeroTm] <;> (try omega)
    all_goals exact t_f
  · have hk : x.checkN = 0 := (Tm.checkN_iff x).2 ⟨hs, by omega⟩
    rw [cutE_ok h] at hR
    rw [hk] at wc
    refine t_g0 ?_
    refine t_c1 @hfo wc ?_
    refine t_g0 ?_
    refine t_r ?_
    simp [go_sem, hP, hgl, hn] <;> (try omega)
    all_goals exact t_f

theorem lists33_ok (t : Ty) : Con1 Tryz.prog gl 50 [t.dv] [] (dbool t.listedN) [] := by
  induction t using Ty.ind with
  | h t ih =>
  refine t_in Tryz.func50 ?_
  intro X hP hgl hf hfn hn hR hids hfit
  have hlen := Ty.fit_len (hfit t.dv (by simp))
  rw [Ty.listedN_eq] at hR
  by_cases h : t.kind = 2
  · refine t_g @h ?_
    refine t_r ?_
    simp [go_sem, hP, hgl, hn, h] <;> (try omega)
  · refine t_g @h ?_
    refine t_a ?_
    refine t_sub [] trivial (W_listI (t.args) (fun done => Ty.listedsN done = false) (fun done rest => [(.slot 3, .one (.v (dint done.length))), (.slot 1, .one (.loc 1 0)), (.loc 1, .row ([.v (dint t.kind), .v (.sl (t.args.map Ty.cells))]))]) (rfl) ?_ ?_)
    · intro done x rest hL hg0 hI hnext
      have hlt : done.length < t.args.length := by rw [hL]; simp
      have hxm := List.mem_of_getElem? hg0
      refine t_rg0 ?_
      refine t_yes ?_
      by_cases hx : x.listedN = true
      · have hall : Ty.listedsN t.args = true := by rw [hL]; simp [Ty.listedsN_append, Ty.listedsN, hx]
        refine t_c1 (j2 @hg0 @hx) (ih x hxm) ?_
        refine t_g @hx ?_
        refine t_r ?_
        simp [go_sem, hP, hgl, hn, h, hall] <;> (try omega)
      · have hx' : x.listedN = false := by simpa using hx
        refine t_c1 (j2 @hg0 @hx') (ih x hxm) ?_
        refine t_g @hx' ?_
        refine t_gt (wr []) trivial trivial (hnext (by simp [Ty.listedsN_append, hI, Ty.listedsN, hx']))
    · intro hI
      refine t_rg0 ?_
      refine t_no ?_
      refine t_g0 ?_
      refine t_r ?_
      simp [go_sem, hP, hgl, hn, h, hI] <;> (try omega)

theorem large24_ok (t : Tm) : Con1 Tryz.prog gl 52 [t.dv] [] (dbool (!t.leastN 268435456)) [] := by
  induction t using Tm.ind with
  | h t ih =>
  refine t_in Tryz.func52 ?_
  intro X hP hgl hf hfn hn hR hids hfit
  have hl1 := Tm.fit_len (hfit t.dv (by simp))
  rw [Tm.leastN_eq] at hR
  by_cases h : 268435456 < t.index
  · refine t_g @h ?_
    refine t_r ?_
    simp [go_sem, hP, hgl, hn, h] <;> (try omega)
  · refine t_g @h ?_
    refine t_a ?_
    refine t_sub [] trivial (W_listI (t.args) (fun done => Tm.leastN.leasts done 268435456 = true) (fun done rest => [(.slot 3, .one (.v (dint done.length))), (.slot 1, .one (.loc 1 0)), (.loc 1, .row ([.v (dint t.kind), .v (dint t.index), .v (dint t.type.kind), .v (.sl (t.type.args.map Ty.cells)), .v (.sl (t.args.map Tm.cells))]))]) (rfl) ?_ ?_)
    · intro done x rest hL hg0 hI hnext
      have hlt : done.length < t.args.length := by rw [hL]; simp
      have hxm := List.mem_of_getElem? hg0
      refine t_rg0 ?_
      refine t_yes ?_
      by_cases hx : x.leastN 268435456 = true
      · refine t_c1 (j2 @hg0 @hx) (ih x hxm) ?_
        refine t_g @hx ?_
        refine t_gt (wr []) trivial @hx (hnext (by rw [Tm.leasts_append, hI]; simp [Tm.leastN.leasts, hx]))
      · have hx' : x.leastN 268435456 = false := by simpa using hx
        have hall : Tm.leastN.leasts t.args 268435456 = false := by rw [hL, Tm.leasts_append]; simp [Tm.leastN.leasts, hx']
        refine t_c1 (j2 @hg0 @hx') (ih x hxm) ?_
        refine t_g @hx' ?_
        refine t_r ?_
        simp [go_sem, hP, hgl, hn, hall] <;> (try omega)
    · intro hI
      refine t_rg0 ?_
      refine t_no ?_
      refine t_g0 ?_
      refine t_r ?_
      simp [go_sem, hP, hgl, hn, h, hI] <;> (try omega)

theorem app24_ok (f a : Tm) : Con1 Tryz.prog gl 94 [f.dv, a.dv] [] (nT 3 [f, a]).dv [] := by
  have wn := node24_ok (gl := gl) 3 [f, a]
  have hff := Tm.fold f
  have hfa := Tm.fold a
  have hfn1 := Tm.fold (nT 3 [f, a])
  have e : Tm.mk 3 0 (Ty.mk 0 []) [f, a] = nT 3 [f, a] := rfl
  rw [e] at wn
  simp only [List.map_cons, List.map_nil, Tm.cells_eq f, Tm.cells_eq a] at wn
  generalize nT 3 [f, a] = r at *
  refine t_in Tryz.func94 ?_
  intro X hP hgl hf hfn hn hR hids hfit
  refine t_g0 ?_
  refine t_c1 (j2 @hff @hfa) wn ?_
  refine t_r ?_
  simp [go_sem, hP, hgl, hn] <;> (try omega)
  all_goals exact t_f

theorem lift24_ok (t : Tm) (b : Nat) (hb : b ≤ 4096) (hs : t.shape = true) (hc : t.count ≤ 4096) (hi : t.idx 536870912) : Con1 Tryz.prog gl 123 [t.dv, dint 0, dint (b : Int)] [] (.tup [(t.upN 0 b).dv, dint 0]) [] := by
  have hfo := Tm.fold t
  have wc := ref02_check_ok (gl := gl) t (shape_tys t hs) (by omega)
  rw [(Tm.checkN_iff t).2 ⟨hs, hc⟩] at wc
  have wl := least_ok (gl := gl) t 536870912
  have hl : t.leastN 536870912 = true := by
    have : ∀ t : Tm, t.idx 536870912 → t.leastN 536870912 = true := by
      intro t
      induction t using Tm.ind with
      | h t ih =>
      intro h
      obtain ⟨h1, h2⟩ := (Tm.idx_eq t _).1 h
      rw [Tm.leastN_eq]
      have h3 : ∀ l : List Tm, (∀ a ∈ l, a ∈ t.args) → Tm.leastN.leasts l 536870912 = true := by
        intro l
        induction l with
        | nil => intro _; rfl
        | cons a l ihl => intro hl; simp only [Tm.leastN.leasts, ih a (hl a (by simp)) (h2 a (hl a (by simp))), ihl fun x hx => hl x (by simp [hx]), Bool.and_self]
      rw [h3 t.args fun _ h => h]
      simp; omega
    exact this t hi
  rw [hl] at wl
  have wu := up_ok (gl := gl) t 0 b (Tm.idx_mono (by decide) hi) (by omega) (by omega) (by decide) (by omega)
  have wcp := ref02_copy_ok (gl := gl) (t.upN 0 b)
  have hfu := Tm.fold (t.upN 0 b)
  have e1 : ¬ ((b : Int) < 0) := by omega
  have e2 : ¬ (4096 < (b : Int)) := by omega
  have e3 : ¬ (4096 < b) := by omega
  generalize t.upN 0 b = u at *
  refine t_in Tryz.func123 ?_
  intro X hP hgl hf hfn hn hR hids hfit
  refine t_g0 ?_
  refine t_c1 @hfo wc ?_
  refine t_g0 ?_
  refine t_c1 (j2 @hfo (j2 @e1 (j2 @e2 @e3))) wl ?_
  refine t_g0 ?_
  refine t_c2 (j2 @hfo @hfu) wu wcp ?_
  refine t_r ?_
  simp [go_sem, hP, hgl, hn] <;> (try omega)
  all_goals exact t_f
theorem up24_ok (t : Tm) (b : Nat) (hb : b ≤ 4096) (hs : t.shape = true) (hc : t.count ≤ 4096) (hi : t.idx 536870912) : Con1 Tryz.prog gl 95 [t.dv, dint (b : Int)] [] (t.upN 0 b).dv [] := by
  have w := lift24_ok (gl := gl) t b hb hs hc hi
  have hfo := Tm.fold t
  have hfu := Tm.fold (t.upN 0 b)
  generalize t.upN 0 b = u at *
  refine t_in Tryz.func95 ?_
  intro X hP hgl hf hfn hn hR hids hfit
  refine t_g0 ?_
  refine t_c1 @hfo w ?_
  refine t_g0 ?_
  refine t_r ?_
  simp [go_sem, hP, hgl, hn] <;> (try omega)
  all_goals exact t_f

theorem greatest33_ok : Con1 Tryz.prog gl 98 [] [] greatT.dv [] := by
  have w1 := ref05_sub_ok (gl := gl)
  have w2 := var24_ok (gl := gl) 0
  have w3 := app24_ok (gl := gl) subT (vT 0)
  have w4 := var24_ok (gl := gl) 1
  have w5 := app24_ok (gl := gl) (nT 3 [subT, vT 0]) (vT 1)
  have wn := nat23_ok (gl := gl)
  have w6 := ref05_plus_ok (gl := gl)
  have w7 := app24_ok (gl := gl) plusT (vT 1)
  have w8 := app24_ok (gl := gl) (nT 3 [plusT, vT 1]) (nT 3 [nT 3 [subT, vT 0], vT 1])
  have w9 := lam24_ok (gl := gl) (Ty.mk 1 []) (nT 3 [nT 3 [plusT, vT 1], nT 3 [nT 3 [subT, vT 0], vT 1]])
  have w10 := lam24_ok (gl := gl) (Ty.mk 1 []) (Tm.mk 2 0 (Ty.mk 1 []) [nT 3 [nT 3 [plusT, vT 1], nT 3 [nT 3 [subT, vT 0], vT 1]]])
  have eg : Tm.mk 2 0 (Ty.mk 1 []) [Tm.mk 2 0 (Ty.mk 1 []) [nT 3 [nT 3 [plusT, vT 1], nT 3 [nT 3 [subT, vT 0], vT 1]]]] = greatT := rfl
  rw [eg] at w10
  have ev0 : Tm.mk 1 0 (Ty.mk 0 []) [] = vT 0 := rfl
  have ev1 : Tm.mk 1 1 (Ty.mk 0 []) [] = vT 1 := rfl
  rw [ev0] at w2
  rw [ev1] at w4
  have hfs := Tm.fold (nT 3 [nT 3 [subT, vT 0], vT 1])
  have hfg := Tm.fold greatT
  generalize greatT = gg at *
  generalize Tm.mk 2 0 (Ty.mk 1 []) [nT 3 [nT 3 [plusT, vT 1], nT 3 [nT 3 [subT, vT 0], vT 1]]] = g2 at *
  generalize nT 3 [nT 3 [plusT, vT 1], nT 3 [nT 3 [subT, vT 0], vT 1]] = g3 at *
  generalize nT 3 [nT 3 [subT, vT 0], vT 1] = g4 at *
  generalize nT 3 [subT, vT 0] = g5 at *
  generalize nT 3 [plusT, vT 1] = g6 at *
  generalize plusT = pp at *
  generalize subT = ss at *
  generalize vT 0 = v0 at *
  generalize vT 1 = v1 at *
  refine t_in Tryz.func98 ?_
  intro X hP hgl hf hfn hn hR hids hfit
  refine t_g0 ?_
  refine t_c5 trivial w1 w2 w3 w4 w5 ?_
  refine t_g0 ?_
  refine t_c8 @hfs wn wn w6 w4 w7 w8 w9 w10 ?_
  refine t_r ?_
  simp [go_sem, hP, hgl, hn] <;> (try omega)
  all_goals exact t_f
end Go.Proofs.YtiacandbafjlfaaGreatDoor.Lift

/-
  The reference's greatest of two terms, walked.
-/
namespace Go.Proofs.YtiacandbafjlfaaGreatDoor.Lift
set_option linter.unusedSimpArgs false
set_option linter.unusedVariables false
set_option linter.unnecessarySimpa false
open Go
variable {gl : Globs}

theorem fine_small {M : Int} {x : Tm} (hs : x.shape = true) (hi : x.idx M) (hc : x.count ≤ 268435456) : Fine 0 M x := ⟨hc, fun _ => ⟨hs, hi⟩⟩
theorem max33_shape (c : T) (ho : c.ok) {a b : Tm} {M : Int} (hM : 10 ≤ M) (ha : a.shape = true) (hai : a.idx M) (hb : b.shape = true) (hbi : b.idx M) (h : (max33 c.ty a b).2 = 0) : (max33 c.ty a b).1.shape = true ∧ (max33 c.ty a b).1.idx (M + c.size) ∧ (max33 c.ty a b).1.count ≤ 4096 := by
  by_cases h1 : 4096 < a.count ∨ 4096 < b.count
  · rw [max33_big h1] at h; cases h
  rw [max33_ok h1] at h ⊢
  have hf := fine_max c ho hM (fine_small ha hai (by omega)) (fine_small hb hbi (by omega))
  obtain ⟨k1, k2⟩ := hf.2 h
  exact ⟨k1, k2, max_small c ho h⟩

theorem shape_n1 {k : Int} (hk : k = 5 ∨ k = 11 ∨ k = 12) {x : Tm} (hx : x.shape = true) : (nT k [x]).shape = true := by
  exact shape_n (by rcases hk with rfl | rfl | rfl <;> rfl) (by rcases hk with rfl | rfl | rfl <;> decide) (by intro z hz; simp at hz; rw [hz]; exact hx)
theorem shape_n2 {k : Int} (hk : k = 3 ∨ k = 8 ∨ k = 10) {x y : Tm} (hx : x.shape = true) (hy : y.shape = true) : (nT k [x, y]).shape = true := by
  exact shape_n (by rcases hk with rfl | rfl | rfl <;> rfl) (by rcases hk with rfl | rfl | rfl <;> decide) (by intro z hz; simp at hz; rcases hz with rfl | rfl; exact hx; exact hy)
theorem idx_n {k : Int} {M : Int} (hM : 0 ≤ M) {l : List Tm} (h : ∀ x ∈ l, x.idx M) : (nT k l).idx M := idx_node hM h

theorem maximum33_big (y : Ty) (a b : Tm) (ha : a.shape = true) (hac : a.count ≤ 2147483648) (hb : b.shape = true) (hbc : b.count ≤ 2147483648) (h : 4096 < a.count ∨ 4096 < b.count) :
    Con1 Tryz.prog gl 53 [y.dv, a.dv, b.dv] [] (.tup [zeroTm.dv, dint 4]) [] := by
  have wa := ref02_check_ok (gl := gl) a (shape_tys a ha) hac
  have wb := ref02_check_ok (gl := gl) b (shape_tys b hb) hbc
  have hfa := Tm.fold a
  have hfb := Tm.fold b
  by_cases h1 : 4096 < a.count
  · have ka : ¬ a.checkN = 0 := fun h0 => by have := ((Tm.checkN_iff a).1 h0).2; omega
    refine t_in Tryz.func53 ?_
    intro X hP hgl hf hfn hn hR hids hfit
    refine t_g0 ?_
    refine t_c1 (j2 @hfa @ka) wa ?_
    refine t_g0 ?_
    refine t_r ?_
    simp [go_sem, hP, hgl, hn, zeroTm] <;> (try omega)
    all_goals exact t_f
  · have kb : ¬ b.checkN = 0 := fun h0 => by have := ((Tm.checkN_iff b).1 h0).2; omega
    rw [(Tm.checkN_iff a).2 ⟨ha, by omega⟩] at wa
    refine t_in Tryz.func53 ?_
    intro X hP hgl hf hfn hn hR hids hfit
    refine t_g0 ?_
    refine t_c2 (j2 @hfa (j2 @hfb @kb)) wa wb ?_
    refine t_g0 ?_
    refine t_r ?_
    simp [go_sem, hP, hgl, hn, zeroTm] <;> (try omega)
    all_goals exact t_f

theorem maximum33_unit (a b : Tm) (ha : a.shape = true) (hb : b.shape = true) (h : ¬ (4096 < a.count ∨ 4096 < b.count)) :
    Con1 Tryz.prog gl 53 [(T.ty .unit).dv, a.dv, b.dv] [] (.tup [(nT 13 []).dv, dint 0]) [] := by
  have wa := ref02_check_ok (gl := gl) a (shape_tys a ha) (by omega)
  have wb := ref02_check_ok (gl := gl) b (shape_tys b hb) (by omega)
  rw [(Tm.checkN_iff a).2 ⟨ha, by omega⟩] at wa
  rw [(Tm.checkN_iff b).2 ⟨hb, by omega⟩] at wb
  have hfa := Tm.fold a
  have hfb := Tm.fold b
  have wu := unit24_ok (gl := gl)
  have e : (T.ty .unit).dv = .agg [dint 5, .sl []] := rfl
  have e2 : Tm.mk 13 0 (Ty.mk 0 []) [] = nT 13 [] := rfl
  have hfu := Tm.fold (nT 13 [])
  rw [e2] at wu
  rw [e]
  generalize nT 13 [] = u at *
  refine t_in Tryz.func53 ?_
  intro X hP hgl hf hfn hn hR hids hfit
  refine t_g0 ?_
  refine t_c2 (j2 @hfa @hfb) wa wb ?_
  refine t_g0 ?_
  refine t_c1 trivial wu ?_
  refine t_r ?_
  simp [go_sem, hP, hgl, hn] <;> (try omega)
  all_goals exact t_f

theorem maximum33_nat (a b : Tm) (ha : a.shape = true) (hb : b.shape = true) (h : ¬ (4096 < a.count ∨ 4096 < b.count)) :
    Con1 Tryz.prog gl 53 [(T.ty .nat).dv, a.dv, b.dv] [] (.tup [(cutE (nT 3 [nT 3 [greatT, a], b])).1.dv, dint (cutE (nT 3 [nT 3 [greatT, a], b])).2]) [] := by
  have wa := ref02_check_ok (gl := gl) a (shape_tys a ha) (by omega)
  have wb := ref02_check_ok (gl := gl) b (shape_tys b hb) (by omega)
  rw [(Tm.checkN_iff a).2 ⟨ha, by omega⟩] at wa
  rw [(Tm.checkN_iff b).2 ⟨hb, by omega⟩] at wb
  have hfa := Tm.fold a
  have hfb := Tm.fold b
  have sg : greatT.shape = true := by decide
  have w1 := greatest33_ok (gl := gl)
  have w2 := app24_ok (gl := gl) greatT a
  have w3 := app24_ok (gl := gl) (nT 3 [greatT, a]) b
  have cg : greatT.count ≤ 1000 := by decide
  have c1 : (nT 3 [nT 3 [greatT, a], b]).count = 1 + (1 + (greatT.count + (a.count + 0)) + (b.count + 0)) := rfl
  have w4 := cut33_ok (gl := gl) (nT 3 [nT 3 [greatT, a], b]) (shape_n2 (.inl rfl) (shape_n2 (.inl rfl) sg ha) hb) (by omega)
  have e : (T.ty .nat).dv = .agg [dint 1, .sl []] := rfl
  rw [e]
  generalize cutE (nT 3 [nT 3 [greatT, a], b]) = z at *
  obtain ⟨z1, z2⟩ := z
  simp only at w4 ⊢
  have hfz := Tm.fold z1
  generalize nT 3 [nT 3 [greatT, a], b] = x2 at *
  generalize nT 3 [greatT, a] = x1 at *
  generalize greatT = g at *
  refine t_in Tryz.func53 ?_
  intro X hP hgl hf hfn hn hR hids hfit
  refine t_g0 ?_
  refine t_c2 (j2 @hfa @hfb) wa wb ?_
  refine t_g0 ?_
  refine t_c4 (j2 @hfa @hfb) w1 w2 w3 w4 ?_
  refine t_r ?_
  simp [go_sem, hP, hgl, hn] <;> (try omega)
  all_goals exact t_f

set_option maxHeartbeats 1000000 in
theorem maximum33_pair (s t : T) (a b : Tm) (ha : a.shape = true) (hb : b.shape = true) (h : ¬ (4096 < a.count ∨ 4096 < b.count)) (X Y : Tm × Int)
    (wx : Con1 Tryz.prog gl 53 [s.ty.dv, (nT 11 [a]).dv, (nT 11 [b]).dv] [] (.tup [X.1.dv, dint X.2]) [])
    (wy : Con1 Tryz.prog gl 53 [t.ty.dv, (nT 12 [a]).dv, (nT 12 [b]).dv] [] (.tup [Y.1.dv, dint Y.2]) [])
    (wc : X.2 = 0 → Y.2 = 0 → Con1 Tryz.prog gl 93 [(nT 10 [X.1, Y.1]).dv] [] (.tup [(cutE (nT 10 [X.1, Y.1])).1.dv, dint (cutE (nT 10 [X.1, Y.1])).2]) []) :
    Con1 Tryz.prog gl 53 [(T.ty (.pair s t)).dv, a.dv, b.dv] [] (.tup [(if X.2 = 0 then if Y.2 = 0 then cutE (nT 10 [X.1, Y.1]) else (zeroTm, Y.2) else (zeroTm, X.2)).1.dv, dint (if X.2 = 0 then if Y.2 = 0 then cutE (nT 10 [X.1, Y.1]) else (zeroTm, Y.2) else (zeroTm, X.2)).2]) [] := by
  have wa := ref02_check_ok (gl := gl) a (shape_tys a ha) (by omega)
  have wb := ref02_check_ok (gl := gl) b (shape_tys b hb) (by omega)
  rw [(Tm.checkN_iff a).2 ⟨ha, by omega⟩] at wa
  rw [(Tm.checkN_iff b).2 ⟨hb, by omega⟩] at wb
  have hfa := Tm.fold a
  have hfb := Tm.fold b
  have hfs := Ty.fold s.ty
  have hft := Ty.fold t.ty
  have n1 := node24_ok (gl := gl) 11 [a]
  have n2 := node24_ok (gl := gl) 11 [b]
  have n3 := node24_ok (gl := gl) 12 [a]
  have n4 := node24_ok (gl := gl) 12 [b]
  have n5 := node24_ok (gl := gl) 10 [X.1, Y.1]
  have e1 : ∀ k l, Tm.mk k 0 (Ty.mk 0 []) l = nT k l := fun _ _ => rfl
  rw [e1] at n1 n2 n3 n4 n5
  simp only [List.map_cons, List.map_nil, Tm.cells_eq a, Tm.cells_eq b, Tm.cells_eq X.1, Tm.cells_eq Y.1] at n1 n2 n3 n4 n5
  have hfp1 := Tm.fold (nT 11 [a])
  have hfp2 := Tm.fold (nT 11 [b])
  have e : (T.ty (.pair s t)).dv = .agg [dint 3, .sl [s.ty.cells, t.ty.cells]] := rfl
  rw [e, Ty.cells_eq s.ty, Ty.cells_eq t.ty]
  generalize nT 11 [a] = a1 at *
  generalize nT 11 [b] = b1 at *
  generalize nT 12 [a] = a2 at *
  generalize nT 12 [b] = b2 at *
  generalize nT 10 [X.1, Y.1] = xy at *
  obtain ⟨x1, x2⟩ := X
  obtain ⟨y1, y2⟩ := Y
  simp only at wx wy wc n5 ⊢
  have hfx := Tm.fold x1
  have hfy := Tm.fold y1
  generalize s.ty = sy at *
  generalize t.ty = ty at *
  by_cases hx : x2 = 0
  rotate_left
  · rw [if_neg hx]
    refine t_in Tryz.func53 ?_
    intro X hP hgl hf hfn hn hR hids hfit
    refine t_g0 ?_
    refine t_c2 (j2 @hfa @hfb) wa wb ?_
    refine t_g0 ?_
    refine t_c3 (j2 @hfa (j2 @hfb @hfs)) n1 n2 wx ?_
    refine t_g @hx ?_
    refine t_r ?_
    simp [go_sem, hP, hgl, hn, zeroTm] <;> (try omega)
    all_goals exact t_f
  rw [if_pos hx]
  by_cases hy : y2 = 0
  rotate_left
  · rw [if_neg hy]
    refine t_in Tryz.func53 ?_
    intro X hP hgl hf hfn hn hR hids hfit
    refine t_g0 ?_
    refine t_c2 (j2 @hfa @hfb) wa wb ?_
    refine t_g0 ?_
    refine t_c3 (j2 @hfa (j2 @hfb @hfs)) n1 n2 wx ?_
    refine t_g @hx ?_
    refine t_c3 (j2 @hfa (j2 @hfb @hft)) n3 n4 wy ?_
    refine t_g @hy ?_
    refine t_r ?_
    simp [go_sem, hP, hgl, hn, zeroTm] <;> (try omega)
    all_goals exact t_f
  rw [if_pos hy]
  have wc := wc hx hy
  generalize cutE xy = z at *
  obtain ⟨z1, z2⟩ := z
  simp only at wc ⊢
  refine t_in Tryz.func53 ?_
  intro X hP hgl hf hfn hn hR hids hfit
  refine t_g0 ?_
  refine t_c2 (j2 @hfa @hfb) wa wb ?_
  refine t_g0 ?_
  refine t_c3 (j2 @hfa (j2 @hfb @hfs)) n1 n2 wx ?_
  refine t_g @hx ?_
  refine t_c3 (j2 @hfa (j2 @hfb @hft)) n3 n4 wy ?_
  refine t_g @hy ?_
  refine t_c2 (j2 @hfx @hfy) n5 wc ?_
  refine t_r ?_
  simp [go_sem, hP, hgl, hn] <;> (try omega)
  all_goals exact t_f

set_option maxHeartbeats 1000000 in
theorem maximum33_fn (s t : T) (a b : Tm) (M : Int) (hM : M ≤ 536870912) (ha : a.shape = true) (hai : a.idx M) (hb : b.shape = true) (hbi : b.idx M) (h : ¬ (4096 < a.count ∨ 4096 < b.count)) (X : Tm × Int)
    (wx : Con1 Tryz.prog gl 53 [t.ty.dv, (nT 3 [a.upN 0 1, vT 0]).dv, (nT 3 [b.upN 0 1, vT 0]).dv] [] (.tup [X.1.dv, dint X.2]) [])
    (wc : X.2 = 0 → Con1 Tryz.prog gl 93 [(Tm.mk 2 0 s.ty [X.1]).dv] [] (.tup [(cutE (Tm.mk 2 0 s.ty [X.1])).1.dv, dint (cutE (Tm.mk 2 0 s.ty [X.1])).2]) []) :
    Con1 Tryz.prog gl 53 [(T.ty (.fn s t)).dv, a.dv, b.dv] [] (.tup [(if X.2 = 0 then cutE (Tm.mk 2 0 s.ty [X.1]) else (zeroTm, X.2)).1.dv, dint (if X.2 = 0 then cutE (Tm.mk 2 0 s.ty [X.1]) else (zeroTm, X.2)).2]) [] := by
  have wa := ref02_check_ok (gl := gl) a (shape_tys a ha) (by omega)
  have wb := ref02_check_ok (gl := gl) b (shape_tys b hb) (by omega)
  rw [(Tm.checkN_iff a).2 ⟨ha, by omega⟩] at wa
  rw [(Tm.checkN_iff b).2 ⟨hb, by omega⟩] at wb
  have hfa := Tm.fold a
  have hfb := Tm.fold b
  have hfs := Ty.fold s.ty
  have hft := Ty.fold t.ty
  have u1 := up24_ok (gl := gl) a 1 (by decide) ha (by omega) (Tm.idx_mono hM hai)
  have u2 := up24_ok (gl := gl) b 1 (by decide) hb (by omega) (Tm.idx_mono hM hbi)
  have wv := var24_ok (gl := gl) 0
  have ev0 : Tm.mk 1 0 (Ty.mk 0 []) [] = vT 0 := rfl
  rw [ev0] at wv
  have p1 := app24_ok (gl := gl) (a.upN 0 1) (vT 0)
  have p2 := app24_ok (gl := gl) (b.upN 0 1) (vT 0)
  have wl := lam24_ok (gl := gl) s.ty X.1
  have hc1 : ((1 : Nat) : Int) = 1 := rfl
  rw [hc1] at u1 u2
  have e : (T.ty (.fn s t)).dv = .agg [dint 4, .sl [s.ty.cells, t.ty.cells]] := rfl
  rw [e, Ty.cells_eq s.ty, Ty.cells_eq t.ty]
  generalize nT 3 [a.upN 0 1, vT 0] = a1 at *
  generalize nT 3 [b.upN 0 1, vT 0] = b1 at *
  generalize a.upN 0 1 = a0 at *
  generalize b.upN 0 1 = b0 at *
  generalize vT 0 = v0 at *
  obtain ⟨x1, x2⟩ := X
  simp only at wx wc wl ⊢
  have hfx := Tm.fold x1
  generalize Tm.mk 2 0 s.ty [x1] = lx at *
  generalize s.ty = sy at *
  generalize t.ty = ty at *
  by_cases hx : x2 = 0
  rotate_left
  · rw [if_neg hx]
    refine t_in Tryz.func53 ?_
    intro X hP hgl hf hfn hn hR hids hfit
    refine t_g0 ?_
    refine t_c2 (j2 @hfa @hfb) wa wb ?_
    refine t_g0 ?_
    refine t_c7 (j2 @hfa (j2 @hfb @hft)) u1 wv p1 u2 wv p2 wx ?_
    refine t_g @hx ?_
    refine t_r ?_
    simp [go_sem, hP, hgl, hn, zeroTm] <;> (try omega)
    all_goals exact t_f
  rw [if_pos hx]
  have wc := wc hx
  generalize cutE lx = z at *
  obtain ⟨z1, z2⟩ := z
  simp only at wc ⊢
  refine t_in Tryz.func53 ?_
  intro X hP hgl hf hfn hn hR hids hfit
  refine t_g0 ?_
  refine t_c2 (j2 @hfa @hfb) wa wb ?_
  refine t_g0 ?_
  refine t_c7 (j2 @hfa (j2 @hfb @hft)) u1 wv p1 u2 wv p2 wx ?_
  refine t_g @hx ?_
  refine t_c2 (j2 @hfx @hfs) wl wc ?_
  refine t_r ?_
  simp [go_sem, hP, hgl, hn] <;> (try omega)
  all_goals exact t_f

theorem maximum33_ok : ∀ (c : T) (a b : Tm) (M : Int), c.ok → c.bare → 10 ≤ M → M + c.size ≤ 536870912 → a.shape = true → a.idx M → a.count ≤ 2147483648 → b.shape = true → b.idx M → b.count ≤ 2147483648 →
    Con1 Tryz.prog gl 53 [c.ty.dv, a.dv, b.dv] [] (.tup [(max33 c.ty a b).1.dv, dint (max33 c.ty a b).2]) [] := by
  intro c
  induction c with
  | nat =>
    intro a b M ho hbr hM hMs ha hai hac hb hbi hbc
    by_cases h : 4096 < a.count ∨ 4096 < b.count
    · rw [max33_big h]; exact maximum33_big _ a b ha hac hb hbc h
    · rw [max33_nat h]; exact maximum33_nat a b ha hb h
  | list => intro a b M ho hb; exact hb.elim
  | unit =>
    intro a b M ho hbr hM hMs ha hai hac hb hbi hbc
    by_cases h : 4096 < a.count ∨ 4096 < b.count
    · rw [max33_big h]; exact maximum33_big _ a b ha hac hb hbc h
    · rw [max33_unit h]; exact maximum33_unit a b ha hb h
  | pair s t ihs iht =>
    intro a b M ho hbr hM hMs ha hai hac hb hbi hbc
    by_cases h : 4096 < a.count ∨ 4096 < b.count
    · rw [max33_big h]; exact maximum33_big _ a b ha hac hb hbc h
    rw [max33_pair ho h]
    have ho' := ho
    simp only [T.ok, T.size] at ho' hMs
    have so : s.ok := by unfold T.ok; omega
    have to : t.ok := by unfold T.ok; omega
    have ca : ∀ k, (nT k [a]).count = 1 + (a.count + 0) := fun _ => rfl
    have cb : ∀ k, (nT k [b]).count = 1 + (b.count + 0) := fun _ => rfl
    have ia : ∀ k, (nT k [a]).idx M := fun k => idx_n (by omega) (by intro x hx; simp at hx; rw [hx]; exact hai)
    have ib : ∀ k, (nT k [b]).idx M := fun k => idx_n (by omega) (by intro x hx; simp at hx; rw [hx]; exact hbi)
    have a1 := shape_n1 (k := 11) (.inr (.inl rfl)) ha
    have a2 := shape_n1 (k := 12) (.inr (.inr rfl)) ha
    have b1 := shape_n1 (k := 11) (.inr (.inl rfl)) hb
    have b2 := shape_n1 (k := 12) (.inr (.inr rfl)) hb
    have wx := ihs (nT 11 [a]) (nT 11 [b]) M so hbr.1 hM (by omega) a1 (ia 11) (by rw [ca]; omega) b1 (ib 11) (by rw [cb]; omega)
    have wy := iht (nT 12 [a]) (nT 12 [b]) M to hbr.2 hM (by omega) a2 (ia 12) (by rw [ca]; omega) b2 (ib 12) (by rw [cb]; omega)
    refine maximum33_pair s t a b ha hb h _ _ wx wy fun h1 h2 => ?_
    obtain ⟨k1, -, k3⟩ := max33_shape s so hM a1 (ia 11) b1 (ib 11) h1
    obtain ⟨l1, -, l3⟩ := max33_shape t to hM a2 (ia 12) b2 (ib 12) h2
    exact cut33_ok _ (shape_n2 (.inr (.inr rfl)) k1 l1) (by show 1 + (_ + (_ + 0)) ≤ _; omega)
  | fn s t ihs iht =>
    intro a b M ho hbr hM hMs ha hai hac hb hbi hbc
    by_cases h : 4096 < a.count ∨ 4096 < b.count
    · rw [max33_big h]; exact maximum33_big _ a b ha hac hb hbc h
    rw [max33_fn ho h]
    have ho' := ho
    simp only [T.ok, T.size] at ho' hMs
    have so : s.ok := by unfold T.ok; omega
    have to : t.ok := by unfold T.ok; omega
    have hs1 : 1 ≤ s.size := by cases s <;> simp only [T.size] <;> omega
    have ua : (a.upN 0 1).shape = true := shape_up (by decide) ha
    have ub : (b.upN 0 1).shape = true := shape_up (by decide) hb
    have uia : (a.upN 0 1).idx (M + 1) := idx_up (by decide) hai
    have uib : (b.upN 0 1).idx (M + 1) := idx_up (by decide) hbi
    have va : (nT 3 [a.upN 0 1, vT 0]).shape = true := shape_n2 (.inl rfl) ua (shape_v (i := 0))
    have vb : (nT 3 [b.upN 0 1, vT 0]).shape = true := shape_n2 (.inl rfl) ub (shape_v (i := 0))
    have ia : (nT 3 [a.upN 0 1, vT 0]).idx (M + 1) := idx_n (by omega) (by intro x hx; simp at hx; rcases hx with rfl | rfl; exact uia; exact idx_v (by decide) (by omega))
    have ib : (nT 3 [b.upN 0 1, vT 0]).idx (M + 1) := idx_n (by omega) (by intro x hx; simp at hx; rcases hx with rfl | rfl; exact uib; exact idx_v (by decide) (by omega))
    have ca : (nT 3 [a.upN 0 1, vT 0]).count = 1 + ((a.upN 0 1).count + (1 + 0)) := rfl
    have cb : (nT 3 [b.upN 0 1, vT 0]).count = 1 + ((b.upN 0 1).count + (1 + 0)) := rfl
    have cu := up_count a 0 1
    have cv := up_count b 0 1
    have wx := iht (nT 3 [a.upN 0 1, vT 0]) (nT 3 [b.upN 0 1, vT 0]) (M + 1) to hbr.2 (by omega) (by omega) va ia (by omega) vb ib (by omega)
    refine maximum33_fn s t a b M (by omega) ha hai hb hbi h _ wx fun h1 => ?_
    obtain ⟨k1, -, k3⟩ := max33_shape t to (by omega) va ia vb ib h1
    exact cut33_ok _ (shape_t rfl (.inl rfl) (T.ok_ty so) (by intro z hz; simp at hz; rw [hz]; exact k1)) (by show 1 + (_ + 0) ≤ _; omega)
end Go.Proofs.YtiacandbafjlfaaGreatDoor.Lift

/-
  The reference's majorant of a term, walked.
-/
namespace Go.Proofs.YtiacandbafjlfaaGreatDoor.Lift
set_option linter.unusedSimpArgs false
set_option linter.unusedVariables false
set_option linter.unnecessarySimpa false
open Go
variable {gl : Globs}

theorem run_cut (x : Tm) : runT (cutE x) = cutE x := by
  by_cases h : 4096 < x.count
  · rw [cutE_big h]; rfl
  · rw [cutE_ok h]; rfl
theorem run_if (m : Int) (x : Tm) : runT (if m = 0 then cutE x else (zeroTm, m)) = if m = 0 then cutE x else (zeroTm, m) := by
  by_cases h : m = 0
  · rw [if_pos h, run_cut]
  · rw [if_neg h]; unfold runT; simp only; rw [if_neg h]
theorem run_max : ∀ (c : T) (ho : c.ok) (hb : c.bare) (a b : Tm), runT (max33 c.ty a b) = max33 c.ty a b := by
  intro c ho hb a b
  by_cases h : 4096 < a.count ∨ 4096 < b.count
  · rw [max33_big h]; rfl
  cases c with
  | nat => rw [max33_nat h, run_cut]
  | list => exact hb.elim
  | unit => rw [max33_unit h]; rfl
  | pair s t =>
    rw [max33_pair ho h]
    by_cases h1 : (max33 s.ty (nT 11 [a]) (nT 11 [b])).2 = 0
    · rw [if_pos h1, run_if]
    · rw [if_neg h1]; unfold runT; simp only; rw [if_neg h1]
  | fn s t => rw [max33_fn ho h, run_if]

/-- what is known of a majorant -/
structure Good33 (M : Int) (x : Tm) : Prop where
  shape : x.shape = true
  idx : x.idx M
  small : x.count ≤ 4096

theorem bare_T {y : Ty} (hy : y.ok) : ∃ c : T, bareN y = c.ty ∧ c.ok ∧ c.bare := by
  obtain ⟨a, rfl⟩ := T.of_shape y hy.1
  have := hy.2
  rw [T.ty_count] at this
  exact ⟨a.maj, (maj_ty a).symm, maj_ok this, a.maj_bare⟩

set_option maxHeartbeats 4000000 in
set_option maxRecDepth 100000 in
theorem term33_ok (t : Tm) : ∀ {M : Int}, t.shape = true → t.idx M → 10 ≤ M → M + 100 * t.count ≤ 536800000 → t.count ≤ 4096 →
    Con1 Tryz.prog gl 65 [t.dv] [] (.tup [(runT (majE t)).1.dv, dint (runT (majE t)).2]) [] := by
  induction t using Tm.ind with
  | h t ih =>
  intro M hs hi hM hMc hcc
  obtain ⟨hlen, hi0, hv, hty, hsa⟩ := Tm.shape_node hs
  have hix := (Tm.idx_eq t _).1 hi
  have hct := Tm.count_eq t
  have hc1 : 1 ≤ t.count := Tm.count_pos t
  have wnat := nat23_ok (gl := gl)
  refine t_in Tryz.func65 ?_
  intro X hP hgl hf hfn hn hR hids hfit
  have hlen2 := Tm.fit_len (hfit t.dv (by simp))
  rw [majE_eq] at hR
  refine t_g0 ?_
  refine t_a ?_
  refine W_sub [(1004, 0)] (by simp [go_sem]) (by simp [go_sem, majE.majsE] <;> omega) (by simp [go_sem]) (W_listI (t.args) (fun done => (majE.majsE done).2 = 0) (fun done rest => [(.slot 5, .one (.v (dint done.length))), (.slot 1, .one (.loc 1 0)), (.loc 1, .row ([.v (dint t.kind), .v (dint t.index), .v (dint t.type.kind), .v (.sl (t.type.args.map Ty.cells)), .v (.sl (t.args.map Tm.cells))])), (.slot 2, .one (.loc 2 0)), (.loc 2, .row ([.v (dint 0), .v (dint 0), .v (dint 0), .own 0 [], .own 0 []])), (.slot 4, .one (.own 1004 ((majE.majsE done).1.map Tm.cells))), (.tok 1004, .tk 5 (majE.majsE done).1.length)]) (rfl) ?_ ?_)
  · intro done x rest hL hg0 hI hnext
    have hlt : done.length < t.args.length := by rw [hL]; simp
    have hxm := List.mem_of_getElem? hg0
    have hcx := Tm.count_mem hxm
    have w := ih x hxm (hsa x hxm) (hix.2 x hxm) hM (by omega) (by omega)
    have hdl := (majs_all done hI).1
    have hfx := Tm.fold x
    refine t_rg0 ?_
    refine t_yes ?_
    refine t_g @hg0 ?_
    by_cases he : (majE x).2 = 0
    · have hrun : runT (majE x) = majE x := if_pos he
      rw [hrun] at w
      have hsn := majs_snoc done x hI he
      refine t_c1 (j2 @hg0 @hfx) w ?_
      refine t_g @he ?_
      refine t_gt (wr [(1004, 41)]) (j2 @hsn (j2 @hdl (Tm.cells_eq (majE x).1))) @hdl (hnext (by rw [hsn]))
    · have hrun : runT (majE x) = (zeroTm, (majE x).2) := if_neg he
      rw [hrun] at w
      have hst := majs_stop done x rest hI he
      rw [← hL] at hst
      have hru : runT ((zeroTm, (majE x).2) : Tm × Int) = (zeroTm, (majE x).2) := by unfold runT; simp only; rw [if_neg he]
      rw [hst, if_neg he, hru] at hR
      generalize (majE x).2 = ex at *
      refine t_c1 (j2 @hg0 @hfx) w ?_
      refine t_g @he ?_
      refine t_r ?_
      simp [go_sem, hP, hgl, hn, zeroTm] <;> (try omega)
      all_goals exact t_f
  · intro h0
    obtain ⟨hl, hx⟩ := majs_all t.args h0
    rw [if_pos h0] at hR
    have all : ∀ z ∈ (majE.majsE t.args).1, Good33 (M + 100 * ((t.count : Int) - 1)) z := by
      intro z hz
      obtain ⟨i, hi⟩ := List.getElem?_of_mem hz
      have hil := (List.getElem?_eq_some_iff.1 hi).1
      have hxi : t.args[i]? = some t.args[i] := List.getElem?_eq_getElem (by omega)
      obtain ⟨x1, x2⟩ := hx i _ hxi
      have hm := List.getElem_mem (l := t.args) (n := i) (by omega)
      have hc := Tm.count_mem hm
      have hf := fine_maj _ (hsa _ hm) (hix.2 _ hm) hM
      rw [hi] at x2; cases x2
      obtain ⟨k1, k2⟩ := hf.2 x1
      exact ⟨k1, Tm.idx_mono (by omega) k2, maj_small _ (hsa _ hm) x1⟩
    clear hx
    obtain ⟨l, hle⟩ : ∃ l, l = (majE.majsE t.args).1 := ⟨_, rfl⟩
    rw [← hle] at hR hl all ⊢
    generalize hM1 : M + 100 * ((t.count : Int) - 1) = M1 at all
    have hM2 : 10 ≤ M1 := by omega
    have hM3 : M1 + 100 ≤ 536870000 := by omega
    have hlb : l.length ≤ 3 := by
      have := arityI_le t.kind
      omega
    have hla : (l.length : Int) = arityI t.kind := by rw [hl]; exact hlen
    clear ih
    refine t_rg0 ?_
    refine t_no ?_
    refine t_g0 ?_
    refine t_c1 trivial wnat ?_
    by_cases h7 : t.kind = 7
    · have hn7 : majNodeE t.kind t.index t.type t.args l = (nT 4 [], 0) := by unfold majNodeE; rw [if_pos h7]
      rw [hn7, show runT (nT 4 [], 0) = (nT 4 [], 0) from rfl] at hR
      have w := node24_ok (gl := gl) 4 []
      rw [show Tm.mk 4 0 (Ty.mk 0 []) [] = nT 4 [] from rfl] at w
      have hfw := Tm.fold (nT 4 [])
      simp only [List.map_nil] at w
      generalize nT 4 [] = z at *
      refine t_g @h7 ?_
      refine t_c1 trivial w ?_
      refine t_r ?_
      simp [go_sem, hP, hgl, hn] <;> (try omega)
      all_goals exact t_f
    by_cases h2 : t.kind = 2
    · rw [h2] at hla
      match l, hla, all, hR with
      | [p], _, all, hR =>
        obtain ⟨gp1, gp2, gp3⟩ := all p (by simp)
        rw [if_pos (.inl h2)] at hty
        have hn2 : majNodeE t.kind t.index t.type t.args [p] = cutE (Tm.mk 2 0 (bareN t.type) [p]) := by
          unfold majNodeE
          rw [if_neg h7, if_neg (by rw [h2]; decide), if_pos h2]
          rfl
        rw [hn2, run_cut] at hR
        obtain ⟨c, hc, hco, hcb⟩ := bare_T hty
        have wo := of33_ok (gl := gl) t.type
        rw [hc] at wo hR
        have wl := lam24_ok (gl := gl) c.ty p
        have wc := cut33_ok (gl := gl) (Tm.mk 2 0 c.ty [p]) (shape_t rfl (.inl rfl) (T.ok_ty hco) (by intro z hz; simp at hz; rw [hz]; exact gp1)) (by show 1 + (p.count + 0) ≤ _; omega)
        have hfp := Tm.fold p
        have hcp := Tm.cells_eq p
        have hft := Ty.fold t.type
        have hfc := Ty.fold c.ty
        generalize c.ty = y at *
        generalize Tm.mk 2 0 y [p] = lp at *
        have hfl := Tm.fold lp
        generalize cutE lp = z at *
        obtain ⟨z1, z2⟩ := z
        simp only at wc hR
        refine t_g (j2 @h7 (j2 @h2 @hcp)) ?_
        refine t_c3 (j2 @hft (j2 @hfp @hcp)) wo wl wc ?_
        refine t_r ?_
        simp [go_sem, hP, hgl, hn] <;> (try omega)
        all_goals exact t_f
    by_cases h8 : t.kind = 8
    · rw [h8] at hla
      match l, hla, all, hR with
      | [p, q], _, all, hR =>
        obtain ⟨gp1, gp2, gp3⟩ := all p (by simp)
        obtain ⟨gq1, gq2, gq3⟩ := all q (by simp)
        have hn8 : majNodeE t.kind t.index t.type t.args [p, q] = max33 (T.ty .nat) p (nT 5 [q]) := by rw [h8]; exact maj_n8 (by omega)
        rw [hn8, run_max .nat nat_ok0 trivial] at hR
        have w5 := node24_ok (gl := gl) 5 [q]
        rw [show Tm.mk 5 0 (Ty.mk 0 []) [q] = nT 5 [q] from rfl] at w5
        have wm := maximum33_ok (gl := gl) .nat p (nT 5 [q]) M1 nat_ok0 trivial hM2 (by simp only [T.size]; omega) gp1 gp2 (by omega) (shape_n1 (.inl rfl) gq1) (idx_n (by omega) (by intro x hx; simp at hx; rw [hx]; exact gq2)) (by show 1 + (q.count + 0) ≤ _; omega)
        have hfp := Tm.fold p
        have hcp := Tm.cells_eq p
        have hfq := Tm.fold q
        have hcq := Tm.cells_eq q
        simp only [List.map_cons, List.map_nil, hcq] at w5
        have hf5 := Tm.fold (nT 5 [q])
        generalize max33 (T.ty .nat) p (nT 5 [q]) = z at *
        rw [show (T.ty .nat).dv = .agg [dint 1, .sl []] from rfl] at wm
        obtain ⟨z1, z2⟩ := z
        simp only at wm hR
        generalize nT 5 [q] = sq at *
        refine t_g (j2 @h7 (j2 @h2 (j2 @h8 (j2 @hcp @hcq)))) ?_
        refine t_c2 (j2 @hfp (j2 @hcp (j2 @hfq @hcq))) w5 wm ?_
        refine t_r ?_
        simp [go_sem, hP, hgl, hn] <;> (try omega)
        all_goals exact t_f
    by_cases h6 : t.kind = 6
    · rw [h6] at hla
      match l, hla, all, hR with
      | [p, q, r], _, all, hR =>
        obtain ⟨gp1, gp2, gp3⟩ := all p (by simp)
        obtain ⟨gq1, gq2, gq3⟩ := all q (by simp)
        obtain ⟨gr1, gr2, gr3⟩ := all r (by simp)
        rw [if_pos (.inr (.inl h6))] at hty
        obtain ⟨c, hc, hco, hcb⟩ := bare_T hty
        have hcs : c.size ≤ 64 := hco
        have hn6 := maj_n6 (i := t.index) (y := t.type) (a := t.args) (p := p) (q := q) (r := r)
        rw [h6] at hR
        rw [hn6, hc, run_if] at hR
        have wo := of33_ok (gl := gl) t.type
        rw [hc] at wo
        have uq : (q.upN 0 2).shape = true := shape_up (by decide) gq1
        have uqi : (q.upN 0 2).idx (M1 + 2) := idx_up (by decide) gq2
        have cu := up_count q 0 2
        have sv0 : (vT 0).shape = true := shape_v (i := 0)
        have sv1 : (vT 1).shape = true := shape_v (i := 1)
        have iv0 : (vT 0).idx (M1 + 2) := idx_v (by decide) (by omega)
        have iv1 : (vT 1).idx (M1 + 2) := idx_v (by decide) (by omega)
        have sn : (recNext q).shape = true := shape_n2 (.inl rfl) (shape_n2 (.inl rfl) uq sv1) sv0
        have inn : (recNext q).idx (M1 + 2) := idx_n (by omega) (by intro x hx; simp at hx; rcases hx with rfl | rfl; exact idx_n (by omega) (by intro x hx; simp at hx; rcases hx with rfl | rfl; exact uqi; exact iv1); exact iv0)
        have cn : (recNext q).count = 1 + ((1 + ((q.upN 0 2).count + (1 + 0))) + (1 + 0)) := rfl
        have wu := up24_ok (gl := gl) q 2 (by decide) gq1 gq3 (Tm.idx_mono (by omega) gq2)
        have wv0 := var24_ok (gl := gl) 0
        have wv1 := var24_ok (gl := gl) 1
        rw [show Tm.mk 1 0 (Ty.mk 0 []) [] = vT 0 from rfl] at wv0
        rw [show Tm.mk 1 1 (Ty.mk 0 []) [] = vT 1 from rfl] at wv1
        have wa1 := app24_ok (gl := gl) (q.upN 0 2) (vT 1)
        have wa2 := app24_ok (gl := gl) (nT 3 [q.upN 0 2, vT 1]) (vT 0)
        rw [show nT 3 [nT 3 [q.upN 0 2, vT 1], vT 0] = recNext q from rfl] at wa2
        have wm := maximum33_ok (gl := gl) c (vT 0) (recNext q) (M1 + 2) hco hcb (by omega) (by omega) sv0 iv0 (by decide) sn inn (by omega)
        have hsh := fun h => max33_shape (a := vT 0) (b := recNext q) c hco (M := M1 + 2) (by omega) sv0 iv0 sn inn h
        have hc2 : ((2 : Nat) : Int) = 2 := rfl
        rw [hc2] at wu
        have hft := Ty.fold t.type
        have hfc := Ty.fold c.ty
        have hccy := Ty.cells_eq c.ty
        have hfp := Tm.fold p
        have hfq := Tm.fold q
        have hcp := Tm.cells_eq p
        have hcq := Tm.cells_eq q
        have hcr := Tm.cells_eq r
        have hfn1 := Tm.fold (recNext q)
        generalize max33 c.ty (vT 0) (recNext q) = X at *
        obtain ⟨m1, m2⟩ := X
        simp only at wm hsh hR
        generalize nT 3 [q.upN 0 2, vT 1] = q1 at *
        generalize recNext q = q2 at *
        generalize q.upN 0 2 = q0 at *
        generalize vT 0 = v0 at *
        generalize vT 1 = v1 at *
        by_cases hm : m2 = 0
        rotate_left
        · rw [if_neg hm] at hR
          generalize c.ty = y at *
          refine t_g (j2 @h7 (j2 @h2 (j2 @h8 @h6))) ?_
          refine t_c1 @hft wo ?_
          refine t_g (j2 @hcp (j2 @hcq @hcr)) ?_
          refine t_c5 (j2 @hfq @hcq) wu wv1 wa1 wv0 wa2 ?_
          refine t_g0 ?_
          refine t_c2 (j2 @hfc @hfn1) wv0 wm ?_
          refine t_g @hm ?_
          refine t_r ?_
          simp [go_sem, hP, hgl, hn, zeroTm] <;> (try omega)
          all_goals exact t_f
        rw [if_pos hm] at hR
        obtain ⟨x1, x2, x3⟩ := hsh hm
        have wl1 := lam24_ok (gl := gl) c.ty m1
        have wl2 := lam24_ok (gl := gl) (Ty.mk 1 []) (Tm.mk 2 0 c.ty [m1])
        have sl1 : (Tm.mk 2 0 c.ty [m1]).shape = true := shape_t rfl (.inl rfl) (T.ok_ty hco) (by intro z hz; simp at hz; rw [hz]; exact x1)
        have sl2 : (Tm.mk 2 0 natY [Tm.mk 2 0 c.ty [m1]]).shape = true := shape_t rfl (.inl rfl) (T.ok_ty nat_ok0) (by intro z hz; simp at hz; rw [hz]; exact sl1)
        have wc := cut33_ok (gl := gl) (Tm.mk 6 0 c.ty [p, Tm.mk 2 0 natY [Tm.mk 2 0 c.ty [m1]], r]) (shape_t rfl (.inr (.inl rfl)) (T.ok_ty hco) (by intro z hz; simp at hz; rcases hz with rfl | rfl | rfl; exact gp1; exact sl2; exact gr1)) (by show 1 + (p.count + ((1 + ((1 + (m1.count + 0)) + 0)) + (r.count + 0))) ≤ _; omega)
        have hf6 : DV.agg [dint 6, dint 0, dint c.ty.kind, .sl (c.ty.args.map Ty.cells), .sl [p.cells, (Tm.mk 2 0 natY [Tm.mk 2 0 c.ty [m1]]).cells, r.cells]] = (Tm.mk 6 0 c.ty [p, Tm.mk 2 0 natY [Tm.mk 2 0 c.ty [m1]], r]).dv := by
          have := Tm.fold (Tm.mk 6 0 c.ty [p, Tm.mk 2 0 natY [Tm.mk 2 0 c.ty [m1]], r])
          simpa [Tm.kind, Tm.index, Tm.type, Tm.args] using this
        rw [show (Ty.mk 1 []).dv = .agg [dint 1, .sl []] from rfl] at wl2
        have hfm := Tm.fold m1
        generalize c.ty = y at *
        generalize Tm.mk 6 0 y [p, Tm.mk 2 0 natY [Tm.mk 2 0 y [m1]], r] = tz at *
        generalize Tm.mk 2 0 natY [Tm.mk 2 0 y [m1]] = l2 at *
        generalize Tm.mk 2 0 y [m1] = l1 at *
        have hcl2 := Tm.cells_eq l2
        rw [hcp, hcl2, hcr] at hf6
        generalize cutE tz = z at *
        obtain ⟨z1, z2⟩ := z
        simp only at wc hR
        refine t_g (j2 @h7 (j2 @h2 (j2 @h8 @h6))) ?_
        refine t_c1 @hft wo ?_
        refine t_g (j2 @hcp (j2 @hcq @hcr)) ?_
        refine t_c5 (j2 @hfq @hcq) wu wv1 wa1 wv0 wa2 ?_
        refine t_g0 ?_
        refine t_c2 (j2 @hfc @hfn1) wv0 wm ?_
        refine t_g @hm ?_
        refine t_c3 (j2 @hfc (j2 @hfm (j2 @hfp (j2 @hcp (j2 @hcr @hf6))))) wl1 wl2 wc ?_
        refine t_r ?_
        simp [go_sem, hP, hgl, hn] <;> (try omega)
        all_goals exact t_f
    by_cases h9 : t.kind = 9
    · rw [h9] at hla
      match l, hla, all, hR with
      | [p, q, r], _, all, hR =>
        obtain ⟨gp1, gp2, gp3⟩ := all p (by simp)
        obtain ⟨gq1, gq2, gq3⟩ := all q (by simp)
        obtain ⟨gr1, gr2, gr3⟩ := all r (by simp)
        rw [if_pos (.inr (.inr h9))] at hty
        obtain ⟨c, hc, hco, hcb⟩ := bare_T hty
        have hcs : c.size ≤ 64 := hco
        have hn9 := maj_n9 (i := t.index) (y := t.type) (a := t.args) (p := p) (q := q) (r := r)
        rw [h9] at hR
        rw [hn9, hc, run_if] at hR
        have wo := of33_ok (gl := gl) t.type
        rw [hc] at wo
        have uq : (q.upN 0 3).shape = true := shape_up (by decide) gq1
        have uqi : (q.upN 0 3).idx (M1 + 3) := idx_up (by decide) gq2
        have up1 : (p.upN 0 1).shape = true := shape_up (by decide) gp1
        have cu := up_count q 0 3
        have cup := up_count p 0 1
        have sv0 : (vT 0).shape = true := shape_v (i := 0)
        have sv2 : (vT 2).shape = true := shape_v (i := 2)
        have iv0 : (vT 0).idx (M1 + 3) := idx_v (by decide) (by omega)
        have iv2 : (vT 2).idx (M1 + 3) := idx_v (by decide) (by omega)
        have sn : (foldNext q).shape = true := shape_n2 (.inl rfl) (shape_n2 (.inl rfl) (shape_n2 (.inl rfl) uq sv2) sv2) sv0
        have inn : (foldNext q).idx (M1 + 3) := idx_n (by omega) (by intro x hx; simp at hx; rcases hx with rfl | rfl; exact idx_n (by omega) (by intro x hx; simp at hx; rcases hx with rfl | rfl; exact idx_n (by omega) (by intro x hx; simp at hx; rcases hx with rfl | rfl; exact uqi; exact iv2); exact iv2); exact iv0)
        have cn : (foldNext q).count = 1 + ((1 + ((1 + ((q.upN 0 3).count + (1 + 0))) + (1 + 0))) + (1 + 0)) := rfl
        have wu := up24_ok (gl := gl) q 3 (by decide) gq1 gq3 (Tm.idx_mono (by omega) gq2)
        have wup := up24_ok (gl := gl) p 1 (by decide) gp1 gp3 (Tm.idx_mono (by omega) gp2)
        have wv0 := var24_ok (gl := gl) 0
        have wv2 := var24_ok (gl := gl) 2
        rw [show Tm.mk 1 0 (Ty.mk 0 []) [] = vT 0 from rfl] at wv0
        rw [show Tm.mk 1 2 (Ty.mk 0 []) [] = vT 2 from rfl] at wv2
        have wa1 := app24_ok (gl := gl) (q.upN 0 3) (vT 2)
        have wa2 := app24_ok (gl := gl) (nT 3 [q.upN 0 3, vT 2]) (vT 2)
        have wa3 := app24_ok (gl := gl) (nT 3 [nT 3 [q.upN 0 3, vT 2], vT 2]) (vT 0)
        rw [show nT 3 [nT 3 [nT 3 [q.upN 0 3, vT 2], vT 2], vT 0] = foldNext q from rfl] at wa3
        have wm := maximum33_ok (gl := gl) c (vT 0) (foldNext q) (M1 + 3) hco hcb (by omega) (by omega) sv0 iv0 (by decide) sn inn (by omega)
        have hsh := fun h => max33_shape (a := vT 0) (b := foldNext q) c hco (M := M1 + 3) (by omega) sv0 iv0 sn inn h
        have hc3 : ((3 : Nat) : Int) = 3 := rfl
        have hc1' : ((1 : Nat) : Int) = 1 := rfl
        rw [hc3] at wu
        rw [hc1'] at wup
        have hft := Ty.fold t.type
        have hfc := Ty.fold c.ty
        have hfp := Tm.fold p
        have hfq := Tm.fold q
        have hfr := Tm.fold r
        have hcp := Tm.cells_eq p
        have hcq := Tm.cells_eq q
        have hcr := Tm.cells_eq r
        have hfn1 := Tm.fold (foldNext q)
        have hv0c := Tm.cells_eq (vT 0)
        have hcup := Tm.cells_eq (p.upN 0 1)
        generalize max33 c.ty (vT 0) (foldNext q) = X at *
        obtain ⟨m1, m2⟩ := X
        simp only at wm hsh hR
        generalize nT 3 [nT 3 [q.upN 0 3, vT 2], vT 2] = q3 at *
        generalize nT 3 [q.upN 0 3, vT 2] = q1 at *
        generalize foldNext q = q2 at *
        generalize q.upN 0 3 = q0 at *
        generalize hp1 : p.upN 0 1 = p1 at *
        generalize hv0 : vT 0 = v0 at *
        generalize vT 2 = v2 at *
        by_cases hm : m2 = 0
        rotate_left
        · rw [if_neg hm] at hR
          generalize c.ty = y at *
          refine t_g (j2 @h7 (j2 @h2 (j2 @h8 (j2 @h6 @h9)))) ?_
          refine t_c1 @hft wo ?_
          refine t_g (j2 @hcp (j2 @hcq @hcr)) ?_
          refine t_c7 (j2 @hfq @hcq) wu wv2 wa1 wv2 wa2 wv0 wa3 ?_
          refine t_g0 ?_
          refine t_c2 (j2 @hfc @hfn1) wv0 wm ?_
          refine t_g @hm ?_
          refine t_r ?_
          simp [go_sem, hP, hgl, hn, zeroTm] <;> (try omega)
          all_goals exact t_f
        rw [if_pos hm] at hR
        obtain ⟨x1, x2, x3⟩ := hsh hm
        have wl1 := lam24_ok (gl := gl) c.ty m1
        have wl2 := lam24_ok (gl := gl) (Ty.mk 1 []) (Tm.mk 2 0 c.ty [m1])
        have wl3 := lam24_ok (gl := gl) (Ty.mk 1 []) (Tm.mk 6 0 c.ty [p1, Tm.mk 2 0 natY [Tm.mk 2 0 c.ty [m1]], v0])
        have wa4 := app24_ok (gl := gl) (Tm.mk 2 0 natY [Tm.mk 6 0 c.ty [p1, Tm.mk 2 0 natY [Tm.mk 2 0 c.ty [m1]], v0]]) r
        have sl1 : (Tm.mk 2 0 c.ty [m1]).shape = true := shape_t rfl (.inl rfl) (T.ok_ty hco) (by intro z hz; simp at hz; rw [hz]; exact x1)
        have sl2 : (Tm.mk 2 0 natY [Tm.mk 2 0 c.ty [m1]]).shape = true := shape_t rfl (.inl rfl) (T.ok_ty nat_ok0) (by intro z hz; simp at hz; rw [hz]; exact sl1)
        have sl3 : (Tm.mk 6 0 c.ty [p1, Tm.mk 2 0 natY [Tm.mk 2 0 c.ty [m1]], v0]).shape = true := shape_t rfl (.inr (.inl rfl)) (T.ok_ty hco) (by intro z hz; simp at hz; rcases hz with rfl | rfl | rfl; exact up1; exact sl2; exact sv0)
        have sl4 : (Tm.mk 2 0 natY [Tm.mk 6 0 c.ty [p1, Tm.mk 2 0 natY [Tm.mk 2 0 c.ty [m1]], v0]]).shape = true := shape_t rfl (.inl rfl) (T.ok_ty nat_ok0) (by intro z hz; simp at hz; rw [hz]; exact sl3)
        have cv0 : v0.count = 1 := by rw [← hv0]; rfl
        have wc := cut33_ok (gl := gl) (nT 3 [Tm.mk 2 0 natY [Tm.mk 6 0 c.ty [p1, Tm.mk 2 0 natY [Tm.mk 2 0 c.ty [m1]], v0]], r]) (shape_n2 (.inl rfl) sl4 gr1) (by show 1 + ((1 + ((1 + (p1.count + ((1 + ((1 + (m1.count + 0)) + 0)) + (v0.count + 0)))) + 0)) + (r.count + 0)) ≤ _; omega)
        have hf6 : DV.agg [dint 6, dint 0, dint c.ty.kind, .sl (c.ty.args.map Ty.cells), .sl [p1.cells, (Tm.mk 2 0 natY [Tm.mk 2 0 c.ty [m1]]).cells, v0.cells]] = (Tm.mk 6 0 c.ty [p1, Tm.mk 2 0 natY [Tm.mk 2 0 c.ty [m1]], v0]).dv := by
          have := Tm.fold (Tm.mk 6 0 c.ty [p1, Tm.mk 2 0 natY [Tm.mk 2 0 c.ty [m1]], v0])
          simpa [Tm.kind, Tm.index, Tm.type, Tm.args] using this
        have e1 : (Ty.mk 1 []).dv = .agg [dint 1, .sl []] := rfl
        rw [e1] at wl2 wl3
        have hfm := Tm.fold m1
        generalize c.ty = y at *
        generalize nT 3 [Tm.mk 2 0 natY [Tm.mk 6 0 y [p1, Tm.mk 2 0 natY [Tm.mk 2 0 y [m1]], v0]], r] = tz at *
        generalize Tm.mk 2 0 natY [Tm.mk 6 0 y [p1, Tm.mk 2 0 natY [Tm.mk 2 0 y [m1]], v0]] = l4 at *
        generalize Tm.mk 6 0 y [p1, Tm.mk 2 0 natY [Tm.mk 2 0 y [m1]], v0] = l3 at *
        generalize Tm.mk 2 0 natY [Tm.mk 2 0 y [m1]] = l2 at *
        generalize Tm.mk 2 0 y [m1] = l1 at *
        have hcl2 := Tm.cells_eq l2
        have hfl3 := Tm.fold l3
        have hcl3 := Tm.cells_eq l3
        rw [hcup, hcl2, hv0c] at hf6
        generalize cutE tz = z at *
        obtain ⟨z1, z2⟩ := z
        simp only at wc hR
        refine t_g (j2 @h7 (j2 @h2 (j2 @h8 (j2 @h6 @h9)))) ?_
        refine t_c1 @hft wo ?_
        refine t_g (j2 @hcp (j2 @hcq @hcr)) ?_
        refine t_c7 (j2 @hfq @hcq) wu wv2 wa1 wv2 wa2 wv0 wa3 ?_
        refine t_g0 ?_
        refine t_c2 (j2 @hfc @hfn1) wv0 wm ?_
        refine t_g @hm ?_
        refine t_c4 (j2 @hfc (j2 @hfm (j2 @hfp (j2 @hcp @hf6)))) wup wl1 wl2 wv0 ?_
        refine t_g @hcl3 ?_
        refine t_c3 (j2 @hf6 (j2 @hfl3 (j2 @hfr @hcr))) wl3 wa4 wc ?_
        refine t_r ?_
        simp [go_sem, hP, hgl, hn] <;> (try omega)
        all_goals exact t_f
    · rw [if_neg (by omega)] at hty
      have hkz : t.type = Ty.mk 0 [] := by
        unfold Ty.zero at hty
        simp at hty
        obtain ⟨z1, z2⟩ := hty
        cases hh : t.type with
        | mk k ts =>
          rw [hh] at z1 z2
          simp only [Ty.kind, Ty.args] at z1 z2
          rw [z1, z2]
      have hsh : (Tm.mk t.kind t.index (Ty.mk 0 []) l).shape = true := by
        by_cases h1 : t.kind = 1
        · have hl0 : l = [] := by
            rw [h1] at hla
            exact List.length_eq_zero_iff.1 (by simpa [arityI] using hla)
          have ha0 : t.args = [] := List.length_eq_zero_iff.1 (by rw [← hl, hl0]; rfl)
          have ht : t = Tm.mk t.kind t.index (Ty.mk 0 []) [] := by
            cases t
            simp only [Tm.kind, Tm.index, Tm.type, Tm.args] at hkz ha0 ⊢
            rw [hkz, ha0]
          rw [hl0, ← ht]; exact hs
        · have hi0' : t.index = 0 := by rcases hv with h | h; exact absurd h h1; exact h
          rw [hi0']
          exact shape_n hla (by omega) fun x hx => (all x hx).shape
      have hnE : majNodeE t.kind t.index t.type t.args l = cutE (Tm.mk t.kind t.index (Ty.mk 0 []) l) := by
        unfold majNodeE
        rw [if_neg h7, if_neg h8, if_neg h2, if_neg h6, if_neg h9]
        by_cases h1 : t.kind = 1
        · rw [if_pos h1]
          have hl0 : l = [] := by
            rw [h1] at hla
            exact List.length_eq_zero_iff.1 (by simpa [arityI] using hla)
          have ha0 : t.args = [] := List.length_eq_zero_iff.1 (by rw [← hl, hl0]; rfl)
          rw [hl0, ha0, hkz, cutE_ok (show ¬ 4096 < (Tm.mk t.kind t.index (Ty.mk 0 []) []).count from by show ¬ 4096 < 1 + 0; omega)]
        · rw [if_neg h1]
          have hi0' : t.index = 0 := by rcases hv with h | h; exact absurd h h1; exact h
          rw [hi0']
          rfl
      have hcnt : ∀ l : List Tm, (∀ z ∈ l, Good33 M1 z) → Tm.count.counts l ≤ 4096 * l.length := by
        intro l
        induction l with
        | nil => intro _; exact Nat.zero_le _
        | cons a r ih =>
          intro h
          have h1 := (h a (by simp)).small
          have h2 := ih fun z hz => h z (by simp [hz])
          show a.count + Tm.count.counts r ≤ 4096 * (r.length + 1)
          omega
      have hcl := hcnt l all
      have wc := cut33_ok (gl := gl) (Tm.mk t.kind t.index (Ty.mk 0 []) l) hsh (by show 1 + Tm.count.counts l ≤ _; omega)
      rw [hnE, run_cut] at hR
      have hfz := Tm.fold (Tm.mk t.kind t.index (Ty.mk 0 []) l)
      have hfz : DV.agg [dint t.kind, dint t.index, dint 0, .sl [], .sl (l.map Tm.cells)] = (Tm.mk t.kind t.index (Ty.mk 0 []) l).dv := hfz
      generalize Tm.mk t.kind t.index (Ty.mk 0 []) l = z0 at *
      generalize cutE z0 = z at *
      obtain ⟨z1, z2⟩ := z
      simp only at wc hR
      refine t_g (j2 @h7 (j2 @h2 (j2 @h8 (j2 @h6 @h9)))) ?_
      refine t_c1 @hfz wc ?_
      refine t_r ?_
      simp [go_sem, hP, hgl, hn] <;> (try omega)
      all_goals exact t_f
end Go.Proofs.YtiacandbafjlfaaGreatDoor.Lift

