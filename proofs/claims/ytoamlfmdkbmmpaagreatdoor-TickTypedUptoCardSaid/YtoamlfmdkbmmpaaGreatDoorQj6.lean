import Derived.Test.YtoamlfmdkbmmpaaGreatDoorQj5
/-
 Package machine: Call and Eval, on terms of a type and plain values.
-/
namespace Go.Proofs.YtoamlfmdkbmmpaaGreatDoor.Lift
set_option linter.unusedSimpArgs false
set_option linter.unusedVariables false
set_option linter.unnecessarySimpa false
open Go
section
variable {gl : Globs}

def things (l : List MV) : List (List DV) := l.map fun x => [x.thing]
theorem things_nil : things [] = [] := rfl
theorem things_len (l : List MV) : (things l).length = l.length := by simp [things]
theorem things_wid (l : List MV) : ∀ e ∈ things l, e.length = 1 := by
 intro e he
 simp only [things, List.mem_map] at he
 obtain ⟨x, -, rfl⟩ := he
 rfl
theorem things_snoc {l : List MV} {i : Nat} {v : MV} (h : l[i]? = some v) : things (l.take (i + 1)) = things (l.take i) ++ [[v.thing]] := by
 rw [List.take_add_one, h]
 simp [things]

set_option maxHeartbeats 4000000 in
set_option maxRecDepth 100000 in
theorem machine_call_ok (har : globOf gl 0 = some arEls) (t : Tm) (l : List T) (r : T) (Z : Env l) (y : r.V) (c d : Nat) (hcs : callS d t (mvsOf l Z) = some (ofM r y, c)) (ht : t.checkN = 0) (hi : t.inferN [] = ((FnT l r).ty, 0)) (hl : Plains l) (hll : l.length ≤ 1000000) (hr : r.plain) (hro : r.ok) (wk : Nat) (hwk : wk ≤ 65536) (M : Nat) (hM : M ≤ 1073000000) (hX : MV.nles M (mvsOf l Z)) :
  Con1 Tryz.prog gl 105 [t.dv, .sl ((valsOf l Z).map Val.cells), dint (wk : Int)] [] (outC (valOf r y) c wk) [] := by
 obtain ⟨g, c1, c2, e1, e2, rfl⟩ := callS_parts hcs
 have hte := terms_typeof_ok (gl := gl) har t _ ht hi
 have hvl := valsOf_len l Z
 have hml := mvsOf_len l Z
 have hft := Tm.fold t
 have hfz : (Ty.mk 0 []).cells = [dint 0, .sl []] := rfl
 have hfr := Ty.fold (FnT l r).ty
 refine t_in Tryz.func105 ?_
 intro X hP hgl hf hfn hn hR hids hfit
 refine t_g0 ?_
 refine t_c1 @hft hte ?_
 refine t_g0 ?_
 refine t_a ?_
 refine t_sub [(1011, 0)] (j2 @hvl @things_nil) (W_upto (l.length) (fun i => True) (fun i => [(.slot 2, .one (.v (dint (wk : Int)))), (.slot 3, .one (.loc 3 0)), (.loc 3, .row ([.v (dint t.kind), .v (dint t.index), .v (dint t.type.kind), .v (.sl (t.type.args.map Ty.cells)), .v (.sl (t.args.map Tm.cells))])), (.slot 6, .one (.loc 6 0)), (.loc 6, .row ([.v (dint 0), .v (dint 0), .own 0 [], .own 0 []])), (.slot 9, .one (.loc 9 0)), (.loc 9, .row ([.v (dint (FnT (l.drop i) r).ty.kind), .v (.sl ((FnT (l.drop i) r).ty.args.map Ty.cells))])), (.slot 11, .one (.own 1011 (things ((mvsOf l Z).take i)))), (.tok 1011, .tk 1 i), (.slot 30, .one (.v (.sl ((valsOf l Z).map Val.cells)))), (.slot 31, .one (.v (dint l.length))), (.slot 32, .one (.v (dint i)))]) (trivial) ?_ ?_)
 ·intro i hi _ hnext
  obtain ⟨a, x, g1, g2, g3, g4, g5⟩ := args_at (r := r) l Z i hi hl
  have hvg : (List.map Val.cells (valsOf l Z))[i]? = some (valOf a x).cells := by rw [List.getElem?_map, g1]; rfl
  have hfv := Val.fold (valOf a x)
  have hcv := Val.cells_eq (valOf a x)
  have hvc := (valOf_nodes a x g4).2
  have hsz : a.size ≤ 64 := g5
  have w1 := typeE_ok (gl := gl) (valOf a x) (by omega)
  rw [valOf_typeE x g4 g5] at w1
  have w2 := sameType_ok (gl := gl) a.ty a.ty
  rw [show a.ty.same a.ty = true from (Ty.same_iff _ _).2 rfl] at w2
  have w3 := machine_from_ok (gl := gl) a x g4
  have hti : (FnT (l.drop i) r).ty = Ty.mk 4 [a.ty, (FnT (l.drop (i + 1)) r).ty] := by rw [g3, T.ty_fn]
  have hfa := Ty.fold a.ty
  have hsn := things_snoc g2
  have hln : (things ((mvsOf l Z).take i)).length = i := by rw [things_len, List.length_take]; omega
  have hwid := things_wid ((mvsOf l Z).take i)
  have hil : i ≤ 2147483647 := by omega
  have hil2 : i + 1 ≤ 2147483647 := by omega
  generalize (FnT (l.drop (i + 1)) r).ty = ty' at *
  generalize (FnT (l.drop i) r).ty = ty0 at *
  generalize a.ty = ta at *
  generalize things ((mvsOf l Z).take i) = L at *
  generalize things ((mvsOf l Z).take (i + 1)) = L' at *
  subst hti
  subst hsn
  have hct := Ty.cells_eq ty'
  refine t_rg0 ?_
  refine t_yes ?_
  refine t_g (j2 @hvg @hcv) ?_
  refine t_c1 @hfv w1 ?_
  refine t_g0 ?_
  refine t_c1 @hfa w2 ?_
  refine t_g0 ?_
  refine t_c1 (j2 @hfv (j2 @hwid (j2 @hln (j2 @hil @hil2)))) w3 ?_
  refine t_gt (wr [(1011, 62)]) @hct @hln (hnext trivial)
 ·intro _
  have hdl : FnT (l.drop l.length) r = r := by rw [List.drop_length]; rfl
  have htk : (mvsOf l Z).take l.length = mvsOf l Z := by rw [← hml]; exact List.take_length
  rw [hdl, htk]
  have wd := data_t_ok (gl := gl) r hr hro
  have hfr := Ty.fold r.ty
  have hwn : ¬ ((wk : Int) < 0) := by omega
  have hwm : ¬ (65536 < (wk : Int)) := by omega
  have HW := walkM_all (gl := gl) (most := wk) (by omega) (fun ev h1 h2 => foldM_ok (by omega) h1 h2) d
  have HN := nle_evS wk d
  have ng := HN M e1 (by simp only [MV.nles])
  refine t_rg0 ?_
  refine t_no ?_
  refine t_g0 ?_
  refine t_c1 @hfr wd ?_
  refine t_g (j2 @hwn @hwm) ?_
  refine W_expose 85 (by simp [go_sem]; rfl) ?_
  intro b hb
  simp [go_sem] at hb ⊢
  have we := HW b M e1 (Nat.zero_le _) (by omega) (by simp only [MV.nles])
  have henv : MV.envM [] = nilP := by rw [MV.envM]
  rw [henv, Nat.zero_add, useM_yes (Nat.zero_le _)] at we
  by_cases hf1 : c1 ≤ wk
  ·rw [outM_yes hf1, useM_yes hf1] at we
   have wc := callM_ok (gl := gl) (most := wk) (by omega) HW HN b (M + c1) e2 hf1 (by omega) ng (MV.nles_mono (by omega) _ hX)
   rw [useM_yes hf1] at wc
   have hmt : (mvsOf l Z).map (fun x => [x.thing]) = things (mvsOf l Z) := rfl
   rw [hmt] at wc
   by_cases hf2 : c1 + c2 ≤ wk
   ·rw [outM_yes hf2, useM_yes hf2] at wc
    have hnl := nle_call HN e2 ng (MV.nles_mono (by omega) _ hX)
    have wp := machine_plain_ok (gl := gl) r y hr (MV.nle_mono (by omega) _ hnl)
    have hfy := Val.fold (valOf r y)
    rw [outC_yes (by omega)] at hR
    refine t_c1 @hft we ?_
    refine t_g0 ?_
    refine t_c1 trivial wc ?_
    refine t_g0 ?_
    refine t_c1 trivial wp ?_
    refine t_r ?_
    simp [go_sem, hP, hgl, hn] <;> (try omega)
    all_goals exact t_f
   ·rw [outM_no hf2, useM_no hf2] at wc
    rw [outC_no (by omega)] at hR
    refine t_c1 @hft we ?_
    refine t_g0 ?_
    refine t_c1 trivial wc ?_
    refine t_g0 ?_
    refine t_r ?_
    simp [go_sem, hP, hgl, hn, zeroV] <;> (try omega)
    all_goals exact t_f
  ·rw [outM_no hf1, useM_no hf1] at we
   rw [outC_no (by omega)] at hR
   refine t_c1 @hft we ?_
   refine t_g0 ?_
   refine t_r ?_
   simp [go_sem, hP, hgl, hn, zeroV] <;> (try omega)
   all_goals exact t_f
end
section
/-
 Package tick: the run that counts ticks, walked to any depth.
-/
variable {gl : Globs}

theorem watch_all : ∀ d, WatchB Tryz.prog gl 59 (evB d)
 | 0 => by intro t e v c k u b M h; cases h
 | d + 1 => by
  have H := watch_all d
  intro t e v c k u b M h hM hu he
  rw [evB] at h
  by_cases h1 : t.kind = 1
  ·rw [if_pos h1] at h
   split at h
   ·rename_i hi
    cases h
    exact weval_1 t e u b h1 hi.1 hi.2
   ·cases h
  rw [if_neg h1] at h
  by_cases h2 : t.kind = 2
  ·rw [if_pos h2] at h
   split at h
   ·cases h
   ·rename_i hl
    cases h
    cases ha : t.args with
    | nil => rw [ha] at hl; exact absurd rfl hl
    | cons x r =>
     have : t.argN 0 = x := by simp [Tm.argN, ha]
     rw [this]
     exact weval_2 d t e u b h2 x r ha
  rw [if_neg h2] at h
  split at h
  ·cases h
  rename_i h3
  split at h
  ·cases h
  rename_i l c1 k1 hl
  obtain ⟨⟨w, c2, k2⟩, hn, hq⟩ := Option.map_eq_some_iff.1 h
  cases hq
  exact weval_n H t e l c1 k1 w c2 k2 u b M h1 h2 (by omega) hl hn (by omega) (by omega) he
end
section
/-
 Plain law: what is drawn has its type, by the rules, and at most 4096 nodes.
-/
def drawC : Nat → Nat
 | 0 => 45
 | n + 1 => 3 * drawC n + 4
theorem drawC_pos : ∀ n, 16 ≤ drawC n
 | 0 => by decide
 | n + 1 => by have := drawC_pos n; simp only [drawC]; omega
/-- no index leads out of so many variables -/
def Tm.closedN : Tm → Nat → Bool
 | .mk k i _ a, n => if k = 1 then decide (0 ≤ i) && decide (i.toNat < n) else closeds a (if k = 2 then n + 1 else n)
where
 closeds : List Tm → Nat → Bool
  | [], _ => true
  | a :: r, n => a.closedN n && closeds r n
theorem Tm.closedN_eq (t : Tm) (n : Nat) : t.closedN n = if t.kind = 1 then decide (0 ≤ t.index) && decide (t.index.toNat < n) else closedN.closeds t.args (if t.kind = 2 then n + 1 else n) := by cases t; rw [closedN]; rfl
theorem Tm.closeds_iff (l : List Tm) (n : Nat) : closedN.closeds l n = true ↔ ∀ a ∈ l, a.closedN n = true := by
 induction l with
 | nil => simp [closedN.closeds]
 | cons a r ih => simp [closedN.closeds, ih]
theorem infers_congr {l : List Tm} {g h : List Ty} (e : ∀ a ∈ l, a.inferN g = a.inferN h) : Tm.inferN.infers l g = Tm.inferN.infers l h := by
 induction l with
 | nil => rfl
 | cons a r ih => simp only [Tm.inferN.infers, e a (by simp), ih fun x hx => e x (by simp [hx])]
theorem infer_weak (t : Tm) : ∀ (l g : List Ty), t.closedN l.length = true → t.inferN (g ++ l) = t.inferN l := by
 induction t using Tm.ind with
 | h t ih =>
 intro l g hc
 rw [Tm.closedN_eq] at hc
 rw [Tm.inferN_eq t (g ++ l), Tm.inferN_eq t l]
 by_cases h1 : t.kind = 1
 ·rw [if_pos h1] at hc ⊢
  rw [if_pos h1]
  simp only [Bool.and_eq_true, decide_eq_true_eq] at hc
  have h2 : ¬ ((g ++ l).length : Int) ≤ t.index := by simp; omega
  have h3 : ¬ (l.length : Int) ≤ t.index := by omega
  rw [if_neg h2, if_neg h3]
  have e : (g ++ l).length - 1 - t.index.toNat = g.length + (l.length - 1 - t.index.toNat) := by simp; omega
  rw [e, List.getD_eq_getElem?_getD, List.getElem?_append_right (by omega), Nat.add_sub_cancel_left, List.getD_eq_getElem?_getD]
 ·rw [if_neg h1] at hc ⊢
  rw [if_neg h1]
  rw [Tm.closeds_iff] at hc
  have e : Tm.inferN.infers t.args (if t.kind = 2 then g ++ l ++ [t.type] else g ++ l) = Tm.inferN.infers t.args (if t.kind = 2 then l ++ [t.type] else l) := by
   by_cases h2 : t.kind = 2
   ·rw [if_pos h2, if_pos h2]
    rw [if_pos h2] at hc
    refine infers_congr fun a ha => ?_
    rw [List.append_assoc]
    exact ih a ha (l ++ [t.type]) g (by simpa using hc a ha)
   ·rw [if_neg h2, if_neg h2]
    rw [if_neg h2] at hc
    exact infers_congr fun a ha => ih a ha l g (hc a ha)
  rw [e]
theorem infer_closed {t : Tm} (h : t.closedN 0 = true) (g : List Ty) : t.inferN g = t.inferN [] := by
 have := infer_weak t [] g (by simpa using h)
 simpa using this

theorem infer_node {k : Int} {y : Ty} {l : List Tm} {g : List Ty} {ts : List Ty} (hk : ¬ k = 1) (h : Tm.inferN.infers l (if k = 2 then g ++ [y] else g) = (ts, 0)) : (Tm.mk k 0 y l).inferN g = ruleN k y ts := by
 rw [Tm.inferN_eq]
 show (if k = 1 then _ else if (Tm.inferN.infers l (if k = 2 then g ++ [y] else g)).2 = 0 then ruleN k y (Tm.inferN.infers l (if k = 2 then g ++ [y] else g)).1 else _) = _
 rw [if_neg hk, h, if_pos rfl]
theorem infers1 {a : Tm} {g : List Ty} {s : Ty} (h : a.inferN g = (s, 0)) : Tm.inferN.infers [a] g = ([s], 0) := by simp [Tm.inferN.infers, h]
theorem infers2 {a b : Tm} {g : List Ty} {s t : Ty} (h : a.inferN g = (s, 0)) (h' : b.inferN g = (t, 0)) : Tm.inferN.infers [a, b] g = ([s, t], 0) := by simp [Tm.inferN.infers, h, h']
theorem infers3 {a b c : Tm} {g : List Ty} {s t u : Ty} (h : a.inferN g = (s, 0)) (h' : b.inferN g = (t, 0)) (h'' : c.inferN g = (u, 0)) : Tm.inferN.infers [a, b, c] g = ([s, t, u], 0) := by simp [Tm.inferN.infers, h, h', h'']
theorem okN_of {y : Ty} (h : y.ok) : okN y = (y, 0) := by unfold okN; rw [if_pos ((Ty.checkN_iff y).2 h)]
theorem same_self (a : Ty) : a.same a = true := (Ty.same_iff a a).2 rfl
theorem two_ok' {k : Int} {s t : Ty} (hk : k = 3 ∨ k = 4) (hs : s.shape = true) (ht : t.shape = true) (hc : 1 + s.count + t.count ≤ 64) : (Ty.mk k [s, t]).ok := ⟨ty_two hk hs ht, by rw [show (Ty.mk k [s, t]).count = 1 + (s.count + (t.count + 0)) from rfl]; omega⟩

theorem infer_app {g : List Ty} {s t : Ty} {f x : Tm} (hf : f.inferN g = (Ty.mk 4 [s, t], 0)) (hx : x.inferN g = (s, 0)) : (nT 3 [f, x]).inferN g = (t, 0) := by
 unfold nT
 rw [infer_node (by decide) (infers2 hf hx)]
 unfold ruleN
 rw [if_neg (by decide), if_pos rfl, if_pos ⟨rfl, same_self s⟩]
 rfl
theorem infer_lam {g : List Ty} {s t : Ty} {x : Tm} (hx : x.inferN (g ++ [s]) = (t, 0)) (ho : (Ty.mk 4 [s, t]).ok) : (Tm.mk 2 0 s [x]).inferN g = (Ty.mk 4 [s, t], 0) := by
 rw [infer_node (by decide) (by rw [if_pos rfl]; exact infers1 hx)]
 unfold ruleN
 rw [if_pos rfl]
 exact okN_of ho
theorem infer_pair {g : List Ty} {s t : Ty} {x y : Tm} (hx : x.inferN g = (s, 0)) (hy : y.inferN g = (t, 0)) (ho : (Ty.mk 3 [s, t]).ok) : (nT 10 [x, y]).inferN g = (Ty.mk 3 [s, t], 0) := by
 unfold nT
 rw [infer_node (by decide) (infers2 hx hy)]
 exact okN_of ho
theorem infer_fst {g : List Ty} {s t : Ty} {x : Tm} (hx : x.inferN g = (Ty.mk 3 [s, t], 0)) : (nT 11 [x]).inferN g = (s, 0) := by
 unfold nT
 rw [infer_node (by decide) (infers1 hx)]
 rfl
theorem infer_snd {g : List Ty} {s t : Ty} {x : Tm} (hx : x.inferN g = (Ty.mk 3 [s, t], 0)) : (nT 12 [x]).inferN g = (t, 0) := by
 unfold nT
 rw [infer_node (by decide) (infers1 hx)]
 rfl
theorem infer_rc {g : List Ty} {t : Ty} {x f n : Tm} (hx : x.inferN g = (t, 0)) (hf : f.inferN g = (Ty.mk 4 [Ty.mk 1 [], Ty.mk 4 [t, t]], 0)) (hn : n.inferN g = (Ty.mk 1 [], 0)) : (Tm.mk 6 0 t [x, f, n]).inferN g = (t, 0) := by
 rw [infer_node (by decide) (infers3 hx hf hn)]
 unfold ruleN
 rw [if_neg (by decide), if_neg (by decide), if_neg (by decide), if_neg (by decide), if_pos rfl, if_pos ⟨same_self t, same_self _, rfl⟩]
theorem infer_fold {g : List Ty} {t : Ty} {x f n : Tm} (hx : x.inferN g = (t, 0)) (hf : f.inferN g = (Ty.mk 4 [Ty.mk 1 [], Ty.mk 4 [Ty.mk 2 [], Ty.mk 4 [t, t]]], 0)) (hn : n.inferN g = (Ty.mk 2 [], 0)) : (Tm.mk 9 0 t [x, f, n]).inferN g = (t, 0) := by
 rw [infer_node (by decide) (infers3 hx hf hn)]
 unfold ruleN
 rw [if_neg (by decide), if_neg (by decide), if_neg (by decide), if_neg (by decide), if_neg (by decide), if_neg (by decide), if_neg (by decide), if_pos rfl, if_pos ⟨same_self t, same_self _, rfl⟩]
theorem infer_succ {g : List Ty} {x : Tm} (hx : x.inferN g = (Ty.mk 1 [], 0)) : (nT 5 [x]).inferN g = (Ty.mk 1 [], 0) := by
 unfold nT
 rw [infer_node (by decide) (infers1 hx)]
 rfl
theorem infer_cons {g : List Ty} {x y : Tm} (hx : x.inferN g = (Ty.mk 1 [], 0)) (hy : y.inferN g = (Ty.mk 2 [], 0)) : (nT 8 [x, y]).inferN g = (Ty.mk 2 [], 0) := by
 unfold nT
 rw [infer_node (by decide) (infers2 hx hy)]
 rfl
theorem infer_zero (g : List Ty) : (nT 4 []).inferN g = (Ty.mk 1 [], 0) := by unfold nT; rw [infer_node (by decide) rfl]; rfl
theorem infer_nil (g : List Ty) : (nT 7 []).inferN g = (Ty.mk 2 [], 0) := by unfold nT; rw [infer_node (by decide) rfl]; rfl
theorem infer_unit (g : List Ty) : (nT 13 []).inferN g = (Ty.mk 5 [], 0) := by unfold nT; rw [infer_node (by decide) rfl]; rfl
theorem infer_num (g : List Ty) : ∀ n : Nat, (numTm n).inferN g = (Ty.mk 1 [], 0)
 | 0 => infer_zero g
 | n + 1 => infer_succ (infer_num g n)
theorem infer_var {g : List Ty} {i : Nat} (hi : i < g.length) : (vT (i : Nat)).inferN g = (varTy g i, 0) := by
 rw [Tm.inferN_eq]
 show (if (1 : Int) = 1 then if (g.length : Int) ≤ (i : Int) then _ else (g.getD (g.length - 1 - (i : Int).toNat) zeroTy, 0) else _) = _
 rw [if_pos rfl, if_neg (by omega)]
 rfl
theorem infer_plusT (g : List Ty) : plusT.inferN g = (Ty.mk 4 [Ty.mk 1 [], Ty.mk 4 [Ty.mk 1 [], Ty.mk 1 []]], 0) := by
 rw [infer_closed (by decide) g]; rfl
theorem infer_subT (g : List Ty) : subT.inferN g = (Ty.mk 4 [Ty.mk 1 [], Ty.mk 4 [Ty.mk 1 [], Ty.mk 1 []]], 0) := by
 rw [infer_closed (by decide) g]; rfl

theorem draw_infer : DrawOK (fun t g x => x.inferN g = (t, 0)) where
 var g i hi := infer_var hi
 num g n _ := infer_num g n
 app g s t f x hs ht hf hx := infer_app hf hx
 lam g s t x hs ht hx := infer_lam hx (two_ok' (.inr rfl) hs.1 ht.1 (by have := hs.2; have := ht.2; omega))
 lam2 g s t r x hs ht hr hx := by
  have c1 := hs.2; have c2 := ht.2; have c3 := hr.2
  have h1 := infer_lam (g := g ++ [s]) (s := t) (t := r) (x := x) (by rw [List.append_assoc]; exact hx) (two_ok' (.inr rfl) ht.1 hr.1 (by omega))
  exact infer_lam h1 (two_ok' (.inr rfl) hs.1 (ty_two (.inr rfl) ht.1 hr.1) (by rw [show (Ty.mk 4 [t, r]).count = 1 + (t.count + (r.count + 0)) from rfl]; omega))
 lam3 g s t u r x hs ht hu hr hx := by
  have c1 := hs.2; have c2 := ht.2; have c3 := hr.2; have c4 := hu.2
  have h1 := infer_lam (g := g ++ [s] ++ [t]) (s := u) (t := r) (x := x) (by simp only [List.append_assoc]; exact hx) (two_ok' (.inr rfl) hu.1 hr.1 (by omega))
  have e1 : (Ty.mk 4 [u, r]).count = 1 + (u.count + (r.count + 0)) := rfl
  have h2 := infer_lam h1 (two_ok' (.inr rfl) ht.1 (ty_two (.inr rfl) hu.1 hr.1) (by rw [e1]; omega))
  have e2 : (Ty.mk 4 [t, Ty.mk 4 [u, r]]).count = 1 + (t.count + ((Ty.mk 4 [u, r]).count + 0)) := rfl
  exact infer_lam h2 (two_ok' (.inr rfl) hs.1 (ty_two (.inr rfl) ht.1 (ty_two (.inr rfl) hu.1 hr.1)) (by rw [e2, e1]; omega))
 pair g s t x y hs ht hx hy := infer_pair hx hy (two_ok' (.inl rfl) hs.1 ht.1 (by have := hs.2; have := ht.2; omega))
 fst g s t x hs ht hx := infer_fst hx
 snd g s t x hs ht hx := infer_snd hx
 rc g t x f n ht hx hf hn := infer_rc hx hf hn
 fold g t x f n ht hx hf hn := infer_fold hx hf hn
 succ g x hx := infer_succ hx
 plus g x y hx hy := infer_app (infer_app (infer_plusT g) hx) hy
 sub g x y hx hy := infer_app (infer_app (infer_subT g) hx) hy
 nil g := infer_nil g
 cons g x y hx hy := infer_cons hx hy
 unit g := infer_unit g
end
section
/-
 Package typing: terms whose types are too large; terms.TypeOf with its errors.
-/
variable {gl : Globs}

abbrev sz0 : DV := .agg [dint 0, .sl [], dint 0]
theorem ty_join_big (k : Int) (a b : Ty) (ha64 : a.count ≤ 64) (hb64 : b.count ≤ 64) (hc : ¬ 1 + a.count + b.count ≤ 64) : Con1 Tryz.prog gl 121 [dint k, .agg (szC a), .agg (szC b)] [] (.tup [sz0, dint 4]) [] := by
 refine t_in Tryz.func121 ?_
 intro X hP hgl hf hfn hn hR hids hfit
 have ha := szC_eq a
 have hb := szC_eq b
 have hc1 : ¬ (1 : Int) + a.count + b.count ≤ 64 := by omega
 have hc2 : (64 : Int) < 1 + a.count + b.count := by omega
 refine t_g (j2 @ha (j2 @hb (j2 @hc1 @hc2))) ?_
 refine t_r ?_
 simp [go_sem, hP, hgl, hn] <;> (try omega)
 all_goals exact t_f
theorem node_k10_big (t : Tm) (h : t.kind = 10) (x y : Ty) (hx64 : x.count ≤ 64) (hy64 : y.count ≤ 64) (hc : ¬ 1 + x.count + y.count ≤ 64) :
  Con1 Tryz.prog gl 122 [t.dv, .agg (sz3 [x, y])] [] (.tup [sz0, dint 4]) [] := by
 rw [sz3_2]
 have wp := ty_plain_ok (gl := gl) 10
 rw [if_neg (by decide), if_neg (by decide), if_neg (by decide), if_neg (by decide), if_neg (by decide)] at wp
 have hi : ints [] = [] := rfl
 rw [hi] at wp
 have wj := ty_join_big (gl := gl) 3 x y hx64 hy64 hc
 simp only [szC_eq] at wj ⊢
 refine t_in Tryz.func122 ?_
 intro X hP hgl hf hfn hn hR hids hfit
 refine t_g @h ?_
 refine t_c1 @h wp ?_
 refine t_g @h ?_
 refine t_c1 trivial wj ?_
 refine t_r ?_
 simp [go_sem, hP, hgl, hn] <;> (try omega)

theorem okN_big {k : Int} {s t : Ty} (hk : k = 3 ∨ k = 4) (hs : s.ok) (ht : t.ok) (h : (okN (Ty.mk k [s, t])).2 ≠ 0) : ¬ 1 + s.count + t.count ≤ 64 := by
 intro hc
 apply h
 rw [okN_of (two_ok' hk hs.1 ht.1 hc)]
theorem rule_big {k : Int} {y : Ty} {l : List Ty} (hk2 : ¬ k = 2) (h : (ruleN k y l).2 = 4) : k = 10 ∧ (okN (Ty.mk 3 [l.getD 0 zeroTy, l.getD 1 zeroTy])).2 ≠ 0 := by
 unfold ruleN at h
 rw [if_neg hk2] at h
 by_cases h10 : k = 10
 ·subst h10
  rw [if_neg (by decide), if_neg (by decide), if_neg (by decide), if_neg (by decide), if_neg (by decide), if_neg (by decide), if_neg (by decide), if_pos rfl] at h
  exact ⟨rfl, by rw [h]; decide⟩
 ·exfalso
  rw [if_neg h10] at h
  repeat' split at h
  all_goals first | (cases h; done) | contradiction
theorem infers_first {g : List Ty} : ∀ {l : List Tm}, (Tm.inferN.infers l g).2 = 4 → ∃ (i : Nat) (x : Tm), l[i]? = some x ∧ (x.inferN g).2 = 4 ∧ ∀ (j : Nat) (y : Tm), j < i → l[j]? = some y → (y.inferN g).2 = 0
 | [], h => by cases h
 | a :: r, h => by
  simp only [Tm.inferN.infers] at h
  by_cases e : (a.inferN g).2 = 0
  ·rw [if_pos e] at h
   by_cases e2 : (Tm.inferN.infers r g).2 = 0
   ·rw [if_pos e2] at h; cases h
   ·rw [if_neg e2] at h
    obtain ⟨i, x, h1, h2, h3⟩ := infers_first (l := r) h
    refine ⟨i + 1, x, by simpa using h1, h2, fun j y hj hy => ?_⟩
    cases j with
    | zero => simp at hy; rw [← hy]; exact e
    | succ j => exact h3 j y (by omega) (by simpa using hy)
  ·rw [if_neg e] at h
   exact ⟨0, a, rfl, h, fun j y hj _ => absurd hj (Nat.not_lt_zero _)⟩

set_option maxHeartbeats 1000000 in
theorem typeof_t_big (t : Tm) (g : List Ty) (hgt : g.length + t.count ≤ 2147483648) (ht : t.shape = true) (hg : ∀ x ∈ g, x.ok) (h : (t.inferN g).2 = 4) :
  Con1 Tryz.prog gl 73 [.sl (g.map szC), t.dv] [] (.tup [sz0, dint 4]) [] := by
 induction t using Tm.ind generalizing g with
 | h t ih =>
 obtain ⟨ha, hi, hv, hty, hs⟩ := Tm.shape_node ht
 refine t_in Tryz.func73 ?_
 intro X hP hgl hf hfn hn hR hids hfit
 have hlg := sl_len (hfit (.sl (g.map szC)) (by simp))
 simp at hlg
 rw [Tm.inferN_eq t] at h
 by_cases h1 : t.kind = 1
 ·rw [if_pos h1] at h
  split at h <;> cases h
 rw [if_neg h1] at h
 by_cases hk2 : t.kind = 2
 ·rw [if_pos hk2] at h
  rw [hk2] at ha
  obtain ⟨b, hb⟩ : ∃ b, t.args = [b] := by
   match hh : t.args, ha with
   | [b], _ => exact ⟨b, rfl⟩
  have hbm : b ∈ t.args := by rw [hb]; simp
  rw [if_pos (.inl hk2)] at hty
  have hg' : ∀ x ∈ g ++ [t.type], x.ok := by
   intro x hx
   rcases List.mem_append.1 hx with hx | hx
   ·exact hg x hx
   ·rw [List.mem_singleton.1 hx]; exact hty
  have hcb1 : t.count = 1 + (b.count + 0) := by rw [Tm.count_eq, hb]; rfl
  have hcb2 := Tm.count_pos b
  have hgl1 : g.length ≤ 2147483647 := by omega
  have wo := ty_of_ok (gl := gl) t.type hty
  have fty := Ty.fold t.type
  have fb := Tm.fold b
  have hszm : List.map szC (g ++ [t.type]) = List.map szC g ++ [szC t.type] := by simp
  have hlm : (List.map szC g).length = g.length := by simp
  have hwid : ∀ e : List DV, e ∈ List.map szC g → e.length = 3 := by intro e he; simp only [List.mem_map] at he; obtain ⟨x, -, rfl⟩ := he; rfl
  rw [hb] at h
  simp only [Tm.inferN.infers] at h
  by_cases hb0 : (b.inferN (g ++ [t.type])).2 = 0
  ·rw [if_pos hb0] at h
   simp only [if_true] at h
   have hbo := Tm.inferN_ok b (g ++ [t.type]) (hs b hbm) hg' hb0
   have w1 := typeof_t_ok (gl := gl) b (g ++ [t.type]) (by simp; omega) (hs b hbm) hg' hb0
   generalize (b.inferN (g ++ [t.type])).1 = rb at *
   have hrule : ruleN t.kind t.type [rb] = okN (Ty.mk 4 [t.type, rb]) := by rw [hk2]; rfl
   rw [hrule] at h
   have hbig := okN_big (.inr rfl) hty hbo (by rw [h]; decide)
   have wj := ty_join_big (gl := gl) 4 t.type rb hty.2 hbo.2 hbig
   rw [hszm] at w1
   simp only [szC_eq t.type, szC_eq rb] at w1 wo wj
   generalize List.map szC g = G at *
   have htake : List.take g.length G = G := by rw [List.take_of_length_le]; omega
   refine t_g @hk2 ?_
   refine t_c1 (j2 @hk2 @fty) wo ?_
   refine t_c1 (j2 @hk2 (j2 @hb (j2 @htake (j2 @hlm (j2 @hwid @hgl1))))) w1 ?_
   refine t_g0 ?_
   refine t_c1 trivial wj ?_
   refine t_r ?_
   simp [go_sem, hP, hgl, hn] <;> (try omega)
  ·rw [if_neg hb0] at h
   simp only at h
   rw [if_neg hb0] at h
   have w1 := ih b hbm (g ++ [t.type]) (by simp; omega) (hs b hbm) hg' h
   rw [hszm] at w1
   simp only [szC_eq t.type] at w1 wo
   generalize List.map szC g = G at *
   have htake : List.take g.length G = G := by rw [List.take_of_length_le]; omega
   refine t_g @hk2 ?_
   refine t_c1 (j2 @hk2 @fty) wo ?_
   refine t_c1 (j2 @hk2 (j2 @hb (j2 @htake (j2 @hlm (j2 @hwid @hgl1))))) w1 ?_
   refine t_g0 ?_
   refine t_r ?_
   simp [go_sem, hP, hgl, hn] <;> (try omega)
   all_goals exact t_f
 rw [if_neg hk2] at h
 have hlen := Tm.fit_len (hfit t.dv (by simp))
 have h3 : t.args.length ≤ 3 := by
  have : arityI t.kind ≤ 3 := by unfold arityI; (repeat' split) <;> omega
  omega
 have ftt := Tm.fold t
 have stepOK : ∀ (i : Nat) (x : Tm), t.args[i]? = some x → (x.inferN g).2 = 0 → Con1 Tryz.prog gl 73 [.sl (g.map szC), x.dv] [] (.tup [.agg (szC (x.inferN g).1), dint 0]) [] := by
  intro i x hx h0
  have hm := List.mem_of_getElem? hx
  have hcx := Tm.count_mem hm
  have hct := Tm.count_eq t
  exact typeof_t_ok x g (by omega) (hs x hm) hg h0
 by_cases hI : (Tm.inferN.infers t.args g).2 = 0
 ·rw [if_pos hI] at h
  obtain ⟨h10, hbg⟩ := rule_big hk2 h
  obtain ⟨hdl, hall⟩ := Tm.infers_all t.args g hI
  rw [h10] at ha
  match hargs : t.args, ha with
  | [x, y], _ =>
   obtain ⟨x1, x2⟩ := hall 0 x (by rw [hargs]; rfl)
   obtain ⟨y1, y2⟩ := hall 1 y (by rw [hargs]; rfl)
   have w := stepOK 0 x (by rw [hargs]; rfl) x1
   have v := stepOK 1 y (by rw [hargs]; rfl) y1
   have xo := Tm.inferN_ok x g (hs x (by rw [hargs]; simp)) hg x1
   have yo := Tm.inferN_ok y g (hs y (by rw [hargs]; simp)) hg y1
   have e0 : (Tm.inferN.infers t.args g).1.getD 0 zeroTy = (x.inferN g).1 := by rw [List.getD_eq_getElem?_getD, x2]; rfl
   have e1 : (Tm.inferN.infers t.args g).1.getD 1 zeroTy = (y.inferN g).1 := by rw [List.getD_eq_getElem?_getD, y2]; rfl
   rw [e0, e1] at hbg
   have hbig := okN_big (.inl rfl) xo yo hbg
   generalize (x.inferN g).1 = d at *
   generalize (y.inferN g).1 = e at *
   have wn := node_k10_big (gl := gl) t h10 d e xo.2 yo.2 hbig
   rw [sz3_2] at wn
   simp only [szC_eq] at w v
   clear ih stepOK
   generalize List.map szC g = G at *
   rw [hargs] at ftt
   simp only [List.map_cons, List.map_nil] at ftt
   rw [Tm.cells_eq x, Tm.cells_eq y] at ftt
   refine t_g (j2 @h1 (j2 @hk2 @hargs)) ?_
   refine W_loop ?_
   refine t_g @hargs ?_
   refine t_c1 trivial w ?_
   refine t_g0 ?_
   refine W_sub [] (s' := [(.slot 0, .one (.v (.sl G))), (.slot 67, .one (.v (dint 1))), (.slot 66, .one (.v (dint 2))), (.slot 65, .one (.v (.sl [x.cells, y.cells]))), (.slot 3, .one (.loc 3 0)), (.loc 3, .row ([.v (dint t.kind), .v (dint t.index), .v (dint t.type.kind), .v (.sl (t.type.args.map Ty.cells)), .v (.sl [x.cells, y.cells])])), (.slot 4, .one (.loc 4 0)), (.loc 4, .row ([.v (dint 0), .own 0 [], .v (dint 0)])), (.slot 9, .one (.loc 9 0)), (.loc 9, .row ([.v (dint d.kind), .v (.sl (d.args.map Ty.cells)), .v (dint (d.count : Int)), .v (dint 0), .own 0 [], .v (dint 0), .v (dint 0), .own 0 [], .v (dint 0)]))]) (by simp [go_sem]) (by simp [go_sem, hargs]) (by simp [go_sem]) ?_
   refine W_inLoop ?_
   refine t_g @hargs ?_
   refine t_c1 trivial v ?_
   refine t_g0 ?_
   refine W_sub [] (s' := [(.slot 0, .one (.v (.sl G))), (.slot 67, .one (.v (dint 2))), (.slot 66, .one (.v (dint 2))), (.slot 65, .one (.v (.sl [x.cells, y.cells]))), (.slot 3, .one (.loc 3 0)), (.loc 3, .row ([.v (dint t.kind), .v (dint t.index), .v (dint t.type.kind), .v (.sl (t.type.args.map Ty.cells)), .v (.sl [x.cells, y.cells])])), (.slot 4, .one (.loc 4 0)), (.loc 4, .row ([.v (dint 0), .own 0 [], .v (dint 0)])), (.slot 9, .one (.loc 9 0)), (.loc 9, .row ([.v (dint d.kind), .v (.sl (d.args.map Ty.cells)), .v (dint (d.count : Int)), .v (dint e.kind), .v (.sl (e.args.map Ty.cells)), .v (dint (e.count : Int)), .v (dint 0), .own 0 [], .v (dint 0)]))]) (by simp [go_sem]) (by simp [go_sem, hargs]) (by simp [go_sem]) ?_
   refine W_inLoop ?_
   refine t_g0 ?_
   refine t_c1 @ftt wn ?_
   refine t_r ?_
   simp [go_sem, hP, hgl, hn] <;> (try omega)
 rw [if_neg hI] at h
 obtain ⟨i, z, z1, z2, z3⟩ := infers_first h
 have zm := List.mem_of_getElem? z1
 have wz := ih z zm g (by have hcx := Tm.count_mem zm; have hct := Tm.count_eq t; omega) (hs z zm) hg z2
 clear ih
 have hiz : i < t.args.length := (List.getElem?_eq_some_iff.1 z1).1
 match hargs : t.args, h3 with
 | [], _ => rw [hargs] at hiz; simp at hiz
 | [x], _ =>
  rw [hargs] at z1 z3 hiz ftt
  simp only [List.map_cons, List.map_nil] at ftt
  rw [Tm.cells_eq x] at ftt
  match i, hiz, z1, z3 with
  | 0, _, z1, z3 =>
   simp at z1
   subst z1
   clear stepOK
   generalize List.map szC g = G at *
   refine t_g (j2 @h1 (j2 @hk2 @hargs)) ?_
   refine W_loop ?_
   refine t_g @hargs ?_
   refine t_c1 trivial wz ?_
   refine t_g0 ?_
   refine t_r ?_
   simp [go_sem, hP, hgl, hn] <;> (try omega)
   all_goals exact t_f
  | i + 1, hiz, _, _ => exact absurd hiz (by simp)
 | [x, y], _ =>
  rw [hargs] at z1 z3 hiz ftt
  simp only [List.map_cons, List.map_nil] at ftt
  rw [Tm.cells_eq x, Tm.cells_eq y] at ftt
  match i, hiz, z1, z3 with
  | 0, _, z1, z3 =>
   simp at z1
   subst z1
   clear stepOK
   generalize List.map szC g = G at *
   refine t_g (j2 @h1 (j2 @hk2 @hargs)) ?_
   refine W_loop ?_
   refine t_g @hargs ?_
   refine t_c1 trivial wz ?_
   refine t_g0 ?_
   refine t_r ?_
   simp [go_sem, hP, hgl, hn] <;> (try omega)
   all_goals exact t_f
  | 1, _, z1, z3 =>
   simp at z1
   subst z1
   have w := stepOK 0 x (by rw [hargs]; rfl) (z3 0 x (by omega) rfl)
   generalize (x.inferN g).1 = d at *
   simp only [szC_eq] at w
   clear stepOK
   generalize List.map szC g = G at *
   refine t_g (j2 @h1 (j2 @hk2 @hargs)) ?_
   refine W_loop ?_
   refine t_g @hargs ?_
   refine t_c1 trivial w ?_
   refine t_g0 ?_
   refine W_sub [] (s' := [(.slot 0, .one (.v (.sl G))), (.slot 67, .one (.v (dint 1))), (.slot 66, .one (.v (dint 2))), (.slot 65, .one (.v (.sl [x.cells, y.cells]))), (.slot 3, .one (.loc 3 0)), (.loc 3, .row ([.v (dint t.kind), .v (dint t.index), .v (dint t.type.kind), .v (.sl (t.type.args.map Ty.cells)), .v (.sl [x.cells, y.cells])])), (.slot 4, .one (.loc 4 0)), (.loc 4, .row ([.v (dint 0), .own 0 [], .v (dint 0)])), (.slot 9, .one (.loc 9 0)), (.loc 9, .row ([.v (dint d.kind), .v (.sl (d.args.map Ty.cells)), .v (dint (d.count : Int)), .v (dint 0), .own 0 [], .v (dint 0), .v (dint 0), .own 0 [], .v (dint 0)]))]) (by simp [go_sem]) (by simp [go_sem, hargs]) (by simp [go_sem]) ?_
   refine W_inLoop ?_
   refine t_g @hargs ?_
   refine t_c1 trivial wz ?_
   refine t_g0 ?_
   refine t_r ?_
   simp [go_sem, hP, hgl, hn] <;> (try omega)
   all_goals exact t_f
  | i + 2, hiz, _, _ => exact absurd hiz (by simp)
 | [x, y, z'], _ =>
  rw [hargs] at z1 z3 hiz ftt
  simp only [List.map_cons, List.map_nil] at ftt
  rw [Tm.cells_eq x, Tm.cells_eq y, Tm.cells_eq z'] at ftt
  match i, hiz, z1, z3 with
  | 0, _, z1, z3 =>
   simp at z1
   subst z1
   clear stepOK
   generalize List.map szC g = G at *
   refine t_g (j2 @h1 (j2 @hk2 @hargs)) ?_
   refine W_loop ?_
   refine t_g @hargs ?_
   refine t_c1 trivial wz ?_
   refine t_g0 ?_
   refine t_r ?_
   simp [go_sem, hP, hgl, hn] <;> (try omega)
   all_goals exact t_f
  | 1, _, z1, z3 =>
   simp at z1
   subst z1
   have w := stepOK 0 x (by rw [hargs]; rfl) (z3 0 x (by omega) rfl)
   generalize (x.inferN g).1 = d at *
   simp only [szC_eq] at w
   clear stepOK
   generalize List.map szC g = G at *
   refine t_g (j2 @h1 (j2 @hk2 @hargs)) ?_
   refine W_loop ?_
   refine t_g @hargs ?_
   refine t_c1 trivial w ?_
   refine t_g0 ?_
   refine W_sub [] (s' := [(.slot 0, .one (.v (.sl G))), (.slot 67, .one (.v (dint 1))), (.slot 66, .one (.v (dint 3))), (.slot 65, .one (.v (.sl [x.cells, y.cells, z'.cells]))), (.slot 3, .one (.loc 3 0)), (.loc 3, .row ([.v (dint t.kind), .v (dint t.index), .v (dint t.type.kind), .v (.sl (t.type.args.map Ty.cells)), .v (.sl [x.cells, y.cells, z'.cells])])), (.slot 4, .one (.loc 4 0)), (.loc 4, .row ([.v (dint 0), .own 0 [], .v (dint 0)])), (.slot 9, .one (.loc 9 0)), (.loc 9, .row ([.v (dint d.kind), .v (.sl (d.args.map Ty.cells)), .v (dint (d.count : Int)), .v (dint 0), .own 0 [], .v (dint 0), .v (dint 0), .own 0 [], .v (dint 0)]))]) (by simp [go_sem]) (by simp [go_sem, hargs]) (by simp [go_sem]) ?_
   refine W_inLoop ?_
   refine t_g @hargs ?_
   refine t_c1 trivial wz ?_
   refine t_g0 ?_
   refine t_r ?_
   simp [go_sem, hP, hgl, hn] <;> (try omega)
   all_goals exact t_f
  | 2, _, z1, z3 =>
   simp at z1
   subst z1
   have w := stepOK 0 x (by rw [hargs]; rfl) (z3 0 x (by omega) rfl)
   have v := stepOK 1 y (by rw [hargs]; rfl) (z3 1 y (by omega) rfl)
   generalize (x.inferN g).1 = d at *
   generalize (y.inferN g).1 = e at *
   simp only [szC_eq] at w v
   clear stepOK
   generalize List.map szC g = G at *
   refine t_g (j2 @h1 (j2 @hk2 @hargs)) ?_
   refine W_loop ?_
   refine t_g @hargs ?_
   refine t_c1 trivial w ?_
   refine t_g0 ?_
   refine W_sub [] (s' := [(.slot 0, .one (.v (.sl G))), (.slot 67, .one (.v (dint 1))), (.slot 66, .one (.v (dint 3))), (.slot 65, .one (.v (.sl [x.cells, y.cells, z'.cells]))), (.slot 3, .one (.loc 3 0)), (.loc 3, .row ([.v (dint t.kind), .v (dint t.index), .v (dint t.type.kind), .v (.sl (t.type.args.map Ty.cells)), .v (.sl [x.cells, y.cells, z'.cells])])), (.slot 4, .one (.loc 4 0)), (.loc 4, .row ([.v (dint 0), .own 0 [], .v (dint 0)])), (.slot 9, .one (.loc 9 0)), (.loc 9, .row ([.v (dint d.kind), .v (.sl (d.args.map Ty.cells)), .v (dint (d.count : Int)), .v (dint 0), .own 0 [], .v (dint 0), .v (dint 0), .own 0 [], .v (dint 0)]))]) (by simp [go_sem]) (by simp [go_sem, hargs]) (by simp [go_sem]) ?_
   refine W_inLoop ?_
   refine t_g @hargs ?_
   refine t_c1 trivial v ?_
   refine t_g0 ?_
   refine W_sub [] (s' := [(.slot 0, .one (.v (.sl G))), (.slot 67, .one (.v (dint 2))), (.slot 66, .one (.v (dint 3))), (.slot 65, .one (.v (.sl [x.cells, y.cells, z'.cells]))), (.slot 3, .one (.loc 3 0)), (.loc 3, .row ([.v (dint t.kind), .v (dint t.index), .v (dint t.type.kind), .v (.sl (t.type.args.map Ty.cells)), .v (.sl [x.cells, y.cells, z'.cells])])), (.slot 4, .one (.loc 4 0)), (.loc 4, .row ([.v (dint 0), .own 0 [], .v (dint 0)])), (.slot 9, .one (.loc 9 0)), (.loc 9, .row ([.v (dint d.kind), .v (.sl (d.args.map Ty.cells)), .v (dint (d.count : Int)), .v (dint e.kind), .v (.sl (e.args.map Ty.cells)), .v (dint (e.count : Int)), .v (dint 0), .own 0 [], .v (dint 0)]))]) (by simp [go_sem]) (by simp [go_sem, hargs]) (by simp [go_sem]) ?_
   refine W_inLoop ?_
   refine t_g @hargs ?_
   refine t_c1 trivial wz ?_
   refine t_g0 ?_
   refine t_r ?_
   simp [go_sem, hP, hgl, hn] <;> (try omega)
   all_goals exact t_f
  | i + 3, hiz, _, _ => exact absurd hiz (by simp)

/-- terms.TypeOf of closed terms that mean something -/
theorem terms_typeof_dn (har : globOf gl 0 = some arEls) {t : Tm} {a : T} {F : Env [] → a.V} (h : Dn [] t a F) (hc : t.count ≤ 536870912) :
  Con1 Tryz.prog gl 40 [.sl [], t.dv] [] (if (t.typeE []).2 = 0 then .tup [a.ty.dv, dint 0] else .tup [(Ty.mk 0 []).dv, dint 4]) [] := by
 have hs := dn_shape h
 have hct : ctxN [] = 0 := rfl
 by_cases hk : t.checkN = 0
 ·have hty : t.typeE [] = t.inferN [] := by
   unfold Tm.typeE Tm.typedE
   rw [if_pos hct, if_pos hk]
  rw [hty]
  have hcc := ((Tm.checkN_iff t).1 hk).2
  rcases infer_of_dn h with h1 | h1
  ·have h1 : t.inferN [] = (a.ty, 0) := h1
   rw [h1]
   exact terms_typeof_ok har t a.ty hk h1
  ·have h1 : (t.inferN []).2 = 4 := h1
   rw [if_neg (by rw [h1]; decide)]
   have w2 := termscheck_ok (gl := gl) har t (shape_tys t hs) (by omega)
   rw [hk] at w2
   have w3 := typeof_t_big (gl := gl) t [] (by simp; omega) hs (by simp) h1
   have ftt := Tm.fold t
   have fz : DV.agg [dint 0, .sl []] = (Ty.mk 0 []).dv := rfl
   simp only [List.map_nil] at w3
   refine t_in Tryz.func40 ?_
   intro X hP hgl hf hfn hn hR hids hfit
   refine t_g0 ?_
   refine t_c1 trivial types_context_nil ?_
   refine t_g0 ?_
   refine t_c1 @ftt w2 ?_
   refine t_g0 ?_
   refine t_c2 @ftt typing_from_nil w3 ?_
   refine t_g0 ?_
   refine t_r ?_
   simp [go_sem, hP, hgl, hn] <;> (try omega)
   all_goals exact t_f
 ·have hk4 : t.checkN = 4 := by
   unfold Tm.checkN at hk ⊢
   rw [if_pos hs] at hk ⊢
   split at hk
   ·rename_i q; rw [if_pos q]
   ·exact absurd rfl hk
  have hty : (t.typeE []).2 = 4 := by
   unfold Tm.typeE Tm.typedE
   rw [if_pos hct, if_neg hk]
   exact hk4
  rw [if_neg (by rw [hty]; decide)]
  have w2 := termscheck_ok (gl := gl) har t (shape_tys t hs) (by omega)
  rw [hk4] at w2
  have ftt := Tm.fold t
  have fz : DV.agg [dint 0, .sl []] = (Ty.mk 0 []).dv := rfl
  refine t_in Tryz.func40 ?_
  intro X hP hgl hf hfn hn hR hids hfit
  refine t_g0 ?_
  refine t_c1 trivial types_context_nil ?_
  refine t_g0 ?_
  refine t_c1 @ftt w2 ?_
  refine t_g0 ?_
  refine t_r ?_
  simp [go_sem, hP, hgl, hn] <;> (try omega)
  all_goals exact t_f
end
section
/-
 Package machine: Call on terms that mean something, with its errors.
-/
variable {gl : Globs}

/-- what a call of the machine returns -/
def callR (t : Tm) (v : Val) (c : Nat) (work : Int) : Val × Int × Int := if (t.typeE []).2 = 0 then (if (c : Int) ≤ work then (v, (c : Int), 0) else (zeroV, 0, 5)) else (zeroV, 0, 4)
theorem callR_err (t : Tm) (v : Val) (c : Nat) (work : Int) : (callR t v c work).2.2 = 4 ∨ (callR t v c work).2.2 = 5 ∨ ((callR t v c work).2.2 = 0 ∧ (callR t v c work).1 = v) := by
 unfold callR
 split
 ·split
  ·exact .inr (.inr ⟨rfl, rfl⟩)
  ·exact .inr (.inl rfl)
 ·exact .inl rfl

theorem typeE_parts {t : Tm} {a : T} {F : Env [] → a.V} (h : Dn [] t a F) (h0 : (t.typeE []).2 = 0) : t.checkN = 0 ∧ t.inferN [] = (a.ty, 0) := by
 have hct : ctxN [] = 0 := rfl
 by_cases hk : t.checkN = 0
 ·refine ⟨hk, ?_⟩
  have hty : t.typeE [] = t.inferN [] := by
   unfold Tm.typeE Tm.typedE
   rw [if_pos hct, if_pos hk]
  rcases infer_of_dn h with h1 | h1
  ·exact h1
  ·have h1 : (t.inferN []).2 = 4 := h1
   rw [hty, h1] at h0
   cases h0
 ·unfold Tm.typeE Tm.typedE at h0
  rw [if_pos hct, if_neg hk] at h0
  exact absurd h0 hk

theorem machine_call_dn (har : globOf gl 0 = some arEls) {t : Tm} {l : List T} {r : T} {F : Env [] → (FnT l r).V} (h : Dn [] t (FnT l r) F) (hc : t.count ≤ 536870912) (Z : Env l) (y : r.V) (hl : Plains l) (hll : l.length ≤ 1000000) (hr : r.plain) (hro : r.ok) {c d : Nat} (hcs : callS d t (mvsOf l Z) = some (ofM r y, c)) (wk : Nat) (hwk : wk ≤ 65536) (M : Nat) (hM : M ≤ 1073000000) (hX : MV.nles M (mvsOf l Z)) :
  Con1 Tryz.prog gl 105 [t.dv, .sl ((valsOf l Z).map Val.cells), dint (wk : Int)] [] (.tup [(callR t (valOf r y) c wk).1.dv, dint (callR t (valOf r y) c wk).2.1, dint (callR t (valOf r y) c wk).2.2]) [] := by
 unfold callR
 by_cases h0 : (t.typeE []).2 = 0
 ·rw [if_pos h0]
  obtain ⟨h1, h2⟩ := typeE_parts h h0
  have w := machine_call_ok (gl := gl) har t l r Z _ c d hcs h1 h2 hl hll hr hro wk hwk M hM hX
  unfold outC at w
  split at w
  ·rename_i q; rw [if_pos q]; exact w
  ·rename_i q; rw [if_neg q]; exact w
 ·rw [if_neg h0]
  have hte := terms_typeof_dn (gl := gl) har h hc
  rw [if_neg h0] at hte
  have hft := Tm.fold t
  have fz : (Ty.mk 0 []).dv = .agg [dint 0, .sl []] := rfl
  rw [fz] at hte
  refine t_in Tryz.func105 ?_
  intro X hP hgl hf hfn hn hR hids hfit
  refine t_g0 ?_
  refine t_c1 @hft hte ?_
  refine t_g0 ?_
  refine t_r ?_
  simp [go_sem, hP, hgl, hn, zeroV] <;> (try omega)
  all_goals exact t_f
end
section
variable {gl : Globs}

/-- a term is as good as it needs be where there is no error -/
def Fine (e : Int) (M : Int) (t : Tm) : Prop := t.count ≤ 268435456 ∧ (e = 0 → t.shape = true ∧ t.idx M)
theorem Fine.mono {e M M' : Int} {t : Tm} (h : Fine e M t) (hM : M ≤ M') : Fine e M' t := ⟨h.1, fun he => ⟨(h.2 he).1, Tm.idx_mono hM (h.2 he).2⟩⟩
theorem Fine.later {e e' M : Int} {t : Tm} (h : Fine e M t) (he : e' = 0 → e = 0) : Fine e' M t := ⟨h.1, fun h' => h.2 (he h')⟩
end
section
variable {gl : Globs}

theorem anyLoc_mapv (d : Nat) (l : List DV) : anyLoc d (l.map SV.v) = false := by
 induction l with
 | nil => rfl
 | cons x r ih => simp [anyLoc, hasLoc, ih]
theorem anyTok_mapv (d : Nat) (l : List DV) : anyTok d (l.map SV.v) = false := by
 induction l with
 | nil => rfl
 | cons x r ih => simp [anyTok, hasTok, ih]
theorem exRow_mapv (k b : Nat) (l : List DV) : exRow k b (l.map SV.v) = l.map SV.v := by
 induction l with
 | nil => rfl
 | cons x r ih => simp only [List.map_cons, exRow, ih]; rfl
attribute [go_sem] anyLoc_mapv anyTok_mapv exRow_mapv
end
section
/-! what is drawn means something -/
def TyQ (t : Ty) (g : List Ty) (x : Tm) : Prop := ∀ (G : List T) (a : T), g = G.map T.ty → t = a.ty → ∃ F : Env G.reverse → a.V, Dn G.reverse x a F

theorem ty_fn_of {s t : Ty} {a : T} (h : Ty.mk 4 [s, t] = a.ty) : ∃ S b, a = .fn S b ∧ s = S.ty ∧ t = b.ty := by
 cases a with
 | fn S b => simp [T.ty] at h; exact ⟨S, b, rfl, h.1, h.2⟩
 | pair S b => simp [T.ty] at h
 | nat => simp [T.ty] at h
 | list => simp [T.ty] at h
 | unit => simp [T.ty] at h
theorem ty_pair_of {s t : Ty} {a : T} (h : Ty.mk 3 [s, t] = a.ty) : ∃ S b, a = .pair S b ∧ s = S.ty ∧ t = b.ty := by
 cases a with
 | pair S b => simp [T.ty] at h; exact ⟨S, b, rfl, h.1, h.2⟩
 | fn S b => simp [T.ty] at h
 | nat => simp [T.ty] at h
 | list => simp [T.ty] at h
 | unit => simp [T.ty] at h
theorem ty_nat_of {a : T} (h : Ty.mk 1 [] = a.ty) : a = .nat := by cases a <;> simp [T.ty] at h ⊢
theorem ty_list_of {a : T} (h : Ty.mk 2 [] = a.ty) : a = .list := by cases a <;> simp [T.ty] at h ⊢
theorem ty_unit_of {a : T} (h : Ty.mk 5 [] = a.ty) : a = .unit := by cases a <;> simp [T.ty] at h ⊢
theorem small_T {s : Ty} (h : s.small) : ∃ S : T, s = S.ty ∧ S.ok ∧ S.size ≤ 15 := by
 obtain ⟨S, rfl⟩ := T.of_shape s h.1
 have := h.2
 rw [T.ty_count] at this
 exact ⟨S, rfl, by unfold T.ok; omega, this⟩
theorem small_Ts : ∀ {g : List Ty}, (∀ x ∈ g, x.small) → ∃ G : List T, g = G.map T.ty ∧ ∀ a ∈ G, a.ok
 | [], _ => ⟨[], rfl, fun a h => by cases h⟩
 | s :: g, h => by
  obtain ⟨S, h1, h2, -⟩ := small_T (h s (by simp))
  obtain ⟨G, g1, g2⟩ := small_Ts (g := g) fun x hx => h x (by simp [hx])
  exact ⟨S :: G, by rw [h1, g1]; rfl, fun a ha => by rcases List.mem_cons.1 ha with rfl | ha; exact h2; exact g2 a ha⟩

theorem dn_num (Γ : List T) : ∀ n : Nat, ∃ F : Env Γ → T.nat.V, Dn Γ (numTm n) .nat F
 | 0 => ⟨_, .zero⟩
 | n + 1 => by
  obtain ⟨F, h⟩ := dn_num Γ n
  exact ⟨_, .succ h⟩

theorem draw_typed : DrawOK TyQ where
 var g i hi G a hg ht := by
  subst hg
  have hl : i < G.length := by simpa using hi
  obtain ⟨b, hb⟩ : ∃ b, G[G.length - 1 - i]? = some b := ⟨_, List.getElem?_eq_getElem (by omega)⟩
  have hv : varTy (G.map T.ty) i = b.ty := by
   unfold varTy
   rw [List.getD_eq_getElem?_getD, List.length_map, List.getElem?_map, hb]
   rfl
  have hab : a = b := T.ty_inj (by rw [← ht, hv])
  subst hab
  have hr : G.reverse[i]? = some a := by rw [List.getElem?_reverse hl, hb]
  obtain ⟨p, hp⟩ := At.of hr
  exact ⟨p, .var hp⟩
 num g n _ G a hg ht := by
  obtain rfl := ty_nat_of ht
  exact dn_num _ n
 app g s t f x hs ht hf hx G a hg hta := by
  obtain ⟨S, rfl, -⟩ := small_T hs
  obtain ⟨F, h1⟩ := hf G (.fn S a) hg (by rw [hta]; rfl)
  obtain ⟨X, h2⟩ := hx G S hg rfl
  exact ⟨_, .app h1 h2⟩
 lam g s t x hs ht hx G a hg hta := by
  obtain ⟨S, b, rfl, rfl, rfl⟩ := ty_fn_of hta
  obtain ⟨S', e, ho, -⟩ := small_T hs
  obtain rfl := T.ty_inj e
  have := hx (G ++ [S]) b (by rw [hg, List.map_append]; rfl) rfl
  rw [List.reverse_append] at this
  obtain ⟨F, h1⟩ := this
  exact ⟨_, .lam ho h1⟩
 lam2 g s t r x hs ht hr hx G a hg hta := by
  obtain ⟨S, b1, rfl, rfl, hb1⟩ := ty_fn_of hta
  obtain ⟨S2, b, rfl, rfl, rfl⟩ := ty_fn_of hb1
  obtain ⟨_, e, ho, -⟩ := small_T hs
  obtain rfl := T.ty_inj e
  obtain ⟨_, e, ho2, -⟩ := small_T ht
  obtain rfl := T.ty_inj e
  have := hx (G ++ [S, S2]) b (by rw [hg, List.map_append]; rfl) rfl
  rw [List.reverse_append] at this
  obtain ⟨F, h1⟩ := this
  exact ⟨_, .lam ho (.lam ho2 h1)⟩
 lam3 g s t u r x hs ht hu hr hx G a hg hta := by
  obtain ⟨S, b1, rfl, rfl, hb1⟩ := ty_fn_of hta
  obtain ⟨S2, b2, rfl, rfl, hb2⟩ := ty_fn_of hb1
  obtain ⟨S3, b, rfl, rfl, rfl⟩ := ty_fn_of hb2
  obtain ⟨_, e, ho, -⟩ := small_T hs
  obtain rfl := T.ty_inj e
  obtain ⟨_, e, ho2, -⟩ := small_T ht
  obtain rfl := T.ty_inj e
  obtain ⟨_, e, ho3, -⟩ := small_T hu
  obtain rfl := T.ty_inj e
  have := hx (G ++ [S, S2, S3]) b (by rw [hg, List.map_append]; rfl) rfl
  rw [List.reverse_append] at this
  obtain ⟨F, h1⟩ := this
  exact ⟨_, .lam ho (.lam ho2 (.lam ho3 h1))⟩
 pair g s t x y hs ht hx hy G a hg hta := by
  obtain ⟨S, b, rfl, rfl, rfl⟩ := ty_pair_of hta
  obtain ⟨F, h1⟩ := hx G S hg rfl
  obtain ⟨X, h2⟩ := hy G b hg rfl
  exact ⟨_, .pair h1 h2⟩
 fst g s t x hs ht hx G a hg hta := by
  obtain ⟨S, rfl, -⟩ := small_T ht
  obtain ⟨F, h1⟩ := hx G (.pair a S) hg (by rw [hta]; rfl)
  exact ⟨_, .fst h1⟩
 snd g s t x hs ht hx G a hg hta := by
  obtain ⟨S, rfl, -⟩ := small_T hs
  obtain ⟨F, h1⟩ := hx G (.pair S a) hg (by rw [hta]; rfl)
  exact ⟨_, .snd h1⟩
 rc g t x f n ht hx hf hn G a hg hta := by
  subst hta
  obtain ⟨_, e, ho, -⟩ := small_T ht
  obtain rfl := T.ty_inj e
  obtain ⟨B, h1⟩ := hx G a hg rfl
  obtain ⟨F, h2⟩ := hf G (.fn .nat (.fn a a)) hg rfl
  obtain ⟨N, h3⟩ := hn G .nat hg rfl
  exact ⟨_, .rc ho h1 h2 h3⟩
 fold g t x f n ht hx hf hn G a hg hta := by
  subst hta
  obtain ⟨_, e, ho, -⟩ := small_T ht
  obtain rfl := T.ty_inj e
  obtain ⟨B, h1⟩ := hx G a hg rfl
  obtain ⟨F, h2⟩ := hf G (.fn .nat (.fn .list (.fn a a))) hg rfl
  obtain ⟨N, h3⟩ := hn G .list hg rfl
  exact ⟨_, .fold ho h1 h2 h3⟩
 succ g x hx G a hg hta := by
  obtain rfl := ty_nat_of hta
  obtain ⟨F, h1⟩ := hx G .nat hg rfl
  exact ⟨_, .succ h1⟩
 plus g x y hx hy G a hg hta := by
  obtain rfl := ty_nat_of hta
  obtain ⟨F, h1⟩ := hx G .nat hg rfl
  obtain ⟨X, h2⟩ := hy G .nat hg rfl
  exact ⟨_, .app (.app (dn_plus _) h1) h2⟩
 sub g x y hx hy G a hg hta := by
  obtain rfl := ty_nat_of hta
  obtain ⟨F, h1⟩ := hx G .nat hg rfl
  obtain ⟨X, h2⟩ := hy G .nat hg rfl
  exact ⟨_, .app (.app (dn_sub _) h1) h2⟩
 nil g G a hg hta := by
  obtain rfl := ty_list_of hta
  exact ⟨_, .nil⟩
 cons g x y hx hy G a hg hta := by
  obtain rfl := ty_list_of hta
  obtain ⟨F, h1⟩ := hx G .nat hg rfl
  obtain ⟨X, h2⟩ := hy G .list hg rfl
  exact ⟨_, .cons h1 h2⟩
 unit g G a hg hta := by
  obtain rfl := ty_unit_of hta
  exact ⟨_, .unit⟩

theorem termD_dn (l : List Int) (n : Nat) {t : Ty} {g : List Ty} {p : Nat} (ht : t.small) (hg : ∀ x ∈ g, x.small) (hp : p ≤ l.length) {G : List T} {a : T} (eg : g = G.map T.ty) (et : t = a.ty) :
  ∃ F : Env G.reverse → a.V, Dn G.reverse (termD l n t g p).1 a F := (termD_facts draw_typed n t g p ht hg hp).2 G a eg et

theorem ctx_ok {G : List T} (hl : G.length ≤ 16) (h : ∀ a ∈ G, a.ok) : ctxN (G.map T.ty) = 0 := by
 unfold ctxN
 rw [if_neg (by simp; omega)]
 induction G with
 | nil => rfl
 | cons a G ih =>
  have := ih (by simp at hl; omega) fun x hx => h x (by simp [hx])
  simp only [List.map_cons, errTys]
  rw [(Ty.checkN_iff _).2 (T.ok_ty (h a (by simp)))]
  simpa using this
theorem typeE_dnc {G : List T} {t : Tm} {a : T} {F : Env G.reverse → a.V} (h : Dn G.reverse t a F) (hl : G.length ≤ 16) (hG : ∀ a ∈ G, a.ok) : t.typeE (G.map T.ty) = (a.ty, 0) ∨ (t.typeE (G.map T.ty)).2 = 4 := by
 unfold Tm.typeE Tm.typedE
 rw [if_pos (ctx_ok hl hG)]
 by_cases h0 : t.checkN = 0
 ·rw [if_pos h0]
  have := infer_of_dn h
  rw [List.reverse_reverse] at this
  exact this
 ·rw [if_neg h0]
  right
  have hs := dn_shape h
  unfold Tm.checkN at h0 ⊢
  rw [if_pos hs] at h0 ⊢
  split at h0
  ·rename_i hq; rw [if_pos hq]
  ·exact absurd rfl h0
end
section
variable {gl : Globs}

theorem sh_tys (t : Tm) (h : t.shape = true) : t.tys := by
 induction t using Tm.ind with
 | h t ih =>
 obtain ⟨-, -, -, h4, h5⟩ := Tm.shape_node h
 rw [Tm.tys_eq]
 refine ⟨?_, fun a ha => ih a ha (h5 a ha)⟩
 split at h4
 ·have := h4.2; omega
 ·unfold Ty.zero at h4
  simp at h4
  rw [Ty.count_eq, h4.2]
  decide
end
section
variable {gl : Globs}

theorem nat23_ok : Con1 Tryz.prog gl 54 [] [] (Ty.mk 1 []).dv [] := by
 refine t_in Tryz.func54 ?_
 intro X hP hgl hf hfn hn hR hids hfit
 refine t_g0 ?_
 refine t_r ?_
 simp [go_sem, hP, hgl, hn] <;> (try omega)
 all_goals exact t_f
theorem playnat_ok : Con1 Tryz.prog gl 18 [] [] (Ty.mk 1 []).dv [] := by
 refine t_in Tryz.func18 ?_
 intro X hP hgl hf hfn hn hR hids hfit
 refine t_g0 ?_
 refine t_c1 trivial nat23_ok ?_
 refine t_r ?_
 simp [go_sem, hP, hgl, hn] <;> (try omega)
 all_goals exact t_f
theorem pair23_ok (a b : Ty) : Con1 Tryz.prog gl 17 [a.dv, b.dv] [] (Ty.mk 3 [a, b]).dv [] := by
 refine t_in Tryz.func17 ?_
 intro X hP hgl hf hfn hn hR hids hfit
 refine t_g0 ?_
 refine t_r ?_
 simp [go_sem, hP, hgl, hn] <;> (try omega)
 all_goals exact t_f
theorem fun23_ok (a b : Ty) : Con1 Tryz.prog gl 34 [a.dv, b.dv] [] (Ty.mk 4 [a, b]).dv [] := by
 refine t_in Tryz.func34 ?_
 intro X hP hgl hf hfn hn hR hids hfit
 refine t_g0 ?_
 refine t_r ?_
 simp [go_sem, hP, hgl, hn] <;> (try omega)
 all_goals exact t_f
/-! the plain law of MajorantGreatest -/
end
end Go.Proofs.YtoamlfmdkbmmpaaGreatDoor.Lift

