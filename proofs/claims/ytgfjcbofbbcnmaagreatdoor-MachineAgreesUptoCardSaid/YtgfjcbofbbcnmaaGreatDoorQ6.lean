import Derived.Test.YtgfjcbofbbcnmaaGreatDoorQ5
/-
  Plain law: what is drawn has its type, by the rules, and at most 4096 nodes.
-/
namespace Go.Proofs.YtgfjcbofbbcnmaaGreatDoor.Lift
set_option linter.unusedSimpArgs false
set_option linter.unusedVariables false
set_option linter.unnecessarySimpa false
open Go

theorem endD_count' {l : List Int} {F : Ty → List Ty → Nat → Tm × Nat} {B : Nat} (hB : 16 ≤ B) (hD : Draws l F (fun _ _ x => x.shape = true)) (hF : Small l F B) : Small l (endD l F) (3 * B + 4) := fun t g p ht hg hp => by
  have := endD_count hD hF t g p ht hg hp
  omega
theorem stepD_count' {l : List Int} {F : Ty → List Ty → Nat → Tm × Nat} {B : Nat} (hB : 16 ≤ B) (hD : Draws l F (fun _ _ x => x.shape = true)) (hF : Small l F B) (k : Int) : Small l (fun t g p => stepD l F t g k p) (3 * B + 4) := by
  intro t g p ht hg hp
  have hg1 : ∀ a : List Ty, (∀ x ∈ a, x.small) → ∀ x ∈ g ++ a, x.small := by
    intro a ha x hx
    rcases List.mem_append.1 hx with hx | hx
    · exact hg x hx
    · exact ha x hx
  have hE := endD_count' hB hD hF t g p ht hg hp
  obtain ⟨s1, s2⟩ := typeD_small l (n := 0) hp (by decide)
  show (stepD l F t g k p).1.count ≤ _
  unfold stepD
  split
  · have gs := hg1 [(typeD l 0 p).1] (by simpa using s2)
    have a := hF t _ _ ht gs s1
    have b := hF _ g _ s2 hg (hD t _ _ ht gs s1).1
    show 1 + ((1 + (_ + 0)) + (_ + 0)) ≤ _; omega
  split
  · have a := hF t g _ ht hg s1
    have b := hF _ g _ s2 hg (hD t g _ ht hg s1).1
    show 1 + ((1 + (_ + (_ + 0))) + 0) ≤ _; omega
  split
  · have gs := hg1 [Ty.mk 1 [], t] (by intro x hx; simp at hx; rcases hx with rfl | rfl; exact small_nat; exact ht)
    have d := (hD t _ _ ht gs hp).1
    have a := hF t _ _ ht gs hp
    have b := hF t g _ ht hg d
    have c := numD_count l (F t g (F t (g ++ [Ty.mk 1 [], t]) p).2).2
    show 1 + (_ + ((1 + ((1 + (_ + 0)) + 0)) + (_ + 0))) ≤ _; omega
  split
  · have gs := hg1 [Ty.mk 1 [], Ty.mk 2 [], t] (by intro x hx; simp at hx; rcases hx with rfl | rfl | rfl; exact small_nat; exact small_list; exact ht)
    have d := (hD t _ _ ht gs hp).1
    have a := hF t _ _ ht gs hp
    have b := hF t g _ ht hg d
    have c := hF (Ty.mk 2 []) g _ small_list hg (hD t g _ ht hg d).1
    show 1 + (_ + ((1 + ((1 + ((1 + (_ + 0)) + 0)) + 0)) + (_ + 0))) ≤ _; omega
  split
  · have a := hF _ g _ s2 hg s1
    have b := hF t g _ ht hg (hD _ g _ s2 hg s1).1
    show 1 + ((1 + (_ + (_ + 0))) + 0) ≤ _; omega
  split
  · split
    · rename_i i hi
      obtain ⟨f1, f2, f3⟩ := funN_some hi
      obtain ⟨c0, c1, -⟩ := (hg _ (varTy_mem f1).1).arg (.inr f2)
      have a := hF _ g _ c0 hg hp
      show 1 + ((1 + 0) + (_ + 0)) ≤ _; omega
    · omega
  · omega
def drawC : Nat → Nat
  | 0 => 45
  | n + 1 => 3 * drawC n + 4
theorem drawC_pos : ∀ n, 16 ≤ drawC n
  | 0 => by decide
  | n + 1 => by have := drawC_pos n; simp only [drawC]; omega
theorem termD_count' (l : List Int) : ∀ n, Small l (termD l n) (drawC n)
  | 0 => by intro t g p ht hg hp; have := leafD_count l t ht g p; have := ht.2; show _ ≤ 45; simp only [termD]; omega
  | n + 1 => by
    intro t g p ht hg hp
    have hq := pickD_le (t := t) (g := g) hp
    have ih := stepD_count' (drawC_pos n) (termD_facts closed_shape n) (termD_count' l n)
    unfold termD
    split
    · rename_i x q hx
      have := pickD_count hx
      simp only [drawC]; omega
    · rename_i q hx
      rw [hx] at hq
      exact ih _ t g _ ht hg (nextD_le hq)

/-- no index leads out of so many variables -/
def Tm.closedN : Tm → Nat → Bool
  | .mk k i _ a, n => if k = 1 then decide (0 ≤ i) && decide (i.toNat < n) else closeds a (if k = 2 then n + 1 else n)
where
  closeds : List Tm → Nat → Bool
    | [], _ => true
    | a :: r, n => a.closedN n && closeds r n
theorem Tm.closedN_eq (t : Tm) (n : Nat) : t.closedN n = if t.kind = 1 then decide (0 ≤ t.index) && decide (t.index.toNat < n) else closedN.closeds t.args (if t.kind = 2 then n + 1 else n) := by cases t; rw [closedN]; rfl
theorem Tm.closeds_iff (l : List Tm) (n : Nat) : closedN.closeds l n = true ↔ ∀ a ∈ l, a.closedN n = true := by
  induction l with
  | nil => simp [closedN.closeds]
  | cons a r ih => simp [closedN.closeds, ih]
theorem infers_congr {l : List Tm} {g h : List Ty} (e : ∀ a ∈ l, a.inferN g = a.inferN h) : Tm.inferN.infers l g = Tm.inferN.infers l h := by
  induction l with
  | nil => rfl
  | cons a r ih => simp only [Tm.inferN.infers, e a (by simp), ih fun x hx => e x (by simp [hx])]
theorem infer_weak (t : Tm) : ∀ (l g : List Ty), t.closedN l.length = true → t.inferN (g ++ l) = t.inferN l := by
  induction t using Tm.ind with
  | h t ih =>
  intro l g hc
  rw [Tm.closedN_eq] at hc
  rw [Tm.inferN_eq t (g ++ l), Tm.inferN_eq t l]
  by_cases h1 : t.kind = 1
  · rw [if_pos h1] at hc ⊢
    rw [if_pos h1]
    simp only [Bool.and_eq_true, decide_eq_true_eq] at hc
    have h2 : ¬ ((g ++ l).length : Int) ≤ t.index := by simp; omega
    have h3 : ¬ (l.length : Int) ≤ t.index := by omega
    rw [if_neg h2, if_neg h3]
    have e : (g ++ l).length - 1 - t.index.toNat = g.length + (l.length - 1 - t.index.toNat) := by simp; omega
    rw [e, List.getD_eq_getElem?_getD, List.getElem?_append_right (by omega), Nat.add_sub_cancel_left, List.getD_eq_getElem?_getD]
  · rw [if_neg h1] at hc ⊢
    rw [if_neg h1]
    rw [Tm.closeds_iff] at hc
    have e : Tm.inferN.infers t.args (if t.kind = 2 then g ++ l ++ [t.type] else g ++ l) = Tm.inferN.infers t.args (if t.kind = 2 then l ++ [t.type] else l) := by
      by_cases h2 : t.kind = 2
      · rw [if_pos h2, if_pos h2]
        rw [if_pos h2] at hc
        refine infers_congr fun a ha => ?_
        rw [List.append_assoc]
        exact ih a ha (l ++ [t.type]) g (by simpa using hc a ha)
      · rw [if_neg h2, if_neg h2]
        rw [if_neg h2] at hc
        exact infers_congr fun a ha => ih a ha l g (hc a ha)
    rw [e]
theorem infer_closed {t : Tm} (h : t.closedN 0 = true) (g : List Ty) : t.inferN g = t.inferN [] := by
  have := infer_weak t [] g (by simpa using h)
  simpa using this

theorem infer_node {k : Int} {y : Ty} {l : List Tm} {g : List Ty} {ts : List Ty} (hk : ¬ k = 1) (h : Tm.inferN.infers l (if k = 2 then g ++ [y] else g) = (ts, 0)) : (Tm.mk k 0 y l).inferN g = ruleN k y ts := by
  rw [Tm.inferN_eq]
  show (if k = 1 then _ else if (Tm.inferN.infers l (if k = 2 then g ++ [y] else g)).2 = 0 then ruleN k y (Tm.inferN.infers l (if k = 2 then g ++ [y] else g)).1 else _) = _
  rw [if_neg hk, h, if_pos rfl]
theorem infers1 {a : Tm} {g : List Ty} {s : Ty} (h : a.inferN g = (s, 0)) : Tm.inferN.infers [a] g = ([s], 0) := by simp [Tm.inferN.infers, h]
theorem infers2 {a b : Tm} {g : List Ty} {s t : Ty} (h : a.inferN g = (s, 0)) (h' : b.inferN g = (t, 0)) : Tm.inferN.infers [a, b] g = ([s, t], 0) := by simp [Tm.inferN.infers, h, h']
theorem infers3 {a b c : Tm} {g : List Ty} {s t u : Ty} (h : a.inferN g = (s, 0)) (h' : b.inferN g = (t, 0)) (h'' : c.inferN g = (u, 0)) : Tm.inferN.infers [a, b, c] g = ([s, t, u], 0) := by simp [Tm.inferN.infers, h, h', h'']
theorem okN_of {y : Ty} (h : y.ok) : okN y = (y, 0) := by unfold okN; rw [if_pos ((Ty.checkN_iff y).2 h)]
theorem same_self (a : Ty) : a.same a = true := (Ty.same_iff a a).2 rfl
theorem two_ok' {k : Int} {s t : Ty} (hk : k = 3 ∨ k = 4) (hs : s.shape = true) (ht : t.shape = true) (hc : 1 + s.count + t.count ≤ 64) : (Ty.mk k [s, t]).ok := ⟨ty_two hk hs ht, by rw [show (Ty.mk k [s, t]).count = 1 + (s.count + (t.count + 0)) from rfl]; omega⟩

theorem infer_app {g : List Ty} {s t : Ty} {f x : Tm} (hf : f.inferN g = (Ty.mk 4 [s, t], 0)) (hx : x.inferN g = (s, 0)) : (nT 3 [f, x]).inferN g = (t, 0) := by
  unfold nT
  rw [infer_node (by decide) (infers2 hf hx)]
  unfold ruleN
  rw [if_neg (by decide), if_pos rfl, if_pos ⟨rfl, same_self s⟩]
  rfl
theorem infer_lam {g : List Ty} {s t : Ty} {x : Tm} (hx : x.inferN (g ++ [s]) = (t, 0)) (ho : (Ty.mk 4 [s, t]).ok) : (Tm.mk 2 0 s [x]).inferN g = (Ty.mk 4 [s, t], 0) := by
  rw [infer_node (by decide) (by rw [if_pos rfl]; exact infers1 hx)]
  unfold ruleN
  rw [if_pos rfl]
  exact okN_of ho
theorem infer_pair {g : List Ty} {s t : Ty} {x y : Tm} (hx : x.inferN g = (s, 0)) (hy : y.inferN g = (t, 0)) (ho : (Ty.mk 3 [s, t]).ok) : (nT 10 [x, y]).inferN g = (Ty.mk 3 [s, t], 0) := by
  unfold nT
  rw [infer_node (by decide) (infers2 hx hy)]
  exact okN_of ho
theorem infer_fst {g : List Ty} {s t : Ty} {x : Tm} (hx : x.inferN g = (Ty.mk 3 [s, t], 0)) : (nT 11 [x]).inferN g = (s, 0) := by
  unfold nT
  rw [infer_node (by decide) (infers1 hx)]
  rfl
theorem infer_snd {g : List Ty} {s t : Ty} {x : Tm} (hx : x.inferN g = (Ty.mk 3 [s, t], 0)) : (nT 12 [x]).inferN g = (t, 0) := by
  unfold nT
  rw [infer_node (by decide) (infers1 hx)]
  rfl
theorem infer_rc {g : List Ty} {t : Ty} {x f n : Tm} (hx : x.inferN g = (t, 0)) (hf : f.inferN g = (Ty.mk 4 [Ty.mk 1 [], Ty.mk 4 [t, t]], 0)) (hn : n.inferN g = (Ty.mk 1 [], 0)) : (Tm.mk 6 0 t [x, f, n]).inferN g = (t, 0) := by
  rw [infer_node (by decide) (infers3 hx hf hn)]
  unfold ruleN
  rw [if_neg (by decide), if_neg (by decide), if_neg (by decide), if_neg (by decide), if_pos rfl, if_pos ⟨same_self t, same_self _, rfl⟩]
theorem infer_fold {g : List Ty} {t : Ty} {x f n : Tm} (hx : x.inferN g = (t, 0)) (hf : f.inferN g = (Ty.mk 4 [Ty.mk 1 [], Ty.mk 4 [Ty.mk 2 [], Ty.mk 4 [t, t]]], 0)) (hn : n.inferN g = (Ty.mk 2 [], 0)) : (Tm.mk 9 0 t [x, f, n]).inferN g = (t, 0) := by
  rw [infer_node (by decide) (infers3 hx hf hn)]
  unfold ruleN
  rw [if_neg (by decide), if_neg (by decide), if_neg (by decide), if_neg (by decide), if_neg (by decide), if_neg (by decide), if_neg (by decide), if_pos rfl, if_pos ⟨same_self t, same_self _, rfl⟩]
theorem infer_succ {g : List Ty} {x : Tm} (hx : x.inferN g = (Ty.mk 1 [], 0)) : (nT 5 [x]).inferN g = (Ty.mk 1 [], 0) := by
  unfold nT
  rw [infer_node (by decide) (infers1 hx)]
  rfl
theorem infer_cons {g : List Ty} {x y : Tm} (hx : x.inferN g = (Ty.mk 1 [], 0)) (hy : y.inferN g = (Ty.mk 2 [], 0)) : (nT 8 [x, y]).inferN g = (Ty.mk 2 [], 0) := by
  unfold nT
  rw [infer_node (by decide) (infers2 hx hy)]
  rfl
theorem infer_zero (g : List Ty) : (nT 4 []).inferN g = (Ty.mk 1 [], 0) := by unfold nT; rw [infer_node (by decide) rfl]; rfl
theorem infer_nil (g : List Ty) : (nT 7 []).inferN g = (Ty.mk 2 [], 0) := by unfold nT; rw [infer_node (by decide) rfl]; rfl
theorem infer_unit (g : List Ty) : (nT 13 []).inferN g = (Ty.mk 5 [], 0) := by unfold nT; rw [infer_node (by decide) rfl]; rfl
theorem infer_num (g : List Ty) : ∀ n : Nat, (numTm n).inferN g = (Ty.mk 1 [], 0)
  | 0 => infer_zero g
  | n + 1 => infer_succ (infer_num g n)
theorem infer_var {g : List Ty} {i : Nat} (hi : i < g.length) : (vT (i : Nat)).inferN g = (varTy g i, 0) := by
  rw [Tm.inferN_eq]
  show (if (1 : Int) = 1 then if (g.length : Int) ≤ (i : Int) then _ else (g.getD (g.length - 1 - (i : Int).toNat) zeroTy, 0) else _) = _
  rw [if_pos rfl, if_neg (by omega)]
  rfl
theorem infer_plusT (g : List Ty) : plusT.inferN g = (Ty.mk 4 [Ty.mk 1 [], Ty.mk 4 [Ty.mk 1 [], Ty.mk 1 []]], 0) := by
  rw [infer_closed (by decide) g]; rfl
theorem infer_subT (g : List Ty) : subT.inferN g = (Ty.mk 4 [Ty.mk 1 [], Ty.mk 4 [Ty.mk 1 [], Ty.mk 1 []]], 0) := by
  rw [infer_closed (by decide) g]; rfl

theorem draw_infer : DrawOK (fun t g x => x.inferN g = (t, 0)) where
  var g i hi := infer_var hi
  num g n _ := infer_num g n
  app g s t f x hs ht hf hx := infer_app hf hx
  lam g s t x hs ht hx := infer_lam hx (two_ok' (.inr rfl) hs.1 ht.1 (by have := hs.2; have := ht.2; omega))
  lam2 g s t r x hs ht hr hx := by
    have c1 := hs.2; have c2 := ht.2; have c3 := hr.2
    have h1 := infer_lam (g := g ++ [s]) (s := t) (t := r) (x := x) (by rw [List.append_assoc]; exact hx) (two_ok' (.inr rfl) ht.1 hr.1 (by omega))
    exact infer_lam h1 (two_ok' (.inr rfl) hs.1 (ty_two (.inr rfl) ht.1 hr.1) (by rw [show (Ty.mk 4 [t, r]).count = 1 + (t.count + (r.count + 0)) from rfl]; omega))
  lam3 g s t u r x hs ht hu hr hx := by
    have c1 := hs.2; have c2 := ht.2; have c3 := hr.2; have c4 := hu.2
    have h1 := infer_lam (g := g ++ [s] ++ [t]) (s := u) (t := r) (x := x) (by simp only [List.append_assoc]; exact hx) (two_ok' (.inr rfl) hu.1 hr.1 (by omega))
    have e1 : (Ty.mk 4 [u, r]).count = 1 + (u.count + (r.count + 0)) := rfl
    have h2 := infer_lam h1 (two_ok' (.inr rfl) ht.1 (ty_two (.inr rfl) hu.1 hr.1) (by rw [e1]; omega))
    have e2 : (Ty.mk 4 [t, Ty.mk 4 [u, r]]).count = 1 + (t.count + ((Ty.mk 4 [u, r]).count + 0)) := rfl
    exact infer_lam h2 (two_ok' (.inr rfl) hs.1 (ty_two (.inr rfl) ht.1 (ty_two (.inr rfl) hu.1 hr.1)) (by rw [e2, e1]; omega))
  pair g s t x y hs ht hx hy := infer_pair hx hy (two_ok' (.inl rfl) hs.1 ht.1 (by have := hs.2; have := ht.2; omega))
  fst g s t x hs ht hx := infer_fst hx
  snd g s t x hs ht hx := infer_snd hx
  rc g t x f n ht hx hf hn := infer_rc hx hf hn
  fold g t x f n ht hx hf hn := infer_fold hx hf hn
  succ g x hx := infer_succ hx
  plus g x y hx hy := infer_app (infer_app (infer_plusT g) hx) hy
  sub g x y hx hy := infer_app (infer_app (infer_subT g) hx) hy
  nil g := infer_nil g
  cons g x y hx hy := infer_cons hx hy
  unit g := infer_unit g
end Go.Proofs.YtgfjcbofbbcnmaaGreatDoor.Lift

/-
  Laws of layer 6: what is drawn comes to its end in the machine; the sanity check.
-/
namespace Go.Proofs.YtgfjcbofbbcnmaaGreatDoor.Lift
set_option linter.unusedSimpArgs false
set_option linter.unusedVariables false
set_option linter.unnecessarySimpa false
open Go
variable {gl : Globs}

/-- a closed term of a plain type -/
theorem callS_nil {d : Nat} {t : Tm} {w : MV} {c : Nat} : callS d t [] = some (w, c) ↔ evS d t [] = some (w, c) := by
  unfold callS
  cases h : evS d t [] with
  | none => simp
  | some p =>
    obtain ⟨g, c1⟩ := p
    simp [call_nil]

/-- what is asked of a closed term of a plain type: it is checked, has its type, and its run comes to its end -/
structure Runs (x : Tm) (a : T) (y : a.V) (c d0 : Nat) : Prop where
  shape : x.shape = true
  type : x.inferN [] = (a.ty, 0)
  run : ∀ d, d0 ≤ d → evS d x [] = some (ofM a y, c)
  pos : 1 ≤ c
theorem Runs.check {x : Tm} {a : T} {y : a.V} {c d0 : Nat} (h : Runs x a y c d0) (hc : x.count ≤ 4096) : x.checkN = 0 := (Tm.checkN_iff x).2 ⟨h.shape, hc⟩

theorem draw_count (l : List Int) (n : Nat) {p : Nat} (hp : p ≤ l.length) {a : T} (hs : a.size ≤ 15) : (termD l n a.ty [] p).1.count ≤ drawC n := termD_count' l n a.ty [] p (small_ty hs) (fun x h => by cases h) hp

theorem eval_runs (har : globOf gl 0 = some arEls) {x : Tm} {a : T} {y : a.V} {c d0 : Nat} (h : Runs x a y c d0) (hc : x.count ≤ 4096) (ha : a.plain) (hs : a.size ≤ 64) (wk : Nat) (hwk : wk ≤ 65536) :
    Con1 Tryz.prog gl 9 [x.dv, dint (wk : Int)] [] (outC (valOf a y) c wk) [] :=
  machine_eval_ok har x a y c d0 (callS_nil.2 (h.run d0 (Nat.le_refl _))) (h.check hc) h.type ha hs wk hwk

/-! the sanity check of law 6 -/
def tS : Tm := nT 5 [nT 5 [nT 4 []]]
theorem tS_run : callS 5 tS [] = some (.num 2, 3) := by kernel_rfl
theorem sane06_ok (har : globOf gl 0 = some arEls) : Con1 Tryz.prog gl 4 [] [] (dbool true) [] := by
  have w1 := machine_eval_ok (gl := gl) har tS .nat (2 : Nat) 3 5 tS_run (by decide) (by rfl) trivial (by unfold T.ok; decide) 100 (by decide)
  rw [outC_yes (by decide)] at w1
  have w1 : Con1 Tryz.prog gl 9 [.agg [dint 5, dint 0, dint 0, .sl [], .sl [[dint 5, dint 0, dint 0, .sl [], .sl [[dint 4, dint 0, dint 0, .sl [], .sl []]]]]], dint 100] [] (.tup [.agg [dint 1, dint 2, .sl [], .sl []], dint 3, dint 0]) [] := w1
  have n0 : Con1 Tryz.prog gl 13 [dint 4, .sl []] [] (.agg [dint 4, dint 0, dint 0, .sl [], .sl []]) [] := n5 4 []
  have n1 : Con1 Tryz.prog gl 13 [dint 5, .sl [[dint 4, dint 0, dint 0, .sl [], .sl []]]] [] (.agg [dint 5, dint 0, dint 0, .sl [], .sl [[dint 4, dint 0, dint 0, .sl [], .sl []]]]) [] := n5 5 [nT 4 []]
  have n2 : Con1 Tryz.prog gl 13 [dint 5, .sl [[dint 5, dint 0, dint 0, .sl [], .sl [[dint 4, dint 0, dint 0, .sl [], .sl []]]]]] [] (.agg [dint 5, dint 0, dint 0, .sl [], .sl [[dint 5, dint 0, dint 0, .sl [], .sl [[dint 4, dint 0, dint 0, .sl [], .sl []]]]]]) [] := n5 5 [nT 5 [nT 4 []]]
  refine t_in Tryz.func4 ?_
  intro X hP hgl hf hfn hn hR hids hfit
  refine t_g0 ?_
  refine t_c4 trivial n0 n1 n2 w1 ?_
  refine t_g0 ?_
  refine t_r ?_
  simp [go_sem, hP, hgl, hn] <;> (try omega)
end Go.Proofs.YtgfjcbofbbcnmaaGreatDoor.Lift

namespace Go.Proofs.YtgfjcbofbbcnmaaGreatDoor.Lift
set_option linter.unusedSimpArgs false
set_option linter.unusedVariables false
set_option linter.unnecessarySimpa false
open Go
variable {gl : Globs}

theorem val_self (t : Val) : t.same t = true := (Val.same_iff t t).2 rfl
theorem shape_tysF (t : Tm) (h : t.shape = true) : t.tys := by
  induction t using Tm.ind with
  | h t ih =>
  obtain ⟨-, -, -, h4, h5⟩ := Tm.shape_node h
  rw [Tm.tys_eq]
  refine ⟨?_, fun a ha => ih a ha (h5 a ha)⟩
  split at h4
  · have := h4.2; omega
  · unfold Ty.zero at h4
    simp at h4
    rw [Ty.count_eq, h4.2]
    decide

theorem drawn_runs (l : List Int) (n : Nat) {p : Nat} (hp : p ≤ l.length) {a : T} (ha : a.plain) (hs : a.size ≤ 15) :
    ∃ (F : Env [] → a.V) (c d0 : Nat), Dn [] (termD l n a.ty [] p).1 a F ∧ Runs (termD l n a.ty [] p).1 a (F ()) c d0 := by
  have hsm := small_ty hs
  have hg : ∀ x ∈ ([] : List Ty), x.small := fun x h => by cases h
  obtain ⟨F, hF⟩ := termD_dn l n hsm hg hp (G := []) rfl rfl
  have hi := (termD_facts draw_infer n a.ty [] p hsm hg hp).2
  have hsh := (termD_facts closed_shape n a.ty [] p hsm hg hp).2
  obtain ⟨c, d0, h⟩ := calls_total (l := []) (r := a) hF () trivial ha
  have h' : ∀ d, d0 ≤ d → evS d (termD l n a.ty [] p).1 [] = some (ofM a (F ()), c) := fun d hd => callS_nil.1 (h d hd)
  exact ⟨F, c, d0, hF, hsh, hi, h', evS_pos (h' d0 (Nat.le_refl _))⟩

set_option maxHeartbeats 1000000 in
set_option maxRecDepth 100000 in
theorem machineAgrees_ok (har : globOf gl 0 = some arEls) (l : List Int) : Con1 Tryz.prog gl 3 [.sl (ints l)] [] (dbool true) [] := by
  have ws := sane06_ok har
  refine t_in Tryz.func3 ?_
  intro X hP hgl hf hfn hn hR hids hfit
  by_cases hl : l.length ≤ 500
  rotate_left
  · refine t_g0 ?_
    refine t_c1 trivial ws ?_
    refine t_g0 ?_
    refine t_c1 @hl (few_ok l) ?_
    refine t_g0 ?_
    refine t_r ?_
    simp [go_sem, hP, hgl, hn] <;> (try omega)
  refine t_g0 ?_
  refine t_c1 trivial ws ?_
  refine t_g0 ?_
  refine t_c1 @hl (few_ok l) ?_
  refine t_g0 ?_
  refine t_a ?_
  first | refine W_reg [] fun K hK => ?_ | refine W_regd (by rw [hP]; exact mixed) [] fun K hK => ?_
  refine t_s0 ?_
  repeat (refine ⟨by omega, ?_⟩)
  refine vcK_callR hP hgl (new_ok l) (by simp [go_sem]) rfl (by simp [go_sem]) (by simp) (by rw [hn]; exact Nat.le_of_ble_eq_true rfl) ?_
  rintro r φ ⟨b, rfl, rfl⟩ -
  simp [go_sem, hP, hgl, hn]
  refine t_e ?_
  clear hK K
  have hdc : drawC 4 = 3805 := rfl
  have wp := plain_ok (gl := gl) b l 0 hl (by omega)
  have hp1 := plainD_le (l := l) (p := 0) (by omega)
  obtain ⟨a, ha, hpl, hsz⟩ := plainD_T l 0
  generalize plainD l 0 = pd at *
  obtain ⟨s, p1⟩ := pd
  simp only at ha hp1 wp
  subst ha
  have wt := mk_term_ok (gl := gl) b l hl 4 (by decide) a.ty [] p1 (small_ty (by omega)) (by simp) (by simp) hp1
  obtain ⟨F, c, d0, hdn, hr⟩ := drawn_runs l 4 hp1 hpl (show a.size ≤ 15 by omega)
  have hco := draw_count l 4 hp1 (show a.size ≤ 15 by omega)
  rw [hdc] at hco
  generalize termD l 4 a.ty [] p1 = xd at *
  obtain ⟨x, p2⟩ := xd
  simp only [List.map_nil] at hr hco wt hdn
  have w1 := eval_runs (gl := gl) har hr (by omega) hpl (by omega) 5000 (by decide)
  have w2 := normal_ok (gl := gl) x 400 (shape_tysF x hr.shape) (dn_least hdn 536870912 (by simp; omega)) (by decide) (dn_run 400 hdn (by omega))
  have hlo := dn_loop 400 0 hdn (by omega)
  generalize Tm.loopN 400 x 0 = q at *
  obtain ⟨z, k, e⟩ := q
  simp only at w2 hlo
  have e1 := ref05_same_ok (gl := gl) (valOf a (F ())) (valOf a (F ()))
  rw [val_self] at e1
  have hfa := Ty.fold a.ty
  have hfx := Tm.fold x
  have hfz := Tm.fold z
  have hfy := Val.fold (valOf a (F ()))
  have hrd : e = 0 → z.readE = (valOf a (F ()), 0) ∧ z.shape = true ∧ z.count ≤ 4096 := by
    intro h0
    rcases hlo with (h | h) | ⟨-, h1, h2, h3⟩
    · omega
    · omega
    · exact ⟨dn_readE h1 h2 h3 hpl (by omega), dn_shape h1, h2⟩
  have hee : e = 4 ∨ e = 5 ∨ e = 0 := by
    rcases hlo with (h | h) | ⟨h, -⟩
    · exact .inl h
    · exact .inr (.inl h)
    · exact .inr (.inr h)
  clear hlo hdn
  generalize valOf a (F ()) = u at *
  refine t_g0 ?_
  refine t_c2 @hfa wp wt ?_
  by_cases hc : c ≤ 5000
  rotate_left
  · rw [outC_no (by omega)] at w1
    refine t_g0 ?_
    refine t_c1 @hfx w1 ?_
    rcases hee with rfl | rfl | rfl
    · refine t_g0 ?_
      refine t_c1 @hfx w2 ?_
      refine t_g0 ?_
      refine t_r ?_
      simp [go_sem, hP, hgl, hn] <;> (try omega)
    · refine t_g0 ?_
      refine t_c1 @hfx w2 ?_
      refine t_g0 ?_
      refine t_r ?_
      simp [go_sem, hP, hgl, hn] <;> (try omega)
    · refine t_g0 ?_
      refine t_c1 @hfx w2 ?_
      refine t_g0 ?_
      refine t_r ?_
      simp [go_sem, hP, hgl, hn] <;> (try omega)
  rw [outC_yes (by omega)] at w1
  refine t_g0 ?_
  refine t_c1 @hfx w1 ?_
  rcases hee with rfl | rfl | rfl
  · refine t_g0 ?_
    refine t_c1 @hfx w2 ?_
    refine t_g0 ?_
    refine t_r ?_
    simp [go_sem, hP, hgl, hn] <;> (try omega)
  · refine t_g0 ?_
    refine t_c1 @hfx w2 ?_
    refine t_g0 ?_
    refine t_r ?_
    simp [go_sem, hP, hgl, hn] <;> (try omega)
  · obtain ⟨k1, k2, k3⟩ := hrd rfl
    have w3 := readE5_ok (gl := gl) z (shape_tysF z k2) (by omega)
    rw [k1] at w3
    simp only at w3
    refine t_g0 ?_
    refine t_c1 @hfx w2 ?_
    refine t_g0 ?_
    refine t_c1 @hfz w3 ?_
    refine t_g0 ?_
    refine t_c1 @hfy e1 ?_
    refine t_r ?_
    simp [go_sem, hP, hgl, hn] <;> (try omega)
end Go.Proofs.YtgfjcbofbbcnmaaGreatDoor.Lift

