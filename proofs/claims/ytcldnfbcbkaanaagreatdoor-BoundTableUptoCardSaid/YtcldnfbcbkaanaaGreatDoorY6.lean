import Derived.Test.YtcldnfbcbkaanaaGreatDoorY5
/-
  Package machine: Call on terms that mean something, with its errors.
-/
namespace Go.Proofs.YtcldnfbcbkaanaaGreatDoor.Lift
set_option linter.unusedSimpArgs false
set_option linter.unusedVariables false
set_option linter.unnecessarySimpa false
open Go
variable {gl : Globs}

/-- what a call of the machine returns -/
def callR (t : Tm) (v : Val) (c : Nat) (work : Int) : Val × Int × Int := if (t.typeE []).2 = 0 then (if (c : Int) ≤ work then (v, (c : Int), 0) else (zeroV, 0, 5)) else (zeroV, 0, 4)
theorem callR_err (t : Tm) (v : Val) (c : Nat) (work : Int) : (callR t v c work).2.2 = 4 ∨ (callR t v c work).2.2 = 5 ∨ ((callR t v c work).2.2 = 0 ∧ (callR t v c work).1 = v) := by
  unfold callR
  split
  · split
    · exact .inr (.inr ⟨rfl, rfl⟩)
    · exact .inr (.inl rfl)
  · exact .inl rfl

theorem typeE_parts {t : Tm} {a : T} {F : Env [] → a.V} (h : Dn [] t a F) (h0 : (t.typeE []).2 = 0) : t.checkN = 0 ∧ t.inferN [] = (a.ty, 0) := by
  have hct : ctxN [] = 0 := rfl
  by_cases hk : t.checkN = 0
  · refine ⟨hk, ?_⟩
    have hty : t.typeE [] = t.inferN [] := by
      unfold Tm.typeE Tm.typedE
      rw [if_pos hct, if_pos hk]
    rcases infer_of_dn h with h1 | h1
    · exact h1
    · have h1 : (t.inferN []).2 = 4 := h1
      rw [hty, h1] at h0
      cases h0
  · unfold Tm.typeE Tm.typedE at h0
    rw [if_pos hct, if_neg hk] at h0
    exact absurd h0 hk

theorem machine_call_dn (har : globOf gl 0 = some arEls) {t : Tm} {l : List T} {r : T} {F : Env [] → (FnT l r).V} (h : Dn [] t (FnT l r) F) (hc : t.count ≤ 536870912) (Z : Env l) (y : r.V) (hl : Plains l) (hll : l.length ≤ 1000000) (hr : r.plain) (hro : r.ok) {c d : Nat} (hcs : callS d t (mvsOf l Z) = some (ofM r y, c)) (wk : Nat) (hwk : wk ≤ 65536) (M : Nat) (hM : M ≤ 1073000000) (hX : MV.nles M (mvsOf l Z)) :
    Con1 Tryz.prog gl 24 [t.dv, .sl ((valsOf l Z).map Val.cells), dint (wk : Int)] [] (.tup [(callR t (valOf r y) c wk).1.dv, dint (callR t (valOf r y) c wk).2.1, dint (callR t (valOf r y) c wk).2.2]) [] := by
  unfold callR
  by_cases h0 : (t.typeE []).2 = 0
  · rw [if_pos h0]
    obtain ⟨h1, h2⟩ := typeE_parts h h0
    have w := machine_call_ok (gl := gl) har t l r Z _ c d hcs h1 h2 hl hll hr hro wk hwk M hM hX
    unfold outC at w
    split at w
    · rename_i q; rw [if_pos q]; exact w
    · rename_i q; rw [if_neg q]; exact w
  · rw [if_neg h0]
    have hte := terms_typeof_dn (gl := gl) har h hc
    rw [if_neg h0] at hte
    have hft := Tm.fold t
    have fz : (Ty.mk 0 []).dv = .agg [dint 0, .sl []] := rfl
    rw [fz] at hte
    refine t_in Tryz.func24 ?_
    intro X hP hgl hf hfn hn hR hids hfit
    refine t_g0 ?_
    refine t_c1 @hft hte ?_
    refine t_g0 ?_
    refine t_r ?_
    simp [go_sem, hP, hgl, hn, zeroV] <;> (try omega)
    all_goals exact t_f
end Go.Proofs.YtcldnfbcbkaanaaGreatDoor.Lift

namespace Go.Proofs.YtcldnfbcbkaanaaGreatDoor.Lift
set_option linter.unusedSimpArgs false
set_option linter.unusedVariables false
set_option linter.unnecessarySimpa false
open Go
variable {gl : Globs}

theorem maxE_count (y : Ty) (hy : y.ok) (a b : Tm) (e : Int) : (maxE y a b e).1.count ≤ 4096 := by
  rw [maxE_eq y hy]
  have hz : zeroTm.count ≤ 4096 := by decide
  have hu : (nT 13 []).count ≤ 4096 := by decide
  split
  · split
    · exact node_count _ _ _ _
    · split
      · exact node_count _ _ _ _
      · split
        · exact node_count _ _ _ _
        · exact hu
  · exact hz
theorem idx_up {t : Tm} {f b m : Int} (hb : 0 ≤ b) (h : t.idx m) : (t.upN f b).idx (m + b) := by
  induction t using Tm.ind generalizing f with
  | h t ih =>
  rw [Tm.idx_eq] at h
  rw [Tm.upN_eq, Tm.idx_eq, Tm.index_mk, Tm.args_mk]
  refine ⟨?_, ?_⟩
  · split <;> omega
  · intro x hx
    obtain ⟨y, hy, rfl⟩ := List.mem_map.1 hx
    exact ih y hy (h.2 y hy)
theorem shape_up {t : Tm} {f b : Int} (hb : 0 ≤ b) (h : t.shape = true) : (t.upN f b).shape = true := by
  induction t using Tm.ind generalizing f with
  | h t ih =>
  have h0 := h
  rw [Tm.shape_eq, Bool.and_eq_true, Tm.shapes_iff] at h
  rw [Tm.upN_eq, Tm.shape_eq, Bool.and_eq_true, Tm.shapes_iff, Tm.kind_mk, Tm.index_mk, Tm.type_mk, Tm.args_mk, List.length_map]
  refine ⟨?_, ?_⟩
  · have h1 := h.1
    simp only [tmKind, Bool.and_eq_true, Bool.or_eq_true] at h1 ⊢
    obtain ⟨⟨⟨a1, a2⟩, a3⟩, a4⟩ := h1
    have a2 := of_decide_eq_true a2
    refine ⟨⟨⟨a1, ?_⟩, ?_⟩, a4⟩
    · apply decide_eq_true; split <;> omega
    · rcases a3 with a3 | a3
      · exact .inl a3
      · have a3 := of_decide_eq_true a3
        by_cases hk : t.kind = 1
        · exact .inl (decide_eq_true hk)
        · exact .inr (decide_eq_true (by rw [if_neg (fun h => hk h.1)]; exact a3))
  · intro x hx
    obtain ⟨y, hy, rfl⟩ := List.mem_map.1 hx
    exact ih y hy (h.2 y hy)
theorem idx_node {k : Int} {s : Ty} {l : List Tm} {m : Int} (hm : 0 ≤ m) (h : ∀ x ∈ l, x.idx m) : (Tm.mk k 0 s l).idx m := by
  rw [Tm.idx_eq]; exact ⟨⟨Int.le_refl _, hm⟩, h⟩
theorem idx_v {i m : Int} (h0 : 0 ≤ i) (h : i ≤ m) : (vT i).idx m := by
  unfold vT; rw [Tm.idx_eq]; exact ⟨⟨h0, h⟩, fun x hx => by cases hx⟩

/-- a term is as good as it needs be where there is no error -/
def Fine (e : Int) (M : Int) (t : Tm) : Prop := t.count ≤ 268435456 ∧ (e = 0 → t.shape = true ∧ t.idx M)
theorem Fine.mono {e M M' : Int} {t : Tm} (h : Fine e M t) (hM : M ≤ M') : Fine e M' t := ⟨h.1, fun he => ⟨(h.2 he).1, Tm.idx_mono hM (h.2 he).2⟩⟩
theorem fine_node {e k M : Int} {s : Ty} {l : List Tm} (hM : 0 ≤ M) (hs : e = 0 → (Tm.mk k 0 s l).shape = true) (hl : e = 0 → ∀ x ∈ l, x.idx M) : Fine (nodeE e k s l).2 M (nodeE e k s l).1 := by
  refine ⟨by have := node_count e k s l; omega, fun h => ?_⟩
  obtain ⟨h1, h2, -⟩ := node_ok h
  rw [h2]
  exact ⟨hs h1, idx_node hM (hl h1)⟩

theorem Fine.later {e e' M : Int} {t : Tm} (h : Fine e M t) (he : e' = 0 → e = 0) : Fine e' M t := ⟨h.1, fun h' => h.2 (he h')⟩
theorem Fine.beside {e e' M M' : Int} {t u : Tm} (_ : Fine e' M' u) (h : Fine e M t) (he : e' = 0 → e = 0) : Fine e' M t := h.later he
theorem fine_call {M : Int} (hM : 0 ≤ M) : ∀ (l : List Tm) {e : Int} {f : Tm}, Fine e M f → (e = 0 → ∀ x ∈ l, x.shape = true ∧ x.idx M) → Fine (callE e f l).2 M (callE e f l).1
  | [], e, f, hf, _ => hf
  | a :: r, e, f, hf, hl => by
    rw [callE]
    refine fine_call hM r (fine_node hM (fun he => shape_n rfl (by decide) ?_) (fun he => ?_)) fun he x hx => hl (node_ok he).1 x (by simp [hx])
    · intro z hz; simp at hz; rcases hz with rfl | rfl; exact (hf.2 he).1; exact (hl he _ (by simp)).1
    · intro z hz; simp at hz; rcases hz with rfl | rfl; exact (hf.2 he).2; exact (hl he _ (by simp)).2
theorem fine_great {M : Int} (hM : 10 ≤ M) : Fine 0 M greatT := by
  refine ⟨by decide, fun _ => ⟨by decide, Tm.idx_mono hM ?_⟩⟩
  have : ∀ t : Tm, t = greatT → t.idx 10 := by
    rintro t rfl
    simp [greatT, lamT, appsT, appT, plusT, subT, predT, twoT, recT, lamsT, nT, vT, Tm.idx, Tm.idx.idxs]
  exact this _ rfl
theorem fine_v {M : Int} {e i : Int} (h0 : 0 ≤ i) (hM : i ≤ M) : Fine e M (vT i) := by
  refine ⟨by show 1 + 0 ≤ 268435456; omega, fun _ => ⟨?_, idx_v h0 hM⟩⟩
  obtain ⟨n, rfl⟩ : ∃ n : Nat, i = n := ⟨i.toNat, by omega⟩
  exact shape_v
theorem fine_up {e M f b : Int} {t : Tm} (hb : 0 ≤ b) (h : Fine e M t) : Fine e (M + b) (t.upN f b) :=
  ⟨by rw [up_count]; exact h.1, fun he => ⟨shape_up hb (h.2 he).1, idx_up hb (h.2 he).2⟩⟩

theorem fine_n1 {e k M : Int} {x : Tm} (hM : 0 ≤ M) (hk : k = 5 ∨ k = 11 ∨ k = 12) (hx : Fine e M x) : Fine (nodeE e k zY [x]).2 M (nodeE e k zY [x]).1 :=
  fine_node hM (fun he => shape_n (by rcases hk with rfl | rfl | rfl <;> rfl) (by rcases hk with rfl | rfl | rfl <;> decide) (by intro z hz; simp at hz; rw [hz]; exact (hx.2 he).1)) fun he z hz => by simp at hz; rw [hz]; exact (hx.2 he).2
theorem fine_lam {e M : Int} {s : T} {x : Tm} (hs : s.ok) (hM : 0 ≤ M) (hx : Fine e M x) : Fine (nodeE e 2 s.ty [x]).2 M (nodeE e 2 s.ty [x]).1 :=
  fine_node hM (fun he => shape_t rfl (.inl rfl) (T.ok_ty hs) (by intro z hz; simp at hz; rw [hz]; exact (hx.2 he).1)) fun he z hz => by simp at hz; rw [hz]; exact (hx.2 he).2

theorem fine_max : ∀ (a : T) {x y : Tm} {e M : Int}, a.ok → 10 ≤ M → Fine e M x → Fine e M y → Fine (maxE a.ty x y e).2 (M + a.size) (maxE a.ty x y e).1
  | a, x, y, e, M, ho, hM, hx, hy => by
    by_cases h0 : e = 0
    · subst h0
      cases a with
      | nat =>
        rw [maxE_nat]
        exact (fine_call (by omega) _ (fine_great hM) fun _ z hz => by simp at hz; rcases hz with rfl | rfl; exact hx.2 rfl; exact hy.2 rfl).mono (by simp only [T.size]; omega)
      | list => rw [maxE_list]; exact ⟨by show 1 + 0 ≤ 268435456; omega, fun _ => ⟨rfl, idx_node (by simp only [T.size]; omega) (fun z hz => by cases hz)⟩⟩
      | unit => rw [maxE_unit]; exact ⟨by show 1 + 0 ≤ 268435456; omega, fun _ => ⟨rfl, idx_node (by simp only [T.size]; omega) (fun z hz => by cases hz)⟩⟩
      | pair s t =>
        rw [maxE_pair ho]
        simp only [T.ok, T.size] at ho
        have p := fine_n1 (k := 11) (by omega) (.inr (.inl rfl)) hx
        have q := fine_n1 (k := 11) (e := (nodeE 0 11 zY [x]).2) (by omega) (.inr (.inl rfl)) (hy.later fun h => rfl)
        have l := fine_max s (by unfold T.ok; omega) hM (p.later fun h => (node_ok h).1) q
        have p' := fine_n1 (k := 12) (e := (maxE s.ty (nodeE 0 11 zY [x]).1 (nodeE (nodeE 0 11 zY [x]).2 11 zY [y]).1 (nodeE (nodeE 0 11 zY [x]).2 11 zY [y]).2).2) (by omega) (.inr (.inr rfl)) (hx.later fun h => rfl)
        have q' := fine_n1 (k := 12) (e := (nodeE (maxE s.ty (nodeE 0 11 zY [x]).1 (nodeE (nodeE 0 11 zY [x]).2 11 zY [y]).1 (nodeE (nodeE 0 11 zY [x]).2 11 zY [y]).2).2 12 zY [x]).2) (by omega) (.inr (.inr rfl)) (hy.later fun h => rfl)
        have r := fine_max t (by unfold T.ok; omega) hM (p'.later fun h => (node_ok h).1) q'
        have l' := Fine.beside r l fun h => (node_ok (node_ok (maxE_ok t (by unfold T.ok; omega) h).1).1).1
        refine fine_node (by simp only [T.size]; omega) (fun he => shape_n rfl (by decide) ?_) (fun he => ?_)
        · intro z hz; simp at hz; rcases hz with rfl | rfl; exact (l'.2 he).1; exact (r.2 he).1
        · intro z hz; simp at hz; rcases hz with rfl | rfl; exact Tm.idx_mono (by simp only [T.size]; omega) (l'.2 he).2; exact Tm.idx_mono (by simp only [T.size]; omega) (r.2 he).2
      | fn s t =>
        rw [maxE_fn ho]
        simp only [T.ok, T.size] at ho
        have p := fine_call (M := M + 1) (by omega) [vT 0] (fine_up (f := 0) (b := 1) (by decide) hx) fun he z hz => by simp at hz; rw [hz]; exact ⟨shape_v (i := 0), idx_v (by decide) (by omega)⟩
        have q := fine_call (M := M + 1) (by omega) [vT 0] (fine_up (f := 0) (b := 1) (by decide) (hy.later (e' := (callE 0 (x.upN 0 1) [vT 0]).2) fun h => rfl)) fun he z hz => by simp at hz; rw [hz]; exact ⟨shape_v (i := 0), idx_v (by decide) (by omega)⟩
        have r := fine_max t (M := M + 1) (by unfold T.ok; omega) (by omega) (p.later fun h => (call_ok h).1) q
        exact (fine_lam (by unfold T.ok; omega) (by omega) r).mono (by simp only [T.size]; omega)
    · rw [maxE_no ho h0]
      exact ⟨by show 1 + 0 ≤ 268435456; omega, fun h => absurd h h0⟩

theorem max_nat (b : Nat) : ∀ (x y : Tm) (e M : Int), T.nat.ok → 10 ≤ M → M + T.nat.size ≤ 274877906944 → Fine e M x → Fine e M y →
    Con1 Tryz.prog gl 181 [ptr b, T.nat.ty.dv, x.dv, y.dv] [(b, mk1 e)] (maxE T.nat.ty x y e).1.dv [(b, mk1 (maxE T.nat.ty x y e).2)] := by
  intro x y e M ho hM hM2 hx hy
  refine t_in Tryz.func181 ?_
  intro X hP hgl hf hfn hn hR hids hfit
  by_cases h : e = 0
  · subst h
    rw [maxE_nat] at hR
    have wc := call_walk (gl := gl) b 0 greatT [x, y] (by decide) (by intro z hz; simp at hz; rcases hz with rfl | rfl; exact hx.1; exact hy.1)
    have hty : T.nat.ty = Ty.mk 1 [] := rfl
    refine t_g @hty ?_
    refine t_c2 @hty great_walk wc ?_
    repeat (first | refine W_seq ?_ | refine W_skip ?_ | refine W_block ?_ | refine W_inBlock ?_ | refine W_label ?_ | refine W_exit rfl ?_)
    first | refine W_retR hP hf hfn _ ([(b, mk1 (callE 0 greatT [x, y]).2)]) (by first | (simp [go_sem, hP, hgl, hn]; done) | (simp [go_sem, hP, hgl, hn]; rfl)) (by simp [go_sem, hP, hgl, hn]) (by simp) ?_ hR.2 | refine W_endR hP hf hfn _ ([(b, mk1 (callE 0 greatT [x, y]).2)]) (by first | (simp [go_sem, hP, hgl, hn]; done) | (simp [go_sem, hP, hgl, hn]; rfl)) (by simp [go_sem, hP, hgl, hn]) (by simp) ?_ hR.2
    rw [hR.1]
    refine ⟨?_, by simp⟩
    try simp
    try all_goals (simp [Ty.dv, Ty.cells_eq, Ty.kind_mk, Ty.args_mk, Tm.dv, Tm.cells_eq, Tm.kind_mk, Tm.index_mk, Tm.type_mk, Tm.args_mk, Val.dv, Val.cells_eq, Val.kind_mk, Val.num_mk, Val.list_mk, Val.args_mk, ints])
  · rw [maxE_no ho h] at hR
    refine t_g @h ?_
    repeat (first | refine W_seq ?_ | refine W_skip ?_ | refine W_block ?_ | refine W_inBlock ?_ | refine W_label ?_ | refine W_exit rfl ?_)
    first | refine W_retR hP hf hfn _ ([(b, mk1 e)]) (by first | (simp [go_sem, hP, hgl, hn, zeroTm]; done) | (simp [go_sem, hP, hgl, hn, zeroTm]; rfl)) (by simp [go_sem, hP, hgl, hn, zeroTm]) (by simp) ?_ hR.2 | refine W_endR hP hf hfn _ ([(b, mk1 e)]) (by first | (simp [go_sem, hP, hgl, hn, zeroTm]; done) | (simp [go_sem, hP, hgl, hn, zeroTm]; rfl)) (by simp [go_sem, hP, hgl, hn, zeroTm]) (by simp) ?_ hR.2
    rw [hR.1]
    refine ⟨?_, by simp [zeroTm]⟩
    try simp [zeroTm]
    try all_goals (simp [Ty.dv, Ty.cells_eq, Ty.kind_mk, Ty.args_mk, Tm.dv, Tm.cells_eq, Tm.kind_mk, Tm.index_mk, Tm.type_mk, Tm.args_mk, Val.dv, Val.cells_eq, Val.kind_mk, Val.num_mk, Val.list_mk, Val.args_mk, ints])
theorem max_list (b : Nat) : ∀ (x y : Tm) (e M : Int), T.list.ok → 10 ≤ M → M + T.list.size ≤ 274877906944 → Fine e M x → Fine e M y →
    Con1 Tryz.prog gl 181 [ptr b, T.list.ty.dv, x.dv, y.dv] [(b, mk1 e)] (maxE T.list.ty x y e).1.dv [(b, mk1 (maxE T.list.ty x y e).2)] := by
  intro x y e M ho hM hM2 hx hy
  refine t_in Tryz.func181 ?_
  intro X hP hgl hf hfn hn hR hids hfit
  by_cases h : e = 0
  · subst h
    rw [maxE_list] at hR
    have hty : T.list.ty = Ty.mk 2 [] := rfl
    refine t_g @hty ?_
    refine t_c1 @hty sc_unit_ok ?_
    repeat (first | refine W_seq ?_ | refine W_skip ?_ | refine W_block ?_ | refine W_inBlock ?_ | refine W_label ?_ | refine W_exit rfl ?_)
    first | refine W_retR hP hf hfn _ ([(b, mk1 0)]) (by first | (simp [go_sem, hP, hgl, hn]; done) | (simp [go_sem, hP, hgl, hn]; rfl)) (by simp [go_sem, hP, hgl, hn]) (by simp) ?_ hR.2 | refine W_endR hP hf hfn _ ([(b, mk1 0)]) (by first | (simp [go_sem, hP, hgl, hn]; done) | (simp [go_sem, hP, hgl, hn]; rfl)) (by simp [go_sem, hP, hgl, hn]) (by simp) ?_ hR.2
    rw [hR.1]
    refine ⟨?_, by simp⟩
    try simp
    try all_goals (simp [Ty.dv, Ty.cells_eq, Ty.kind_mk, Ty.args_mk, Tm.dv, Tm.cells_eq, Tm.kind_mk, Tm.index_mk, Tm.type_mk, Tm.args_mk, Val.dv, Val.cells_eq, Val.kind_mk, Val.num_mk, Val.list_mk, Val.args_mk, ints])
  · rw [maxE_no ho h] at hR
    refine t_g @h ?_
    repeat (first | refine W_seq ?_ | refine W_skip ?_ | refine W_block ?_ | refine W_inBlock ?_ | refine W_label ?_ | refine W_exit rfl ?_)
    first | refine W_retR hP hf hfn _ ([(b, mk1 e)]) (by first | (simp [go_sem, hP, hgl, hn, zeroTm]; done) | (simp [go_sem, hP, hgl, hn, zeroTm]; rfl)) (by simp [go_sem, hP, hgl, hn, zeroTm]) (by simp) ?_ hR.2 | refine W_endR hP hf hfn _ ([(b, mk1 e)]) (by first | (simp [go_sem, hP, hgl, hn, zeroTm]; done) | (simp [go_sem, hP, hgl, hn, zeroTm]; rfl)) (by simp [go_sem, hP, hgl, hn, zeroTm]) (by simp) ?_ hR.2
    rw [hR.1]
    refine ⟨?_, by simp [zeroTm]⟩
    try simp [zeroTm]
    try all_goals (simp [Ty.dv, Ty.cells_eq, Ty.kind_mk, Ty.args_mk, Tm.dv, Tm.cells_eq, Tm.kind_mk, Tm.index_mk, Tm.type_mk, Tm.args_mk, Val.dv, Val.cells_eq, Val.kind_mk, Val.num_mk, Val.list_mk, Val.args_mk, ints])
theorem max_unit (b : Nat) : ∀ (x y : Tm) (e M : Int), T.unit.ok → 10 ≤ M → M + T.unit.size ≤ 274877906944 → Fine e M x → Fine e M y →
    Con1 Tryz.prog gl 181 [ptr b, T.unit.ty.dv, x.dv, y.dv] [(b, mk1 e)] (maxE T.unit.ty x y e).1.dv [(b, mk1 (maxE T.unit.ty x y e).2)] := by
  intro x y e M ho hM hM2 hx hy
  refine t_in Tryz.func181 ?_
  intro X hP hgl hf hfn hn hR hids hfit
  by_cases h : e = 0
  · subst h
    rw [maxE_unit] at hR
    have hty : T.unit.ty = Ty.mk 5 [] := rfl
    refine t_g @hty ?_
    refine t_c1 @hty sc_unit_ok ?_
    repeat (first | refine W_seq ?_ | refine W_skip ?_ | refine W_block ?_ | refine W_inBlock ?_ | refine W_label ?_ | refine W_exit rfl ?_)
    first | refine W_retR hP hf hfn _ ([(b, mk1 0)]) (by first | (simp [go_sem, hP, hgl, hn]; done) | (simp [go_sem, hP, hgl, hn]; rfl)) (by simp [go_sem, hP, hgl, hn]) (by simp) ?_ hR.2 | refine W_endR hP hf hfn _ ([(b, mk1 0)]) (by first | (simp [go_sem, hP, hgl, hn]; done) | (simp [go_sem, hP, hgl, hn]; rfl)) (by simp [go_sem, hP, hgl, hn]) (by simp) ?_ hR.2
    rw [hR.1]
    refine ⟨?_, by simp⟩
    try simp
    try all_goals (simp [Ty.dv, Ty.cells_eq, Ty.kind_mk, Ty.args_mk, Tm.dv, Tm.cells_eq, Tm.kind_mk, Tm.index_mk, Tm.type_mk, Tm.args_mk, Val.dv, Val.cells_eq, Val.kind_mk, Val.num_mk, Val.list_mk, Val.args_mk, ints])
  · rw [maxE_no ho h] at hR
    refine t_g @h ?_
    repeat (first | refine W_seq ?_ | refine W_skip ?_ | refine W_block ?_ | refine W_inBlock ?_ | refine W_label ?_ | refine W_exit rfl ?_)
    first | refine W_retR hP hf hfn _ ([(b, mk1 e)]) (by first | (simp [go_sem, hP, hgl, hn, zeroTm]; done) | (simp [go_sem, hP, hgl, hn, zeroTm]; rfl)) (by simp [go_sem, hP, hgl, hn, zeroTm]) (by simp) ?_ hR.2 | refine W_endR hP hf hfn _ ([(b, mk1 e)]) (by first | (simp [go_sem, hP, hgl, hn, zeroTm]; done) | (simp [go_sem, hP, hgl, hn, zeroTm]; rfl)) (by simp [go_sem, hP, hgl, hn, zeroTm]) (by simp) ?_ hR.2
    rw [hR.1]
    refine ⟨?_, by simp [zeroTm]⟩
    try simp [zeroTm]
    try all_goals (simp [Ty.dv, Ty.cells_eq, Ty.kind_mk, Ty.args_mk, Tm.dv, Tm.cells_eq, Tm.kind_mk, Tm.index_mk, Tm.type_mk, Tm.args_mk, Val.dv, Val.cells_eq, Val.kind_mk, Val.num_mk, Val.list_mk, Val.args_mk, ints])
theorem max_pair (b : Nat) (s t : T) (ihs : ∀ (x y : Tm) (e M : Int), (s).ok → 10 ≤ M → M + (s).size ≤ 274877906944 → Fine e M x → Fine e M y →
    Con1 Tryz.prog gl 181 [ptr b, (s).ty.dv, x.dv, y.dv] [(b, mk1 e)] (maxE (s).ty x y e).1.dv [(b, mk1 (maxE (s).ty x y e).2)]) (iht : ∀ (x y : Tm) (e M : Int), (t).ok → 10 ≤ M → M + (t).size ≤ 274877906944 → Fine e M x → Fine e M y →
    Con1 Tryz.prog gl 181 [ptr b, (t).ty.dv, x.dv, y.dv] [(b, mk1 e)] (maxE (t).ty x y e).1.dv [(b, mk1 (maxE (t).ty x y e).2)]) : ∀ (x y : Tm) (e M : Int), (T.pair s t).ok → 10 ≤ M → M + (T.pair s t).size ≤ 274877906944 → Fine e M x → Fine e M y →
    Con1 Tryz.prog gl 181 [ptr b, (T.pair s t).ty.dv, x.dv, y.dv] [(b, mk1 e)] (maxE (T.pair s t).ty x y e).1.dv [(b, mk1 (maxE (T.pair s t).ty x y e).2)] := by
  intro x y e M ho hM hM2 hx hy
  refine t_in Tryz.func181 ?_
  intro X hP hgl hf hfn hn hR hids hfit
  by_cases h : e = 0
  · subst h
    rw [maxE_pair ho] at hR
    simp only [T.ok, T.size] at ho hM2
    have cx := hx.1
    have cy := hy.1
    have w1 := plain_walk (gl := gl) b 0 11 [x] (by show 1 + (x.count + 0) ≤ 1073741824; omega)
    have p := fine_n1 (k := 11) (by omega) (.inr (.inl rfl)) hx
    have o1 : (nodeE 0 11 zY [x]).2 = 0 → (0 : Int) = 0 := fun _ => rfl
    generalize he1 : nodeE 0 11 zY [x] = r1 at *
    obtain ⟨x1, e1⟩ := r1
    simp only at hR w1 p
    have w2 := plain_walk (gl := gl) b e1 11 [y] (by show 1 + (y.count + 0) ≤ 1073741824; omega)
    have q := fine_n1 (k := 11) (e := e1) (by omega) (.inr (.inl rfl)) (hy.later fun h => rfl)
    have o2 : (nodeE e1 11 zY [y]).2 = 0 → e1 = 0 := fun h => (node_ok h).1
    generalize he2 : nodeE e1 11 zY [y] = r2 at *
    obtain ⟨y1, e2⟩ := r2
    simp only at hR w2 q o2
    have w3 := ihs x1 y1 e2 M (by unfold T.ok; omega) hM (by omega) (p.later o2) q
    generalize he3 : maxE s.ty x1 y1 e2 = r3 at *
    obtain ⟨l, e3⟩ := r3
    simp only at hR w3
    have cl : l.count ≤ 4096 := by have := maxE_count s.ty (T.ok_ty (by unfold T.ok; omega)) x1 y1 e2; rw [he3] at this; exact this
    have w4 := plain_walk (gl := gl) b e3 12 [x] (by show 1 + (x.count + 0) ≤ 1073741824; omega)
    have p' := fine_n1 (k := 12) (e := e3) (by omega) (.inr (.inr rfl)) (hx.later fun h => rfl)
    have o4 : (nodeE e3 12 zY [x]).2 = 0 → e3 = 0 := fun h => (node_ok h).1
    generalize he4 : nodeE e3 12 zY [x] = r4 at *
    obtain ⟨x2, e4⟩ := r4
    simp only at hR w4 p' o4
    have w5 := plain_walk (gl := gl) b e4 12 [y] (by show 1 + (y.count + 0) ≤ 1073741824; omega)
    have q' := fine_n1 (k := 12) (e := e4) (by omega) (.inr (.inr rfl)) (hy.later fun h => rfl)
    have o5 : (nodeE e4 12 zY [y]).2 = 0 → e4 = 0 := fun h => (node_ok h).1
    generalize he5 : nodeE e4 12 zY [y] = r5 at *
    obtain ⟨y2, e5⟩ := r5
    simp only at hR w5 q' o5
    have w6 := iht x2 y2 e5 M (by unfold T.ok; omega) hM (by omega) (p'.later o5) q'
    generalize he6 : maxE t.ty x2 y2 e5 = r6 at *
    obtain ⟨r, e6⟩ := r6
    simp only at hR w6
    have cr : r.count ≤ 4096 := by have := maxE_count t.ty (T.ok_ty (by unfold T.ok; omega)) x2 y2 e5; rw [he6] at this; exact this
    have w7 := plain_walk (gl := gl) b e6 10 [l, r] (by show 1 + (l.count + (r.count + 0)) ≤ 1073741824; omega)
    have hty : (T.pair s t).ty = Ty.mk 3 [s.ty, t.ty] := rfl
    refine t_g @hty ?_
    refine t_c3 @hty w1 w2 w3 ?_
    refine t_c3 @hty w4 w5 w6 ?_
    refine t_c1 @hty w7 ?_
    repeat (first | refine W_seq ?_ | refine W_skip ?_ | refine W_block ?_ | refine W_inBlock ?_ | refine W_label ?_ | refine W_exit rfl ?_)
    first | refine W_retR hP hf hfn _ ([(b, mk1 (nodeE e6 10 zY [l, r]).2)]) (by first | (simp [go_sem, hP, hgl, hn]; done) | (simp [go_sem, hP, hgl, hn]; rfl)) (by simp [go_sem, hP, hgl, hn]) (by simp) ?_ hR.2 | refine W_endR hP hf hfn _ ([(b, mk1 (nodeE e6 10 zY [l, r]).2)]) (by first | (simp [go_sem, hP, hgl, hn]; done) | (simp [go_sem, hP, hgl, hn]; rfl)) (by simp [go_sem, hP, hgl, hn]) (by simp) ?_ hR.2
    rw [hR.1]
    refine ⟨?_, by simp⟩
    try simp
    try all_goals (simp [Ty.dv, Ty.cells_eq, Ty.kind_mk, Ty.args_mk, Tm.dv, Tm.cells_eq, Tm.kind_mk, Tm.index_mk, Tm.type_mk, Tm.args_mk, Val.dv, Val.cells_eq, Val.kind_mk, Val.num_mk, Val.list_mk, Val.args_mk, ints])
  · rw [maxE_no ho h] at hR
    refine t_g @h ?_
    repeat (first | refine W_seq ?_ | refine W_skip ?_ | refine W_block ?_ | refine W_inBlock ?_ | refine W_label ?_ | refine W_exit rfl ?_)
    first | refine W_retR hP hf hfn _ ([(b, mk1 e)]) (by first | (simp [go_sem, hP, hgl, hn, zeroTm]; done) | (simp [go_sem, hP, hgl, hn, zeroTm]; rfl)) (by simp [go_sem, hP, hgl, hn, zeroTm]) (by simp) ?_ hR.2 | refine W_endR hP hf hfn _ ([(b, mk1 e)]) (by first | (simp [go_sem, hP, hgl, hn, zeroTm]; done) | (simp [go_sem, hP, hgl, hn, zeroTm]; rfl)) (by simp [go_sem, hP, hgl, hn, zeroTm]) (by simp) ?_ hR.2
    rw [hR.1]
    refine ⟨?_, by simp [zeroTm]⟩
    try simp [zeroTm]
    try all_goals (simp [Ty.dv, Ty.cells_eq, Ty.kind_mk, Ty.args_mk, Tm.dv, Tm.cells_eq, Tm.kind_mk, Tm.index_mk, Tm.type_mk, Tm.args_mk, Val.dv, Val.cells_eq, Val.kind_mk, Val.num_mk, Val.list_mk, Val.args_mk, ints])
theorem max_fn (b : Nat) (s t : T) (ihs : ∀ (x y : Tm) (e M : Int), (s).ok → 10 ≤ M → M + (s).size ≤ 274877906944 → Fine e M x → Fine e M y →
    Con1 Tryz.prog gl 181 [ptr b, (s).ty.dv, x.dv, y.dv] [(b, mk1 e)] (maxE (s).ty x y e).1.dv [(b, mk1 (maxE (s).ty x y e).2)]) (iht : ∀ (x y : Tm) (e M : Int), (t).ok → 10 ≤ M → M + (t).size ≤ 274877906944 → Fine e M x → Fine e M y →
    Con1 Tryz.prog gl 181 [ptr b, (t).ty.dv, x.dv, y.dv] [(b, mk1 e)] (maxE (t).ty x y e).1.dv [(b, mk1 (maxE (t).ty x y e).2)]) : ∀ (x y : Tm) (e M : Int), (T.fn s t).ok → 10 ≤ M → M + (T.fn s t).size ≤ 274877906944 → Fine e M x → Fine e M y →
    Con1 Tryz.prog gl 181 [ptr b, (T.fn s t).ty.dv, x.dv, y.dv] [(b, mk1 e)] (maxE (T.fn s t).ty x y e).1.dv [(b, mk1 (maxE (T.fn s t).ty x y e).2)] := by
  intro x y e M ho hM hM2 hx hy
  refine t_in Tryz.func181 ?_
  intro X hP hgl hf hfn hn hR hids hfit
  by_cases h : e = 0
  · subst h
    rw [maxE_fn ho] at hR
    simp only [T.ok, T.size] at ho hM2
    have cx := hx.1
    have cy := hy.1
    have l1 := sc_lift_ok (gl := gl) x 0 1 (hx.2 rfl).1 (Tm.idx_mono (by omega) (hx.2 rfl).2) (by decide) (by decide) (by decide) (by omega)
    have l2 := sc_lift_ok (gl := gl) y 0 1 (hy.2 rfl).1 (Tm.idx_mono (by omega) (hy.2 rfl).2) (by decide) (by decide) (by decide) (by omega)
    have u1 := up_count x 0 1
    have u2 := up_count y 0 1
    have v1 : (vT 0).count ≤ 268435456 := by decide
    have w1 := call_walk (gl := gl) b 0 (x.upN 0 1) [vT 0] (by omega) (by intro z hz; simp at hz; rw [hz]; exact v1)
    have p := fine_call (M := M + 1) (by omega) [vT 0] (fine_up (f := 0) (b := 1) (by decide) hx) fun he z hz => by simp at hz; rw [hz]; exact ⟨shape_v (i := 0), idx_v (by decide) (by omega)⟩
    generalize he1 : callE 0 (x.upN 0 1) [vT 0] = r1 at *
    obtain ⟨x1, e1⟩ := r1
    simp only at hR w1 p
    have w2 := call_walk (gl := gl) b e1 (y.upN 0 1) [vT 0] (by omega) (by intro z hz; simp at hz; rw [hz]; exact v1)
    have q := fine_call (M := M + 1) (by omega) [vT 0] (fine_up (f := 0) (b := 1) (by decide) (hy.later (e' := e1) fun h => rfl)) fun he z hz => by simp at hz; rw [hz]; exact ⟨shape_v (i := 0), idx_v (by decide) (by omega)⟩
    have o2 : (callE e1 (y.upN 0 1) [vT 0]).2 = 0 → e1 = 0 := fun h => (call_ok h).1
    generalize he2 : callE e1 (y.upN 0 1) [vT 0] = r2 at *
    obtain ⟨y1, e2⟩ := r2
    simp only at hR w2 q o2
    have w3 := iht x1 y1 e2 (M + 1) (by unfold T.ok; omega) (by omega) (by omega) (p.later o2) q
    generalize he3 : maxE t.ty x1 y1 e2 = r3 at *
    obtain ⟨r, e3⟩ := r3
    simp only at hR w3
    have cr : r.count ≤ 4096 := by have := maxE_count t.ty (T.ok_ty (by unfold T.ok; omega)) x1 y1 e2; rw [he3] at this; exact this
    have w4 := node_walk (gl := gl) b e3 2 s.ty [r] (by show 1 + (r.count + 0) ≤ 1073741824; omega)
    have hty : (T.fn s t).ty = Ty.mk 4 [s.ty, t.ty] := rfl
    refine t_g @hty ?_
    refine t_c1 @hty (sc_var_ok 0) ?_
    refine t_c5 @hty l1 w1 l2 w2 w3 ?_
    refine t_c1 @hty w4 ?_
    repeat (first | refine W_seq ?_ | refine W_skip ?_ | refine W_block ?_ | refine W_inBlock ?_ | refine W_label ?_ | refine W_exit rfl ?_)
    first | refine W_retR hP hf hfn _ ([(b, mk1 (nodeE e3 2 s.ty [r]).2)]) (by first | (simp [go_sem, hP, hgl, hn]; done) | (simp [go_sem, hP, hgl, hn]; rfl)) (by simp [go_sem, hP, hgl, hn]) (by simp) ?_ hR.2 | refine W_endR hP hf hfn _ ([(b, mk1 (nodeE e3 2 s.ty [r]).2)]) (by first | (simp [go_sem, hP, hgl, hn]; done) | (simp [go_sem, hP, hgl, hn]; rfl)) (by simp [go_sem, hP, hgl, hn]) (by simp) ?_ hR.2
    rw [hR.1]
    refine ⟨?_, by simp⟩
    try simp
    try all_goals (simp [Ty.dv, Ty.cells_eq, Ty.kind_mk, Ty.args_mk, Tm.dv, Tm.cells_eq, Tm.kind_mk, Tm.index_mk, Tm.type_mk, Tm.args_mk, Val.dv, Val.cells_eq, Val.kind_mk, Val.num_mk, Val.list_mk, Val.args_mk, ints])
  · rw [maxE_no ho h] at hR
    refine t_g @h ?_
    repeat (first | refine W_seq ?_ | refine W_skip ?_ | refine W_block ?_ | refine W_inBlock ?_ | refine W_label ?_ | refine W_exit rfl ?_)
    first | refine W_retR hP hf hfn _ ([(b, mk1 e)]) (by first | (simp [go_sem, hP, hgl, hn, zeroTm]; done) | (simp [go_sem, hP, hgl, hn, zeroTm]; rfl)) (by simp [go_sem, hP, hgl, hn, zeroTm]) (by simp) ?_ hR.2 | refine W_endR hP hf hfn _ ([(b, mk1 e)]) (by first | (simp [go_sem, hP, hgl, hn, zeroTm]; done) | (simp [go_sem, hP, hgl, hn, zeroTm]; rfl)) (by simp [go_sem, hP, hgl, hn, zeroTm]) (by simp) ?_ hR.2
    rw [hR.1]
    refine ⟨?_, by simp [zeroTm]⟩
    try simp [zeroTm]
    try all_goals (simp [Ty.dv, Ty.cells_eq, Ty.kind_mk, Ty.args_mk, Tm.dv, Tm.cells_eq, Tm.kind_mk, Tm.index_mk, Tm.type_mk, Tm.args_mk, Val.dv, Val.cells_eq, Val.kind_mk, Val.num_mk, Val.list_mk, Val.args_mk, ints])
theorem max_walk (b : Nat) (a : T) : ∀ (x y : Tm) (e M : Int), (a).ok → 10 ≤ M → M + (a).size ≤ 274877906944 → Fine e M x → Fine e M y →
    Con1 Tryz.prog gl 181 [ptr b, (a).ty.dv, x.dv, y.dv] [(b, mk1 e)] (maxE (a).ty x y e).1.dv [(b, mk1 (maxE (a).ty x y e).2)] := by
  induction a with
  | nat => exact max_nat b
  | list => exact max_list b
  | unit => exact max_unit b
  | pair s t ihs iht => exact max_pair b s t ihs iht
  | fn s t ihs iht => exact max_fn b s t ihs iht
end Go.Proofs.YtcldnfbcbkaanaaGreatDoor.Lift

namespace Go.Proofs.YtcldnfbcbkaanaaGreatDoor.Lift
set_option linter.unusedSimpArgs false
set_option linter.unusedVariables false
set_option linter.unnecessarySimpa false
open Go
variable {gl : Globs}

theorem bares_map (l : List Ty) : bareN.bares l = l.map bareN := by
  induction l with
  | nil => rfl
  | cons a r ih => simp [bareN.bares, ih]
theorem bareN_eq (t : Ty) : bareN t = if t.kind = 2 then Ty.mk 1 [] else Ty.mk t.kind (t.args.map bareN) := by
  cases t; rw [bareN, bares_map]; rfl

theorem bare_walk (t : Ty) : Con1 Tryz.prog gl 185 [t.dv] [] (bareN t).dv [] := by
  induction t using Ty.ind with
  | h t ih =>
  refine t_in Tryz.func185 ?_
  intro X hP hgl hf hfn hn hR hids hfit
  have hlen := Ty.fit_len (hfit t.dv (by simp))
  rw [bareN_eq] at hR
  by_cases h : t.kind = 2
  · refine t_g @h ?_
    refine t_c1 trivial sc_nat_ok ?_
    refine t_r ?_
    simp [go_sem, hP, hgl, hn, h, natY] <;> (try omega)
    all_goals exact t_f
  · refine t_g @h ?_
    refine t_a ?_
    refine t_sub [(1003, 0)] trivial (W_list (t.args) (fun done rest => [(.slot 16, .one (.v (dint done.length))), (.slot 15, .one (.v (dint t.args.length))), (.slot 14, .one (.v (.sl (t.args.map Ty.cells)))), (.loc 3, .row ([.v (dint t.kind), .own 1003 (done.map fun x => (bareN x).cells)])), (.slot 3, .one (.loc 3 0)), (.tok 1003, .tk 2 done.length), (.loc 2, .row ([.v (dint 0), .own 0 []])), (.slot 2, .one (.loc 2 0))]) ?_ ?_)
    · intro done x rest hL hg0 hnext
      have hlt : done.length < t.args.length := by rw [hL]; simp
      have hxm := List.mem_of_getElem? hg0
      refine t_rg0 ?_
      refine t_yes ?_
      refine t_g @hg0 ?_
      refine t_c1 @hg0 (ih x hxm) ?_
      refine t_gt (wr [(1003, 25)]) (Ty.cells_eq (bareN x)) trivial hnext
    · refine t_rg0 ?_
      refine t_no ?_
      refine t_g0 ?_
      refine t_r ?_
      simp [go_sem, hP, hgl, hn, h] <;> (try omega)
      simp [Ty.dv, Ty.cells_eq, Ty.kind_mk, Ty.args_mk]

theorem step_walk (b : Nat) (s : T) (next : Tm) (e M : Int) (ho : s.ok) (hM : 10 ≤ M) (hM2 : M + s.size ≤ 274877906944) (hx : Fine e M next) :
    Con1 Tryz.prog gl 187 [ptr b, s.ty.dv, next.dv] [(b, mk1 e)] (stepE s.ty next e).1.dv [(b, mk1 (stepE s.ty next e).2)] := by
  refine t_in Tryz.func187 ?_
  intro X hP hgl hf hfn hn hR hids hfit
  unfold stepE at hR
  have w1 := max_walk (gl := gl) b s (vT 0) next e M ho hM hM2 (fine_v (by decide) (by omega)) hx
  have c1 := maxE_count s.ty (T.ok_ty ho) (vT 0) next e
  generalize maxE s.ty (vT 0) next e = r1 at *
  obtain ⟨y, e1⟩ := r1
  simp only at hR w1 c1
  have w2 := node_walk (gl := gl) b e1 2 s.ty [y] (by show 1 + (y.count + 0) ≤ 1073741824; omega)
  have c2 := node_count e1 2 s.ty [y]
  generalize nodeE e1 2 s.ty [y] = r2 at *
  obtain ⟨z, e2⟩ := r2
  simp only at hR w2 c2
  have w3 := node_walk (gl := gl) b e2 2 natY [z] (by show 1 + (z.count + 0) ≤ 1073741824; omega)
  refine t_g0 ?_
  refine t_c2 trivial (sc_var_ok 0) w1 ?_
  refine t_c3 trivial sc_nat_ok w2 w3 ?_
  repeat (first | refine W_seq ?_ | refine W_skip ?_ | refine W_block ?_ | refine W_inBlock ?_ | refine W_label ?_ | refine W_exit rfl ?_)
  first | refine W_retR hP hf hfn _ ([(b, mk1 (nodeE e2 2 natY [z]).2)]) (by first | (simp [go_sem, hP, hgl, hn]; done) | (simp [go_sem, hP, hgl, hn]; rfl)) (by simp [go_sem, hP, hgl, hn]) (by simp) ?_ hR.2 | refine W_endR hP hf hfn _ ([(b, mk1 (nodeE e2 2 natY [z]).2)]) (by first | (simp [go_sem, hP, hgl, hn]; done) | (simp [go_sem, hP, hgl, hn]; rfl)) (by simp [go_sem, hP, hgl, hn]) (by simp) ?_ hR.2
  rw [hR.1]
  refine ⟨?_, by simp⟩
  try simp
  try all_goals (simp [Ty.dv, Ty.cells_eq, Ty.kind_mk, Ty.args_mk, Tm.dv, Tm.cells_eq, Tm.kind_mk, Tm.index_mk, Tm.type_mk, Tm.args_mk, Val.dv, Val.cells_eq, Val.kind_mk, Val.num_mk, Val.list_mk, Val.args_mk, ints])

theorem majs_all (l : List Tm) (h : (majE.majsE l).2 = 0) : (majE.majsE l).1.length = l.length ∧ ∀ (i : Nat) (x : Tm), l[i]? = some x → (majE x).2 = 0 ∧ (majE.majsE l).1[i]? = some (majE x).1 := by
  induction l with
  | nil => simp [majE.majsE]
  | cons a r ih =>
    simp only [majE.majsE] at h ⊢
    by_cases ha : (majE a).2 = 0
    · by_cases hr : (majE.majsE r).2 = 0
      · simp only [ha, hr, if_true]
        obtain ⟨h1, h2⟩ := ih hr
        refine ⟨by simp [h1], ?_⟩
        intro i x hx
        cases i with
        | zero => simp at hx; subst hx; exact ⟨ha, by simp⟩
        | succ i => simp at hx; simpa using h2 i x hx
      · simp [ha, hr] at h
    · simp [ha] at h
theorem majs_snoc (l : List Tm) (x : Tm) (h : (majE.majsE l).2 = 0) (hx : (majE x).2 = 0) : majE.majsE (l ++ [x]) = ((majE.majsE l).1 ++ [(majE x).1], 0) := by
  induction l with
  | nil => simp [majE.majsE, hx]
  | cons a r ih =>
    simp only [majE.majsE] at h
    by_cases ha : (majE a).2 = 0
    · by_cases hr : (majE.majsE r).2 = 0
      · simp [majE.majsE, ha, hr, ih hr]
      · simp [ha, hr] at h
    · simp [ha] at h
theorem majs_stop (l : List Tm) (x : Tm) (m : List Tm) (h : (majE.majsE l).2 = 0) (hx : ¬ (majE x).2 = 0) : majE.majsE (l ++ x :: m) = ([], (majE x).2) := by
  induction l with
  | nil => simp [majE.majsE, hx]
  | cons a r ih =>
    simp only [majE.majsE] at h
    by_cases ha : (majE a).2 = 0
    · by_cases hr : (majE.majsE r).2 = 0
      · simp [majE.majsE, ha, ih hr, hx]
      · simp [ha, hr] at h
    · simp [ha] at h

theorem fine_step {s : T} {next : Tm} {e M : Int} (ho : s.ok) (hM : 10 ≤ M) (hx : Fine e M next) : Fine (stepE s.ty next e).2 (M + s.size) (stepE s.ty next e).1 := by
  unfold stepE
  have h1 := fine_max s ho hM (fine_v (e := e) (i := 0) (by decide) (by omega)) hx
  exact fine_lam (s := .nat) nat_ok0 (by omega) (fine_lam ho (by omega) h1)

theorem arg_ty {t : Tm} (hs : t.shape = true) (hk : t.kind = 2 ∨ t.kind = 6 ∨ t.kind = 9) : ∃ a : T, a.ty = t.type ∧ a.ok ∧ bareN t.type = a.maj.ty ∧ a.maj.ok ∧ a.maj.size ≤ 64 := by
  have h := (Tm.shape_node hs).2.2.2.1
  rw [if_pos hk] at h
  obtain ⟨a, ha⟩ := T.of_shape t.type h.1
  have hok : a.ok := T.ty_ok (by rw [ha]; exact h)
  exact ⟨a, ha, hok, by rw [← ha, maj_ty], maj_ok hok, maj_ok hok⟩

theorem fine_maj (t : Tm) : ∀ {M : Int}, t.shape = true → t.idx M → 10 ≤ M → Fine (majE t).2 (M + 100 * t.count) (majE t).1 := by
  induction t using Tm.ind with
  | h t ih =>
  intro M hs hi hM
  obtain ⟨hlen, hi0, hv, hty, hsa⟩ := Tm.shape_node hs
  have hix := (Tm.idx_eq t _).1 hi
  have hct := Tm.count_eq t
  rw [majE_eq]
  by_cases h0 : (majE.majsE t.args).2 = 0
  rotate_left
  · rw [if_neg h0]; exact ⟨by show 1 + 0 ≤ 268435456; omega, fun h => absurd h h0⟩
  rw [if_pos h0]
  obtain ⟨hl, hx⟩ := majs_all t.args h0
  have get : ∀ (i : Nat) (x : Tm), t.args[i]? = some x → ∃ y, (majE.majsE t.args).1[i]? = some y ∧ Fine 0 (M + 100 * (t.count - 1)) y := by
    intro i x hix2
    obtain ⟨x1, x2⟩ := hx i x hix2
    have hm := List.mem_of_getElem? hix2
    have hc := Tm.count_mem hm
    have := ih x hm (hsa x hm) (hix.2 x hm) hM
    exact ⟨_, x2, (this.later fun _ => x1).mono (by omega)⟩
  generalize (majE.majsE t.args).1 = l at get hl ⊢
  have hc1 : 1 ≤ t.count := Tm.count_pos t
  generalize hM1 : M + 100 * ((t.count : Int) - 1) = M1 at get
  have hMt : M + 100 * t.count = M1 + 100 := by omega
  rw [hMt]
  have hM2 : 10 ≤ M1 := by omega
  have all : ∀ z ∈ l, Fine 0 M1 z := by
    intro z hz
    obtain ⟨i, hi⟩ := List.getElem?_of_mem hz
    have hil := (List.getElem?_eq_some_iff.1 hi).1
    obtain ⟨y, hy, fy⟩ := get i t.args[i] (List.getElem?_eq_getElem (by omega))
    rw [hi] at hy; cases hy
    exact fy
  clear get
  unfold majNodeE
  by_cases h7 : t.kind = 7
  · rw [if_pos h7]; exact ⟨by show 1 + 0 ≤ 268435456; omega, fun _ => ⟨rfl, idx_node (by omega) (fun z hz => by cases hz)⟩⟩
  rw [if_neg h7]
  by_cases h8 : t.kind = 8
  · rw [if_pos h8]
    have h2 : l.length = 2 := by rw [h8] at hlen; simp [arityI] at hlen; omega
    match l, h2, all with
    | [y, z], _, all =>
      have fz := fine_n1 (k := 5) (by omega) (.inl rfl) (all z (by simp))
      exact (fine_max .nat nat_ok0 hM2 ((all y (by simp)).later fun h => rfl) fz).mono (by simp only [T.size]; omega)
  rw [if_neg h8]
  by_cases h2 : t.kind = 2
  · rw [if_pos h2]
    obtain ⟨a, -, -, hb, ho, -⟩ := arg_ty hs (.inl h2)
    have h1 : l.length = 1 := by rw [h2] at hlen; simp [arityI] at hlen; omega
    match l, h1, all with
    | [y], _, all =>
      rw [hb]
      exact (fine_lam ho (by omega) (all y (by simp))).mono (by omega)
  rw [if_neg h2]
  by_cases h6 : t.kind = 6
  · rw [if_pos h6]
    obtain ⟨a, -, -, hb, ho, hsz⟩ := arg_ty hs (.inr (.inl h6))
    have h1 : l.length = 3 := by rw [h6] at hlen; simp [arityI] at hlen; omega
    match l, h1, all with
    | [x, f, n], _, all =>
      rw [hb]
      have c := fine_call (M := M1 + 2) (by omega) [vT 1, vT 0] (fine_up (f := 0) (b := 2) (by decide) (all f (by simp))) fun _ z hz => by simp at hz; rcases hz with rfl | rfl; exact ⟨shape_v (i := 1), idx_v (by decide) (by omega)⟩; exact ⟨shape_v (i := 0), idx_v (by decide) (by omega)⟩
      have st := fine_step ho (by omega) c
      refine (fine_node (M := M1 + 2 + a.maj.size) (by omega) (fun he => shape_t rfl (.inr (.inl rfl)) (T.ok_ty ho) ?_) (fun he => ?_)).mono (by omega)
      · intro z hz; simp at hz; rcases hz with rfl | rfl | rfl; exact ((all _ (by simp)).2 rfl).1; exact (st.2 he).1; exact ((all _ (by simp)).2 rfl).1
      · intro z hz; simp at hz; rcases hz with rfl | rfl | rfl; exact Tm.idx_mono (by omega) ((all _ (by simp)).2 rfl).2; exact (st.2 he).2; exact Tm.idx_mono (by omega) ((all _ (by simp)).2 rfl).2
  rw [if_neg h6]
  by_cases h9 : t.kind = 9
  · rw [if_pos h9]
    obtain ⟨a, -, -, hb, ho, hsz⟩ := arg_ty hs (.inr (.inr h9))
    have h1 : l.length = 3 := by rw [h9] at hlen; simp [arityI] at hlen; omega
    match l, h1, all with
    | [x, f, n], _, all =>
      rw [hb]
      have c := fine_call (M := M1 + 3) (by omega) [vT 2, vT 2, vT 0] (fine_up (f := 0) (b := 3) (by decide) (all f (by simp))) fun _ z hz => by simp at hz; rcases hz with rfl | rfl; exact ⟨shape_v (i := 2), idx_v (by decide) (by omega)⟩; exact ⟨shape_v (i := 0), idx_v (by decide) (by omega)⟩
      have st := fine_step ho (by omega) c
      have x1 := fine_up (f := 0) (b := 1) (by decide) (all x (by simp))
      have r := fine_node (e := (stepE a.maj.ty (callE 0 (f.upN 0 3) [vT 2, vT 2, vT 0]).1 (callE 0 (f.upN 0 3) [vT 2, vT 2, vT 0]).2).2) (k := 6) (s := a.maj.ty) (l := [x.upN 0 1, (stepE a.maj.ty (callE 0 (f.upN 0 3) [vT 2, vT 2, vT 0]).1 (callE 0 (f.upN 0 3) [vT 2, vT 2, vT 0]).2).1, vT 0]) (M := M1 + 3 + a.maj.size) (by omega) (fun he => shape_t rfl (.inr (.inl rfl)) (T.ok_ty ho) (by
          intro z hz; simp at hz; rcases hz with rfl | rfl | rfl; exact (x1.2 rfl).1; exact (st.2 he).1; exact shape_v (i := 0))) (fun he => by
          intro z hz; simp at hz; rcases hz with rfl | rfl | rfl; exact Tm.idx_mono (by omega) (x1.2 rfl).2; exact (st.2 he).2; exact idx_v (by decide) (by omega))
      have la := fine_lam (s := .nat) nat_ok0 (by omega) r
      exact (fine_call (by omega) [n] la fun he z hz => by simp at hz; rw [hz]; exact ⟨((all n (by simp)).2 rfl).1, Tm.idx_mono (by omega) ((all n (by simp)).2 rfl).2⟩).mono (by omega)
  rw [if_neg h9]
  by_cases h1 : t.kind = 1
  · rw [if_pos h1]
    have ha : t.args = [] := by rw [h1] at hlen; simp [arityI] at hlen; exact hlen
    have hc : t.count = 1 := by rw [Tm.count_eq, ha]; rfl
    rw [Tm.eta]
    exact ⟨by rw [hc]; decide, fun _ => ⟨hs, Tm.idx_mono (by omega) hi⟩⟩
  rw [if_neg h1]
  refine (fine_node (M := M1) (by omega) (fun he => shape_n (by rw [hl]; exact hlen) (by omega) fun z hz => ((all z hz).2 rfl).1) fun he z hz => ((all z hz).2 rfl).2).mono (by omega)
end Go.Proofs.YtcldnfbcbkaanaaGreatDoor.Lift

namespace Go.Proofs.YtcldnfbcbkaanaaGreatDoor.Lift
set_option linter.unusedSimpArgs false
set_option linter.unusedVariables false
set_option linter.unnecessarySimpa false
open Go
variable {gl : Globs}

theorem arityI_le (k : Int) : arityI k ≤ 3 := by
  unfold arityI
  repeat' split
  all_goals decide

set_option maxHeartbeats 4000000 in
theorem of_walk (b : Nat) (t : Tm) : ∀ {M : Int}, t.shape = true → t.idx M → 10 ≤ M → M + 100 * t.count ≤ 137438953472 →
    Con1 Tryz.prog gl 136 [ptr b, t.dv] [(b, mk1 0)] (majE t).1.dv [(b, mk1 (majE t).2)] := by
  induction t using Tm.ind with
  | h t ih =>
  intro M hs hi hM hMc
  obtain ⟨hlen, hi0, hv, hty, hsa⟩ := Tm.shape_node hs
  have hix := (Tm.idx_eq t _).1 hi
  have hct := Tm.count_eq t
  have hc1 : 1 ≤ t.count := Tm.count_pos t
  refine t_in Tryz.func136 ?_
  intro X hP hgl hf hfn hn hR hids hfit
  have hlen2 := Tm.fit_len (hfit t.dv (by simp))
  rw [majE_eq] at hR
  refine t_g0 ?_
  refine t_a ?_
  refine W_sub [(1005, 0)] (by simp [go_sem]) (by simp [go_sem, majE.majsE] <;> omega) (by simp [go_sem]) (W_listI (t.args) (fun done => (majE.majsE done).2 = 0) (fun done rest => [(.slot 18, .one (.v (dint done.length))), (.slot 17, .one (.v (dint t.args.length))), (.slot 16, .one (.v (.sl (t.args.map Tm.cells)))), (.slot 0, .one (.v (ptr b))), (.slot 3, .one (.loc 3 0)), (.loc 3, .row ([.v (dint t.kind), .v (dint t.index), .v (dint t.type.kind), .v (.sl (t.type.args.map Ty.cells)), .v (.sl (t.args.map Tm.cells))])), (.slot 4, .one (.loc 4 0)), (.loc 4, .row ([.v (dint 0), .v (dint 0), .v (dint 0), .own 0 [], .own 0 []])), (.slot 5, .one (.own 1005 ((majE.majsE done).1.map Tm.cells))), (.tok 1005, .tk 5 (majE.majsE done).1.length), (.heap  b, .row ([.v (dint 0)]))]) (rfl) ?_ ?_)
  · intro done x rest hL hg0 hI hnext
    have hlt : done.length < t.args.length := by rw [hL]; simp
    have hxm := List.mem_of_getElem? hg0
    have hcx := Tm.count_mem hxm
    have w := ih x hxm (hsa x hxm) (hix.2 x hxm) hM (by omega)
    have hdl := (majs_all done hI).1
    have hfx := Tm.fold x
    refine t_rg0 ?_
    refine t_yes ?_
    refine t_g @hg0 ?_
    refine t_c1 (j2 @hg0 @hfx) w ?_
    by_cases he : (majE x).2 = 0
    · have hsn := majs_snoc done x hI he
      refine t_gt (wr [(1005, 34)]) (j2 @hsn (j2 @hdl (Tm.cells_eq (majE x).1))) (j2 @he @hdl) (hnext (by rw [hsn]))
    · have hst := majs_stop done x rest hI he
      rw [← hL] at hst
      rw [hst, if_neg he] at hR
      refine t_g @he ?_
      repeat (first | refine W_seq ?_ | refine W_skip ?_ | refine W_block ?_ | refine W_inBlock ?_ | refine W_label ?_ | refine W_exit rfl ?_)
      first | refine W_retR hP hf hfn _ ([(b, mk1 (majE x).2)]) (by first | (simp [go_sem, hP, hgl, hn, zeroTm]; done) | (simp [go_sem, hP, hgl, hn, zeroTm]; rfl)) (by simp [go_sem, hP, hgl, hn, zeroTm]) (by simp) ?_ hR.2 | refine W_endR hP hf hfn _ ([(b, mk1 (majE x).2)]) (by first | (simp [go_sem, hP, hgl, hn, zeroTm]; done) | (simp [go_sem, hP, hgl, hn, zeroTm]; rfl)) (by simp [go_sem, hP, hgl, hn, zeroTm]) (by simp) ?_ hR.2
      rw [hR.1]
      refine ⟨?_, by simp [zeroTm]⟩
      try simp [zeroTm]
      try all_goals (simp [Ty.dv, Ty.cells_eq, Ty.kind_mk, Ty.args_mk, Tm.dv, Tm.cells_eq, Tm.kind_mk, Tm.index_mk, Tm.type_mk, Tm.args_mk, Val.dv, Val.cells_eq, Val.kind_mk, Val.num_mk, Val.list_mk, Val.args_mk, ints])
  · intro h0
    obtain ⟨hl, hx⟩ := majs_all t.args h0
    rw [if_pos h0] at hR
    have all : ∀ z ∈ (majE.majsE t.args).1, Fine 0 (M + 100 * ((t.count : Int) - 1)) z := by
      intro z hz
      obtain ⟨i, hi⟩ := List.getElem?_of_mem hz
      have hil := (List.getElem?_eq_some_iff.1 hi).1
      have hxi : t.args[i]? = some t.args[i] := List.getElem?_eq_getElem (by omega)
      obtain ⟨x1, x2⟩ := hx i _ hxi
      have hm := List.getElem_mem (l := t.args) (n := i) (by omega)
      have hc := Tm.count_mem hm
      have := fine_maj _ (hsa _ hm) (hix.2 _ hm) hM
      rw [hi] at x2; cases x2
      exact (this.later fun _ => x1).mono (by omega)
    clear hx
    obtain ⟨l, hle⟩ : ∃ l, l = (majE.majsE t.args).1 := ⟨_, rfl⟩
    rw [← hle] at hR hl all ⊢
    generalize hM1 : M + 100 * ((t.count : Int) - 1) = M1 at all
    have hM2 : 10 ≤ M1 := by omega
    have hM3 : M1 + 200 ≤ 274877906944 := by omega
    have hlb : l.length ≤ 3 := by
      have := arityI_le t.kind
      omega
    refine t_rg0 ?_
    refine t_no ?_
    unfold majNodeE at hR
    by_cases h7 : t.kind = 7
    · rw [if_pos h7] at hR
      refine t_g @h7 ?_
      repeat (first | refine W_seq ?_ | refine W_skip ?_ | refine W_block ?_ | refine W_inBlock ?_ | refine W_label ?_ | refine W_exit rfl ?_)
      first | refine W_retR hP hf hfn _ ([(b, mk1 0)]) (by first | (simp [go_sem, hP, hgl, hn, nT]; done) | (simp [go_sem, hP, hgl, hn, nT]; rfl)) (by simp [go_sem, hP, hgl, hn, nT]) (by simp) ?_ hR.2 | refine W_endR hP hf hfn _ ([(b, mk1 0)]) (by first | (simp [go_sem, hP, hgl, hn, nT]; done) | (simp [go_sem, hP, hgl, hn, nT]; rfl)) (by simp [go_sem, hP, hgl, hn, nT]) (by simp) ?_ hR.2
      rw [hR.1]
      refine ⟨?_, by simp [nT]⟩
      try simp [nT]
      try all_goals (simp [Ty.dv, Ty.cells_eq, Ty.kind_mk, Ty.args_mk, Tm.dv, Tm.cells_eq, Tm.kind_mk, Tm.index_mk, Tm.type_mk, Tm.args_mk, Val.dv, Val.cells_eq, Val.kind_mk, Val.num_mk, Val.list_mk, Val.args_mk, ints])
    rw [if_neg h7] at hR
    by_cases h8 : t.kind = 8
    · rw [if_pos h8] at hR
      have h2 : l.length = 2 := by rw [h8] at hlen; simp [arityI] at hlen; omega
      match l, h2, all, hR with
      | [y, z], _, all, hR =>
        have fy := all y (by simp)
        have fz := all z (by simp)
        have cz := fz.1
        have w1 := plain_walk (gl := gl) b 0 5 [z] (by show 1 + (z.count + 0) ≤ 1073741824; omega)
        have f1 := fine_n1 (k := 5) (by omega) (.inl rfl) fz
        have hR : X.R = (fun r ψ => r = (maxE natY y (nodeE 0 5 zY [z]).1 (nodeE 0 5 zY [z]).2).1.dv ∧ ψ = [(b, mk1 (maxE natY y (nodeE 0 5 zY [z]).1 (nodeE 0 5 zY [z]).2).2)]) ∧ X.md = .fn := hR
        generalize nodeE 0 5 zY [z] = r1 at *
        obtain ⟨z1, e1⟩ := r1
        simp only at hR w1 f1
        have w2 := max_walk (gl := gl) b .nat y z1 e1 M1 nat_ok0 hM2 (by simp only [T.size]; omega) (fy.later fun h => rfl) f1
        have hnt : (T.ty .nat) = natY := rfl
        rw [hnt] at w2
        refine t_g @h8 ?_
        refine t_c3 @h8 sc_nat_ok w1 w2 ?_
        repeat (first | refine W_seq ?_ | refine W_skip ?_ | refine W_block ?_ | refine W_inBlock ?_ | refine W_label ?_ | refine W_exit rfl ?_)
        first | refine W_retR hP hf hfn _ ([(b, mk1 (maxE natY y z1 e1).2)]) (by first | (simp [go_sem, hP, hgl, hn]; done) | (simp [go_sem, hP, hgl, hn]; rfl)) (by simp [go_sem, hP, hgl, hn]) (by simp) ?_ hR.2 | refine W_endR hP hf hfn _ ([(b, mk1 (maxE natY y z1 e1).2)]) (by first | (simp [go_sem, hP, hgl, hn]; done) | (simp [go_sem, hP, hgl, hn]; rfl)) (by simp [go_sem, hP, hgl, hn]) (by simp) ?_ hR.2
        rw [hR.1]
        refine ⟨?_, by simp⟩
        try simp
        try all_goals (simp [Ty.dv, Ty.cells_eq, Ty.kind_mk, Ty.args_mk, Tm.dv, Tm.cells_eq, Tm.kind_mk, Tm.index_mk, Tm.type_mk, Tm.args_mk, Val.dv, Val.cells_eq, Val.kind_mk, Val.num_mk, Val.list_mk, Val.args_mk, ints])
    rw [if_neg h8] at hR
    by_cases h2 : t.kind = 2
    · rw [if_pos h2] at hR
      have h1 : l.length = 1 := by rw [h2] at hlen; simp [arityI] at hlen; omega
      match l, h1, all, hR with
      | [y], _, all, hR =>
        have cy := (all y (by simp)).1
        refine t_g @h2 ?_
        refine t_c2 @h2 (bare_walk t.type) (node_walk b 0 2 (bareN t.type) [y] (by show 1 + (y.count + 0) ≤ 1073741824; omega)) ?_
        repeat (first | refine W_seq ?_ | refine W_skip ?_ | refine W_block ?_ | refine W_inBlock ?_ | refine W_label ?_ | refine W_exit rfl ?_)
        first | refine W_retR hP hf hfn _ ([(b, mk1 (nodeE 0 2 (bareN t.type) [y]).2)]) (by first | (simp [go_sem, hP, hgl, hn]; done) | (simp [go_sem, hP, hgl, hn]; rfl)) (by simp [go_sem, hP, hgl, hn]) (by simp) ?_ hR.2 | refine W_endR hP hf hfn _ ([(b, mk1 (nodeE 0 2 (bareN t.type) [y]).2)]) (by first | (simp [go_sem, hP, hgl, hn]; done) | (simp [go_sem, hP, hgl, hn]; rfl)) (by simp [go_sem, hP, hgl, hn]) (by simp) ?_ hR.2
        rw [hR.1]
        refine ⟨?_, by simp⟩
        try simp
        try all_goals (simp [Ty.dv, Ty.cells_eq, Ty.kind_mk, Ty.args_mk, Tm.dv, Tm.cells_eq, Tm.kind_mk, Tm.index_mk, Tm.type_mk, Tm.args_mk, Val.dv, Val.cells_eq, Val.kind_mk, Val.num_mk, Val.list_mk, Val.args_mk, ints])
    rw [if_neg h2] at hR
    by_cases h6 : t.kind = 6
    · rw [if_pos h6] at hR
      obtain ⟨a, -, -, hb, ho, hsz⟩ := arg_ty hs (.inr (.inl h6))
      have h1 : l.length = 3 := by rw [h6] at hlen; simp [arityI] at hlen; omega
      match l, h1, all, hR with
      | [x, f, n], _, all, hR =>
        have fx := all x (by simp)
        have ff := all f (by simp)
        have fn' := all n (by simp)
        have cx := fx.1
        have cf := ff.1
        have cn := fn'.1
        have l1 := sc_lift_ok (gl := gl) f 0 2 (ff.2 rfl).1 (Tm.idx_mono (by omega) (ff.2 rfl).2) (by decide) (by decide) (by decide) (by omega)
        have u1 := up_count f 0 2
        have v1 : (vT 1).count ≤ 268435456 := by decide
        have v0 : (vT 0).count ≤ 268435456 := by decide
        have w1 := call_walk (gl := gl) b 0 (f.upN 0 2) [vT 1, vT 0] (by omega) (by intro z hz; simp at hz; rcases hz with rfl | rfl; exact v1; exact v0)
        have c := fine_call (M := M1 + 2) (by omega) [vT 1, vT 0] (fine_up (f := 0) (b := 2) (by decide) ff) fun _ z hz => by simp at hz; rcases hz with rfl | rfl; exact ⟨shape_v (i := 1), idx_v (by decide) (by omega)⟩; exact ⟨shape_v (i := 0), idx_v (by decide) (by omega)⟩
        have hR : X.R = (fun r ψ => r = (nodeE (stepE (bareN t.type) (callE 0 (f.upN 0 2) [vT 1, vT 0]).1 (callE 0 (f.upN 0 2) [vT 1, vT 0]).2).2 6 (bareN t.type) [x, (stepE (bareN t.type) (callE 0 (f.upN 0 2) [vT 1, vT 0]).1 (callE 0 (f.upN 0 2) [vT 1, vT 0]).2).1, n]).1.dv ∧ ψ = [(b, mk1 (nodeE (stepE (bareN t.type) (callE 0 (f.upN 0 2) [vT 1, vT 0]).1 (callE 0 (f.upN 0 2) [vT 1, vT 0]).2).2 6 (bareN t.type) [x, (stepE (bareN t.type) (callE 0 (f.upN 0 2) [vT 1, vT 0]).1 (callE 0 (f.upN 0 2) [vT 1, vT 0]).2).1, n]).2)]) ∧ X.md = .fn := hR
        generalize callE 0 (f.upN 0 2) [vT 1, vT 0] = r1 at *
        obtain ⟨g1, e1⟩ := r1
        simp only at hR w1 c
        have wb := bare_walk (gl := gl) t.type
        rw [hb] at wb hR
        have w2 := step_walk (gl := gl) b a.maj g1 e1 (M1 + 2) ho (by omega) (by omega) c
        have c2 : (stepE a.maj.ty g1 e1).1.count ≤ 4096 := node_count _ _ _ _
        generalize stepE a.maj.ty g1 e1 = r2 at *
        obtain ⟨g2, e2⟩ := r2
        simp only at hR w2 c2
        have w3 := node_walk (gl := gl) b e2 6 a.maj.ty [x, g2, n] (by show 1 + (x.count + (g2.count + (n.count + 0))) ≤ 1073741824; omega)
        refine t_g @h6 ?_
        refine t_c1 @h6 wb ?_
        refine t_c1 @h6 l1 ?_
        refine t_c5 @h6 (sc_var_ok 1) (sc_var_ok 0) w1 w2 w3 ?_
        repeat (first | refine W_seq ?_ | refine W_skip ?_ | refine W_block ?_ | refine W_inBlock ?_ | refine W_label ?_ | refine W_exit rfl ?_)
        first | refine W_retR hP hf hfn _ ([(b, mk1 (nodeE e2 6 a.maj.ty [x, g2, n]).2)]) (by first | (simp [go_sem, hP, hgl, hn]; done) | (simp [go_sem, hP, hgl, hn]; rfl)) (by simp [go_sem, hP, hgl, hn]) (by simp) ?_ hR.2 | refine W_endR hP hf hfn _ ([(b, mk1 (nodeE e2 6 a.maj.ty [x, g2, n]).2)]) (by first | (simp [go_sem, hP, hgl, hn]; done) | (simp [go_sem, hP, hgl, hn]; rfl)) (by simp [go_sem, hP, hgl, hn]) (by simp) ?_ hR.2
        rw [hR.1]
        refine ⟨?_, by simp⟩
        try simp
        try all_goals (simp [Ty.dv, Ty.cells_eq, Ty.kind_mk, Ty.args_mk, Tm.dv, Tm.cells_eq, Tm.kind_mk, Tm.index_mk, Tm.type_mk, Tm.args_mk, Val.dv, Val.cells_eq, Val.kind_mk, Val.num_mk, Val.list_mk, Val.args_mk, ints])
    rw [if_neg h6] at hR
    by_cases h9 : t.kind = 9
    · rw [if_pos h9] at hR
      obtain ⟨a, -, -, hb, ho, hsz⟩ := arg_ty hs (.inr (.inr h9))
      have h1 : l.length = 3 := by rw [h9] at hlen; simp [arityI] at hlen; omega
      match l, h1, all, hR with
      | [x, f, n], _, all, hR =>
        have fx := all x (by simp)
        have ff := all f (by simp)
        have fn' := all n (by simp)
        have cx := fx.1
        have cf := ff.1
        have cn := fn'.1
        have l1 := sc_lift_ok (gl := gl) f 0 3 (ff.2 rfl).1 (Tm.idx_mono (by omega) (ff.2 rfl).2) (by decide) (by decide) (by decide) (by omega)
        have l2 := sc_lift_ok (gl := gl) x 0 1 (fx.2 rfl).1 (Tm.idx_mono (by omega) (fx.2 rfl).2) (by decide) (by decide) (by decide) (by omega)
        have u1 := up_count f 0 3
        have u2 := up_count x 0 1
        have v2 : (vT 2).count ≤ 268435456 := by decide
        have v0 : (vT 0).count ≤ 268435456 := by decide
        have v00 : (vT 0).count = 1 := by decide
        have w1 := call_walk (gl := gl) b 0 (f.upN 0 3) [vT 2, vT 2, vT 0] (by omega) (by intro z hz; simp at hz; rcases hz with rfl | rfl; exact v2; exact v0)
        have c := fine_call (M := M1 + 3) (by omega) [vT 2, vT 2, vT 0] (fine_up (f := 0) (b := 3) (by decide) ff) fun _ z hz => by simp at hz; rcases hz with rfl | rfl; exact ⟨shape_v (i := 2), idx_v (by decide) (by omega)⟩; exact ⟨shape_v (i := 0), idx_v (by decide) (by omega)⟩
        have hR : ∃ c1 : Tm × Int, c1 = callE 0 (f.upN 0 3) [vT 2, vT 2, vT 0] ∧ ∃ st, st = stepE (bareN t.type) c1.1 c1.2 ∧ ∃ r, r = nodeE st.2 6 (bareN t.type) [x.upN 0 1, st.1, vT 0] ∧ ∃ la, la = nodeE r.2 2 natY [r.1] ∧ X.R = (fun q ψ => q = (callE la.2 la.1 [n]).1.dv ∧ ψ = [(b, mk1 (callE la.2 la.1 [n]).2)]) ∧ X.md = .fn := ⟨_, rfl, _, rfl, _, rfl, _, rfl, hR⟩
        obtain ⟨r1, q1, r2, q2, r3, q3, r4, q4, hR⟩ := hR
        rw [← q1] at w1 c
        obtain ⟨g1, e1⟩ := r1
        simp only at q2 w1 c
        have wb := bare_walk (gl := gl) t.type
        rw [hb] at wb q2 q3
        have w2 := step_walk (gl := gl) b a.maj g1 e1 (M1 + 3) ho (by omega) (by omega) c
        have c2 : (stepE a.maj.ty g1 e1).1.count ≤ 4096 := node_count _ _ _ _
        rw [← q2] at w2 c2
        obtain ⟨g2, e2⟩ := r2
        simp only at q3 w2 c2
        have w3 := node_walk (gl := gl) b e2 6 a.maj.ty [x.upN 0 1, g2, vT 0] (by show 1 + ((x.upN 0 1).count + (g2.count + ((vT 0).count + 0))) ≤ 1073741824; omega)
        have c3 := node_count e2 6 a.maj.ty [x.upN 0 1, g2, vT 0]
        rw [← q3] at w3 c3
        obtain ⟨g3, e3⟩ := r3
        simp only at q4 w3 c3
        have w4 := node_walk (gl := gl) b e3 2 natY [g3] (by show 1 + (g3.count + 0) ≤ 1073741824; omega)
        have c4 := node_count e3 2 natY [g3]
        rw [← q4] at w4 c4
        obtain ⟨g4, e4⟩ := r4
        simp only at hR w4 c4
        have w5 := call_walk (gl := gl) b e4 g4 [n] (by omega) (by intro z hz; simp at hz; rw [hz]; exact cn)
        refine t_g @h9 ?_
        refine t_c1 @h9 wb ?_
        refine t_c2 @h9 l1 (sc_var_ok 2) ?_
        refine t_c6 @h9 l2 (sc_var_ok 0) w1 w2 (sc_var_ok 0) w3 ?_
        refine t_c3 @h9 sc_nat_ok w4 w5 ?_
        repeat (first | refine W_seq ?_ | refine W_skip ?_ | refine W_block ?_ | refine W_inBlock ?_ | refine W_label ?_ | refine W_exit rfl ?_)
        first | refine W_retR hP hf hfn _ ([(b, mk1 (callE e4 g4 [n]).2)]) (by first | (simp [go_sem, hP, hgl, hn]; done) | (simp [go_sem, hP, hgl, hn]; rfl)) (by simp [go_sem, hP, hgl, hn]) (by simp) ?_ hR.2 | refine W_endR hP hf hfn _ ([(b, mk1 (callE e4 g4 [n]).2)]) (by first | (simp [go_sem, hP, hgl, hn]; done) | (simp [go_sem, hP, hgl, hn]; rfl)) (by simp [go_sem, hP, hgl, hn]) (by simp) ?_ hR.2
        rw [hR.1]
        refine ⟨?_, by simp⟩
        try simp
        try all_goals (simp [Ty.dv, Ty.cells_eq, Ty.kind_mk, Ty.args_mk, Tm.dv, Tm.cells_eq, Tm.kind_mk, Tm.index_mk, Tm.type_mk, Tm.args_mk, Val.dv, Val.cells_eq, Val.kind_mk, Val.num_mk, Val.list_mk, Val.args_mk, ints])
    rw [if_neg h9] at hR
    by_cases h1 : t.kind = 1
    · rw [if_pos h1] at hR
      have he : Tm.mk t.kind t.index t.type t.args = t := Tm.eta t
      rw [he] at hR
      have hfd := Tm.fold t
      rw [h1] at hfd
      refine t_g @h1 ?_
      repeat (first | refine W_seq ?_ | refine W_skip ?_ | refine W_block ?_ | refine W_inBlock ?_ | refine W_label ?_ | refine W_exit rfl ?_)
      first | refine W_retR hP hf hfn _ ([(b, mk1 0)]) (by first | (simp [go_sem, hP, hgl, hn, h1, hfd]; done) | (simp [go_sem, hP, hgl, hn, h1, hfd]; rfl)) (by simp [go_sem, hP, hgl, hn, h1, hfd]) (by simp) ?_ hR.2 | refine W_endR hP hf hfn _ ([(b, mk1 0)]) (by first | (simp [go_sem, hP, hgl, hn, h1, hfd]; done) | (simp [go_sem, hP, hgl, hn, h1, hfd]; rfl)) (by simp [go_sem, hP, hgl, hn, h1, hfd]) (by simp) ?_ hR.2
      rw [hR.1]
      refine ⟨?_, by simp [h1, hfd]⟩
      try simp [h1, hfd]
      try all_goals (simp [Ty.dv, Ty.cells_eq, Ty.kind_mk, Ty.args_mk, Tm.dv, Tm.cells_eq, Tm.kind_mk, Tm.index_mk, Tm.type_mk, Tm.args_mk, Val.dv, Val.cells_eq, Val.kind_mk, Val.num_mk, Val.list_mk, Val.args_mk, ints])
    rw [if_neg h1] at hR
    have hcl : (Tm.mk t.kind 0 zY l).count ≤ 1073741824 := by
      rw [Tm.count_eq, Tm.args_mk]
      match l, hlb, all with
      | [], _, _ => decide
      | [x], _, all => have := (all x (by simp)).1; show 1 + (x.count + 0) ≤ _; omega
      | [x, y], _, all => have := (all x (by simp)).1; have := (all y (by simp)).1; show 1 + (x.count + (y.count + 0)) ≤ _; omega
      | [x, y, z], _, all => have := (all x (by simp)).1; have := (all y (by simp)).1; have := (all z (by simp)).1; show 1 + (x.count + (y.count + (z.count + 0))) ≤ _; omega
    refine t_g (j2 @h1 (j2 @h2 (j2 @h6 (j2 @h7 (j2 @h8 @h9))))) ?_
    refine t_c1 trivial (plain_walk b 0 t.kind l hcl) ?_
    repeat (first | refine W_seq ?_ | refine W_skip ?_ | refine W_block ?_ | refine W_inBlock ?_ | refine W_label ?_ | refine W_exit rfl ?_)
    first | refine W_retR hP hf hfn _ ([(b, mk1 (nodeE 0 t.kind zY l).2)]) (by first | (simp [go_sem, hP, hgl, hn]; done) | (simp [go_sem, hP, hgl, hn]; rfl)) (by simp [go_sem, hP, hgl, hn]) (by simp) ?_ hR.2 | refine W_endR hP hf hfn _ ([(b, mk1 (nodeE 0 t.kind zY l).2)]) (by first | (simp [go_sem, hP, hgl, hn]; done) | (simp [go_sem, hP, hgl, hn]; rfl)) (by simp [go_sem, hP, hgl, hn]) (by simp) ?_ hR.2
    rw [hR.1]
    refine ⟨?_, by simp⟩
    try simp
    try all_goals (simp [Ty.dv, Ty.cells_eq, Ty.kind_mk, Ty.args_mk, Tm.dv, Tm.cells_eq, Tm.kind_mk, Tm.index_mk, Tm.type_mk, Tm.args_mk, Val.dv, Val.cells_eq, Val.kind_mk, Val.num_mk, Val.list_mk, Val.args_mk, ints])
end Go.Proofs.YtcldnfbcbkaanaaGreatDoor.Lift

namespace Go.Proofs.YtcldnfbcbkaanaaGreatDoor.Lift
set_option linter.unusedSimpArgs false
set_option linter.unusedVariables false
set_option linter.unnecessarySimpa false
open Go
variable {gl : Globs}

theorem anyLoc_mapv (d : Nat) (l : List DV) : anyLoc d (l.map SV.v) = false := by
  induction l with
  | nil => rfl
  | cons x r ih => simp [anyLoc, hasLoc, ih]
theorem anyTok_mapv (d : Nat) (l : List DV) : anyTok d (l.map SV.v) = false := by
  induction l with
  | nil => rfl
  | cons x r ih => simp [anyTok, hasTok, ih]
theorem exRow_mapv (k b : Nat) (l : List DV) : exRow k b (l.map SV.v) = l.map SV.v := by
  induction l with
  | nil => rfl
  | cons x r ih => simp only [List.map_cons, exRow, ih]; rfl
attribute [go_sem] anyLoc_mapv anyTok_mapv exRow_mapv

theorem mterm1_ok (b bt : Nat) (hb : b ≠ bt) (t : Tm) (hs : t.shape = true) (hc : t.count ≤ 4096) (hl : t.leastN 268435456 = true) :
    Con1 Tryz.prog gl 135 [ptr b, ptr bt] [(b, mk1 0), (bt, t.cells)] (majE t).1.dv [(b, mk1 (majE t).2), (bt, t.cells)] := by
  have w := of_walk (gl := gl) b t (M := 268435456) hs (Tm.idx_of t _ hs hl) (by decide) (by omega)
  have hf' := Tm.fold t
  refine t_in Tryz.func135 ?_
  intro X hP hgl hf hfn hn hR hids hfit
  have hb' : bt ≠ b := fun h => hb h.symm
  refine t_g (j2 @hb (j2 @hb' (Tm.cells_eq t))) ?_
  refine t_c1 (j2 @hb (j2 @hb' @hf')) w ?_
  repeat (first | refine W_seq ?_ | refine W_skip ?_ | refine W_block ?_ | refine W_inBlock ?_ | refine W_label ?_ | refine W_exit rfl ?_)
  first | refine W_retR hP hf hfn _ ([(b, mk1 (majE t).2), (bt, t.cells)]) (by first | (simp [go_sem, hP, hgl, hn, hb, hb', Tm.cells_eq t]; done) | (simp [go_sem, hP, hgl, hn, hb, hb', Tm.cells_eq t]; rfl)) (by simp [go_sem, hP, hgl, hn, hb, hb', Tm.cells_eq t]) (by simp [hb, hb', Tm.cells_eq t]) ?_ hR.2 | refine W_endR hP hf hfn _ ([(b, mk1 (majE t).2), (bt, t.cells)]) (by first | (simp [go_sem, hP, hgl, hn, hb, hb', Tm.cells_eq t]; done) | (simp [go_sem, hP, hgl, hn, hb, hb', Tm.cells_eq t]; rfl)) (by simp [go_sem, hP, hgl, hn, hb, hb', Tm.cells_eq t]) (by simp [hb, hb', Tm.cells_eq t]) ?_ hR.2
  rw [hR.1]
  refine ⟨?_, by simp [hb, hb', Tm.cells_eq t]⟩
  try simp [hb, hb', Tm.cells_eq t]
  try all_goals (simp [Ty.dv, Ty.cells_eq, Ty.kind_mk, Ty.args_mk, Tm.dv, Tm.cells_eq, Tm.kind_mk, Tm.index_mk, Tm.type_mk, Tm.args_mk, Val.dv, Val.cells_eq, Val.kind_mk, Val.num_mk, Val.list_mk, Val.args_mk, ints])

def runT (r : Tm × Int) : Tm × Int := if r.2 = 0 then r else (zeroTm, r.2)

theorem mrun_ok (bt : Nat) (f : FuncId) (cs : List DV) (r : Tm × Int) (hc : ∀ b, b ≠ bt → Con1 Tryz.prog gl f [ptr b, ptr bt] [(b, mk1 0), (bt, cs)] r.1.dv [(b, mk1 r.2), (bt, cs)]) :
    Con1 Tryz.prog gl 134 [.prim (.func (.func f) #[] #[.pointer (some ⟨bt, 0, none⟩)])] [(bt, cs)] (.tup [(runT r).1.dv, dint (runT r).2]) [(bt, cs)] := by
  refine t_in Tryz.func134 ?_
  intro X hP hgl hf hfn hn hR hids hfit
  refine t_rg0 ?_
  refine t_rg0 ?_
  refine W_expose 7 (by simp [go_sem]; rfl) ?_
  intro b hb
  simp [go_sem] at hb ⊢
  have hbt : b ≠ bt := fun h => hb h.symm
  refine t_a ?_
  first | refine W_reg [] fun K hK => ?_ | refine W_regd (by rw [hP]; exact mixed) [] fun K hK => ?_
  refine t_s0 ?_
  repeat (refine ⟨by omega, ?_⟩)
  refine vcK_callV hP hgl (f := f) (fi := #[]) (ca := #[.pointer (some ⟨bt, 0, none⟩)]) (by simp [go_sem]) (by simp [primOK]) (ds := [ptr b]) (hc b hbt) (by simp [go_sem]) rfl (by simp [go_sem, hb, hbt]) (by simp [hbt]) (by rw [hn]; exact Nat.le_of_ble_eq_true rfl) ?_
  simp [go_sem, hP, hgl, hn, hb, hbt]
  refine t_e ?_
  clear hK K
  by_cases h : r.2 = 0
  · refine t_g (j2 @h (j2 @hb @hbt)) ?_
    repeat (first | refine W_seq ?_ | refine W_skip ?_ | refine W_block ?_ | refine W_inBlock ?_ | refine W_label ?_ | refine W_exit rfl ?_)
    first | refine W_retR hP hf hfn _ ([(bt, cs)]) (by first | (simp [go_sem, hP, hgl, hn, h, runT, hb, hbt]; done) | (simp [go_sem, hP, hgl, hn, h, runT, hb, hbt]; rfl)) (by simp [go_sem, hP, hgl, hn, h, runT, hb, hbt]) (by simp [h, runT, hb, hbt]) ?_ hR.2 | refine W_endR hP hf hfn _ ([(bt, cs)]) (by first | (simp [go_sem, hP, hgl, hn, h, runT, hb, hbt]; done) | (simp [go_sem, hP, hgl, hn, h, runT, hb, hbt]; rfl)) (by simp [go_sem, hP, hgl, hn, h, runT, hb, hbt]) (by simp [h, runT, hb, hbt]) ?_ hR.2
    rw [hR.1]
    refine ⟨?_, by simp [h, runT, hb, hbt]⟩
    try simp [h, runT, hb, hbt]
    try all_goals (simp [Ty.dv, Ty.cells_eq, Ty.kind_mk, Ty.args_mk, Tm.dv, Tm.cells_eq, Tm.kind_mk, Tm.index_mk, Tm.type_mk, Tm.args_mk, Val.dv, Val.cells_eq, Val.kind_mk, Val.num_mk, Val.list_mk, Val.args_mk, ints])
  · refine t_g (j2 @h (j2 @hb @hbt)) ?_
    repeat (first | refine W_seq ?_ | refine W_skip ?_ | refine W_block ?_ | refine W_inBlock ?_ | refine W_label ?_ | refine W_exit rfl ?_)
    first | refine W_retR hP hf hfn _ ([(bt, cs)]) (by first | (simp [go_sem, hP, hgl, hn, h, runT, hb, hbt, zeroTm]; done) | (simp [go_sem, hP, hgl, hn, h, runT, hb, hbt, zeroTm]; rfl)) (by simp [go_sem, hP, hgl, hn, h, runT, hb, hbt, zeroTm]) (by simp [h, runT, hb, hbt, zeroTm]) ?_ hR.2 | refine W_endR hP hf hfn _ ([(bt, cs)]) (by first | (simp [go_sem, hP, hgl, hn, h, runT, hb, hbt, zeroTm]; done) | (simp [go_sem, hP, hgl, hn, h, runT, hb, hbt, zeroTm]; rfl)) (by simp [go_sem, hP, hgl, hn, h, runT, hb, hbt, zeroTm]) (by simp [h, runT, hb, hbt, zeroTm]) ?_ hR.2
    rw [hR.1]
    refine ⟨?_, by simp [h, runT, hb, hbt, zeroTm]⟩
    try simp [h, runT, hb, hbt, zeroTm]
    try all_goals (simp [Ty.dv, Ty.cells_eq, Ty.kind_mk, Ty.args_mk, Tm.dv, Tm.cells_eq, Tm.kind_mk, Tm.index_mk, Tm.type_mk, Tm.args_mk, Val.dv, Val.cells_eq, Val.kind_mk, Val.num_mk, Val.list_mk, Val.args_mk, ints])

/-- the majorant of a term, with its error -/
def Tm.mTermE (t : Tm) : Tm × Int := if t.checkN = 0 then if t.leastN 268435456 = true then runT (majE t) else (zeroTm, 1) else (zeroTm, t.checkN)

theorem mterm_ok (har : globOf gl 0 = some arEls) (t : Tm) (ht : t.tys) (hc : t.count ≤ 1073741824) :
    Con1 Tryz.prog gl 59 [t.dv] [] (.tup [t.mTermE.1.dv, dint t.mTermE.2]) [] := by
  refine t_in Tryz.func59 ?_
  intro X hP hgl hf hfn hn hR hids hfit
  have hfo := Tm.fold t
  refine t_g0 ?_
  refine t_c1 @hfo (termscheck_ok har t ht (by omega)) ?_
  by_cases h : t.checkN = 0
  · have hsh := (Tm.checkN_iff t).1 h
    refine t_g @h ?_
    refine t_c1 @hfo (sc_far_ok t) ?_
    by_cases h2 : t.leastN 268435456 = true
    · refine t_g @h2 ?_
      refine W_expose 1 (by simp [go_sem]; rfl) ?_
      intro bt hb
      simp [go_sem] at hb ⊢
      have w := mrun_ok (gl := gl) bt 135 t.cells (majE t) fun b hb => mterm1_ok b bt hb t hsh.1 hsh.2 h2
      refine t_c1 (Tm.cells_eq t) w ?_
      refine t_r ?_
      simp [go_sem, hP, hgl, hn, Tm.mTermE, h, h2] <;> (try omega)
      all_goals exact t_f
    · have h2' : t.leastN 268435456 = false := by simpa using h2
      refine t_g @h2' ?_
      refine t_r ?_
      simp [go_sem, hP, hgl, hn, Tm.mTermE, h, h2', zeroTm] <;> (try omega)
      all_goals exact t_f
  · refine t_g @h ?_
    refine t_r ?_
    simp [go_sem, hP, hgl, hn, Tm.mTermE, h, zeroTm] <;> (try omega)
    all_goals exact t_f

end Go.Proofs.YtcldnfbcbkaanaaGreatDoor.Lift

namespace Go.Proofs.YtcldnfbcbkaanaaGreatDoor.Lift
set_option linter.unusedSimpArgs false
set_option linter.unusedVariables false
set_option linter.unnecessarySimpa false
open Go
variable {gl : Globs}

def mostOf (n : Int) : List Int → Int
  | [] => n
  | x :: r => mostOf (max n x) r
theorem mostOf_append (n : Int) (l r : List Int) : mostOf n (l ++ r) = mostOf (mostOf n l) r := by
  induction l generalizing n with
  | nil => rfl
  | cons x l ih => exact ih _

/-- the least majorant of a value -/
def Val.boundN : Val → Val
  | .mk k n l a => if k = 2 then .mk 1 (mostOf l.length l) [] [] else if k = 3 then .mk 3 0 [] (bounds a) else .mk k n l a
where
  bounds : List Val → List Val
    | [] => []
    | x :: r => x.boundN :: bounds r
theorem Val.boundN_eq (v : Val) : v.boundN = if v.kind = 2 then .mk 1 (mostOf v.list.length v.list) [] [] else if v.kind = 3 then .mk 3 0 [] (boundN.bounds v.args) else v := by cases v; rw [boundN]; rfl

theorem bound_ok (v : Val) (ht : v.two) : Con1 Tryz.prog gl 79 [v.dv] [] v.boundN.dv [] := by
  induction v using Val.ind with
  | h v ih =>
  obtain ⟨ht1, ht2⟩ := (Val.two_eq v).1 ht
  refine t_in Tryz.func79 ?_
  intro X hP hgl hf hfn hn hR hids hfit
  have hl2 := Val.fit_list (hfit v.dv (by simp))
  have hli := ((Val.fit_eq v).1 ((Val.dv_fit v).1 (hfit v.dv (by simp)))).2.2.1.2
  rw [Val.boundN_eq] at hR
  by_cases h2 : v.kind = 2
  · rw [if_pos h2] at hR
    refine t_g @h2 ?_
    refine t_a ?_
    refine W_sub [] (by simp [go_sem]) (by simp [go_sem, mostOf] <;> omega) (by simp [go_sem]) (W_listI (v.list) (fun done => True) (fun done rest => [(.slot 16, .one (.v (dint done.length))), (.slot 15, .one (.v (dint v.list.length))), (.slot 14, .one (.v (.sl (ints v.list)))), (.slot 3, .one (.v (dint (mostOf v.list.length done)))), (.slot 2, .one (.loc 2 0)), (.loc 2, .row ([.v (dint 0), .v (dint 0), .own 0 [], .own 0 []]))]) (trivial) ?_ ?_)
    · intro done x rest hL hg0 hI hnext
      have hlt : done.length < v.list.length := by rw [hL]; simp
      have hgi := ints_get hg0
      have hm : mostOf v.list.length (done ++ [x]) = max (mostOf v.list.length done) x := mostOf_append _ _ _
      have hxm := List.mem_of_getElem? hg0
      have hi1 := (intOK_i64 x).1 (hli x hxm)
      refine t_rg0 ?_
      refine t_yes ?_
      refine t_g @hgi ?_
      refine t_gt (wr []) @hm @hi1 (hnext trivial)
    · intro _
      refine t_rg0 ?_
      refine t_no ?_
      refine t_g0 ?_
      refine t_r ?_
      simp [go_sem, hP, hgl, hn] <;> (try omega)
      all_goals exact t_f
  rw [if_neg h2] at hR
  by_cases h3 : v.kind = 3
  · rw [if_pos h3] at hR
    have h2l := ht1 h3
    match hargs : v.args, h2l with
    | [x, y], _ =>
    have hx : x ∈ v.args := by rw [hargs]; simp
    have hy : y ∈ v.args := by rw [hargs]; simp
    rw [hargs] at hR
    refine t_g (j2 @h2 @h3) ?_
    refine t_c2 @hargs (ih x hx (ht2 x hx)) (ih y hy (ht2 y hy)) ?_
    refine t_r ?_
    simp [go_sem, hP, hgl, hn, Val.boundN.bounds] <;> (try omega)
    all_goals exact t_f
  · rw [if_neg h3] at hR
    have hfo := Val.fold v
    refine t_g (j2 @h2 @h3) ?_
    refine t_r ?_
    simp [go_sem, hP, hgl, hn, hfo] <;> (try omega)
    all_goals exact t_f

abbrev zV : Val := .mk 0 0 [] []
def Val.mValueE (v : Val) : Val × Int := if v.checkN = 0 then (v.boundN, 0) else (zV, v.checkN)

theorem Val.two_of (v : Val) (h : v.checkN = 0) : v.two := by
  unfold Val.checkN at h
  by_cases hn : v.nodesN.2 = true
  · exact (Val.ok_all v hn).2
  · rw [if_neg hn] at h; exact absurd h (by decide)

theorem mvalue_ok (v : Val) (hc : v.count ≤ 1073741824) : Con1 Tryz.prog gl 25 [v.dv] [] (.tup [v.mValueE.1.dv, dint v.mValueE.2]) [] := by
  have hck : (if v.nodesN.2 = true then if v.nodesN.1 > 64 then 4 else 0 else 2) = v.checkN := rfl
  have hcon := check_ok (gl := gl) v (by omega)
  rw [hck] at hcon
  refine t_in Tryz.func25 ?_
  intro X hP hgl hf hfn hn hR hids hfit
  have hfo := Val.fold v
  refine t_g0 ?_
  refine t_c1 @hfo hcon ?_
  by_cases h : v.checkN = 0
  · refine t_g @h ?_
    refine t_c1 @hfo (bound_ok v (Val.two_of v h)) ?_
    refine t_r ?_
    simp [go_sem, hP, hgl, hn, Val.mValueE, h] <;> (try omega)
    all_goals exact t_f
  · refine t_g @h ?_
    refine t_r ?_
    simp [go_sem, hP, hgl, hn, Val.mValueE, h, zV] <;> (try omega)
    all_goals exact t_f

/-- whether a value bounds another one -/
def Val.overN : Val → Val → Bool
  | .mk k n l a, v =>
    if k = 1 ∧ (v.kind = 1 ∨ v.kind = 2) then decide (v.boundN.num ≤ n)
    else if k = 3 ∧ v.kind = 3 then overs a v.args else decide (k = 4 ∧ v.kind = 4)
where
  overs : List Val → List Val → Bool
    | x :: r, y :: q => x.overN y && overs r q
    | _, _ => true
theorem Val.overN_eq (a v : Val) : a.overN v = if a.kind = 1 ∧ (v.kind = 1 ∨ v.kind = 2) then decide (v.boundN.num ≤ a.num)
    else if a.kind = 3 ∧ v.kind = 3 then overN.overs a.args v.args else decide (a.kind = 4 ∧ v.kind = 4) := by cases a; rw [overN]; rfl

theorem over_ok (a : Val) : ∀ (v : Val), a.two → v.two → Con1 Tryz.prog gl 80 [a.dv, v.dv] [] (dbool (a.overN v)) [] := by
  induction a using Val.ind with
  | h a ih =>
  intro v ha hv
  obtain ⟨ha1, ha2⟩ := (Val.two_eq a).1 ha
  obtain ⟨hv1, hv2⟩ := (Val.two_eq v).1 hv
  refine t_in Tryz.func80 ?_
  intro X hP hgl hf hfn hn hR hids hfit
  rw [Val.overN_eq] at hR
  have hfv := Val.fold v
  have hfa := Val.fold a
  by_cases h1 : a.kind = 1
  · by_cases h2 : v.kind = 1 ∨ v.kind = 2
    · rw [if_pos ⟨h1, h2⟩] at hR
      rcases h2 with h2 | h2
      · rw [h2] at hfv
        refine t_g (j2 @h1 @h2) ?_
        refine t_c1 @hfv (bound_ok v hv) ?_
        refine t_r ?_
        simp [go_sem, hP, hgl, hn] <;> (try omega)
      · rw [h2] at hfv
        refine t_g (j2 @h1 @h2) ?_
        refine t_c1 @hfv (bound_ok v hv) ?_
        refine t_r ?_
        simp [go_sem, hP, hgl, hn] <;> (try omega)
    · rw [if_neg (fun h => h2 h.2), if_neg (fun h => by rw [h1] at h; exact absurd h.1 (by decide))] at hR
      have h3 : ¬ v.kind = 1 := fun h => h2 (.inl h)
      have h4 : ¬ v.kind = 2 := fun h => h2 (.inr h)
      refine t_g (j2 @h1 (j2 @h3 @h4)) ?_
      refine t_r ?_
      simp [go_sem, hP, hgl, hn, h1] <;> (try omega)
  rw [if_neg (fun h => h1 h.1)] at hR
  by_cases h3 : a.kind = 3
  · by_cases h4 : v.kind = 3
    · rw [if_pos ⟨h3, h4⟩] at hR
      have hal := ha1 h3
      have hvl := hv1 h4
      match hargs : a.args, hal, hargs2 : v.args, hvl with
      | [x, y], _, [x', y'], _ =>
      have hx : x ∈ a.args := by rw [hargs]; simp
      have hy : y ∈ a.args := by rw [hargs]; simp
      have hx' : x' ∈ v.args := by rw [hargs2]; simp
      have hy' : y' ∈ v.args := by rw [hargs2]; simp
      rw [hargs, hargs2] at hR
      simp only [Val.overN.overs, Bool.and_true] at hR
      by_cases hq : x.overN x' = true
      · refine t_g (j2 @h1 (j2 @h3 @h4)) ?_
        refine t_c2 (j2 @hargs (j2 @hargs2 @hq)) (ih x hx x' (ha2 x hx) (hv2 x' hx')) (ih y hy y' (ha2 y hy) (hv2 y' hy')) ?_
        refine t_r ?_
        simp [go_sem, hP, hgl, hn, hq] <;> (try omega)
      · have hq' : x.overN x' = false := by simpa using hq
        refine t_g (j2 @h1 (j2 @h3 @h4)) ?_
        refine t_c1 (j2 @hargs (j2 @hargs2 @hq')) (ih x hx x' (ha2 x hx) (hv2 x' hx')) ?_
        refine t_r ?_
        simp [go_sem, hP, hgl, hn, hq'] <;> (try omega)
    · rw [if_neg (fun h => h4 h.2)] at hR
      refine t_g (j2 @h1 (j2 @h3 @h4)) ?_
      refine t_r ?_
      simp [go_sem, hP, hgl, hn, h3] <;> (try omega)
  · rw [if_neg (fun h => h3 h.1)] at hR
    by_cases h5 : a.kind = 4
    · refine t_g (j2 @h1 (j2 @h3 @h5)) ?_
      refine t_r ?_
      simp [go_sem, hP, hgl, hn, h5] <;> (try omega)
    · refine t_g (j2 @h1 (j2 @h3 @h5)) ?_
      refine t_r ?_
      simp [go_sem, hP, hgl, hn, h5] <;> (try omega)

def Val.majorizesN (a v : Val) : Bool := decide (a.checkN = 0) && decide (v.checkN = 0) && a.overN v

theorem majorizes_ok (a v : Val) (hc : a.count ≤ 1073741824) (hc2 : v.count ≤ 1073741824) : Con1 Tryz.prog gl 26 [a.dv, v.dv] [] (dbool (a.majorizesN v)) [] := by
  have hk : ∀ v : Val, (if v.nodesN.2 = true then if v.nodesN.1 > 64 then 4 else 0 else 2) = v.checkN := fun _ => rfl
  have ca := check_ok (gl := gl) a (by omega)
  have cv := check_ok (gl := gl) v (by omega)
  rw [hk] at ca cv
  refine t_in Tryz.func26 ?_
  intro X hP hgl hf hfn hn hR hids hfit
  have hfv := Val.fold v
  have hfa := Val.fold a
  by_cases h1 : a.checkN = 0
  · by_cases h2 : v.checkN = 0
    · refine t_g0 ?_
      refine t_c3 (j2 @hfa (j2 @hfv (j2 @h1 @h2))) ca cv (over_ok a v (Val.two_of a h1) (Val.two_of v h2)) ?_
      refine t_r ?_
      simp [go_sem, hP, hgl, hn, Val.majorizesN, h1, h2] <;> (try omega)
    · refine t_g0 ?_
      refine t_c2 (j2 @hfa (j2 @hfv (j2 @h1 @h2))) ca cv ?_
      refine t_r ?_
      simp [go_sem, hP, hgl, hn, Val.majorizesN, h1, h2] <;> (try omega)
  · refine t_g0 ?_
    refine t_c1 (j2 @hfa (j2 @hfv @h1)) ca ?_
    refine t_r ?_
    simp [go_sem, hP, hgl, hn, Val.majorizesN, h1] <;> (try omega)
end Go.Proofs.YtcldnfbcbkaanaaGreatDoor.Lift

namespace Go.Proofs.YtcldnfbcbkaanaaGreatDoor.Lift
set_option linter.unusedSimpArgs false
set_option linter.unusedVariables false
set_option linter.unnecessarySimpa false
open Go

/-! what is drawn means something -/
def TyQ (t : Ty) (g : List Ty) (x : Tm) : Prop := ∀ (G : List T) (a : T), g = G.map T.ty → t = a.ty → ∃ F : Env G.reverse → a.V, Dn G.reverse x a F

theorem ty_fn_of {s t : Ty} {a : T} (h : Ty.mk 4 [s, t] = a.ty) : ∃ S b, a = .fn S b ∧ s = S.ty ∧ t = b.ty := by
  cases a with
  | fn S b => simp [T.ty] at h; exact ⟨S, b, rfl, h.1, h.2⟩
  | pair S b => simp [T.ty] at h
  | nat => simp [T.ty] at h
  | list => simp [T.ty] at h
  | unit => simp [T.ty] at h
theorem ty_pair_of {s t : Ty} {a : T} (h : Ty.mk 3 [s, t] = a.ty) : ∃ S b, a = .pair S b ∧ s = S.ty ∧ t = b.ty := by
  cases a with
  | pair S b => simp [T.ty] at h; exact ⟨S, b, rfl, h.1, h.2⟩
  | fn S b => simp [T.ty] at h
  | nat => simp [T.ty] at h
  | list => simp [T.ty] at h
  | unit => simp [T.ty] at h
theorem ty_nat_of {a : T} (h : Ty.mk 1 [] = a.ty) : a = .nat := by cases a <;> simp [T.ty] at h ⊢
theorem ty_list_of {a : T} (h : Ty.mk 2 [] = a.ty) : a = .list := by cases a <;> simp [T.ty] at h ⊢
theorem ty_unit_of {a : T} (h : Ty.mk 5 [] = a.ty) : a = .unit := by cases a <;> simp [T.ty] at h ⊢
theorem small_T {s : Ty} (h : s.small) : ∃ S : T, s = S.ty ∧ S.ok ∧ S.size ≤ 15 := by
  obtain ⟨S, rfl⟩ := T.of_shape s h.1
  have := h.2
  rw [T.ty_count] at this
  exact ⟨S, rfl, by unfold T.ok; omega, this⟩
theorem dn_num (Γ : List T) : ∀ n : Nat, ∃ F : Env Γ → T.nat.V, Dn Γ (numTm n) .nat F
  | 0 => ⟨_, .zero⟩
  | n + 1 => by
    obtain ⟨F, h⟩ := dn_num Γ n
    exact ⟨_, .succ h⟩

theorem draw_typed : DrawOK TyQ where
  var g i hi G a hg ht := by
    subst hg
    have hl : i < G.length := by simpa using hi
    obtain ⟨b, hb⟩ : ∃ b, G[G.length - 1 - i]? = some b := ⟨_, List.getElem?_eq_getElem (by omega)⟩
    have hv : varTy (G.map T.ty) i = b.ty := by
      unfold varTy
      rw [List.getD_eq_getElem?_getD, List.length_map, List.getElem?_map, hb]
      rfl
    have hab : a = b := T.ty_inj (by rw [← ht, hv])
    subst hab
    have hr : G.reverse[i]? = some a := by rw [List.getElem?_reverse hl, hb]
    obtain ⟨p, hp⟩ := At.of hr
    exact ⟨p, .var hp⟩
  num g n _ G a hg ht := by
    obtain rfl := ty_nat_of ht
    exact dn_num _ n
  app g s t f x hs ht hf hx G a hg hta := by
    obtain ⟨S, rfl, -⟩ := small_T hs
    obtain ⟨F, h1⟩ := hf G (.fn S a) hg (by rw [hta]; rfl)
    obtain ⟨X, h2⟩ := hx G S hg rfl
    exact ⟨_, .app h1 h2⟩
  lam g s t x hs ht hx G a hg hta := by
    obtain ⟨S, b, rfl, rfl, rfl⟩ := ty_fn_of hta
    obtain ⟨S', e, ho, -⟩ := small_T hs
    obtain rfl := T.ty_inj e
    have := hx (G ++ [S]) b (by rw [hg, List.map_append]; rfl) rfl
    rw [List.reverse_append] at this
    obtain ⟨F, h1⟩ := this
    exact ⟨_, .lam ho h1⟩
  lam2 g s t r x hs ht hr hx G a hg hta := by
    obtain ⟨S, b1, rfl, rfl, hb1⟩ := ty_fn_of hta
    obtain ⟨S2, b, rfl, rfl, rfl⟩ := ty_fn_of hb1
    obtain ⟨_, e, ho, -⟩ := small_T hs
    obtain rfl := T.ty_inj e
    obtain ⟨_, e, ho2, -⟩ := small_T ht
    obtain rfl := T.ty_inj e
    have := hx (G ++ [S, S2]) b (by rw [hg, List.map_append]; rfl) rfl
    rw [List.reverse_append] at this
    obtain ⟨F, h1⟩ := this
    exact ⟨_, .lam ho (.lam ho2 h1)⟩
  lam3 g s t u r x hs ht hu hr hx G a hg hta := by
    obtain ⟨S, b1, rfl, rfl, hb1⟩ := ty_fn_of hta
    obtain ⟨S2, b2, rfl, rfl, hb2⟩ := ty_fn_of hb1
    obtain ⟨S3, b, rfl, rfl, rfl⟩ := ty_fn_of hb2
    obtain ⟨_, e, ho, -⟩ := small_T hs
    obtain rfl := T.ty_inj e
    obtain ⟨_, e, ho2, -⟩ := small_T ht
    obtain rfl := T.ty_inj e
    obtain ⟨_, e, ho3, -⟩ := small_T hu
    obtain rfl := T.ty_inj e
    have := hx (G ++ [S, S2, S3]) b (by rw [hg, List.map_append]; rfl) rfl
    rw [List.reverse_append] at this
    obtain ⟨F, h1⟩ := this
    exact ⟨_, .lam ho (.lam ho2 (.lam ho3 h1))⟩
  pair g s t x y hs ht hx hy G a hg hta := by
    obtain ⟨S, b, rfl, rfl, rfl⟩ := ty_pair_of hta
    obtain ⟨F, h1⟩ := hx G S hg rfl
    obtain ⟨X, h2⟩ := hy G b hg rfl
    exact ⟨_, .pair h1 h2⟩
  fst g s t x hs ht hx G a hg hta := by
    obtain ⟨S, rfl, -⟩ := small_T ht
    obtain ⟨F, h1⟩ := hx G (.pair a S) hg (by rw [hta]; rfl)
    exact ⟨_, .fst h1⟩
  snd g s t x hs ht hx G a hg hta := by
    obtain ⟨S, rfl, -⟩ := small_T hs
    obtain ⟨F, h1⟩ := hx G (.pair S a) hg (by rw [hta]; rfl)
    exact ⟨_, .snd h1⟩
  rc g t x f n ht hx hf hn G a hg hta := by
    subst hta
    obtain ⟨_, e, ho, -⟩ := small_T ht
    obtain rfl := T.ty_inj e
    obtain ⟨B, h1⟩ := hx G a hg rfl
    obtain ⟨F, h2⟩ := hf G (.fn .nat (.fn a a)) hg rfl
    obtain ⟨N, h3⟩ := hn G .nat hg rfl
    exact ⟨_, .rc ho h1 h2 h3⟩
  fold g t x f n ht hx hf hn G a hg hta := by
    subst hta
    obtain ⟨_, e, ho, -⟩ := small_T ht
    obtain rfl := T.ty_inj e
    obtain ⟨B, h1⟩ := hx G a hg rfl
    obtain ⟨F, h2⟩ := hf G (.fn .nat (.fn .list (.fn a a))) hg rfl
    obtain ⟨N, h3⟩ := hn G .list hg rfl
    exact ⟨_, .fold ho h1 h2 h3⟩
  succ g x hx G a hg hta := by
    obtain rfl := ty_nat_of hta
    obtain ⟨F, h1⟩ := hx G .nat hg rfl
    exact ⟨_, .succ h1⟩
  plus g x y hx hy G a hg hta := by
    obtain rfl := ty_nat_of hta
    obtain ⟨F, h1⟩ := hx G .nat hg rfl
    obtain ⟨X, h2⟩ := hy G .nat hg rfl
    exact ⟨_, .app (.app (dn_plus _) h1) h2⟩
  sub g x y hx hy G a hg hta := by
    obtain rfl := ty_nat_of hta
    obtain ⟨F, h1⟩ := hx G .nat hg rfl
    obtain ⟨X, h2⟩ := hy G .nat hg rfl
    exact ⟨_, .app (.app (dn_sub _) h1) h2⟩
  nil g G a hg hta := by
    obtain rfl := ty_list_of hta
    exact ⟨_, .nil⟩
  cons g x y hx hy G a hg hta := by
    obtain rfl := ty_list_of hta
    obtain ⟨F, h1⟩ := hx G .nat hg rfl
    obtain ⟨X, h2⟩ := hy G .list hg rfl
    exact ⟨_, .cons h1 h2⟩
  unit g G a hg hta := by
    obtain rfl := ty_unit_of hta
    exact ⟨_, .unit⟩

theorem termD_dn (l : List Int) (n : Nat) {t : Ty} {g : List Ty} {p : Nat} (ht : t.small) (hg : ∀ x ∈ g, x.small) (hp : p ≤ l.length) {G : List T} {a : T} (eg : g = G.map T.ty) (et : t = a.ty) :
    ∃ F : Env G.reverse → a.V, Dn G.reverse (termD l n t g p).1 a F := (termD_facts draw_typed n t g p ht hg hp).2 G a eg et

/-- the majorant of a term that means something -/
theorem mterm_dn {Γ : List T} {t : Tm} {a : T} {F : Env Γ → a.V} (h : Dn Γ t a F) (hl : Γ.length ≤ 1000) : (t.mTermE = (majT t, 0) ∧ (majT t).count ≤ 268435456 ∧ t.count ≤ 4096) ∨ t.mTermE.2 = 4 := by
  unfold Tm.mTermE
  by_cases h0 : t.checkN = 0
  · have hk := (Tm.checkN_iff t).1 h0
    rw [if_pos h0, if_pos (dn_least h 268435456 (by omega))]
    obtain ⟨h1, h2⟩ := majE_dn h
    rcases h2 with h2 | h2
    · left
      have hf := (fine_maj t hk.1 (Tm.idx_of t 268435456 hk.1 (dn_least h 268435456 (by omega))) (by decide)).1
      rw [h1 h2] at hf
      refine ⟨?_, hf, hk.2⟩
      unfold runT
      rw [if_pos h2]
      exact Prod.ext (h1 h2) h2
    · right
      unfold runT
      rw [if_neg (by rw [h2]; decide)]
      exact h2
  · rw [if_neg h0]
    right
    have hs := dn_shape h
    unfold Tm.checkN at h0 ⊢
    rw [if_pos hs] at h0 ⊢
    split at h0
    · rename_i hq; rw [if_pos hq]
    · exact absurd rfl h0

end Go.Proofs.YtcldnfbcbkaanaaGreatDoor.Lift

namespace Go.Proofs.YtcldnfbcbkaanaaGreatDoor.Lift
set_option linter.unusedSimpArgs false
set_option linter.unusedVariables false
set_option linter.unnecessarySimpa false
open Go

/-! the plain law of MajorantBounds: least majorants of plain values, and calls with them -/
theorem mostOf_ge : ∀ (l : List Int) (n : Int), n ≤ mostOf n l ∧ ∀ x ∈ l, x ≤ mostOf n l
  | [], n => ⟨Int.le_refl n, fun x h => by cases h⟩
  | y :: l, n => by
    obtain ⟨h1, h2⟩ := mostOf_ge l (max n y)
    refine ⟨?_, fun x hx => ?_⟩
    · show n ≤ mostOf (max n y) l
      omega
    · show x ≤ mostOf (max n y) l
      rcases List.mem_cons.1 hx with rfl | hx
      · omega
      · exact h2 x hx
theorem mostOf_le {B : Int} : ∀ (l : List Int) (n : Int), n ≤ B → (∀ x ∈ l, x ≤ B) → mostOf n l ≤ B
  | [], n, h, _ => h
  | y :: l, n, h, k => mostOf_le l (max n y) (by have := k y (by simp); omega) fun x hx => k x (by simp [hx])

def bnd : (a : T) → a.V → a.maj.V
  | .nat, n => n
  | .list, l => (mostOf (List.length l : Nat) (List.map Int.ofNat l)).toNat
  | .unit, _ => ()
  | .pair a b, p => (bnd a p.1, bnd b p.2)
  | .fn a b, _ => (T.fn a b).maj.dflt
theorem bnd_list (l : List Nat) : ((mostOf (l.length : Nat) (l.map Int.ofNat)).toNat : Int) = mostOf (l.length : Nat) (l.map Int.ofNat) := by
  have := (mostOf_ge (l.map Int.ofNat) (l.length : Nat)).1
  omega
theorem bnd_val_list (l : List Nat) : (Val.mk 2 0 (l.map Int.ofNat) []).boundN = Val.mk 1 (((mostOf (l.length : Nat) (l.map Int.ofNat)).toNat : Nat) : Int) [] [] := by
  rw [Val.boundN_eq, if_pos (show (Val.mk 2 0 (l.map Int.ofNat) []).kind = 2 from rfl)]
  show Val.mk 1 (mostOf ((List.map Int.ofNat l).length : Nat) (List.map Int.ofNat l)) [] [] = _
  rw [bnd_list, List.length_map]
theorem bnd_le_list {N : Int} (l : List Nat) (h : (l.length : Int) ≤ N ∧ ∀ x ∈ l, (x : Int) ≤ N) : (((mostOf (l.length : Nat) (l.map Int.ofNat)).toNat : Nat) : Int) ≤ N := by
  rw [bnd_list]
  exact mostOf_le _ _ h.1 fun x hx => by
    obtain ⟨y, hy, rfl⟩ := List.mem_map.1 hx
    exact h.2 y hy
theorem bnd_val : ∀ (a : T) (x : a.V), a.plain → (valOf a x).boundN = valOf a.maj (bnd a x)
  | .nat, n, _ => by rw [Val.boundN_eq]; rfl
  | .list, l, _ => bnd_val_list l
  | .unit, _, _ => by rw [Val.boundN_eq]; rfl
  | .pair a b, p, h => by
    rw [Val.boundN_eq, if_neg (show ¬ (valOf (.pair a b) p).kind = 2 by simp [valOf, Val.kind]), if_pos (show (valOf (.pair a b) p).kind = 3 from rfl)]
    show Val.mk 3 0 [] [(valOf a p.1).boundN, (valOf b p.2).boundN] = Val.mk 3 0 [] [valOf a.maj (bnd a p.1), valOf b.maj (bnd b p.2)]
    rw [bnd_val a p.1 h.1, bnd_val b p.2 h.2]
  | .fn _ _, _, h => h.elim
theorem bnd_mj : ∀ (a : T) (x : a.V), a.plain → Mj a (bnd a x) x
  | .nat, n, _ => Nat.le_refl n
  | .list, l, _ => by
    obtain ⟨h1, h2⟩ := mostOf_ge (List.map Int.ofNat l) (List.length l : Nat)
    have h3 := bnd_list l
    refine ⟨?_, fun x hx => ?_⟩
    · show List.length l ≤ (mostOf (List.length l : Nat) (List.map Int.ofNat l)).toNat
      omega
    · have := h2 (Int.ofNat x) (List.mem_map_of_mem (f := Int.ofNat) hx)
      show x ≤ (mostOf (List.length l : Nat) (List.map Int.ofNat l)).toNat
      have h4 : (x : Int) ≤ mostOf (List.length l : Nat) (List.map Int.ofNat l) := this
      omega
  | .unit, _, _ => trivial
  | .pair a b, p, h => ⟨bnd_mj a p.1 h.1, bnd_mj b p.2 h.2⟩
  | .fn _ _, _, h => h.elim
theorem bnd_le {N : Int} (hN : 0 ≤ N) : ∀ (a : T) (x : a.V), a.plain → (ofM a x).le N → (ofM a.maj (bnd a x)).le N
  | .nat, n, _, h => h
  | .list, l, _, h => bnd_le_list l h
  | .unit, _, _, _ => trivial
  | .pair a b, p, hp, h => ⟨bnd_le hN a p.1 hp.1 h.1, bnd_le hN b p.2 hp.2 h.2⟩
  | .fn _ _, _, hp, _ => hp.elim
theorem maj_plain : ∀ {a : T}, a.plain → a.maj.plain
  | .nat, _ => trivial
  | .list, _ => trivial
  | .unit, _ => trivial
  | .pair _ _, h => ⟨maj_plain h.1, maj_plain h.2⟩

theorem mvalue_val {a : T} (x : a.V) (hp : a.plain) (ho : a.ok) : (valOf a x).mValueE = ((valOf a x).boundN, 0) := by
  unfold Val.mValueE
  rw [if_pos (valOf_check x hp ho)]

def bndE : (ls : List T) → Env ls → Env (ls.map T.maj)
  | [], _ => ()
  | a :: ls, e => (bnd a e.1, bndE ls e.2)
theorem bndE_mj : ∀ (ls : List T) (X : Env ls), Plains ls → MjE ls (bndE ls X) X
  | [], _, _ => trivial
  | a :: ls, X, h => ⟨bnd_mj a X.1 h.1, bndE_mj ls X.2 h.2.2⟩
theorem bndE_vals : ∀ (ls : List T) (X : Env ls), Plains ls → (valsOf ls X).map Val.boundN = valsOf (ls.map T.maj) (bndE ls X)
  | [], _, _ => rfl
  | a :: ls, X, h => by
    show (valOf a X.1).boundN :: (valsOf ls X.2).map Val.boundN = valOf a.maj (bnd a X.1) :: valsOf (ls.map T.maj) (bndE ls X.2)
    rw [bnd_val a X.1 h.1, bndE_vals ls X.2 h.2.2]
theorem bndE_le {N : Int} (hN : 0 ≤ N) : ∀ (ls : List T) (X : Env ls), Plains ls → MV.les N (mvsOf ls X) → MV.les N (mvsOf (ls.map T.maj) (bndE ls X))
  | [], _, _, _ => trivial
  | a :: ls, X, h, k => ⟨bnd_le hN a X.1 h.1 k.1, bndE_le hN ls X.2 h.2.2 k.2⟩
theorem plains_maj : ∀ {ls : List T}, Plains ls → Plains (ls.map T.maj)
  | [], _ => trivial
  | _ :: _, h => ⟨maj_plain h.1, maj_ok h.2.1, plains_maj h.2.2⟩

theorem valsOf_all : ∀ (ls : List T) (X : Env ls), Plains ls → ∀ v ∈ valsOf ls X, v.mValueE = (v.boundN, 0) ∧ v.count ≤ 64
  | [], _, _, v, hv => by cases hv
  | a :: ls, X, h, v, hv => by
    rcases List.mem_cons.1 hv with rfl | hv
    · have h1 := (valOf_nodes a X.1 h.1).2
      have h2 : a.size ≤ 64 := h.2.1
      exact ⟨mvalue_val X.1 h.1 h.2.1, by omega⟩
    · exact valsOf_all ls X.2 h.2.2 v hv

/-- a majorant called with values, in its own form -/
def applM : (ls : List T) → {r : T} → (FnT ls r).maj.V → Env (ls.map T.maj) → r.maj.V
  | [], _, f, _ => f
  | _ :: ls, _, f, e => applM ls (f e.1) e.2
theorem applM_mj : ∀ (ls : List T) {r : T} {P : (FnT ls r).maj.V} {f : (FnT ls r).V} {X : Env (ls.map T.maj)} {x : Env ls}, Mj (FnT ls r) P f → MjE ls X x → Mj r (applM ls P X) (appl ls f x)
  | [], _, _, _, _, _, h, _ => h
  | a :: ls, _, _, _, _, _, h, k => applM_mj ls (h.1 _ _ k.1) k.2
theorem applM_ge : ∀ (ls : List T) {r : T} {P Q : (FnT ls r).maj.V} {X Y : Env (ls.map T.maj)}, Ge (FnT ls r).maj P Q → GeE (ls.map T.maj) X Y → Ge r.maj (applM ls P X) (applM ls Q Y)
  | [], _, _, _, _, _, h, _ => h
  | a :: ls, _, _, _, _, _, h, k => applM_ge ls (h.1 _ _ k.1) k.2

theorem cast_fn {A B : T} (e : A = B) {a : T} (P : (T.fn a A).V) (x : a.V) : (cast (congrArg T.V (congrArg (T.fn a) e)) P : (T.fn a B).V) x = cast (congrArg T.V e) (P x) := by
  subst e; rfl
theorem fnT_maj : ∀ (ls : List T) (r : T), (FnT ls r).maj = FnT (ls.map T.maj) r.maj
  | [], _ => rfl
  | a :: ls, r => congrArg (T.fn a.maj) (fnT_maj ls r)
theorem appl_cast : ∀ (ls : List T) {r : T} (P : (FnT ls r).maj.V) (X : Env (ls.map T.maj)), appl (ls.map T.maj) (cast (congrArg T.V (fnT_maj ls r)) P) X = applM ls P X
  | [], _, _, _ => rfl
  | a :: ls, r, P, X => by
    show appl (ls.map T.maj) ((cast (congrArg T.V (congrArg (T.fn a.maj) (fnT_maj ls r))) P : (T.fn a.maj (FnT (ls.map T.maj) r.maj)).V) X.1) X.2 = applM ls (P X.1) X.2
    exact (congrArg (fun q => appl (ls.map T.maj) q X.2) (cast_fn (fnT_maj ls r) P X.1)).trans (appl_cast ls (P X.1) X.2)
theorem dn_cast {Γ : List T} {t : Tm} {A B : T} (e : A = B) {F : Env Γ → A.V} (h : Dn Γ t A F) : Dn Γ t B (fun u => cast (congrArg T.V e) (F u)) := by
  subst e; exact h

/-- the majorant of a closed function, as a function of majorants -/
theorem dn_majf {t : Tm} {ls : List T} {r : T} {F : Env [] → (FnT ls r).V} (h : Dn [] t (FnT ls r) F) : ∃ (P : (FnT ls r).maj.V) (G : Env [] → (FnT (ls.map T.maj) r.maj).V), Dn [] (majT t) (FnT (ls.map T.maj) r.maj) G ∧
    (∀ X, appl (ls.map T.maj) (G ()) X = applM ls P X) ∧ Mj (FnT ls r) P (F ()) ∧ Ge (FnT ls r).maj P P := by
  obtain ⟨P, h1, h2, h3⟩ := dn_maj h
  refine ⟨P (), fun u => cast (congrArg T.V (fnT_maj ls r)) (P u), dn_cast (fnT_maj ls r) h1, fun X => appl_cast ls (P ()) X, h2 () () trivial, h3 () () trivial⟩
end Go.Proofs.YtcldnfbcbkaanaaGreatDoor.Lift

/-
  Package bound: Of.
-/
namespace Go.Proofs.YtcldnfbcbkaanaaGreatDoor.Lift
set_option linter.unusedSimpArgs false
set_option linter.unusedVariables false
set_option linter.unnecessarySimpa false
open Go
variable {gl : Globs}

/-- what bound.Of returns -/
def ofR (t : Tm) (v : Val) (c : Nat) (work : Int) : Val × Int × Int := if (t.typeE []).2 = 0 then (if t.mTermE.2 = 0 then callR (majT t) v c work else (zeroV, 0, 4)) else (zeroV, 0, 4)
theorem ofR_err (t : Tm) (v : Val) (c : Nat) (work : Int) : (ofR t v c work).2.2 = 4 ∨ (ofR t v c work).2.2 = 5 ∨ ((ofR t v c work).2.2 = 0 ∧ (ofR t v c work).1 = v) := by
  unfold ofR
  split
  · split
    · exact callR_err _ _ _ _
    · exact .inl rfl
  · exact .inl rfl

theorem bound_of_ok (har : globOf gl 0 = some arEls) {t : Tm} {ls : List T} {r : T} {F : Env [] → (FnT ls r).V} (h : Dn [] t (FnT ls r) F) (hc : t.count ≤ 536870912) {G : Env [] → (FnT (ls.map T.maj) r.maj).V} (hm : Dn [] (majT t) (FnT (ls.map T.maj) r.maj) G) (Z : Env (ls.map T.maj)) (y : r.maj.V) (hl : Plains (ls.map T.maj)) (hll : ls.length ≤ 1000) (hr : r.maj.plain) (hro : r.maj.ok) {c d : Nat} (hcs : callS d (majT t) (mvsOf (ls.map T.maj) Z) = some (ofM r.maj y, c)) (wk : Nat) (hwk : wk ≤ 65536) (M : Nat) (hM : M ≤ 1073000000) (hX : MV.nles M (mvsOf (ls.map T.maj) Z)) :
    Con1 Tryz.prog gl 20 [t.dv, .sl ((valsOf (ls.map T.maj) Z).map Val.cells), dint (wk : Int)] [] (.tup [(ofR t (valOf r.maj y) c wk).1.dv, dint (ofR t (valOf r.maj y) c wk).2.1, dint (ofR t (valOf r.maj y) c wk).2.2]) [] := by
  have hte := terms_typeof_dn (gl := gl) har h hc
  have hft := Tm.fold t
  unfold ofR
  by_cases h0 : (t.typeE []).2 = 0
  rotate_left
  · rw [if_neg h0] at hte ⊢
    have fz : (Ty.mk 0 []).dv = .agg [dint 0, .sl []] := rfl
    rw [fz] at hte
    refine t_in Tryz.func20 ?_
    intro X hP hgl hf hfn hn hR hids hfit
    refine t_g0 ?_
    refine t_c1 @hft hte ?_
    refine t_g0 ?_
    refine t_r ?_
    simp [go_sem, hP, hgl, hn, zeroV] <;> (try omega)
    all_goals exact t_f
  rw [if_pos h0] at hte ⊢
  have w2 := mterm_ok (gl := gl) har t (shape_tys t (dn_shape h)) (by omega)
  have hfr := Ty.fold (FnT ls r).ty
  rcases mterm_dn h (by simp) with ⟨h1, h2, -⟩ | h4
  rotate_left
  · rw [if_neg (by rw [h4]; decide)]
    rw [h4] at w2
    generalize t.mTermE.1 = q at *
    have hfq := Tm.fold q
    refine t_in Tryz.func20 ?_
    intro X hP hgl hf hfn hn hR hids hfit
    refine t_g0 ?_
    refine t_c1 @hft hte ?_
    refine t_g0 ?_
    refine t_c1 @hft w2 ?_
    refine t_g0 ?_
    refine t_r ?_
    simp [go_sem, hP, hgl, hn, zeroV] <;> (try omega)
    all_goals exact t_f
  rw [h1] at w2 ⊢
  rw [if_pos rfl]
  have w3 := machine_call_dn (gl := gl) har hm (by omega) Z y hl (by simp; omega) hr hro hcs wk hwk M hM hX
  have hfm := Tm.fold (majT t)
  generalize callR (majT t) (valOf r.maj y) c wk = cr at *
  have hfc := Val.fold cr.1
  generalize majT t = m at *
  refine t_in Tryz.func20 ?_
  intro X hP hgl hf hfn hn hR hids hfit
  refine t_g0 ?_
  refine t_c1 @hft hte ?_
  refine t_g0 ?_
  refine t_c1 @hft w2 ?_
  refine t_g0 ?_
  refine t_c1 @hfm w3 ?_
  refine t_r ?_
  simp [go_sem, hP, hgl, hn] <;> (try omega)
  all_goals exact t_f
end Go.Proofs.YtcldnfbcbkaanaaGreatDoor.Lift

/-
  Package bound: Within.
-/
namespace Go.Proofs.YtcldnfbcbkaanaaGreatDoor.Lift
set_option linter.unusedSimpArgs false
set_option linter.unusedVariables false
set_option linter.unnecessarySimpa false
open Go
variable {gl : Globs}

/-- what bound.Within returns, of what the calls return -/
def withinR (A O : Val × Int × Int) : Bool × Int := if A.2.2 = 0 then (decide (O.2.2 = 0), O.2.2) else (false, A.2.2)

mutual
theorem le_nleB {n : Nat} : ∀ v : MV, v.le (n : Int) → v.nle n
  | .num k, h => by simp only [MV.le, MV.nle] at h ⊢; omega
  | .list l, h => by
    simp only [MV.le, MV.nle] at h ⊢
    exact ⟨by omega, fun x hx => by have := h.2 x hx; omega⟩
  | .both a b, h => by simp only [MV.le, MV.nle] at h ⊢; exact ⟨le_nleB a h.1, le_nleB b h.2⟩
  | .unit, _ => by simp only [MV.nle]
  | .clo _ e, h => by simp only [MV.le, MV.nle] at h ⊢; exact les_nlesB e h.2
theorem les_nlesB {n : Nat} : ∀ l : List MV, MV.les (n : Int) l → MV.nles n l
  | [], _ => by simp only [MV.nles]
  | v :: l, h => by simp only [MV.les, MV.nles] at h ⊢; exact ⟨le_nleB v h.1, les_nlesB l h.2⟩
end

set_option maxHeartbeats 1000000 in
set_option maxRecDepth 100000 in
theorem bound_within_ok (har : globOf gl 0 = some arEls) {t : Tm} {ls : List T} {r : T} {F : Env [] → (FnT ls r).V} (h : Dn [] t (FnT ls r) F) (hc : t.count ≤ 536870912) {G : Env [] → (FnT (ls.map T.maj) r.maj).V} (hm : Dn [] (majT t) (FnT (ls.map T.maj) r.maj) G)
    (Z : Env ls) (y : r.V) (y' : r.maj.V) (hmm : (valOf r.maj y').majorizesN (valOf r y) = true) (hl : Plains ls) (hll : ls.length ≤ 1000) (hr : r.plain) (hro : r.ok) {c d c' d' : Nat} (hcs : callS d t (mvsOf ls Z) = some (ofM r y, c)) (hcs' : callS d' (majT t) (mvsOf (ls.map T.maj) (bndE ls Z)) = some (ofM r.maj y', c')) (wk : Nat) (hwk : wk ≤ 65536) (hX : MV.les (1000000 : Nat) (mvsOf ls Z)) :
    Con1 Tryz.prog gl 10 [t.dv, .sl ((valsOf ls Z).map Val.cells), dint (wk : Int)] [] (.tup [dbool (withinR (callR t (valOf r y) c wk) (ofR t (valOf r.maj y') c' wk)).1, dint (withinR (callR t (valOf r y) c wk) (ofR t (valOf r.maj y') c' wk)).2]) [] := by
  have hft := Tm.fold t
  have w1 := machine_call_dn (gl := gl) har h hc Z y hl (by omega) hr hro hcs wk hwk 1000000 (by decide) (les_nlesB _ hX)
  have hc1 := callR_err t (valOf r y) c wk
  have hb := bndE_vals ls Z hl
  have w3 := bound_of_ok (gl := gl) har h hc hm (bndE ls Z) y' (plains_maj hl) hll (maj_plain hr) (maj_ok hro) hcs' wk hwk 1000000 (by decide) (les_nlesB _ (bndE_le (by decide) ls Z hl hX))
  have hc3 := ofR_err t (valOf r.maj y') c' wk
  have hnV := (valOf_nodes r y hr).2
  have hnW := (valOf_nodes r.maj y' (maj_plain hr)).2
  have hro' : r.size ≤ 64 := hro
  have hrm : r.maj.size = r.size := maj_size r
  have w4 := majorizes_ok (gl := gl) (valOf r.maj y') (valOf r y) (by omega) (by omega)
  rw [hmm] at w4
  generalize callR t (valOf r y) c wk = co1 at *
  generalize ofR t (valOf r.maj y') c' wk = co2 at *
  have hva := valsOf_all ls Z hl
  have hvl := valsOf_len ls Z
  obtain ⟨vs, hvs⟩ : ∃ vs, vs = valsOf ls Z := ⟨_, rfl⟩
  rw [← hvs] at hva hb w1 hvl ⊢
  rw [← hb] at w3
  have hf1 := Val.fold co1.1
  have hc1v := Val.cells_eq co1.1
  unfold withinR
  refine t_in Tryz.func10 ?_
  intro X hP hgl hf hfn hn hR hids hfit
  by_cases he : co1.2.2 = 0
  rotate_left
  · rw [if_neg he] at hR
    refine t_g0 ?_
    refine t_c1 @hft w1 ?_
    refine t_g @he ?_
    refine t_r ?_
    simp [go_sem, hP, hgl, hn] <;> (try omega)
  rw [if_pos he] at hR
  have hv1 : co1.1 = valOf r y := by
    rcases hc1 with h | h | h
    · rw [he] at h; cases h
    · rw [he] at h; cases h
    · exact h.2
  rw [← hv1] at w4
  generalize co1.1 = vr at *
  have hf2 := Val.fold co2.1
  have hc2v := Val.cells_eq co2.1
  refine t_g0 ?_
  refine t_c1 @hft w1 ?_
  refine t_g (j2 @he @hc1v) ?_
  refine t_a ?_
  refine t_sub [(1011, 0)] trivial (W_listI (vs) (fun done => True) (fun done rest => [(.slot 2, .one (.v (dint (wk : Int)))), (.slot 3, .one (.loc 3 0)), (.loc 3, .row ([.v (dint t.kind), .v (dint t.index), .v (dint t.type.kind), .v (.sl (t.type.args.map Ty.cells)), .v (.sl (t.args.map Tm.cells))])), (.slot 8, .one (.loc 8 0)), (.loc 8, .row ([.v (dint vr.kind), .v (dint vr.num), .v (.sl (ints vr.list)), .v (.sl (vr.args.map Val.cells))])), (.slot 11, .one (.own 1011 ((done.map Val.boundN).map Val.cells))), (.tok 1011, .tk 4 done.length), (.slot 29, .one (.v (.sl (vs.map Val.cells)))), (.slot 30, .one (.v (dint vs.length))), (.slot 31, .one (.v (dint done.length)))]) (trivial) ?_ ?_)
  · intro done v rest hL hg0 _ hnext
    have hlt : done.length < vs.length := by rw [hL]; simp
    obtain ⟨q1, q2⟩ := hva v (List.mem_of_getElem? hg0)
    have wv := mvalue_ok (gl := gl) v (by omega)
    rw [q1] at wv
    have hfv := Val.fold v
    have hcv := Val.cells_eq v
    have hcb := Val.cells_eq v.boundN
    refine t_rg0 ?_
    refine t_yes ?_
    refine t_g (j2 @hg0 @hcv) ?_
    refine t_c1 @hfv wv ?_
    refine t_g0 ?_
    refine t_gt (wr [(1011, 46)]) @hcb @hcb (hnext trivial)
  · intro _
    rcases hc3 with h | h | ⟨h, hv⟩
    · rw [h] at hR w3
      refine t_rg0 ?_
      refine t_no ?_
      refine t_g0 ?_
      refine t_c1 @hft w3 ?_
      refine t_g0 ?_
      refine t_r ?_
      simp [go_sem, hP, hgl, hn] <;> (try omega)
    · rw [h] at hR w3
      refine t_rg0 ?_
      refine t_no ?_
      refine t_g0 ?_
      refine t_c1 @hft w3 ?_
      refine t_g0 ?_
      refine t_r ?_
      simp [go_sem, hP, hgl, hn] <;> (try omega)
    · rw [h] at hR w3
      rw [← hv] at w4
      generalize co2.1 = vw at *
      refine t_rg0 ?_
      refine t_no ?_
      refine t_g0 ?_
      refine t_c1 @hft w3 ?_
      refine t_g0 ?_
      refine t_c1 (j2 @hf1 @hf2) w4 ?_
      refine t_r ?_
      simp [go_sem, hP, hgl, hn] <;> (try omega)
end Go.Proofs.YtcldnfbcbkaanaaGreatDoor.Lift

/-
  Package bound: Table.
-/
namespace Go.Proofs.YtcldnfbcbkaanaaGreatDoor.Lift
set_option linter.unusedSimpArgs false
set_option linter.unusedVariables false
set_option linter.unnecessarySimpa false
open Go
variable {gl : Globs}

/-- the first error of some calls -/
def fe (O : Nat → Val × Int × Int) : Nat → Int
  | 0 => 0
  | n + 1 => if fe O n = 0 then (O n).2.2 else fe O n
theorem fe_stop {O : Nat → Val × Int × Int} {i : Nat} (h : fe O i ≠ 0) : ∀ n, i ≤ n → fe O n = fe O i
  | 0, hn => by have : i = 0 := by omega
                rw [this]
  | n + 1, hn => by
    by_cases e : i = n + 1
    · rw [e]
    · have := fe_stop h n (by omega)
      simp only [fe]
      rw [this, if_neg h]
theorem fe_first {O : Nat → Val × Int × Int} {i n : Nat} (h0 : fe O i = 0) (h : (O i).2.2 ≠ 0) (hin : i < n) : fe O n = (O i).2.2 := by
  have e : fe O (i + 1) = (O i).2.2 := by simp only [fe]; rw [if_pos h0]
  rw [fe_stop (i := i + 1) (by rw [e]; exact h) n hin, e]
theorem fe_ok {O : Nat → Val × Int × Int} : ∀ {n : Nat}, fe O n = 0 → ∀ i, i < n → (O i).2.2 = 0
  | 0, _, i, hi => absurd hi (Nat.not_lt_zero _)
  | n + 1, h, i, hi => by
    simp only [fe] at h
    by_cases e : fe O n = 0
    · rw [if_pos e] at h
      rcases Nat.lt_or_ge i n with h1 | h1
      · exact fe_ok e i h1
      · obtain rfl : i = n := by omega
        exact h
    · rw [if_neg e] at h; exact absurd h e
theorem fe_err {O : Nat → Val × Int × Int} (h : ∀ i, (O i).2.2 = 4 ∨ (O i).2.2 = 5 ∨ (O i).2.2 = 0) : ∀ n, fe O n = 4 ∨ fe O n = 5 ∨ fe O n = 0
  | 0 => .inr (.inr rfl)
  | n + 1 => by
    simp only [fe]
    by_cases e : fe O n = 0
    · rw [if_pos e]; exact h n
    · rw [if_neg e]; exact fe_err h n
def tabL (O : Nat → Val × Int × Int) (n : Nat) : List Int := (List.range n).map fun i => (O i).1.num
theorem tabL_succ (O : Nat → Val × Int × Int) (n : Nat) : tabL O (n + 1) = tabL O n ++ [(O n).1.num] := by simp [tabL, List.range_succ]
def tabE (O : Nat → Val × Int × Int) (n : Nat) : List Int := if fe O n = 0 then tabL O n else []
theorem ints_snocI (l : List Int) (x : Int) : ints (l ++ [x]) = ints l ++ [[dint x]] := by simp [ints]

set_option maxHeartbeats 1000000 in
theorem bound_table_ok (har : globOf gl 0 = some arEls) {t : Tm} {F : Env [] → (T.fn .nat .nat).V} (h : Dn [] t (.fn .nat .nat) F) (hc : t.count ≤ 536870912) (O : Nat → Val × Int × Int) (n wk : Nat) (hn16 : n ≤ 16)
    (hO : ∀ i, i ≤ n → Con1 Tryz.prog gl 20 [t.dv, .sl [[dint 1, dint (i : Int), .sl [], .sl []]], dint (wk : Int)] [] (.tup [(O i).1.dv, dint (O i).2.1, dint (O i).2.2]) []) (h4 : (t.typeE []).2 ≠ 0 → (O 0).2.2 = 4) :
    Con1 Tryz.prog gl 14 [t.dv, dint (n : Int), dint (wk : Int)] [] (.tup [.sl (ints (tabE O (n + 1))), dint (fe O (n + 1))]) [] := by
  have hte := terms_typeof_dn (gl := gl) har h hc
  have hft := Tm.fold t
  unfold tabE
  by_cases h0 : (t.typeE []).2 = 0
  rotate_left
  · rw [if_neg h0] at hte
    have e4 : fe O (n + 1) = 4 := by
      have := h4 h0
      rw [fe_first (i := 0) rfl (by rw [this]; decide) (by omega), this]
    rw [e4, if_neg (by decide)]
    have fz : (Ty.mk 0 []).dv = .agg [dint 0, .sl []] := rfl
    have hi : ints [] = [] := rfl
    rw [fz] at hte
    rw [hi]
    refine t_in Tryz.func14 ?_
    intro X hP hgl hf hfn hn hR hids hfit
    refine t_g0 ?_
    refine t_c1 @hft hte ?_
    refine t_g0 ?_
    refine t_r ?_
    simp [go_sem, hP, hgl, hn] <;> (try omega)
  rw [if_pos h0] at hte
  have fz : (T.fn .nat .nat).ty.dv = .agg [dint 4, .sl [[dint 1, .sl []], [dint 1, .sl []]]] := rfl
  rw [fz] at hte
  refine t_in Tryz.func14 ?_
  intro X hP hgl hf hfn hn hR hids hfit
  have e1 : ¬ (n : Int) < 0 := by omega
  have e2 : ¬ 16 < (n : Int) := by omega
  have e3 : ¬ 16 < n := by omega
  refine t_g0 ?_
  refine t_c1 @hft hte ?_
  refine t_g (j2 @e1 (j2 @e2 @e3)) ?_
  refine t_a ?_
  refine W_sub [(1010, 0)] (by simp [go_sem]) (by simp [go_sem, tabL, ints_nil] <;> omega) (by simp [go_sem]) (W_upto (n + 1) (fun i => fe O i = 0) (fun i => [(.slot 2, .one (.v (dint (wk : Int)))), (.slot 3, .one (.loc 3 0)), (.loc 3, .row ([.v (dint t.kind), .v (dint t.index), .v (dint t.type.kind), .v (.sl (t.type.args.map Ty.cells)), .v (.sl (t.args.map Tm.cells))])), (.slot 10, .one (.own 1010 (ints (tabL O i)))), (.tok 1010, .tk 1 i), (.slot 49, .one (.v (dint ((n : Int) + 1)))), (.slot 50, .one (.v (dint i)))]) (rfl) ?_ ?_)
  · intro i hi hI hnext
    have w := hO i (by omega)
    have hlt : (i : Int) < (n : Int) + 1 := by omega
    have hln : (ints (tabL O i)).length = i := by simp [ints, tabL]
    have hwid : ∀ e : List DV, e ∈ ints (tabL O i) → e.length = 1 := by intro e he; simp only [ints, List.mem_map] at he; obtain ⟨x, -, rfl⟩ := he; rfl
    have hil : i ≤ 2147483647 := by omega
    have hfv := Val.fold (O i).1
    have hcv := Val.cells_eq (O i).1
    by_cases he : (O i).2.2 = 0
    · have hI2 : fe O (i + 1) = 0 := by simp only [fe]; rw [if_pos hI]; exact he
      have hnx := hnext hI2
      rw [tabL_succ, ints_snocI] at hnx
      generalize ints (tabL O i) = L at *
      refine t_rg @hlt ?_
      refine t_yes ?_
      refine t_g0 ?_
      refine t_c1 @hft w ?_
      refine t_g (j2 @he (j2 @hwid (j2 @hln @hil))) ?_
      refine t_gt (wr [(1010, 70)]) trivial @hln hnx
    · have hff := fe_first hI he hi
      rw [hff, if_neg he] at hR
      have hi0 : ints [] = [] := rfl
      rw [hi0] at hR
      generalize ints (tabL O i) = L at *
      refine t_rg @hlt ?_
      refine t_yes ?_
      refine t_g0 ?_
      refine t_c1 @hft w ?_
      refine t_g @he ?_
      refine t_r ?_
      simp [go_sem, hP, hgl, hn] <;> (try omega)
  · intro hI
    rw [if_pos hI, hI] at hR
    have hnl : ¬ ((n : Int) + 1 < (n : Int) + 1) := by omega
    refine t_rg0 ?_
    refine t_no ?_
    refine t_g0 ?_
    refine t_r ?_
    simp [go_sem, hP, hgl, hn] <;> (try omega)
end Go.Proofs.YtcldnfbcbkaanaaGreatDoor.Lift

namespace Go.Proofs.YtcldnfbcbkaanaaGreatDoor.Lift
set_option linter.unusedSimpArgs false
set_option linter.unusedVariables false
set_option linter.unnecessarySimpa false
open Go
variable {gl : Globs}

theorem lam24_ok (s : Ty) (b : Tm) : Con1 Tryz.prog gl 23 [s.dv, b.dv] [] (Tm.mk 2 0 s [b]).dv [] := by
  refine t_in Tryz.func23 ?_
  intro X hP hgl hf hfn hn hR hids hfit
  refine t_g0 ?_
  refine t_r ?_
  simp [go_sem, hP, hgl, hn] <;> (try omega)
  all_goals exact t_f

end Go.Proofs.YtcldnfbcbkaanaaGreatDoor.Lift

/-
  Law 34: the sanity check, and BoundWithin.
-/
namespace Go.Proofs.YtcldnfbcbkaanaaGreatDoor.Lift
set_option linter.unusedSimpArgs false
set_option linter.unusedVariables false
set_option linter.unnecessarySimpa false
open Go
variable {gl : Globs}

def limB34 (e : Int) : Bool := decide (e = 4) || (decide (e = 5) || decide (e = 3))
theorem limits34_ok (e : Int) : Con1 Tryz.prog gl 11 [dint e] [] (dbool (limB34 e)) [] := by
  unfold limB34
  refine t_in Tryz.func11 ?_
  intro X hP hgl hf hfn hn hR hids hfit
  by_cases h4 : e = 4
  · refine t_g @h4 ?_
    refine t_r ?_
    simp [go_sem, hP, hgl, hn, h4] <;> (try omega)
  by_cases h5 : e = 5
  · refine t_g (j2 @h4 @h5) ?_
    refine t_r ?_
    simp [go_sem, hP, hgl, hn, h4, h5] <;> (try omega)
  by_cases h3 : e = 3
  · refine t_g (j2 @h4 (j2 @h5 @h3)) ?_
    refine t_r ?_
    simp [go_sem, hP, hgl, hn, h4, h5, h3] <;> (try omega)
  · refine t_g (j2 @h4 (j2 @h5 @h3)) ?_
    refine t_r ?_
    simp [go_sem, hP, hgl, hn, h4, h5, h3] <;> (try omega)

theorem pred_dn : Dn [] predT (FnT [.nat] .nat) (fun _ (n : Nat) => Nat.pred n) := dn_pred []
def oP (i : Nat) : Val × Int × Int := ofR predT (valOf .nat (if i = 2 then (1 : Nat) else (0 : Nat))) (if i = 0 then 5 else if i = 1 then 37 else 72) 1000
theorem of_pred (har : globOf gl 0 = some arEls) {i k c : Nat} (h : callS 80 (majT predT) [.num i] = some (.num k, c)) (hi : i ≤ 10) :
    Con1 Tryz.prog gl 20 [predT.dv, .sl [[dint 1, dint (i : Int), .sl [], .sl []]], dint 1000] [] (.tup [(ofR predT (valOf .nat (k : Nat)) c 1000).1.dv, dint (ofR predT (valOf .nat (k : Nat)) c 1000).2.1, dint (ofR predT (valOf .nat (k : Nat)) c 1000).2.2]) [] := by
  obtain ⟨P, G, g1, -, -, -⟩ := dn_majf pred_dn
  exact bound_of_ok har pred_dn (by decide) g1 ((i : Nat), ()) (show T.nat.maj.V from k) ⟨trivial, by unfold T.ok; decide, trivial⟩ (by simp) trivial (by unfold T.ok; decide) h 1000 (by decide) 10 (by decide) ⟨hi, trivial⟩
theorem pred_run0 : callS 80 (majT predT) [.num 0] = some (.num 0, 5) := by kernel_rfl
theorem pred_run1 : callS 80 (majT predT) [.num 1] = some (.num 0, 37) := by kernel_rfl
theorem pred_run2 : callS 80 (majT predT) [.num 2] = some (.num 1, 72) := by kernel_rfl
theorem pred_run4 : callS 80 (majT predT) [.num 4] = some (.num 3, 180) := by kernel_rfl
theorem pred_run : callS 80 predT [.num 4] = some (.num 3, 13) := by kernel_rfl
theorem oP_err : fe oP 3 = 0 := by kernel_rfl
theorem oP_tab : tabE oP 3 = [0, 0, 1] := by kernel_rfl
theorem oP_one : ofR predT (valOf .nat (3 : Nat)) 180 1000 = (Val.mk 1 3 [] [], 180, 0) := by kernel_rfl
theorem oP_with : withinR (callR predT (valOf .nat (3 : Nat)) 13 1000) (ofR predT (valOf .nat (3 : Nat)) 180 1000) = (true, 0) := by kernel_rfl
theorem pred_ty : (predT.typeE []).2 = 0 := by kernel_rfl

set_option maxRecDepth 100000 in
theorem awake34_ok (har : globOf gl 0 = some arEls) : Con1 Tryz.prog gl 6 [] [] (dbool true) [] := by
  have w1 := bound_table_ok (gl := gl) har pred_dn (by decide) oP 2 1000 (by decide) (fun i hi => by
    match i, hi with
    | 0, _ => exact of_pred har pred_run0 (by decide)
    | 1, _ => exact of_pred har pred_run1 (by decide)
    | 2, _ => exact of_pred har pred_run2 (by decide)
    | i + 3, hi => omega) (fun h => absurd pred_ty h)
  rw [oP_err, oP_tab] at w1
  have w1 : Con1 Tryz.prog gl 14 [predT.dv, dint 2, dint 1000] [] (.tup [.sl [[dint 0], [dint 0], [dint 1]], dint 0]) [] := w1
  have w2 := of_pred (gl := gl) har pred_run4 (by decide)
  rw [oP_one] at w2
  have w2 : Con1 Tryz.prog gl 20 [predT.dv, .sl [[dint 1, dint 4, .sl [], .sl []]], dint 1000] [] (.tup [.agg [dint 1, dint 3, .sl [], .sl []], dint 180, dint 0]) [] := w2
  obtain ⟨P, G, g1, -, -, -⟩ := dn_majf pred_dn
  have w3 := bound_within_ok (gl := gl) har pred_dn (by decide) g1 ((4 : Nat), ()) (show T.nat.V from (3 : Nat)) (show T.nat.maj.V from (3 : Nat)) (by kernel_rfl) ⟨trivial, by unfold T.ok; decide, trivial⟩ (by simp) trivial (by unfold T.ok; decide) pred_run pred_run4 1000 (by decide) ⟨by show ((4 : Nat) : Int) ≤ 1000000; decide, trivial⟩
  have e3 : withinR (callR predT (valOf .nat (show T.nat.V from (3 : Nat))) 13 (1000 : Nat)) (ofR predT (valOf T.nat.maj (show T.nat.maj.V from (3 : Nat))) 180 (1000 : Nat)) = (true, 0) := oP_with
  rw [e3] at w3
  have w3 : Con1 Tryz.prog gl 10 [predT.dv, .sl [[dint 1, dint 4, .sl [], .sl []]], dint 1000] [] (.tup [dbool true, dint 0]) [] := w3
  have wp := ref05_pred_ok (gl := gl)
  have hfp := Tm.fold predT
  generalize predT = t at *
  refine t_in Tryz.func6 ?_
  intro X hP hgl hf hfn hn hR hids hfit
  refine t_g0 ?_
  refine t_c2 trivial wp w1 ?_
  refine t_g0 ?_
  refine t_c2 trivial wp w2 ?_
  refine t_g0 ?_
  refine t_c2 trivial wp w3 ?_
  refine t_g0 ?_
  refine t_r ?_
  simp [go_sem, hP, hgl, hn] <;> (try omega)

end Go.Proofs.YtcldnfbcbkaanaaGreatDoor.Lift

namespace Go.Proofs.YtcldnfbcbkaanaaGreatDoor.Lift
set_option linter.unusedSimpArgs false
set_option linter.unusedVariables false
set_option linter.unnecessarySimpa false
open Go
variable {gl : Globs}

theorem allRun_split {ev : Ev6} {e : List MV} {x : Tm} {rest : List Tm} : ∀ (done : List Tm) {u : Int} {r : List MV × Int × Bool} {vs : List MV} {uk : Int}, allRun ev (done ++ x :: rest) e u = some r → allRun ev done e u = some (vs, uk, false) →
    ∃ v u1 o, ev x e uk = some (v, u1, o) ∧ (o = true → r.2.1 = u1 ∧ r.2.2 = true) ∧ (o = false → allRun ev (done ++ [x]) e u = some (vs ++ [v], u1, false))
  | [], u, r, vs, uk, h, hd => by
    simp only [allRun, Option.some.injEq, Prod.mk.injEq] at hd
    obtain ⟨rfl, rfl, -⟩ := hd
    simp only [List.nil_append, allRun] at h ⊢
    split at h
    · cases h
    · rename_i v1 u1 h1
      obtain rfl := Option.some.inj h
      exact ⟨v1, u1, true, h1, fun _ => ⟨rfl, rfl⟩, fun h => by cases h⟩
    · rename_i v1 u1 h1
      exact ⟨v1, u1, false, h1, fun h => (by cases h), fun _ => (by simp only [h1])⟩
  | t :: done, u, r, vs, uk, h, hd => by
    simp only [List.cons_append, allRun] at h hd ⊢
    split at hd
    · cases hd
    · simp at hd
    · rename_i v1 u1 h1
      simp only [h1] at h ⊢
      split at hd
      · cases hd
      · rename_i vs2 u2 o2 h2
        simp only [Option.some.injEq, Prod.mk.injEq] at hd
        obtain ⟨rfl, rfl, rfl⟩ := hd
        split at h
        · cases h
        · rename_i vs3 u3 o3 h3
          obtain ⟨v, u4, o4, g1, g2, g3⟩ := allRun_split done h3 h2
          obtain rfl := Option.some.inj h
          exact ⟨v, u4, o4, g1, g2, fun h => by simp only [g3 h]; rfl⟩
def vsD (ev : Ev6) (e : List MV) (u : Int) (l : List Tm) : List MV := ((allRun ev l e u).getD ([], 0, false)).1
def ukD (ev : Ev6) (e : List MV) (u : Int) (l : List Tm) : Int := ((allRun ev l e u).getD ([], 0, false)).2.1
theorem allD {ev : Ev6} {e : List MV} {u : Int} {l : List Tm} (h : ∃ vs uk, allRun ev l e u = some (vs, uk, false)) : allRun ev l e u = some (vsD ev e u l, ukD ev e u l, false) := by
  obtain ⟨vs, uk, h⟩ := h
  simp only [vsD, ukD, h, Option.getD_some]
theorem allRun_len {ev : Ev6} {e : List MV} : ∀ {l : List Tm} {u : Int} {vs : List MV} {uk : Int}, allRun ev l e u = some (vs, uk, false) → vs.length = l.length
  | [], u, vs, uk, h => by
    simp only [allRun, Option.some.injEq, Prod.mk.injEq] at h
    obtain ⟨rfl, -, -⟩ := h
    rfl
  | t :: l, u, vs, uk, h => by
    simp only [allRun] at h
    split at h
    · cases h
    · simp at h
    · rename_i v1 u1 h1
      split at h
      · cases h
      · rename_i vs2 u2 o2 h2
        simp only [Option.some.injEq, Prod.mk.injEq] at h
        obtain ⟨rfl, rfl, rfl⟩ := h
        simp [allRun_len h2]
theorem vsD_nil (ev : Ev6) (e : List MV) (u : Int) : vsD ev e u [] = [] := rfl
theorem ukD_nil (ev : Ev6) (e : List MV) (u : Int) : ukD ev e u [] = u := rfl
theorem num_dv (n : Nat) : (MV.num n).dv = .agg [dint (n : Int), .sl [], .sl [], dint 0, dint 0, dint 0, .sl [], .sl [], .sl []] := by rw [MV.dv, MV.cells]
theorem list_dv (l : List Nat) : (MV.list l).dv = .agg [dint 0, .sl (ints (l.map Int.ofNat)), .sl [], dint 0, dint 0, dint 0, .sl [], .sl [], .sl []] := by rw [MV.dv, MV.cells]
theorem both_dv (a b : MV) : (MV.both a b).dv = .agg [dint 0, .sl [], .sl [a.cells, b.cells], dint 0, dint 0, dint 0, .sl [], .sl [], .sl []] := by rw [MV.dv, MV.cells]
theorem unit_dv : MV.unit.dv = .agg [dint 0, .sl [], .sl [], dint 0, dint 0, dint 0, .sl [], .sl [], .sl []] := by rw [MV.dv, MV.cells]
theorem clo_dv (b : Tm) (e : List MV) : (MV.clo b e).dv = .agg [dint 0, .sl [], .sl [], dint b.kind, dint b.index, dint b.type.kind, .sl (List.map Ty.cells b.type.args), .sl (List.map Tm.cells b.args), .sl (e.reverse.map MV.cells)] := by rw [MV.dv, MV.cells, MV.cellss_map, List.map_reverse]
theorem zero_dv : zeroM.dv = .agg [dint 0, .sl [], .sl [], dint 0, dint 0, dint 0, .sl [], .sl [], .sl []] := by rw [zeroM, num_dv]; rfl
end Go.Proofs.YtcldnfbcbkaanaaGreatDoor.Lift

/-
  Part V of the small logic: a slice literal that is one's own (it may be appended to).
-/
namespace Go.Proofs.YtcldnfbcbkaanaaGreatDoor.Lift
set_option linter.unusedSimpArgs false
set_option linter.unusedVariables false
set_option linter.unnecessarySimpa false
open Go
section
variable {X : Ctx} {s : St}

theorem step_litO {o : Oper} {t len E B : Nat} {parts : Array (Nat × Operand)} (ho : o.op = .buildSlice t len parts) {d : Nat} (hd : o.dst = some d) (hn : d < X.n) (hd0 : d ≠ 0) (hf : freshT d s = true) (he : elemZ X.P t = some (E, B)) {els : List (List DV)}
    (h : litEls X (get s) E 0 parts.toList = some els) (hc : els.length = len ∧ len * E ≤ 16777216 ∧ len ≤ BIG) : StepOK X s o (upd (upd (del s (.tok 0)) (.slot d) (.one (.own d els))) (.tok d) (.tk E len)) := by
  intro G a w R next Q hK
  obtain ⟨c, e, h1, h2, h3⟩ := buildSlice_run R he h hc.1 hc.2.1 hc.2.2
  refine opIn (by intro c e; rw [ho] at e; cases e) ?_
  simp only [execOp, ho, Sem.run_bind, h1, Result.andThen_ok, Sem.run_pure, upn_value, hd]
  have hτ0 : (setτ G (withData G.D w.heap.size 0 (len * E)) d (some ⟨w.heap.size, 0, none⟩, len)).τ 0 = (none, 0) := by simp only [setτ, if_neg (Ne.symm hd0)]; exact R.nil
  have T : Trans X G a w (setτ G (withData G.D w.heap.size 0 (len * E)) d (some ⟨w.heap.size, 0, none⟩, len)) a (w.alloc (.cells c e)) (fun _ => False) := trans_data R (hi := len * E) (by omega) rfl hτ0
  refine hK (setτ G (withData G.D w.heap.size 0 (len * E)) d (some ⟨w.heap.size, 0, none⟩, len)) _ _ (R.ownNew (t := 0) hn hf T rfl (fun k hk => by simp [setτ, hk]) (fun b h => h.elim) ?_ ?_ (fun b hb => ?_))
  · simp only [RSV, setτ, if_true]
    rw [← hc.1] at h3 ⊢
    exact ⟨rfl, h3⟩
  · simp only [TokAt, setτ, if_true]
    exact ⟨Nat.le_refl _, fun h => absurd h (Nat.lt_irrefl _)⟩
  · simp [tokBlk, setτ] at hb

theorem vcdC_litO {ops : Array Oper} {s0 : St} {K : St → Prop} {l : List Oper} {k : St → List Ev → Prop} {ev : List Ev} {fp wr : List Loc} {d : Tmp} {t len : Nat} {parts : Array (Nat × Operand)} {ty : TypeId} {pos : String} {af : Array Edge} {q : Option (Prop × St)} {E B : Nat} {els : List (List DV)}
    (hk : ∀ s ev, k s ev → VD X ops s0 l s ev K) (he : elemZ X.P t = some (E, B)) (h : litEls X (get (restr s fp)) E 0 parts.toList = some els) (hc : els.length = len ∧ len * E ≤ 16777216 ∧ len ≤ BIG) (hn : d < X.n) (hd0 : d ≠ 0) (hq : q = none)
    (g : vcdD k ev s fp [d] [(.tok 0, none), (.slot d, some (.one (.own d els))), (.tok d, some (.tk E len))]) :
    vcdC X ops s0 l K k ⟨some d, .buildSlice t len parts, ty, pos, af, none⟩ ev s fp wr q := by
  subst hq
  show VD X ops s0 _ s ev K
  refine VD_step ⟨fp, _, [d]⟩ (fun s' hs hfr => opOK_of (.inl rfl) ?_) (hk _ _ g)
  have hf := fresh_iff (hfr d (by simp))
  exact step_litO (o := ⟨some d, .buildSlice t len parts, ty, pos, af, none⟩) rfl rfl hn hd0 hf.2 he (litEls_mono hs h) hc
end
end Go.Proofs.YtcldnfbcbkaanaaGreatDoor.Lift

namespace Go.Proofs.YtcldnfbcbkaanaaGreatDoor.Lift
set_option linter.unusedSimpArgs false
set_option linter.unusedVariables false
set_option linter.unnecessarySimpa false
open Go
variable {gl : Globs}

theorem rev_at {α : Type} {e : List α} {i : Nat} {x : α} (h : e[i]? = some x) : e.reverse[e.length - 1 - i]? = some x := by
  have hi := (List.getElem?_eq_some_iff.1 h).1
  rw [List.getElem?_reverse (by omega), ← h]
  congr 1
  omega

set_option maxHeartbeats 4000000 in
set_option maxRecDepth 100000 in
theorem eval6_step {most : Int} (hm : most ≤ 1073741824) {d : Nat} (H : Walk6 Tryz.prog gl 34 most (ev6 most d)) : Walk6 Tryz.prog gl 34 most (ev6 most (d + 1)) := fun t e u v u' o b M h hu0 hu hM hMb he hel => by
  have B := @ev6_bd most d
  rw [ev6] at h
  have hft := Tm.fold t
  have hlen : e.reverse.length = e.length := List.length_reverse
  unfold mach6
  refine t_in Tryz.func34 ?_
  intro X hP hgl hf hfn hn hR hids hfit
  have hlt := Tm.fit_len (hfit t.dv (by simp))
  by_cases hum : u = most
  · rw [if_pos hum] at h
    simp only [Option.some.injEq, Prod.mk.injEq] at h
    obtain ⟨rfl, rfl, rfl⟩ := h
    subst hum
    refine t_g0 ?_
    repeat (first | refine W_seq ?_ | refine W_skip ?_ | refine W_block ?_ | refine W_inBlock ?_ | refine W_label ?_ | refine W_exit rfl ?_)
    first | refine W_retR hP hf hfn _ ([(b, [dint u, dint u, dbool true])]) (by first | (simp [go_sem, hP, hgl, hn, zero_dv]; done) | (simp [go_sem, hP, hgl, hn, zero_dv]; rfl)) (by simp [go_sem, hP, hgl, hn, zero_dv]) (by simp) ?_ hR.2 | refine W_endR hP hf hfn _ ([(b, [dint u, dint u, dbool true])]) (by first | (simp [go_sem, hP, hgl, hn, zero_dv]; done) | (simp [go_sem, hP, hgl, hn, zero_dv]; rfl)) (by simp [go_sem, hP, hgl, hn, zero_dv]) (by simp) ?_ hR.2
    rw [hR.1]
    refine ⟨?_, by simp [zero_dv]⟩
    try simp [zero_dv]
    try all_goals (simp [Ty.dv, Ty.cells_eq, Ty.kind_mk, Ty.args_mk, Tm.dv, Tm.cells_eq, Tm.kind_mk, Tm.index_mk, Tm.type_mk, Tm.args_mk, Val.dv, Val.cells_eq, Val.kind_mk, Val.num_mk, Val.list_mk, Val.args_mk, ints])
  rw [if_neg hum] at h
  by_cases h1 : t.kind = 1
  · rw [if_pos h1] at h
    split at h
    · rename_i hi0
      split at h
      · rename_i v1 hv
        simp only [Option.some.injEq, Prod.mk.injEq] at h
        obtain ⟨rfl, rfl, rfl⟩ := h
        have hgv := rev_at hv
        have hl1 := (List.getElem?_eq_some_iff.1 hv).1
        generalize e.reverse = r at *
        have hix : (e.length : Int) - 1 - t.index = ((e.length - 1 - t.index.toNat : Nat) : Int) := by omega
        refine t_g (j2 @hum (j2 @h1 (j2 @hlen (j2 @hix @hgv)))) ?_
        repeat (first | refine W_seq ?_ | refine W_skip ?_ | refine W_block ?_ | refine W_inBlock ?_ | refine W_label ?_ | refine W_exit rfl ?_)
        first | refine W_retR hP hf hfn _ ([(b, [dint (u + 1), dint most, dbool false])]) (by first | (simp [go_sem, hP, hgl, hn]; done) | (simp [go_sem, hP, hgl, hn]; rfl)) (by simp [go_sem, hP, hgl, hn]) (by simp) ?_ hR.2 | refine W_endR hP hf hfn _ ([(b, [dint (u + 1), dint most, dbool false])]) (by first | (simp [go_sem, hP, hgl, hn]; done) | (simp [go_sem, hP, hgl, hn]; rfl)) (by simp [go_sem, hP, hgl, hn]) (by simp) ?_ hR.2
        rw [hR.1]
        refine ⟨?_, by simp⟩
        try simp
        try all_goals (simp [Ty.dv, Ty.cells_eq, Ty.kind_mk, Ty.args_mk, Tm.dv, Tm.cells_eq, Tm.kind_mk, Tm.index_mk, Tm.type_mk, Tm.args_mk, Val.dv, Val.cells_eq, Val.kind_mk, Val.num_mk, Val.list_mk, Val.args_mk, ints])
      · cases h
    · cases h
  rw [if_neg h1] at h
  by_cases h2 : t.kind = 2
  · rw [if_pos h2] at h
    split at h
    · rename_i body r hargs
      simp only [Option.some.injEq, Prod.mk.injEq] at h
      obtain ⟨rfl, rfl, rfl⟩ := h
      have hg0 : t.args[0]? = some body := by rw [hargs]; rfl
      refine t_g (j2 @hum (j2 @h1 (j2 @h2 @hg0))) ?_
      repeat (first | refine W_seq ?_ | refine W_skip ?_ | refine W_block ?_ | refine W_inBlock ?_ | refine W_label ?_ | refine W_exit rfl ?_)
      first | refine W_retR hP hf hfn _ ([(b, [dint (u + 1), dint most, dbool false])]) (by first | (simp [go_sem, hP, hgl, hn, clo_dv]; done) | (simp [go_sem, hP, hgl, hn, clo_dv]; rfl)) (by simp [go_sem, hP, hgl, hn, clo_dv]) (by simp) ?_ hR.2 | refine W_endR hP hf hfn _ ([(b, [dint (u + 1), dint most, dbool false])]) (by first | (simp [go_sem, hP, hgl, hn, clo_dv]; done) | (simp [go_sem, hP, hgl, hn, clo_dv]; rfl)) (by simp [go_sem, hP, hgl, hn, clo_dv]) (by simp) ?_ hR.2
      rw [hR.1]
      refine ⟨?_, by simp [clo_dv]⟩
      try simp [clo_dv]
      try all_goals (simp [Ty.dv, Ty.cells_eq, Ty.kind_mk, Ty.args_mk, Tm.dv, Tm.cells_eq, Tm.kind_mk, Tm.index_mk, Tm.type_mk, Tm.args_mk, Val.dv, Val.cells_eq, Val.kind_mk, Val.num_mk, Val.list_mk, Val.args_mk, ints])
    · cases h
  rw [if_neg h2] at h
  obtain ⟨r, hall⟩ : ∃ r, allRun (ev6 most d) t.args e (u + 1) = some r := by
    cases hq : allRun (ev6 most d) t.args e (u + 1) with
    | none => rw [hq] at h; cases h
    | some r => exact ⟨r, rfl⟩
  rw [hall] at h
  obtain ⟨el, hela⟩ : ∃ el, el = e.reverse := ⟨_, rfl⟩
  refine t_g (j2 @hum (j2 @h1 @h2)) ?_
  refine t_a ?_
  refine t_sub [(1007, 0)] (j2 @vsD_nil @ukD_nil) (W_listI (t.args) (fun done => (∃ vs uk, allRun (ev6 most d) done e (u + 1) = some (vs, uk, false))) (fun done rest => [(.slot 66, .one (.v (dint done.length))), (.slot 65, .one (.v (dint t.args.length))), (.slot 64, .one (.v (.sl (t.args.map Tm.cells)))), (.slot 0, .one (.v (ptr b))), (.slot 2, .one (.v (.sl (e.reverse.map MV.cells)))), (.slot 4, .one (.loc 4 0)), (.loc 4, .row ([.v (dint t.kind), .v (dint t.index), .v (dint t.type.kind), .v (.sl (t.type.args.map Ty.cells)), .v (.sl (t.args.map Tm.cells))])), (.slot 6, .one (.loc 6 0)), (.loc 6, .row ([.v (dint 0), .own 0 [], .own 0 [], .v (dint 0), .v (dint 0), .v (dint 0), .own 0 [], .own 0 [], .own 0 []])), (.slot 7, .one (.own 1007 ((vsD (ev6 most d) e (u + 1) done).map MV.cells))), (.tok 1007, .tk 9 (vsD (ev6 most d) e (u + 1) done).length), (.heap  b, .row ([.v (dint (ukD (ev6 most d) e (u + 1) done)), .v (dint most), .v (dbool false)]))]) (⟨[], u + 1, rfl⟩) ?_ ?_)
  · intro done x rest hL hg0 hI hnext
    have hlt1 : done.length < t.args.length := by rw [hL]; simp
    have hd := allD hI
    rw [hL] at hall
    obtain ⟨v1, u1, o1, g1, g2, g3⟩ := allRun_split done hall hd
    obtain ⟨b1, b2, b3⟩ := allRun_bd B done hd (by omega) hM he hel
    have hlv := allRun_len hd
    have w := H b M g1 (by omega) b2 hM (by omega) he hel
    unfold mach6 at w
    have hfx := Tm.fold x
    refine t_rg0 ?_
    refine t_yes ?_
    refine t_g @hg0 ?_
    cases o1 with
    | true =>
      obtain ⟨k1, k2⟩ := g2 rfl
      obtain ⟨rv, ru, ro⟩ := r
      simp only at k1 k2
      subst k1 k2
      simp only [Option.some.injEq, Prod.mk.injEq] at h
      obtain ⟨rfl, rfl, rfl⟩ := h
      refine t_c1 (j2 @hg0 @hfx) w ?_
      refine t_g0 ?_
      repeat (first | refine W_seq ?_ | refine W_skip ?_ | refine W_block ?_ | refine W_inBlock ?_ | refine W_label ?_ | refine W_exit rfl ?_)
      first | refine W_retR hP hf hfn _ ([(b, [dint ru, dint most, dbool true])]) (by first | (simp [go_sem, hP, hgl, hn, zero_dv]; done) | (simp [go_sem, hP, hgl, hn, zero_dv]; rfl)) (by simp [go_sem, hP, hgl, hn, zero_dv]) (by simp) ?_ hR.2 | refine W_endR hP hf hfn _ ([(b, [dint ru, dint most, dbool true])]) (by first | (simp [go_sem, hP, hgl, hn, zero_dv]; done) | (simp [go_sem, hP, hgl, hn, zero_dv]; rfl)) (by simp [go_sem, hP, hgl, hn, zero_dv]) (by simp) ?_ hR.2
      rw [hR.1]
      refine ⟨?_, by simp [zero_dv]⟩
      try simp [zero_dv]
      try all_goals (simp [Ty.dv, Ty.cells_eq, Ty.kind_mk, Ty.args_mk, Tm.dv, Tm.cells_eq, Tm.kind_mk, Tm.index_mk, Tm.type_mk, Tm.args_mk, Val.dv, Val.cells_eq, Val.kind_mk, Val.num_mk, Val.list_mk, Val.args_mk, ints])
    | false =>
      have g3 := g3 rfl
      have e1 : vsD (ev6 most d) e (u + 1) (done ++ [x]) = vsD (ev6 most d) e (u + 1) done ++ [v1] := by simp only [vsD, g3, Option.getD_some]
      have e2 : ukD (ev6 most d) e (u + 1) (done ++ [x]) = u1 := by simp only [ukD, g3, Option.getD_some]
      have hv1 := MV.cells_eq v1
      refine t_c1 (j2 @hg0 @hfx) w ?_
      refine t_gt (wr [(1007, 76)]) (j2 @e1 (j2 @e2 (j2 @hlv @hv1))) @hlv (hnext ⟨_, _, g3⟩)
  · intro hI
    have hd := allD hI
    rw [hd] at hall
    obtain rfl := Option.some.inj hall
    simp only at h
    obtain ⟨b1, b2, b3⟩ := allRun_bd B _ hd (by omega) hM he hel
    have hll := allRun_len hd
    clear hall hI
    clear hd
    generalize vsD (ev6 most d) e (u + 1) t.args = l at *
    generalize ukD (ev6 most d) e (u + 1) t.args = u1 at *
    obtain ⟨M2, hM2⟩ : ∃ M2, M2 = M + (u1 - (u + 1)) := ⟨_, rfl⟩
    rw [← hM2] at b3
    have hM20 : 0 ≤ M2 := by omega
    have hM2b : M2 + (most - u1) ≤ 1073741824 := by omega
    unfold nodeRun at h
    refine t_rg0 ?_
    refine t_no ?_
    by_cases h3 : t.kind = 3
    · rw [if_pos h3] at h
      split at h
      · rename_i f x
        simp only [MV.les] at b3
        have w := call6_ok hm H b M2 h (by omega) b2 hM20 hM2b b3.1 b3.2.1
        unfold mach6 at w
        refine t_g @h3 ?_
        refine t_c1 @h3 w ?_
        repeat (first | refine W_seq ?_ | refine W_skip ?_ | refine W_block ?_ | refine W_inBlock ?_ | refine W_label ?_ | refine W_exit rfl ?_)
        first | refine W_retR hP hf hfn _ ([(b, [dint u', dint most, dbool o])]) (by first | (simp [go_sem, hP, hgl, hn]; done) | (simp [go_sem, hP, hgl, hn]; rfl)) (by simp [go_sem, hP, hgl, hn]) (by simp) ?_ hR.2 | refine W_endR hP hf hfn _ ([(b, [dint u', dint most, dbool o])]) (by first | (simp [go_sem, hP, hgl, hn]; done) | (simp [go_sem, hP, hgl, hn]; rfl)) (by simp [go_sem, hP, hgl, hn]) (by simp) ?_ hR.2
        rw [hR.1]
        refine ⟨?_, by simp⟩
        try simp
        try all_goals (simp [Ty.dv, Ty.cells_eq, Ty.kind_mk, Ty.args_mk, Tm.dv, Tm.cells_eq, Tm.kind_mk, Tm.index_mk, Tm.type_mk, Tm.args_mk, Val.dv, Val.cells_eq, Val.kind_mk, Val.num_mk, Val.list_mk, Val.args_mk, ints])
      · cases h
    rw [if_neg h3] at h
    by_cases h4 : t.kind = 4
    · rw [if_pos h4] at h
      simp only [Option.some.injEq, Prod.mk.injEq] at h
      obtain ⟨rfl, rfl, rfl⟩ := h
      have hz : (MV.num 0).dv = _ := zero_dv
      refine t_g @h4 ?_
      repeat (first | refine W_seq ?_ | refine W_skip ?_ | refine W_block ?_ | refine W_inBlock ?_ | refine W_label ?_ | refine W_exit rfl ?_)
      first | refine W_retR hP hf hfn _ ([(b, [dint u1, dint most, dbool false])]) (by first | (simp [go_sem, hP, hgl, hn, hz]; done) | (simp [go_sem, hP, hgl, hn, hz]; rfl)) (by simp [go_sem, hP, hgl, hn, hz]) (by simp) ?_ hR.2 | refine W_endR hP hf hfn _ ([(b, [dint u1, dint most, dbool false])]) (by first | (simp [go_sem, hP, hgl, hn, hz]; done) | (simp [go_sem, hP, hgl, hn, hz]; rfl)) (by simp [go_sem, hP, hgl, hn, hz]) (by simp) ?_ hR.2
      rw [hR.1]
      refine ⟨?_, by simp [hz]⟩
      try simp [hz]
      try all_goals (simp [Ty.dv, Ty.cells_eq, Ty.kind_mk, Ty.args_mk, Tm.dv, Tm.cells_eq, Tm.kind_mk, Tm.index_mk, Tm.type_mk, Tm.args_mk, Val.dv, Val.cells_eq, Val.kind_mk, Val.num_mk, Val.list_mk, Val.args_mk, ints])
    rw [if_neg h4] at h
    by_cases h5 : t.kind = 5
    · rw [if_pos h5] at h
      split at h
      · rename_i n
        simp only [Option.some.injEq, Prod.mk.injEq] at h
        obtain ⟨rfl, rfl, rfl⟩ := h
        simp only [MV.les, MV.le] at b3
        have hz := num_dv (n + 1)
        have hq : ((n + 1 : Nat) : Int) = (n : Int) + 1 := by omega
        rw [hq] at hz
        refine t_g @h5 ?_
        repeat (first | refine W_seq ?_ | refine W_skip ?_ | refine W_block ?_ | refine W_inBlock ?_ | refine W_label ?_ | refine W_exit rfl ?_)
        first | refine W_retR hP hf hfn _ ([(b, [dint u1, dint most, dbool false])]) (by first | (simp [go_sem, hP, hgl, hn, hz]; done) | (simp [go_sem, hP, hgl, hn, hz]; rfl)) (by simp [go_sem, hP, hgl, hn, hz]) (by simp) ?_ hR.2 | refine W_endR hP hf hfn _ ([(b, [dint u1, dint most, dbool false])]) (by first | (simp [go_sem, hP, hgl, hn, hz]; done) | (simp [go_sem, hP, hgl, hn, hz]; rfl)) (by simp [go_sem, hP, hgl, hn, hz]) (by simp) ?_ hR.2
        rw [hR.1]
        refine ⟨?_, by simp [hz]⟩
        try simp [hz]
        try all_goals (simp [Ty.dv, Ty.cells_eq, Ty.kind_mk, Ty.args_mk, Tm.dv, Tm.cells_eq, Tm.kind_mk, Tm.index_mk, Tm.type_mk, Tm.args_mk, Val.dv, Val.cells_eq, Val.kind_mk, Val.num_mk, Val.list_mk, Val.args_mk, ints])
      · cases h
    rw [if_neg h5] at h
    by_cases h6 : t.kind = 6
    · rw [if_pos h6] at h
      split at h
      · rename_i b0 f n
        simp only [MV.les] at b3
        obtain ⟨c1, c2, c3, -⟩ := b3
        simp only [MV.le] at c3
        have hq1 := MV.numF_num n
        have hc1 := MV.cells_eq f
        have hf1 := MV.fold f
        generalize hnn : MV.num n = nn at *
        refine t_g @h6 ?_
        refine t_a ?_
        refine t_sub [] trivial (W_rounds (fun x : Nat × MV × Int × Bool => x.1 ≤ n ∧ u1 ≤ x.2.2.1 ∧ x.2.2.1 ≤ most ∧ x.2.1.le (M2 + (x.2.2.1 - u1)) ∧ (x.2.2.2 = false → recRun (ev6 most d) f (n - x.1) x.1 x.2.1 x.2.2.1 = some (v, u', o)) ∧ (x.2.2.2 = true → v = x.2.1 ∧ u' = x.2.2.1 ∧ o = true)) (fun x : Nat × MV × Int × Bool => [(.slot 0, .one (.v (ptr b))), (.slot 6, .one (.loc 6 0)), (.loc 6, .row ([.v (dint 0), .own 0 [], .own 0 [], .v (dint 0), .v (dint 0), .v (dint 0), .own 0 [], .own 0 [], .own 0 []])), (.slot 7, .one (.v (.sl [b0.cells, f.cells, nn.cells]))), (.slot 10, .one (.loc 10 0)), (.loc 10, .row ([.v (dint x.2.1.numF), .v (.sl (ints x.2.1.listF)), .v (.sl (x.2.1.pairF.map MV.cells)), .v (dint x.2.1.bodyF.kind), .v (dint x.2.1.bodyF.index), .v (dint x.2.1.bodyF.type.kind), .v (.sl (x.2.1.bodyF.type.args.map Ty.cells)), .v (.sl (x.2.1.bodyF.args.map Tm.cells)), .v (.sl (x.2.1.envF.map MV.cells))])), (.slot 11, .one (.v (dint x.1))), (.heap  b, .row ([.v (dint x.2.2.1), .v (dint most), .v (dbool x.2.2.2)]))]) (fun x : Nat × MV × Int × Bool => n - x.1) (0, b0, u1, false) (⟨Nat.zero_le _, Int.le_refl u1, b2, MV.le_mono (by show M2 ≤ M2 + (u1 - u1); omega) c1, fun _ => h, fun h => (by cases h)⟩) ?_)
        rintro ⟨k, r, uk, ok⟩ ⟨i1, i2, i3, i4, i5, i6⟩ ih
        simp only at i1 i2 i3 i4 i5 i6
        have hr1 := MV.fold r
        cases ok with
        | true =>
          obtain ⟨rfl, rfl, rfl⟩ := i6 rfl
          by_cases hk : (k : Int) < n
          · refine t_g (j2 @hk @hq1) ?_
            repeat (first | refine W_seq ?_ | refine W_skip ?_ | refine W_block ?_ | refine W_inBlock ?_ | refine W_label ?_ | refine W_exit rfl ?_)
            first | refine W_retR hP hf hfn _ ([(b, [dint u', dint most, dbool true])]) (by first | (simp [go_sem, hP, hgl, hn]; done) | (simp [go_sem, hP, hgl, hn]; rfl)) (by simp [go_sem, hP, hgl, hn]) (by simp) ?_ hR.2 | refine W_endR hP hf hfn _ ([(b, [dint u', dint most, dbool true])]) (by first | (simp [go_sem, hP, hgl, hn]; done) | (simp [go_sem, hP, hgl, hn]; rfl)) (by simp [go_sem, hP, hgl, hn]) (by simp) ?_ hR.2
            rw [hR.1]
            refine ⟨?_, by simp⟩
            try simp
            try all_goals (simp [Ty.dv, Ty.cells_eq, Ty.kind_mk, Ty.args_mk, Tm.dv, Tm.cells_eq, Tm.kind_mk, Tm.index_mk, Tm.type_mk, Tm.args_mk, Val.dv, Val.cells_eq, Val.kind_mk, Val.num_mk, Val.list_mk, Val.args_mk, ints])
          · refine t_g (j2 @hk @hq1) ?_
            repeat (first | refine W_seq ?_ | refine W_skip ?_ | refine W_block ?_ | refine W_inBlock ?_ | refine W_label ?_ | refine W_exit rfl ?_)
            first | refine W_retR hP hf hfn _ ([(b, [dint u', dint most, dbool true])]) (by first | (simp [go_sem, hP, hgl, hn]; done) | (simp [go_sem, hP, hgl, hn]; rfl)) (by simp [go_sem, hP, hgl, hn]) (by simp) ?_ hR.2 | refine W_endR hP hf hfn _ ([(b, [dint u', dint most, dbool true])]) (by first | (simp [go_sem, hP, hgl, hn]; done) | (simp [go_sem, hP, hgl, hn]; rfl)) (by simp [go_sem, hP, hgl, hn]) (by simp) ?_ hR.2
            rw [hR.1]
            refine ⟨?_, by simp⟩
            try simp
            try all_goals (simp [Ty.dv, Ty.cells_eq, Ty.kind_mk, Ty.args_mk, Tm.dv, Tm.cells_eq, Tm.kind_mk, Tm.index_mk, Tm.type_mk, Tm.args_mk, Val.dv, Val.cells_eq, Val.kind_mk, Val.num_mk, Val.list_mk, Val.args_mk, ints])
        | false =>
          have i5 := i5 rfl
          by_cases hk : (k : Int) < n
          rotate_left
          · have hk0 : n - k = 0 := by omega
            rw [hk0] at i5
            simp only [recRun, Option.some.injEq, Prod.mk.injEq] at i5
            obtain ⟨rfl, rfl, rfl⟩ := i5
            refine t_g (j2 @hk @hq1) ?_
            repeat (first | refine W_seq ?_ | refine W_skip ?_ | refine W_block ?_ | refine W_inBlock ?_ | refine W_label ?_ | refine W_exit rfl ?_)
            first | refine W_retR hP hf hfn _ ([(b, [dint uk, dint most, dbool false])]) (by first | (simp [go_sem, hP, hgl, hn]; done) | (simp [go_sem, hP, hgl, hn]; rfl)) (by simp [go_sem, hP, hgl, hn]) (by simp) ?_ hR.2 | refine W_endR hP hf hfn _ ([(b, [dint uk, dint most, dbool false])]) (by first | (simp [go_sem, hP, hgl, hn]; done) | (simp [go_sem, hP, hgl, hn]; rfl)) (by simp [go_sem, hP, hgl, hn]) (by simp) ?_ hR.2
            rw [hR.1]
            refine ⟨?_, by simp⟩
            try simp
            try all_goals (simp [Ty.dv, Ty.cells_eq, Ty.kind_mk, Ty.args_mk, Tm.dv, Tm.cells_eq, Tm.kind_mk, Tm.index_mk, Tm.type_mk, Tm.args_mk, Val.dv, Val.cells_eq, Val.kind_mk, Val.num_mk, Val.list_mk, Val.args_mk, ints])
          · have hk0 : n - k = (n - (k + 1)) + 1 := by omega
            rw [hk0] at i5
            simp only [recRun] at i5
            have hk1 : ((k + 1 : Nat) : Int) = (k : Int) + 1 := by omega
            split at i5
            · cases i5
            · rename_i g u2 g1
              have w := call6_ok (gl := gl) hm H b (M2 + (uk - u1)) g1 (by omega) i3 (by omega) (by omega) (MV.le_mono (by omega) c2) (by simp only [MV.le]; omega)
              obtain ⟨d1, d2, d3⟩ := callRun_bd B g1 i3 (M := M2 + (uk - u1)) (by omega) (MV.le_mono (by omega) c2) (by simp only [MV.le]; omega)
              simp only [Option.some.injEq, Prod.mk.injEq] at i5
              obtain ⟨rfl, rfl, rfl⟩ := i5
              unfold mach6 at w
              have hkd := num_dv k
              refine t_g (j2 @hk @hq1) ?_
              refine t_c1 (j2 @hkd @hf1) w ?_
              refine t_gt (wr []) @hk1 trivial (ih (k + 1, r, u2, true) ⟨by show k + 1 ≤ n; omega, by show u1 ≤ u2; omega, d2, MV.le_mono (by show _ ≤ M2 + (u2 - u1); omega) i4, fun h => (by cases h), fun _ => ⟨rfl, rfl, rfl⟩⟩ (by show n - (k + 1) < n - k; omega))
            · rename_i g u2 g1
              have w := call6_ok (gl := gl) hm H b (M2 + (uk - u1)) g1 (by omega) i3 (by omega) (by omega) (MV.le_mono (by omega) c2) (by simp only [MV.le]; omega)
              obtain ⟨d1, d2, d3⟩ := callRun_bd B g1 i3 (M := M2 + (uk - u1)) (by omega) (MV.le_mono (by omega) c2) (by simp only [MV.le]; omega)
              have hg1 := MV.fold g
              have hkd := num_dv k
              split at i5
              · cases i5
              · rename_i r2 u3 g2
                have w2 := call6_ok (gl := gl) hm H b (M2 + (u2 - u1)) g2 (by omega) d2 (by omega) (by omega) (MV.le_mono (by omega) d3) (MV.le_mono (by omega) i4)
                obtain ⟨d4, d5, d6⟩ := callRun_bd B g2 d2 (M := M2 + (u2 - u1)) (by omega) (MV.le_mono (by omega) d3) (MV.le_mono (by omega) i4)
                simp only [Option.some.injEq, Prod.mk.injEq] at i5
                obtain ⟨rfl, rfl, rfl⟩ := i5
                unfold mach6 at w w2
                have hr2 := MV.cells_eq r2
                refine t_g (j2 @hk @hq1) ?_
                refine t_c1 (j2 @hkd @hf1) w ?_
                refine t_g0 ?_
                refine t_c1 (j2 @hg1 @hr1) w2 ?_
                refine t_gt (wr []) (j2 @hk1 @hr2) trivial (ih (k + 1, r2, u3, true) ⟨by show k + 1 ≤ n; omega, by show u1 ≤ u3; omega, d5, MV.le_mono (by show _ ≤ M2 + (u3 - u1); omega) d6, fun h => (by cases h), fun _ => ⟨rfl, rfl, rfl⟩⟩ (by show n - (k + 1) < n - k; omega))
              · rename_i r2 u3 g2
                have w2 := call6_ok (gl := gl) hm H b (M2 + (u2 - u1)) g2 (by omega) d2 (by omega) (by omega) (MV.le_mono (by omega) d3) (MV.le_mono (by omega) i4)
                obtain ⟨d4, d5, d6⟩ := callRun_bd B g2 d2 (M := M2 + (u2 - u1)) (by omega) (MV.le_mono (by omega) d3) (MV.le_mono (by omega) i4)
                unfold mach6 at w w2
                have hr2 := MV.cells_eq r2
                refine t_g (j2 @hk @hq1) ?_
                refine t_c1 (j2 @hkd @hf1) w ?_
                refine t_g0 ?_
                refine t_c1 (j2 @hg1 @hr1) w2 ?_
                refine t_gt (wr []) (j2 @hk1 @hr2) trivial (ih (k + 1, r2, u3, false) ⟨by show k + 1 ≤ n; omega, by show u1 ≤ u3; omega, d5, MV.le_mono (by show _ ≤ M2 + (u3 - u1); omega) d6, fun _ => i5, fun h => (by cases h)⟩ (by show n - (k + 1) < n - k; omega))
      · cases h
    rw [if_neg h6] at h
    by_cases h7 : t.kind = 7
    · rw [if_pos h7] at h
      simp only [Option.some.injEq, Prod.mk.injEq] at h
      obtain ⟨rfl, rfl, rfl⟩ := h
      have hz : (MV.list []).dv = .agg [dint 0, .sl [], .sl [], dint 0, dint 0, dint 0, .sl [], .sl [], .sl []] := list_dv []
      refine t_g @h7 ?_
      repeat (first | refine W_seq ?_ | refine W_skip ?_ | refine W_block ?_ | refine W_inBlock ?_ | refine W_label ?_ | refine W_exit rfl ?_)
      first | refine W_retR hP hf hfn _ ([(b, [dint u1, dint most, dbool false])]) (by first | (simp [go_sem, hP, hgl, hn, hz]; done) | (simp [go_sem, hP, hgl, hn, hz]; rfl)) (by simp [go_sem, hP, hgl, hn, hz]) (by simp) ?_ hR.2 | refine W_endR hP hf hfn _ ([(b, [dint u1, dint most, dbool false])]) (by first | (simp [go_sem, hP, hgl, hn, hz]; done) | (simp [go_sem, hP, hgl, hn, hz]; rfl)) (by simp [go_sem, hP, hgl, hn, hz]) (by simp) ?_ hR.2
      rw [hR.1]
      refine ⟨?_, by simp [hz]⟩
      try simp [hz]
      try all_goals (simp [Ty.dv, Ty.cells_eq, Ty.kind_mk, Ty.args_mk, Tm.dv, Tm.cells_eq, Tm.kind_mk, Tm.index_mk, Tm.type_mk, Tm.args_mk, Val.dv, Val.cells_eq, Val.kind_mk, Val.num_mk, Val.list_mk, Val.args_mk, ints])
    rw [if_neg h7] at h
    by_cases h8 : t.kind = 8
    · rw [if_pos h8] at h
      split at h
      · rename_i n rl
        simp only [Option.some.injEq, Prod.mk.injEq] at h
        obtain ⟨rfl, rfl, rfl⟩ := h
        simp only [MV.les, MV.le] at b3
        have hz := list_dv (n :: rl)
        have hq : ints (List.map Int.ofNat (n :: rl)) = [dint (n : Int)] :: ints (List.map Int.ofNat rl) := rfl
        rw [hq] at hz
        have hrl := b3.2.1.1
        refine t_g @h8 ?_
        refine W_regd (by rw [hP]; exact mixed) [146] fun K hK => ?_
        simp [go_sem, hP, hgl, hn]
        refine vcdC_litO (E := 1) (els := [[dint (n : Int)]]) (fun _ _ => vcd_sound) (by simp [go_sem, hP]; rfl) (by simp [go_sem, hP, hgl, hn]) ⟨rfl, by decide, by decide⟩ (by rw [hn]; exact Nat.le_of_ble_eq_true rfl) (by decide) (by rfl) ?_
        simp [go_sem, hP, hgl, hn]
        refine t_e ?_
        clear hK K
        repeat (first | refine W_seq ?_ | refine W_skip ?_ | refine W_block ?_ | refine W_inBlock ?_ | refine W_label ?_ | refine W_exit rfl ?_)
        first | refine W_retR hP hf hfn _ ([(b, [dint u1, dint most, dbool false])]) (by first | (simp [go_sem, hP, hgl, hn, hz]; done) | (simp [go_sem, hP, hgl, hn, hz]; rfl)) (by simp [go_sem, hP, hgl, hn, hz]) (by simp) ?_ hR.2 | refine W_endR hP hf hfn _ ([(b, [dint u1, dint most, dbool false])]) (by first | (simp [go_sem, hP, hgl, hn, hz]; done) | (simp [go_sem, hP, hgl, hn, hz]; rfl)) (by simp [go_sem, hP, hgl, hn, hz]) (by simp) ?_ hR.2
        rw [hR.1]
        refine ⟨?_, by simp [hz]⟩
        try simp [hz]
        try all_goals (simp [Ty.dv, Ty.cells_eq, Ty.kind_mk, Ty.args_mk, Tm.dv, Tm.cells_eq, Tm.kind_mk, Tm.index_mk, Tm.type_mk, Tm.args_mk, Val.dv, Val.cells_eq, Val.kind_mk, Val.num_mk, Val.list_mk, Val.args_mk, ints])
      · cases h
    rw [if_neg h8] at h
    by_cases h10 : t.kind = 10
    · rw [if_neg (show ¬ t.kind = 9 by omega), if_pos h10] at h
      split at h
      · rename_i p q
        simp only [Option.some.injEq, Prod.mk.injEq] at h
        obtain ⟨rfl, rfl, rfl⟩ := h
        have hz := both_dv p q
        have hp1 := MV.cells_eq p
        have hp2 := MV.cells_eq q
        refine t_g @h10 ?_
        repeat (first | refine W_seq ?_ | refine W_skip ?_ | refine W_block ?_ | refine W_inBlock ?_ | refine W_label ?_ | refine W_exit rfl ?_)
        first | refine W_retR hP hf hfn _ ([(b, [dint u1, dint most, dbool false])]) (by first | (simp [go_sem, hP, hgl, hn, hz, hp1, hp2]; done) | (simp [go_sem, hP, hgl, hn, hz, hp1, hp2]; rfl)) (by simp [go_sem, hP, hgl, hn, hz, hp1, hp2]) (by simp) ?_ hR.2 | refine W_endR hP hf hfn _ ([(b, [dint u1, dint most, dbool false])]) (by first | (simp [go_sem, hP, hgl, hn, hz, hp1, hp2]; done) | (simp [go_sem, hP, hgl, hn, hz, hp1, hp2]; rfl)) (by simp [go_sem, hP, hgl, hn, hz, hp1, hp2]) (by simp) ?_ hR.2
        rw [hR.1]
        refine ⟨?_, by simp [hz, hp1, hp2]⟩
        try simp [hz, hp1, hp2]
        try all_goals (simp [Ty.dv, Ty.cells_eq, Ty.kind_mk, Ty.args_mk, Tm.dv, Tm.cells_eq, Tm.kind_mk, Tm.index_mk, Tm.type_mk, Tm.args_mk, Val.dv, Val.cells_eq, Val.kind_mk, Val.num_mk, Val.list_mk, Val.args_mk, ints])
      · cases h
    by_cases h11 : t.kind = 11
    · rw [if_neg (show ¬ t.kind = 9 by omega), if_neg h10, if_pos h11] at h
      split at h
      · rename_i p q
        simp only [Option.some.injEq, Prod.mk.injEq] at h
        obtain ⟨rfl, rfl, rfl⟩ := h
        have hf1 := MV.fold p
        refine t_g @h11 ?_
        repeat (first | refine W_seq ?_ | refine W_skip ?_ | refine W_block ?_ | refine W_inBlock ?_ | refine W_label ?_ | refine W_exit rfl ?_)
        first | refine W_retR hP hf hfn _ ([(b, [dint u1, dint most, dbool false])]) (by first | (simp [go_sem, hP, hgl, hn, hf1]; done) | (simp [go_sem, hP, hgl, hn, hf1]; rfl)) (by simp [go_sem, hP, hgl, hn, hf1]) (by simp) ?_ hR.2 | refine W_endR hP hf hfn _ ([(b, [dint u1, dint most, dbool false])]) (by first | (simp [go_sem, hP, hgl, hn, hf1]; done) | (simp [go_sem, hP, hgl, hn, hf1]; rfl)) (by simp [go_sem, hP, hgl, hn, hf1]) (by simp) ?_ hR.2
        rw [hR.1]
        refine ⟨?_, by simp [hf1]⟩
        try simp [hf1]
        try all_goals (simp [Ty.dv, Ty.cells_eq, Ty.kind_mk, Ty.args_mk, Tm.dv, Tm.cells_eq, Tm.kind_mk, Tm.index_mk, Tm.type_mk, Tm.args_mk, Val.dv, Val.cells_eq, Val.kind_mk, Val.num_mk, Val.list_mk, Val.args_mk, ints])
      · cases h
    by_cases h12 : t.kind = 12
    · rw [if_neg (show ¬ t.kind = 9 by omega), if_neg h10, if_neg h11, if_pos h12] at h
      split at h
      · rename_i p q
        simp only [Option.some.injEq, Prod.mk.injEq] at h
        obtain ⟨rfl, rfl, rfl⟩ := h
        have hf1 := MV.fold q
        refine t_g @h12 ?_
        repeat (first | refine W_seq ?_ | refine W_skip ?_ | refine W_block ?_ | refine W_inBlock ?_ | refine W_label ?_ | refine W_exit rfl ?_)
        first | refine W_retR hP hf hfn _ ([(b, [dint u1, dint most, dbool false])]) (by first | (simp [go_sem, hP, hgl, hn, hf1]; done) | (simp [go_sem, hP, hgl, hn, hf1]; rfl)) (by simp [go_sem, hP, hgl, hn, hf1]) (by simp) ?_ hR.2 | refine W_endR hP hf hfn _ ([(b, [dint u1, dint most, dbool false])]) (by first | (simp [go_sem, hP, hgl, hn, hf1]; done) | (simp [go_sem, hP, hgl, hn, hf1]; rfl)) (by simp [go_sem, hP, hgl, hn, hf1]) (by simp) ?_ hR.2
        rw [hR.1]
        refine ⟨?_, by simp [hf1]⟩
        try simp [hf1]
        try all_goals (simp [Ty.dv, Ty.cells_eq, Ty.kind_mk, Ty.args_mk, Tm.dv, Tm.cells_eq, Tm.kind_mk, Tm.index_mk, Tm.type_mk, Tm.args_mk, Val.dv, Val.cells_eq, Val.kind_mk, Val.num_mk, Val.list_mk, Val.args_mk, ints])
      · cases h
    by_cases h9 : t.kind = 9
    rotate_left
    · rw [if_neg h9, if_neg h10, if_neg h11, if_neg h12] at h
      simp only [Option.some.injEq, Prod.mk.injEq] at h
      obtain ⟨rfl, rfl, rfl⟩ := h
      refine t_g (j2 @h3 (j2 @h4 (j2 @h5 (j2 @h6 (j2 @h7 (j2 @h8 (j2 @h9 (j2 @h10 (j2 @h11 @h12))))))))) ?_
      repeat (first | refine W_seq ?_ | refine W_skip ?_ | refine W_block ?_ | refine W_inBlock ?_ | refine W_label ?_ | refine W_exit rfl ?_)
      first | refine W_retR hP hf hfn _ ([(b, [dint u1, dint most, dbool false])]) (by first | (simp [go_sem, hP, hgl, hn, unit_dv]; done) | (simp [go_sem, hP, hgl, hn, unit_dv]; rfl)) (by simp [go_sem, hP, hgl, hn, unit_dv]) (by simp) ?_ hR.2 | refine W_endR hP hf hfn _ ([(b, [dint u1, dint most, dbool false])]) (by first | (simp [go_sem, hP, hgl, hn, unit_dv]; done) | (simp [go_sem, hP, hgl, hn, unit_dv]; rfl)) (by simp [go_sem, hP, hgl, hn, unit_dv]) (by simp) ?_ hR.2
      rw [hR.1]
      refine ⟨?_, by simp [unit_dv]⟩
      try simp [unit_dv]
      try all_goals (simp [Ty.dv, Ty.cells_eq, Ty.kind_mk, Ty.args_mk, Tm.dv, Tm.cells_eq, Tm.kind_mk, Tm.index_mk, Tm.type_mk, Tm.args_mk, Val.dv, Val.cells_eq, Val.kind_mk, Val.num_mk, Val.list_mk, Val.args_mk, ints])
    rw [if_pos h9] at h
    split at h
    · rename_i b0 f L
      simp only [MV.les] at b3
      obtain ⟨c1, c2, c3, -⟩ := b3
      simp only [MV.le] at c3
      obtain ⟨c3, c4⟩ := c3
      have hq1 := MV.listF_list L
      have hc1 := MV.cells_eq f
      have hf1 := MV.fold f
      generalize hnn : MV.list L = nn at *
      have hL8 := c3
      refine t_g (j2 @h9 @hq1) ?_
      refine t_a ?_
      refine t_sub [] @hq1 (W_rounds (fun x : Nat × MV × Int × Bool => x.1 ≤ L.length ∧ u1 ≤ x.2.2.1 ∧ x.2.2.1 ≤ most ∧ x.2.1.le (M2 + (x.2.2.1 - u1)) ∧ (x.2.2.2 = false → foldRun (ev6 most d) f (L.take x.1).reverse (L.drop x.1) x.2.1 x.2.2.1 = some (v, u', o)) ∧ (x.2.2.2 = true → v = x.2.1 ∧ u' = x.2.2.1 ∧ o = true)) (fun x : Nat × MV × Int × Bool => [(.slot 0, .one (.v (ptr b))), (.slot 6, .one (.loc 6 0)), (.loc 6, .row ([.v (dint 0), .own 0 [], .own 0 [], .v (dint 0), .v (dint 0), .v (dint 0), .own 0 [], .own 0 [], .own 0 []])), (.slot 7, .one (.v (.sl [b0.cells, f.cells, nn.cells]))), (.slot 13, .one (.loc 13 0)), (.loc 13, .row ([.v (dint x.2.1.numF), .v (.sl (ints x.2.1.listF)), .v (.sl (x.2.1.pairF.map MV.cells)), .v (dint x.2.1.bodyF.kind), .v (dint x.2.1.bodyF.index), .v (dint x.2.1.bodyF.type.kind), .v (.sl (x.2.1.bodyF.type.args.map Ty.cells)), .v (.sl (x.2.1.bodyF.args.map Tm.cells)), .v (.sl (x.2.1.envF.map MV.cells))])), (.slot 14, .one (.v (dint ((x.1 : Int) - 1)))), (.heap  b, .row ([.v (dint x.2.2.1), .v (dint most), .v (dbool x.2.2.2)]))]) (fun x : Nat × MV × Int × Bool => x.1) (L.length, b0, u1, false) (⟨Nat.le_refl _, Int.le_refl u1, b2, MV.le_mono (by show M2 ≤ M2 + (u1 - u1); omega) c1, fun _ => by simpa using h, fun h => (by cases h)⟩) ?_)
      rintro ⟨j, r, uk, ok⟩ ⟨i1, i2, i3, i4, i5, i6⟩ ih
      simp only at i1 i2 i3 i4 i5 i6
      have hr1 := MV.fold r
      cases ok with
      | true =>
        obtain ⟨rfl, rfl, rfl⟩ := i6 rfl
        cases j with
        | zero =>
          refine t_g0 ?_
          repeat (first | refine W_seq ?_ | refine W_skip ?_ | refine W_block ?_ | refine W_inBlock ?_ | refine W_label ?_ | refine W_exit rfl ?_)
          first | refine W_retR hP hf hfn _ ([(b, [dint u', dint most, dbool true])]) (by first | (simp [go_sem, hP, hgl, hn]; done) | (simp [go_sem, hP, hgl, hn]; rfl)) (by simp [go_sem, hP, hgl, hn]) (by simp) ?_ hR.2 | refine W_endR hP hf hfn _ ([(b, [dint u', dint most, dbool true])]) (by first | (simp [go_sem, hP, hgl, hn]; done) | (simp [go_sem, hP, hgl, hn]; rfl)) (by simp [go_sem, hP, hgl, hn]) (by simp) ?_ hR.2
          rw [hR.1]
          refine ⟨?_, by simp⟩
          try simp
          try all_goals (simp [Ty.dv, Ty.cells_eq, Ty.kind_mk, Ty.args_mk, Tm.dv, Tm.cells_eq, Tm.kind_mk, Tm.index_mk, Tm.type_mk, Tm.args_mk, Val.dv, Val.cells_eq, Val.kind_mk, Val.num_mk, Val.list_mk, Val.args_mk, ints])
        | succ m =>
          have hk : (0 : Int) ≤ m := by omega
          refine t_g @hk ?_
          repeat (first | refine W_seq ?_ | refine W_skip ?_ | refine W_block ?_ | refine W_inBlock ?_ | refine W_label ?_ | refine W_exit rfl ?_)
          first | refine W_retR hP hf hfn _ ([(b, [dint u', dint most, dbool true])]) (by first | (simp [go_sem, hP, hgl, hn]; done) | (simp [go_sem, hP, hgl, hn]; rfl)) (by simp [go_sem, hP, hgl, hn]) (by simp) ?_ hR.2 | refine W_endR hP hf hfn _ ([(b, [dint u', dint most, dbool true])]) (by first | (simp [go_sem, hP, hgl, hn]; done) | (simp [go_sem, hP, hgl, hn]; rfl)) (by simp [go_sem, hP, hgl, hn]) (by simp) ?_ hR.2
          rw [hR.1]
          refine ⟨?_, by simp⟩
          try simp
          try all_goals (simp [Ty.dv, Ty.cells_eq, Ty.kind_mk, Ty.args_mk, Tm.dv, Tm.cells_eq, Tm.kind_mk, Tm.index_mk, Tm.type_mk, Tm.args_mk, Val.dv, Val.cells_eq, Val.kind_mk, Val.num_mk, Val.list_mk, Val.args_mk, ints])
      | false =>
        have i5 := i5 rfl
        cases j with
        | zero =>
          simp only [List.take_zero, List.reverse_nil, foldRun, Option.some.injEq, Prod.mk.injEq] at i5
          obtain ⟨rfl, rfl, rfl⟩ := i5
          refine t_g0 ?_
          repeat (first | refine W_seq ?_ | refine W_skip ?_ | refine W_block ?_ | refine W_inBlock ?_ | refine W_label ?_ | refine W_exit rfl ?_)
          first | refine W_retR hP hf hfn _ ([(b, [dint uk, dint most, dbool false])]) (by first | (simp [go_sem, hP, hgl, hn]; done) | (simp [go_sem, hP, hgl, hn]; rfl)) (by simp [go_sem, hP, hgl, hn]) (by simp) ?_ hR.2 | refine W_endR hP hf hfn _ ([(b, [dint uk, dint most, dbool false])]) (by first | (simp [go_sem, hP, hgl, hn]; done) | (simp [go_sem, hP, hgl, hn]; rfl)) (by simp [go_sem, hP, hgl, hn]) (by simp) ?_ hR.2
          rw [hR.1]
          refine ⟨?_, by simp⟩
          try simp
          try all_goals (simp [Ty.dv, Ty.cells_eq, Ty.kind_mk, Ty.args_mk, Tm.dv, Tm.cells_eq, Tm.kind_mk, Tm.index_mk, Tm.type_mk, Tm.args_mk, Val.dv, Val.cells_eq, Val.kind_mk, Val.num_mk, Val.list_mk, Val.args_mk, ints])
        | succ m =>
          have hk : (0 : Int) ≤ m := by omega
          obtain ⟨y, hy⟩ : ∃ y, L[m]? = some y := ⟨_, List.getElem?_eq_getElem (by omega)⟩
          have htk : L.take (m + 1) = L.take m ++ [y] := by rw [List.take_add_one, hy]; rfl
          have hdr : L.drop m = y :: L.drop (m + 1) := by
            obtain ⟨q1, q2⟩ := List.getElem?_eq_some_iff.1 hy
            rw [List.drop_eq_getElem_cons q1, q2]
          rw [htk, List.reverse_append, List.reverse_singleton, List.singleton_append] at i5
          simp only [foldRun] at i5
          rw [← hdr] at i5
          have hyM : (y : Int) ≤ M2 := c4 y (List.mem_of_getElem? hy)
          have hgy : (ints (List.map Int.ofNat L))[m]? = some [dint (y : Int)] := by
            have : (List.map Int.ofNat L)[m]? = some (y : Int) := by rw [List.getElem?_map, hy]; rfl
            exact ints_get this
          have hsl : List.drop (m + 1) (List.take L.length (ints (List.map Int.ofNat L))) = ints (List.drop (m + 1) (List.map Int.ofNat L)) := by
            rw [List.take_of_length_le (by simp [ints])]
            simp only [ints, List.map_drop]
          have hm1 : ((m + 1 : Nat) : Int) - 1 = (m : Int) := by omega
          have hm2 : ((m + 1 : Nat) : Int) - 1 - 1 = (m : Int) - 1 := by omega
          have hyd := num_dv y
          have hrd := list_dv (L.drop (m + 1))
          have hle1 : (MV.num y).le (M2 + (uk - u1)) := by simp only [MV.le]; omega
          have hrest : ∀ N : Int, M2 ≤ N → (MV.list (L.drop (m + 1))).le N := by
            intro N hN
            simp only [MV.le, List.length_drop]
            exact ⟨by omega, fun z hz => by have := c4 z (List.mem_of_mem_drop hz); omega⟩
          split at i5
          · cases i5
          · rename_i g u2 g1
            have w1 := call6_ok (gl := gl) hm H b (M2 + (uk - u1)) g1 (by omega) i3 (by omega) (by omega) (MV.le_mono (by omega) c2) hle1
            obtain ⟨d1, d2, d3⟩ := callRun_bd B g1 i3 (M := M2 + (uk - u1)) (by omega) (MV.le_mono (by omega) c2) hle1
            simp only [Option.some.injEq, Prod.mk.injEq] at i5
            obtain ⟨rfl, rfl, rfl⟩ := i5
            unfold mach6 at w1
            refine t_g (j2 @hk @hq1) ?_
            refine t_c1 (j2 @hyd (j2 @hf1 (j2 @hq1 @hgy))) w1 ?_
            refine t_gt (wr []) @hq1 trivial (ih (m, r, u2, true) ⟨by show m ≤ L.length; omega, by show u1 ≤ u2; omega, d2, MV.le_mono (by show _ ≤ M2 + (u2 - u1); omega) i4, fun h => (by cases h), fun _ => ⟨rfl, rfl, rfl⟩⟩ (by show m < m + 1; omega))
          · rename_i g u2 g1
            have w1 := call6_ok (gl := gl) hm H b (M2 + (uk - u1)) g1 (by omega) i3 (by omega) (by omega) (MV.le_mono (by omega) c2) hle1
            obtain ⟨d1, d2, d3⟩ := callRun_bd B g1 i3 (M := M2 + (uk - u1)) (by omega) (MV.le_mono (by omega) c2) hle1
            have hg1 := MV.fold g
            have hle2 := hrest (M2 + (u2 - u1)) (by omega)
            split at i5
            · cases i5
            · rename_i g' u3 g2
              have w2 := call6_ok (gl := gl) hm H b (M2 + (u2 - u1)) g2 (by omega) d2 (by omega) (by omega) (MV.le_mono (by omega) d3) hle2
              obtain ⟨d4, d5, d6⟩ := callRun_bd B g2 d2 (M := M2 + (u2 - u1)) (by omega) (MV.le_mono (by omega) d3) hle2
              simp only [Option.some.injEq, Prod.mk.injEq] at i5
              obtain ⟨rfl, rfl, rfl⟩ := i5
              unfold mach6 at w1 w2
              refine t_g (j2 @hk @hq1) ?_
              refine t_c1 (j2 @hyd (j2 @hf1 (j2 @hq1 @hgy))) w1 ?_
              refine t_g0 ?_
              refine t_c1 (j2 @hg1 (j2 @hq1 (j2 @hsl @hrd))) w2 ?_
              refine t_gt (wr []) @hq1 trivial (ih (m, r, u3, true) ⟨by show m ≤ L.length; omega, by show u1 ≤ u3; omega, d5, MV.le_mono (by show _ ≤ M2 + (u3 - u1); omega) i4, fun h => (by cases h), fun _ => ⟨rfl, rfl, rfl⟩⟩ (by show m < m + 1; omega))
            · rename_i g' u3 g2
              have w2 := call6_ok (gl := gl) hm H b (M2 + (u2 - u1)) g2 (by omega) d2 (by omega) (by omega) (MV.le_mono (by omega) d3) hle2
              obtain ⟨d4, d5, d6⟩ := callRun_bd B g2 d2 (M := M2 + (u2 - u1)) (by omega) (MV.le_mono (by omega) d3) hle2
              have hg2 := MV.fold g'
              split at i5
              · cases i5
              · rename_i r2 u4 g3
                have w3 := call6_ok (gl := gl) hm H b (M2 + (u3 - u1)) g3 (by omega) d5 (by omega) (by omega) (MV.le_mono (by omega) d6) (MV.le_mono (by omega) i4)
                obtain ⟨d7, d8, d9⟩ := callRun_bd B g3 d5 (M := M2 + (u3 - u1)) (by omega) (MV.le_mono (by omega) d6) (MV.le_mono (by omega) i4)
                simp only [Option.some.injEq, Prod.mk.injEq] at i5
                obtain ⟨rfl, rfl, rfl⟩ := i5
                have hr2 := MV.cells_eq r2
                unfold mach6 at w1 w2 w3
                refine t_g (j2 @hk @hq1) ?_
                refine t_c1 (j2 @hyd (j2 @hf1 (j2 @hq1 @hgy))) w1 ?_
                refine t_g0 ?_
                refine t_c1 (j2 @hg1 (j2 @hq1 (j2 @hsl @hrd))) w2 ?_
                refine t_g0 ?_
                refine t_c1 (j2 @hg2 @hr1) w3 ?_
                refine t_gt (wr []) (j2 @hr2 @hq1) trivial (ih (m, r2, u4, true) ⟨by show m ≤ L.length; omega, by show u1 ≤ u4; omega, d8, MV.le_mono (by show _ ≤ M2 + (u4 - u1); omega) d9, fun h => (by cases h), fun _ => ⟨rfl, rfl, rfl⟩⟩ (by show m < m + 1; omega))
              · rename_i r2 u4 g3
                have w3 := call6_ok (gl := gl) hm H b (M2 + (u3 - u1)) g3 (by omega) d5 (by omega) (by omega) (MV.le_mono (by omega) d6) (MV.le_mono (by omega) i4)
                obtain ⟨d7, d8, d9⟩ := callRun_bd B g3 d5 (M := M2 + (u3 - u1)) (by omega) (MV.le_mono (by omega) d6) (MV.le_mono (by omega) i4)
                have hr2 := MV.cells_eq r2
                unfold mach6 at w1 w2 w3
                refine t_g (j2 @hk @hq1) ?_
                refine t_c1 (j2 @hyd (j2 @hf1 (j2 @hq1 @hgy))) w1 ?_
                refine t_g0 ?_
                refine t_c1 (j2 @hg1 (j2 @hq1 (j2 @hsl @hrd))) w2 ?_
                refine t_g0 ?_
                refine t_c1 (j2 @hg2 @hr1) w3 ?_
                refine t_gt (wr []) (j2 @hr2 @hq1) trivial (ih (m, r2, u4, false) ⟨by show m ≤ L.length; omega, by show u1 ≤ u4; omega, d8, MV.le_mono (by show _ ≤ M2 + (u4 - u1); omega) d9, fun _ => i5, fun h => (by cases h)⟩ (by show m < m + 1; omega))
    · cases h

theorem eval6_ok {most : Int} (hm : most ≤ 1073741824) : ∀ d : Nat, Walk6 Tryz.prog gl 34 most (ev6 most d)
  | 0 => fun t e u v u' o b M h => by cases h
  | d + 1 => eval6_step hm (eval6_ok hm d)
end Go.Proofs.YtcldnfbcbkaanaaGreatDoor.Lift

namespace Go.Proofs.YtcldnfbcbkaanaaGreatDoor.Lift
set_option linter.unusedSimpArgs false
set_option linter.unusedVariables false
set_option linter.unnecessarySimpa false
open Go
variable {gl : Globs}

theorem sh_tys (t : Tm) (h : t.shape = true) : t.tys := by
  induction t using Tm.ind with
  | h t ih =>
  obtain ⟨-, -, -, h4, h5⟩ := Tm.shape_node h
  rw [Tm.tys_eq]
  refine ⟨?_, fun a ha => ih a ha (h5 a ha)⟩
  split at h4
  · have := h4.2; omega
  · unfold Ty.zero at h4
    simp at h4
    rw [Ty.count_eq, h4.2]
    decide
theorem dn_tys {Γ : List T} {t : Tm} {a : T} {F : Env Γ → a.V} (h : Dn Γ t a F) : t.tys := sh_tys _ (dn_shape h)

set_option maxHeartbeats 4000000 in
set_option maxRecDepth 100000 in
theorem call6_walk (t : Tm) (l : List T) (r : T) (F : Env [] → (FnT l r).V) (Z : Env l) (work M : Int) (h : Dn [] t (FnT l r) F) (hc : t.count ≤ 536870912) (hl : Plains l) (hll : l.length ≤ 1000000) (hr : r.plain) (hro : r.ok) (hw0 : 0 ≤ work) (hw : work ≤ 65536) (hM : 0 ≤ M) (hMb : M + work ≤ 1073741824) (hX : MV.les M (mvsOf l Z)) :
    Con1 Tryz.prog gl 15 [t.dv, .sl ((valsOf l Z).map Val.cells), dint work] [] (.tup [(callOut t l (F ()) Z work).1.dv, dint (callOut t l (F ()) Z work).2.1, dint (callOut t l (F ()) Z work).2.2]) [] := by
  have hte := ref02_typeof_ok (gl := gl) t [] (by simp) (dn_tys h) (by omega)
  have hco := callOut_err h Z work
  have hvl := valsOf_len l Z
  have hml := mvsOf_len l Z
  have hft := Tm.fold t
  have hfz : (Ty.mk 0 []).cells = [dint 0, .sl []] := rfl
  refine t_in Tryz.func15 ?_
  intro X hP hgl hf hfn hn hR hids hfit
  unfold callOut at hR
  refine t_g0 ?_
  refine t_c1 @hft hte ?_
  by_cases he : (t.typeE []).2 = 0
  rotate_left
  · rw [if_neg he] at hR
    refine t_g @he ?_
    refine t_r ?_
    simp [go_sem, hP, hgl, hn, zeroV] <;> (try omega)
    all_goals exact t_f
  rw [if_pos he] at hR
  have hty : (t.typeE []).1 = (FnT l r).ty := by
    rcases typeE_dn h with h1 | h1
    · rw [h1]
    · rw [he] at h1; cases h1
  have hfr := Ty.fold (FnT l r).ty
  refine t_g @he ?_
  refine t_a ?_
  refine t_sub [] (j2 @hty @hvl) (W_upto (l.length) (fun i => True) (fun i => [(.slot 1, .one (.v (.sl ((valsOf l Z).map Val.cells)))), (.slot 2, .one (.v (dint work))), (.slot 3, .one (.loc 3 0)), (.loc 3, .row ([.v (dint t.kind), .v (dint t.index), .v (dint t.type.kind), .v (.sl (t.type.args.map Ty.cells)), .v (.sl (t.args.map Tm.cells))])), (.slot 6, .one (.loc 6 0)), (.loc 6, .row ([.v (dint 0), .v (dint 0), .own 0 [], .own 0 []])), (.slot 9, .one (.loc 9 0)), (.loc 9, .row ([.v (dint (FnT (l.drop i) r).ty.kind), .v (.sl ((FnT (l.drop i) r).ty.args.map Ty.cells))])), (.slot 30, .one (.v (.sl ((valsOf l Z).map Val.cells)))), (.slot 31, .one (.v (dint l.length))), (.slot 32, .one (.v (dint i)))]) (trivial) ?_ ?_)
  · intro i hi _ hnext
    obtain ⟨a, x, g1, g2, g3, g4, g5⟩ := args_at (r := r) l Z i hi hl
    have hvg : (List.map Val.cells (valsOf l Z))[i]? = some (valOf a x).cells := by rw [List.getElem?_map, g1]; rfl
    have hfv := Val.fold (valOf a x)
    have hcv := Val.cells_eq (valOf a x)
    have hvc := (valOf_nodes a x g4).2
    have hsz : a.size ≤ 64 := g5
    have w1 := typeE5_ok (gl := gl) (valOf a x) (by omega)
    rw [valOf_typeE x g4 g5] at w1
    have w2 := ref01_same_ok (gl := gl) a.ty a.ty
    rw [show a.ty.same a.ty = true from (Ty.same_iff _ _).2 rfl] at w2
    have hti : (FnT (l.drop i) r).ty = Ty.mk 4 [a.ty, (FnT (l.drop (i + 1)) r).ty] := by rw [g3, T.ty_fn]
    have hfa := Ty.fold a.ty
    generalize (FnT (l.drop (i + 1)) r).ty = ty' at *
    generalize (FnT (l.drop i) r).ty = ty0 at *
    generalize a.ty = ta at *
    subst hti
    have hct := Ty.cells_eq ty'
    refine t_rg0 ?_
    refine t_yes ?_
    refine t_g (j2 @hvg @hcv) ?_
    refine t_c1 @hfv w1 ?_
    refine t_g0 ?_
    refine t_c1 @hfa w2 ?_
    refine t_g0 ?_
    refine t_gt (wr []) @hct trivial (hnext trivial)
  · intro _
    have hdl : FnT (l.drop l.length) r = r := by rw [List.drop_length]; rfl
    rw [hdl]
    have wd := data_ok (gl := gl) r hro
    rw [show decide (r.level = 0) = true from decide_eq_true ((T.level_plain r).2 hr)] at wd
    have hfr := Ty.fold r.ty
    have hwn : ¬ (work < 0) := by omega
    have hwm : ¬ (65536 < work) := by omega
    have hH := eval6_ok (gl := gl) (most := work) (by omega) (work.toNat + 1)
    have hB := ev6_bd work (work.toNat + 1)
    obtain ⟨v0, u0, o0, e1, l1, m1, q1⟩ := ev6_ok work (work.toNat + 1) h .nil hw0 (by omega)
    obtain ⟨cr, hcr⟩ : ∃ cr, cr = call6N work t (mvsOf l Z) := ⟨_, rfl⟩
    have hout := call6_out hw0 h Z hl
    rw [← hcr] at hR hout
    obtain ⟨vf, uf, of, r1, r2, r3, r4⟩ := hout
    unfold call6N at hcr
    rw [e1] at hcr
    obtain ⟨k1, k2, k3⟩ := hB e1 hw0 hM trivial (by simp only [List.length_nil]; omega)
    refine t_rg0 ?_
    refine t_no ?_
    refine t_g0 ?_
    refine t_c1 @hfr wd ?_
    refine t_g (j2 @hwn @hwm) ?_
    refine W_expose 80 (by simp [go_sem]; rfl) ?_
    intro b hb
    simp [go_sem] at hb ⊢
    have we := hH b M e1 (by omega) hw0 hM (by omega) trivial (by simp only [List.length_nil]; omega)
    unfold mach6 at we
    have hv0 := MV.cells_eq v0
    refine t_c1 @hft we ?_
    refine t_g0 ?_
    refine t_a ?_
    refine t_sub [] (j2 @hv0 @hvl) (W_rounds (fun x : Nat × MV × Int × Bool => x.1 ≤ l.length ∧ 0 ≤ x.2.2.1 ∧ x.2.2.1 ≤ work ∧ x.2.1.le (M + x.2.2.1) ∧ (x.2.2.2 = false → callsRun (ev6 work (work.toNat + 1)) x.2.1 ((mvsOf l Z).drop x.1) x.2.2.1 = cr) ∧ (x.2.2.2 = true → of = true)) (fun x : Nat × MV × Int × Bool => [(.slot 17, .one (.v (ptr b))), (.slot 6, .one (.loc 6 0)), (.loc 6, .row ([.v (dint 0), .v (dint 0), .own 0 [], .own 0 []])), (.slot 9, .one (.loc 9 0)), (.loc 9, .row ([.v (dint r.ty.kind), .v (.sl (r.ty.args.map Ty.cells))])), (.slot 18, .one (.loc 18 0)), (.loc 18, .row ([.v (dint x.2.1.numF), .v (.sl (ints x.2.1.listF)), .v (.sl (x.2.1.pairF.map MV.cells)), .v (dint x.2.1.bodyF.kind), .v (dint x.2.1.bodyF.index), .v (dint x.2.1.bodyF.type.kind), .v (.sl (x.2.1.bodyF.type.args.map Ty.cells)), .v (.sl (x.2.1.bodyF.args.map Tm.cells)), .v (.sl (x.2.1.envF.map MV.cells))])), (.slot 84, .one (.v (.sl ((valsOf l Z).map Val.cells)))), (.slot 85, .one (.v (dint l.length))), (.slot 86, .one (.v (dint x.1))), (.heap  b, .row ([.v (dint x.2.2.1), .v (dint work), .v (dbool x.2.2.2)]))]) (fun x : Nat × MV × Int × Bool => l.length - x.1) (0, v0, u0, o0) (⟨Nat.zero_le _, by show 0 ≤ u0; omega, m1, MV.le_mono (by show M + (u0 - 0) ≤ M + u0; omega) k3, fun h => ?_, fun h => ?_⟩) ?_)
    · have h : o0 = false := h
      subst h
      exact hcr.symm
    · have h : o0 = true := h
      subst h
      have hcr : cr = some (v0, u0, true) := hcr
      rw [hcr] at r1
      cases r1
      rfl
    rintro ⟨i, m, u, ok⟩ ⟨i1, i2, i3, i4, i5, i6⟩ ih
    simp only at i1 i2 i3 i4 i5 i6
    by_cases hi : i < l.length
    · obtain ⟨a, x, g1, g2, -, g4, g5⟩ := args_at (r := r) l Z i hi hl
      have hvg : (List.map Val.cells (valsOf l Z))[i]? = some (valOf a x).cells := by rw [List.getElem?_map, g1]; rfl
      have hfv := Val.fold (valOf a x)
      have hcv := Val.cells_eq (valOf a x)
      cases ok with
      | true =>
        refine t_rg0 ?_
        refine t_yes ?_
        refine t_g (j2 @hvg @hcv) ?_
        refine t_gt (wr []) trivial trivial (ih (i + 1, m, u, true) ⟨by show i + 1 ≤ l.length; omega, i2, i3, i4, fun h => (by cases h), fun _ => i6 rfl⟩ (by show l.length - (i + 1) < l.length - i; omega))
      | false =>
        have i5 := i5 rfl
        have hdr : (mvsOf l Z).drop i = ofM a x :: (mvsOf l Z).drop (i + 1) := by
          obtain ⟨p1, p2⟩ := List.getElem?_eq_some_iff.1 g2
          rw [List.drop_eq_getElem_cons p1, p2]
        rw [hdr] at i5
        simp only [callsRun] at i5
        have hxM : (ofM a x).le (M + u) := MV.le_mono (by omega) (MV.les_iff.1 hX _ (List.mem_of_getElem? g2))
        have wo := of6_ok (gl := gl) a x g4
        have hfm := MV.fold m
        split at i5
        · rw [← i5] at r1; cases r1
        · rename_i v1 u1 c1
          have w := call6_ok (gl := gl) (by omega) hH b (M + u) c1 i2 i3 (by omega) (by omega) i4 hxM
          obtain ⟨d1, d2, d3⟩ := callRun_bd hB c1 i3 (M := M + u) (by omega) i4 hxM
          have hof : of = true := by rw [← i5] at r1; cases r1; rfl
          have hv1 := MV.cells_eq v1
          unfold mach6 at w
          generalize valOf a x = vx at *
          generalize ofM a x = mx at *
          refine t_rg0 ?_
          refine t_yes ?_
          refine t_g (j2 @hvg @hcv) ?_
          refine t_c2 (j2 @hfv @hfm) wo w ?_
          refine t_gt (wr []) @hv1 trivial (ih (i + 1, v1, u1, true) ⟨by show i + 1 ≤ l.length; omega, by show 0 ≤ u1; omega, d2, MV.le_mono (by show _ ≤ M + u1; omega) d3, fun h => (by cases h), fun _ => hof⟩ (by show l.length - (i + 1) < l.length - i; omega))
        · rename_i v1 u1 c1
          have w := call6_ok (gl := gl) (by omega) hH b (M + u) c1 i2 i3 (by omega) (by omega) i4 hxM
          obtain ⟨d1, d2, d3⟩ := callRun_bd hB c1 i3 (M := M + u) (by omega) i4 hxM
          have hv1 := MV.cells_eq v1
          unfold mach6 at w
          generalize valOf a x = vx at *
          generalize ofM a x = mx at *
          refine t_rg0 ?_
          refine t_yes ?_
          refine t_g (j2 @hvg @hcv) ?_
          refine t_c2 (j2 @hfv @hfm) wo w ?_
          refine t_gt (wr []) @hv1 trivial (ih (i + 1, v1, u1, false) ⟨by show i + 1 ≤ l.length; omega, by show 0 ≤ u1; omega, d2, MV.le_mono (by show _ ≤ M + u1; omega) d3, fun _ => i5, fun h => (by cases h)⟩ (by show l.length - (i + 1) < l.length - i; omega))
    · have hin : i = l.length := by omega
      subst hin
      cases ok with
      | true =>
        have hof := i6 rfl
        subst hof
        rw [r1] at hR
        refine t_rg0 ?_
        refine t_no ?_
        refine t_g0 ?_
        refine t_r ?_
        simp [go_sem, hP, hgl, hn, zeroV] <;> (try omega)
        all_goals exact t_f
      | false =>
        have i5 := i5 rfl
        have hdr : (mvsOf l Z).drop l.length = [] := by rw [← hml, List.drop_length]
        rw [hdr] at i5
        simp only [callsRun] at i5
        rw [← i5] at r1 hR
        have hq : m = vf ∧ of = false := by cases r1; exact ⟨rfl, rfl⟩
        have r4 := r4 hq.2
        rw [← hq.1] at r4
        have wp := plain6_ok (gl := gl) r4 hr
        have hfm := MV.fold m
        generalize valOf r (appl l (F ()) Z) = vr at *
        refine t_rg0 ?_
        refine t_no ?_
        refine t_g0 ?_
        refine t_c1 (j2 @hfm @hfr) wp ?_
        refine t_r ?_
        simp [go_sem, hP, hgl, hn] <;> (try omega)
        all_goals exact t_f
end Go.Proofs.YtcldnfbcbkaanaaGreatDoor.Lift

namespace Go.Proofs.YtcldnfbcbkaanaaGreatDoor.Lift
set_option linter.unusedSimpArgs false
set_option linter.unusedVariables false
set_option linter.unnecessarySimpa false
open Go
variable {gl : Globs}

theorem nat23_ok : Con1 Tryz.prog gl 81 [] [] (Ty.mk 1 []).dv [] := by
  refine t_in Tryz.func81 ?_
  intro X hP hgl hf hfn hn hR hids hfit
  refine t_g0 ?_
  refine t_r ?_
  simp [go_sem, hP, hgl, hn] <;> (try omega)
  all_goals exact t_f
theorem playnat_ok : Con1 Tryz.prog gl 27 [] [] (Ty.mk 1 []).dv [] := by
  refine t_in Tryz.func27 ?_
  intro X hP hgl hf hfn hn hR hids hfit
  refine t_g0 ?_
  refine t_c1 trivial nat23_ok ?_
  refine t_r ?_
  simp [go_sem, hP, hgl, hn] <;> (try omega)
  all_goals exact t_f
/-! the plain law of MajorantGreatest -/
end Go.Proofs.YtcldnfbcbkaanaaGreatDoor.Lift

/-
  Law 34: BoundTable.
-/
namespace Go.Proofs.YtcldnfbcbkaanaaGreatDoor.Lift
set_option linter.unusedSimpArgs false
set_option linter.unusedVariables false
set_option linter.unnecessarySimpa false
open Go
variable {gl : Globs}

def stpD (l : List Int) (p : Nat) : Tm × Nat := (Tm.mk 2 0 (Ty.mk 1 []) [(termD l 2 (Ty.mk 1 []) [Ty.mk 1 []] p).1], (termD l 2 (Ty.mk 1 []) [Ty.mk 1 []] p).2)
theorem play_step_ok (b : Nat) (l : List Int) (p : Nat) (hl : l.length ≤ 500) (hp : p ≤ l.length) :
    Con1 Tryz.prog gl 12 [ptr b] [(b, deck l p)] (stpD l p).1.dv [(b, deck l (stpD l p).2)] := by
  have wn := playnat_ok (gl := gl)
  have hg : ∀ x ∈ [Ty.mk 1 []], x.small := by intro x hx; rw [List.mem_singleton.1 hx]; exact small_nat
  have wt := mk_term_ok (gl := gl) b l hl 2 (by decide) (Ty.mk 1 []) [Ty.mk 1 []] p small_nat hg (by simp) hp
  unfold stpD
  generalize termD l 2 (Ty.mk 1 []) [Ty.mk 1 []] p = xd at *
  obtain ⟨x, q⟩ := xd
  simp only at wt ⊢
  have wl := lam24_ok (gl := gl) (Ty.mk 1 []) x
  have hfx := Tm.fold x
  have hfl := Tm.fold (Tm.mk 2 0 (Ty.mk 1 []) [x])
  generalize Tm.mk 2 0 (Ty.mk 1 []) [x] = y at *
  have e1 : (Ty.mk 1 []).dv = .agg [dint 1, .sl []] := rfl
  have e2 : List.map Ty.cells [Ty.mk 1 []] = [[dint 1, .sl []]] := rfl
  rw [e1] at wn wt wl
  rw [e2] at wt
  refine t_in Tryz.func12 ?_
  intro X hP hgl hf hfn hn hR hids hfit
  refine t_g0 ?_
  refine t_c5 @hfx wn wn wn wt wl ?_
  repeat (first | refine W_seq ?_ | refine W_skip ?_ | refine W_block ?_ | refine W_inBlock ?_ | refine W_label ?_ | refine W_exit rfl ?_)
  first | refine W_retR hP hf hfn _ ([(b, deck l q)]) (by first | (simp [go_sem, hP, hgl, hn]; done) | (simp [go_sem, hP, hgl, hn]; rfl)) (by simp [go_sem, hP, hgl, hn]) (by simp) ?_ hR.2 | refine W_endR hP hf hfn _ ([(b, deck l q)]) (by first | (simp [go_sem, hP, hgl, hn]; done) | (simp [go_sem, hP, hgl, hn]; rfl)) (by simp [go_sem, hP, hgl, hn]) (by simp) ?_ hR.2
  rw [hR.1]
  refine ⟨?_, by simp⟩
  try simp
  try all_goals (simp [Ty.dv, Ty.cells_eq, Ty.kind_mk, Ty.args_mk, Tm.dv, Tm.cells_eq, Tm.kind_mk, Tm.index_mk, Tm.type_mk, Tm.args_mk, Val.dv, Val.cells_eq, Val.kind_mk, Val.num_mk, Val.list_mk, Val.args_mk, ints])

theorem stpD_facts (l : List Int) {p : Nat} (hp : p ≤ l.length) : ∃ F : Env [] → (T.fn .nat .nat).V, Dn [] (stpD l p).1 (FnT [.nat] .nat) F ∧ (stpD l p).1.count ≤ 1500 ∧ (stpD l p).2 ≤ l.length := by
  have hg : ∀ x ∈ [Ty.mk 1 []], x.small := by intro x hx; rw [List.mem_singleton.1 hx]; exact small_nat
  obtain ⟨F, hF⟩ := termD_dn l 2 small_nat hg hp (G := [.nat]) (a := .nat) rfl rfl
  have hc := termD_count l 2 (Ty.mk 1 []) [Ty.mk 1 []] p small_nat hg hp
  rw [show drawB 2 = 485 from rfl] at hc
  have hle := (termD_facts draw_typed 2 (Ty.mk 1 []) [Ty.mk 1 []] p small_nat hg hp).1
  refine ⟨_, .lam (a := .nat) (by unfold T.ok; decide) hF, ?_, hle⟩
  show 1 + ((termD l 2 (Ty.mk 1 []) [Ty.mk 1 []] p).1.count + 0) ≤ 1500
  omega

set_option maxHeartbeats 1000000 in
set_option maxRecDepth 100000 in
theorem boundTable_ok (har : globOf gl 0 = some arEls) (l : List Int) : Con1 Tryz.prog gl 4 [.sl (ints l)] [] (dbool true) [] := by
  have wa := awake34_ok har
  refine t_in Tryz.func4 ?_
  intro X hP hgl hf hfn hn hR hids hfit
  by_cases hl : l.length ≤ 500
  rotate_left
  · refine t_g0 ?_
    refine t_c2 @hl wa (few_ok l) ?_
    refine t_g0 ?_
    refine t_c1 trivial wa ?_
    refine t_r ?_
    simp [go_sem, hP, hgl, hn] <;> (try omega)
  refine t_g0 ?_
  refine t_c2 @hl wa (few_ok l) ?_
  refine t_g0 ?_
  refine t_a ?_
  first | refine W_reg [] fun K hK => ?_ | refine W_regd (by rw [hP]; exact mixed) [] fun K hK => ?_
  refine t_s0 ?_
  repeat (refine ⟨by omega, ?_⟩)
  refine vcK_callR hP hgl (new_ok l) (by simp [go_sem]) rfl (by simp [go_sem]) (by simp) (by rw [hn]; exact Nat.le_of_ble_eq_true rfl) ?_
  rintro rr φ ⟨b, rfl, rfl⟩ -
  simp [go_sem, hP, hgl, hn]
  refine t_e ?_
  clear hK K
  have wst := play_step_ok (gl := gl) b l 0 hl (by omega)
  obtain ⟨F, f1, f2, f3⟩ := stpD_facts l (p := 0) (by omega)
  generalize stpD l 0 = sd at *
  obtain ⟨t, p1⟩ := sd
  simp only at f1 f2 f3 wst
  have wnx := next_ok (gl := gl) b l p1 3 (by decide) (by omega)
  have hb3 := nextD_bd (l := l) (p := p1) (n := 3) (by decide)
  generalize nextD l p1 3 = nd at *
  obtain ⟨k, p2⟩ := nd
  simp only at wnx hb3
  obtain ⟨n, hkn, hn3⟩ : ∃ n : Nat, 1 + k = (n : Int) ∧ n ≤ 3 := ⟨(1 + k).toNat, by omega, by omega⟩
  obtain ⟨P, G, g1, g2, g3, g4⟩ := dn_majf f1
  have hruns : ∀ i : Nat, ∃ c d, callS d (majT t) [.num i] = some (.num (applM [.nat] P ((i : Nat), ()) : Nat), c) := by
    intro i
    obtain ⟨c, d, h⟩ := calls_total g1 ((i : Nat), ()) ⟨trivial, by unfold T.ok; decide, trivial⟩ trivial
    have h := h d (Nat.le_refl _)
    exact ⟨c, d, h.trans (congrArg (fun (q : T.nat.maj.V) => some (ofM T.nat.maj q, c)) (g2 ((i : Nat), ())))⟩
  obtain ⟨A, hA⟩ : ∃ A : Nat → Nat, ∀ i, A i = (applM [.nat] P ((i : Nat), ()) : Nat) := ⟨_, fun i => rfl⟩
  obtain ⟨C, hC⟩ : ∃ C : Nat → Nat, ∀ i, ∃ d, callS d (majT t) [.num i] = some (.num (A i), C i) := ⟨fun i => Classical.choose (hruns i), fun i => by rw [hA]; exact Classical.choose_spec (hruns i)⟩
  have hge : ∀ i j : Nat, i ≤ j → A i ≤ A j := by
    intro i j hij
    rw [hA, hA]
    exact applM_ge [.nat] (r := .nat) (P := P) (Q := P) (X := ((j : Nat), ())) (Y := ((i : Nat), ())) g4 ⟨hij, trivial⟩
  have hmj : ∀ i : Nat, Nat.le (F () (i : Nat)) (A i) := by
    intro i
    rw [hA]
    exact applM_mj [.nat] (r := .nat) (X := ((i : Nat), ())) (x := ((i : Nat), ())) g3 ⟨Nat.le_refl i, trivial⟩
  obtain ⟨O, hO⟩ : ∃ O : Nat → Val × Int × Int, ∀ i, O i = ofR t (valOf .nat (A i : Nat)) (C i) 40000 := ⟨_, fun i => rfl⟩
  have w1 := bound_table_ok (gl := gl) har f1 (by omega) O n 40000 (by omega) (fun i hi => by
    obtain ⟨d, hd⟩ := hC i
    rw [hO]
    exact bound_of_ok har f1 (by omega) g1 ((i : Nat), ()) (show T.nat.maj.V from A i) ⟨trivial, by unfold T.ok; decide, trivial⟩ (by simp) trivial (by unfold T.ok; decide) hd 40000 (by decide) 3 (by decide) ⟨by show i ≤ 3; omega, trivial⟩) (fun h => by rw [hO]; unfold ofR; rw [if_neg h])
  have hOe : ∀ i, (O i).2.2 = 4 ∨ (O i).2.2 = 5 ∨ (O i).2.2 = 0 := by
    intro i
    rw [hO]
    rcases ofR_err t (valOf .nat (A i : Nat)) (C i) 40000 with h | h | h
    · exact .inl h
    · exact .inr (.inl h)
    · exact .inr (.inr h.1)
  have hOv : ∀ i, (O i).2.2 = 0 → (O i).1.num = (A i : Int) := by
    intro i h0
    rw [hO] at h0 ⊢
    rcases ofR_err t (valOf .nat (A i : Nat)) (C i) 40000 with h | h | h
    · rw [h] at h0; cases h0
    · rw [h] at h0; cases h0
    · rw [h.2]; rfl
  have hft := Tm.fold t
  have hct := Tm.cells_eq t
  have hkn2 : (1 : Int) + k = (n : Int) := hkn
  have w6 := fun i : Nat => call6_walk (gl := gl) t [.nat] .nat F ((i : Nat), ()) 40000 5 f1 (by omega) ⟨trivial, by unfold T.ok; decide, trivial⟩ (by decide) trivial (by unfold T.ok; decide) (by decide) (by decide) (by decide) (by decide)
  have hc6 := fun i : Nat => callOut_err (l := [.nat]) (r := .nat) f1 ((i : Nat), ()) 40000
  have hLl : (ints (tabL O (n + 1))).length = n + 1 := by simp [ints, tabL]
  have hLi : ∀ i, i ≤ n → (O i).2.2 = 0 → (ints (tabL O (n + 1)))[i]? = some [dint (A i : Int)] := by
    intro i hi h0
    have h1 : (tabL O (n + 1))[i]? = some (A i : Int) := by
      rw [tabL, List.getElem?_map, List.getElem?_range (by omega), Option.map_some, hOv i h0]
    rw [ints, List.getElem?_map, h1]
    rfl
  have herr : fe O (n + 1) = 4 ∨ fe O (n + 1) = 5 ∨ fe O (n + 1) = 0 := fe_err hOe (n + 1)
  have hok := fun h => fe_ok (O := O) (n := n + 1) h
  unfold tabE at w1
  generalize hfe : fe O (n + 1) = fv at *
  refine t_g0 ?_
  refine t_c1 trivial wst ?_
  refine t_g @hct ?_
  refine t_c1 @hkn2 wnx ?_
  rcases herr with rfl | rfl | rfl
  · have wl := limits34_ok (gl := gl) 4
    rw [show limB34 4 = true from rfl] at wl
    rw [if_neg (by decide), show ints [] = [] from rfl] at w1
    refine t_g0 ?_
    refine t_c1 @hft w1 ?_
    refine t_g0 ?_
    refine t_c1 trivial wl ?_
    refine t_r ?_
    simp [go_sem, hP, hgl, hn] <;> (try omega)
  · have wl := limits34_ok (gl := gl) 5
    rw [show limB34 5 = true from rfl] at wl
    rw [if_neg (by decide), show ints [] = [] from rfl] at w1
    refine t_g0 ?_
    refine t_c1 @hft w1 ?_
    refine t_g0 ?_
    refine t_c1 trivial wl ?_
    refine t_r ?_
    simp [go_sem, hP, hgl, hn] <;> (try omega)
  rw [if_pos rfl] at w1
  have hok := hok rfl
  generalize ints (tabL O (n + 1)) = L at *
  refine t_g0 ?_
  refine t_c1 @hft w1 ?_
  refine t_g @hLl ?_
  refine t_a ?_
  refine t_sub [] @hLl (W_upto (n + 1) (fun i => True) (fun i => [(.slot 4, .one (.loc 4 0)), (.loc 4, .row ([.v (dint t.kind), .v (dint t.index), .v (dint t.type.kind), .v (.sl (t.type.args.map Ty.cells)), .v (.sl (t.args.map Tm.cells))])), (.slot 6, .one (.v (.sl L))), (.slot 43, .one (.v (dint ((n : Int) + 1)))), (.slot 44, .one (.v (dint i)))]) (trivial) ?_ ?_)
  · intro i hi _ hnext
    have w := w6 i ⟨by show (i : Int) ≤ 5; omega, trivial⟩
    have hce := hc6 i
    have hav : (valsOf [.nat] ((i : Nat), ())).map Val.cells = [[dint 1, dint (i : Int), .sl [], .sl []]] := rfl
    rw [hav] at w
    have hgi := hLi i (by omega) (hok i (by omega))
    obtain ⟨fi, hfi⟩ : ∃ fi : Nat, fi = F () (i : Nat) := ⟨_, rfl⟩
    have hnum : (callOut t [.nat] (r := .nat) (F ()) ((i : Nat), ()) 40000).2.2 = 0 → (callOut t [.nat] (r := .nat) (F ()) ((i : Nat), ()) 40000).1.num = (fi : Int) := by
      intro h0
      rcases hce with h | h | h
      · rw [h] at h0; cases h0
      · rw [h] at h0; cases h0
      · rw [h.2, hfi]; rfl
    have hce2 : (callOut t [.nat] (r := .nat) (F ()) ((i : Nat), ()) 40000).2.2 = 4 ∨ (callOut t [.nat] (r := .nat) (F ()) ((i : Nat), ()) 40000).2.2 = 5 ∨ (callOut t [.nat] (r := .nat) (F ()) ((i : Nat), ()) 40000).2.2 = 0 := by
      rcases hce with h | h | h
      · exact .inl h
      · exact .inr (.inl h)
      · exact .inr (.inr h.1)
    clear hce
    have hm : fi ≤ A i := by rw [hfi]; exact hmj i
    generalize callOut t [.nat] (r := .nat) (F ()) ((i : Nat), ()) 40000 = co at *
    have hcv := Val.cells_eq co.1
    have hcf := Val.fold co.1
    have hlt : (i : Int) < (n : Int) + 1 := by omega
    have hm1 : ¬ (A i < fi) := by omega
    have hm2 : ¬ ((A i : Int) < (fi : Int)) := by omega
    obtain ⟨cv, cn, ce⟩ := co
    simp only at w hnum hce2 hcv hcf
    cases i with
    | zero =>
      rw [show ((0 : Nat) : Int) = 0 from rfl] at w
      rcases hce2 with rfl | rfl | rfl
      · refine t_rg @hlt ?_
        refine t_yes ?_
        refine t_g0 ?_
        refine t_c1 @hft w ?_
        refine t_g @hgi ?_
        refine t_gt (wr []) trivial trivial (hnext trivial)
      · refine t_rg @hlt ?_
        refine t_yes ?_
        refine t_g0 ?_
        refine t_c1 @hft w ?_
        refine t_g @hgi ?_
        refine t_gt (wr []) trivial trivial (hnext trivial)
      · have hnum := hnum rfl
        refine t_rg @hlt ?_
        refine t_yes ?_
        refine t_g0 ?_
        refine t_c1 @hft w ?_
        refine t_g (j2 @hgi (j2 @hnum (j2 @hm1 @hm2))) ?_
        refine t_gt (wr []) trivial trivial (hnext trivial)
    | succ j =>
      have hgj := hLi j (by omega) (hok j (by omega))
      have hj := hge j (j + 1) (by omega)
      have hj1 : ¬ (A (j + 1) < A j) := by omega
      have hj2 : ¬ ((A (j + 1) : Int) < (A j : Int)) := by omega
      have hcast : ((j + 1 : Nat) : Int) = (j : Int) + 1 := by omega
      rw [hcast] at w
      rcases hce2 with rfl | rfl | rfl
      · refine t_rg @hlt ?_
        refine t_yes ?_
        refine t_g0 ?_
        refine t_c1 @hft w ?_
        refine t_g (j2 @hgi (j2 @hgj (j2 @hj1 @hj2))) ?_
        refine t_gt (wr []) trivial trivial (hnext trivial)
      · refine t_rg @hlt ?_
        refine t_yes ?_
        refine t_g0 ?_
        refine t_c1 @hft w ?_
        refine t_g (j2 @hgi (j2 @hgj (j2 @hj1 @hj2))) ?_
        refine t_gt (wr []) trivial trivial (hnext trivial)
      · have hnum := hnum rfl
        refine t_rg @hlt ?_
        refine t_yes ?_
        refine t_g0 ?_
        refine t_c1 @hft w ?_
        refine t_g (j2 @hgi (j2 @hgj (j2 @hj1 (j2 @hj2 (j2 @hnum (j2 @hm1 @hm2)))))) ?_
        refine t_gt (wr []) trivial trivial (hnext trivial)
  · intro _
    have hnl : ¬ ((n : Int) + 1 < (n : Int) + 1) := by omega
    refine t_rg0 ?_
    refine t_no ?_
    refine t_g0 ?_
    refine t_r ?_
    simp [go_sem, hP, hgl, hn] <;> (try omega)
end Go.Proofs.YtcldnfbcbkaanaaGreatDoor.Lift

