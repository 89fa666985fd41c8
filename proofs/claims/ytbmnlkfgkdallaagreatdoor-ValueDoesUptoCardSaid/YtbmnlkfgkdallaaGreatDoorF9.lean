import Derived.Test.YtbmnlkfgkdallaaGreatDoorF8
namespace Go.Proofs.YtbmnlkfgkdallaaGreatDoor.Lift
set_option linter.unusedSimpArgs false
set_option linter.unusedVariables false
set_option linter.unnecessarySimpa false
open Go
variable {gl : Globs}

def listTm (l : List Int) : Tm := l.foldr (fun x t => Tm.mk 8 0 (Ty.mk 0 []) [numTm x.toNat, t]) (Tm.mk 7 0 (Ty.mk 0 []) [])

def Val.termN : Val → Tm
  | .mk k n l a =>
    if k = 2 then listTm l else if k = 4 then Tm.mk 13 0 (Ty.mk 0 []) [] else if k = 3 then Tm.mk 10 0 (Ty.mk 0 []) (terms a) else numTm n.toNat
where
  terms : List Val → List Tm
    | [] => []
    | a :: r => a.termN :: terms r
theorem Val.terms_map (l : List Val) : termN.terms l = l.map Val.termN := by
  induction l with
  | nil => rfl
  | cons a r ih => simp [termN.terms, ih]
theorem Val.termN_eq (v : Val) : v.termN = if v.kind = 2 then listTm v.list else if v.kind = 4 then Tm.mk 13 0 (Ty.mk 0 []) [] else if v.kind = 3 then Tm.mk 10 0 (Ty.mk 0 []) (v.args.map Val.termN) else numTm v.num.toNat := by
  cases v; rw [termN, terms_map]; rfl

/-- pairs have two parts -/
def Val.two : Val → Prop
  | .mk k _ _ a => (k = 3 → a.length = 2) ∧ twos a
where
  twos : List Val → Prop
    | [] => True
    | a :: r => a.two ∧ twos r
theorem Val.twos_iff (l : List Val) : two.twos l ↔ ∀ a ∈ l, a.two := by
  induction l with
  | nil => simp [two.twos]
  | cons a r ih => simp [two.twos, ih]
theorem Val.two_eq (v : Val) : v.two ↔ (v.kind = 3 → v.args.length = 2) ∧ ∀ a ∈ v.args, a.two := by
  cases v; simp only [two, twos_iff, kind, args]

theorem term_ok (v : Val) (ht : v.two) : Con1 Tryz.prog gl 49 [v.dv] [] v.termN.dv [] := by
  induction v using Val.ind with
  | h v ih =>
  obtain ⟨ht1, ht2⟩ := (Val.two_eq v).1 ht
  refine t_in Tryz.func49 ?_
  intro X hP hgl hf hfn hn hR hids hfit
  have hl2 := Val.fit_list (hfit v.dv (by simp))
  refine t_rg0 ?_
  refine t_rg0 ?_
  by_cases h2 : v.kind = 2
  · refine t_rg @h2 ?_
    refine t_yes ?_
    refine t_a ?_
    first | refine W_reg [] fun K hK => ?_ | refine W_regd (by rw [hP]; exact mixed) [] fun K hK => ?_
    refine t_s0 ?_
    refine t_c trivial (of_ok 7 []) ?_
    refine t_e ?_
    clear hK K
    refine t_a ?_
    first | refine W_reg [] fun K hK => ?_ | refine W_regd (by rw [hP]; exact mixed) [] fun K hK => ?_
    refine t_s0 ?_
    repeat (refine ⟨by omega, ?_⟩)
    refine vcK_callR hP hgl (backward_ok v.list) (by simp [go_sem]) rfl (by simp [go_sem]) (by simp) (by rw [hn]; exact Nat.le_of_ble_eq_true rfl) ?_
    rintro r ψ ⟨b0, rfl, rfl⟩ -
    simp [go_sem]
    refine t_e ?_
    clear hK K
    refine t_a ?_
    refine W_expose 3 (by simp [go_sem]; rfl) ?_
    intro b3 hb
    simp [go_sem] at hb ⊢
    have hb' : b0 ≠ b3 := hb
    let Φ : Nat → Objs := fun i => [(b3, (listTm (v.list.drop i)).cells)]
    have hlast : (listTm (v.list.drop v.list.length)).cells = [dint 7, dint 0, dint 0, .sl [], .sl []] := by simp [listTm, Tm.cells_mk, Ty.kind, Ty.args]
    refine W_rangeFunc hR.2 (f := 95) (fi := #[]) (ca := #[.pointer (some ⟨b0, 0, none⟩)]) (by simp [go_sem]) (by simp [primOK]) (φ := (b0, [.sl (ints v.list)]) :: Φ v.list.length) ?_ ?_ (Y := BackY X.P X.gl v.list Φ (fun _ _ => False)) (R := fun φ' r' => φ' = (b0, [.sl (ints v.list)]) :: Φ 0 ∧ r'.state = .ready ∧ r'.pending = none) (SL := [(3, ptr b3)]) ?_ ?_ ?_ ?_ ?_
    · refine objsIn_one (by simp [go_sem]) (objsIn_one ?_ (by simp [objsIn]))
      simp only [Φ, hlast]
      simp [go_sem, hb']
    · simp [Φ, hb']
    · intro n x h
      simp only [List.mem_singleton, Prod.mk.injEq] at h
      obtain ⟨rfl, rfl⟩ := h
      simp [go_sem]
    · intro l r h1 h2 h3 h4
      have := backIt_ok (gl := gl) v.list (by omega) b0 Φ (fun _ => rfl) (by simp [Φ]) (by simp [Φ]; exact hb') (Stop := fun _ _ => False) (fun _ _ h => h.elim) l r (by rw [h3]; rfl)
      rw [hP, hgl]
      refine ⟨this.1, fun D w vs a1 a2 a3 a4 a5 a6 => (this.2 D w vs a1 a2 a3 a4 a5 a6).mono ?_⟩
      rintro e w' ⟨v1, D', φ', r', rfl, hR', rest⟩
      refine ⟨v1, D', φ', r', rfl, ?_, rest⟩
      rcases hR' with ⟨rfl, rfl⟩ | ⟨ψ, -, h⟩
      · exact ⟨rfl, h1, h2⟩
      · exact h.elim
    · intro l r D0 w0 h1 h2 h3 h4 h5 h6 h7 h8 h9 i x hx
      rw [hP, hgl]
      refine YC_round X.n h5 h9 h1 (by rw [h3]; rfl) (by rw [h3, hn]; decide) (by rw [h3]; decide) (by rw [h3]; simp) ?_
      intro X' hP' hgl' hf' hn' hmd' hids' hl' hfit'
      rw [h3, h6, h7]
      have hdrop : v.list.drop i = x :: v.list.drop (i + 1) := by
        obtain ⟨hi, rfl⟩ := List.getElem?_eq_some_iff.1 hx
        exact List.drop_eq_getElem_cons hi
      rw [hn] at hn'
      clear hP hgl hn
      have hP := hP'
      have hgl := hgl'
      have hn := hn'
      have hlb3 : l ≠ b3 := by simpa [Φ] using hl'
      simp only [entryR, Φ, h3, parSt, slotSt, heapSt, List.cons_append, List.nil_append]
      refine t_rg @hlb3 ?_
      refine W_begin (r := r) (l := l) (by simp [Ctx.rd, hmd']) (by simp [go_sem]) h1 ?_
      simp [go_sem, hlb3, hlb3.symm]
      refine t_a ?_
      first | refine W_reg [] fun K hK => ?_ | refine W_regd (by rw [hP]; exact mixed) [] fun K hK => ?_
      simp [go_sem, hP, hgl, hn, hlb3, hlb3.symm]
      repeat (refine ⟨by omega, ?_⟩)
      first | refine vcK_call hP hgl (number_ok x) (by simp [go_sem, hP, hgl, hn, hlb3, hlb3.symm]) rfl (by simp [go_sem]) (by simp) (by rw [hn]; exact Nat.le_of_ble_eq_true rfl) ?_ | refine vcdC_call (fun _ _ => vcd_sound) hP hgl (number_ok x) (by simp [go_sem, hP, hgl, hn, hlb3, hlb3.symm]) rfl (by simp [go_sem]) (by simp) (by rw [hn]; exact Nat.le_of_ble_eq_true rfl) ?_ | refine vcK_callG hP hgl (number_ok x) (by simp [go_sem, hP, hgl, hn, hlb3, hlb3.symm]) rfl (by simp [go_sem]) (by simp) (by rw [hn]; exact Nat.le_of_ble_eq_true rfl) (by simp [go_sem]; rfl) (by rw [hn]; exact Nat.le_of_ble_eq_true rfl) (by simp [go_sem]) ?_ | refine vcdC_callG (fun _ _ => vcd_sound) hP hgl (number_ok x) (by simp [go_sem, hP, hgl, hn, hlb3, hlb3.symm]) rfl (by simp [go_sem]) (by simp) (by rw [hn]; exact Nat.le_of_ble_eq_true rfl) (by simp [go_sem]; rfl) (by rw [hn]; exact Nat.le_of_ble_eq_true rfl) (by simp [go_sem]) ?_
      simp [go_sem, hP, hgl, hn, hlb3, hlb3.symm]
      repeat (refine ⟨by omega, ?_⟩)
      first | refine vcK_call hP hgl (of_ok 8 [numTm x.toNat, listTm (v.list.drop (i + 1))]) (by simp [go_sem, hP, hgl, hn, hlb3, hlb3.symm]) rfl (by simp [go_sem]) (by simp) (by rw [hn]; exact Nat.le_of_ble_eq_true rfl) ?_ | refine vcdC_call (fun _ _ => vcd_sound) hP hgl (of_ok 8 [numTm x.toNat, listTm (v.list.drop (i + 1))]) (by simp [go_sem, hP, hgl, hn, hlb3, hlb3.symm]) rfl (by simp [go_sem]) (by simp) (by rw [hn]; exact Nat.le_of_ble_eq_true rfl) ?_ | refine vcK_callG hP hgl (of_ok 8 [numTm x.toNat, listTm (v.list.drop (i + 1))]) (by simp [go_sem, hP, hgl, hn, hlb3, hlb3.symm]) rfl (by simp [go_sem]) (by simp) (by rw [hn]; exact Nat.le_of_ble_eq_true rfl) (by simp [go_sem]; rfl) (by rw [hn]; exact Nat.le_of_ble_eq_true rfl) (by simp [go_sem]) ?_ | refine vcdC_callG (fun _ _ => vcd_sound) hP hgl (of_ok 8 [numTm x.toNat, listTm (v.list.drop (i + 1))]) (by simp [go_sem, hP, hgl, hn, hlb3, hlb3.symm]) rfl (by simp [go_sem]) (by simp) (by rw [hn]; exact Nat.le_of_ble_eq_true rfl) (by simp [go_sem]; rfl) (by rw [hn]; exact Nat.le_of_ble_eq_true rfl) (by simp [go_sem]) ?_
      simp [go_sem, hP, hgl, hn, hlb3, hlb3.symm]
      refine t_e ?_
      clear hK K
      refine t_a ?_
      have hstep : (listTm (v.list.drop i)).cells = [dint 8, dint 0, dint 0, .sl [], .sl [(numTm x.toNat).cells, (listTm (v.list.drop (i + 1))).cells]] := by
        rw [hdrop]; simp [listTm, Tm.cells_mk, Ty.kind, Ty.args]
      refine W_rdfin hmd' (φ := Φ i) ?_ (by simp [Φ]) (by simp [go_sem, hlb3.symm]) none rfl ?_
      · refine objsIn_one ?_ (by simp [objsIn])
        rw [hstep]
        simp [go_sem]
      · simp only [Option.isNone_none, if_true, true_and]
        cases r; simp only [pastL] at h1 h2 ⊢; subst h1 h2; rfl
    · rintro φ' r' ⟨-, h, -⟩
      rw [h]; simp
    · rintro φ' r' ⟨rfl, -, h⟩ -
      rw [h]
      simp [go_sem, Φ, hb', hb'.symm]
      refine t_rg @hb' ?_
      refine t_r ?_
      simp [go_sem, hP, hgl, hn, Val.termN_eq, h2] <;> (try omega)
  by_cases h4 : v.kind = 4
  · refine t_rg @h2 ?_
    refine t_no ?_
    refine t_rg @h4 ?_
    refine t_yes ?_
    refine t_a ?_
    first | refine W_reg [] fun K hK => ?_ | refine W_regd (by rw [hP]; exact mixed) [] fun K hK => ?_
    refine t_s0 ?_
    refine t_c trivial (of_ok 13 []) ?_
    refine t_e ?_
    clear hK K
    have htm : v.termN = Tm.mk 13 0 (Ty.mk 0 []) [] := by rw [Val.termN_eq]; simp [h4]
    refine t_r ?_
    simp [go_sem, hP, hgl, hn, htm] <;> (try omega)
    all_goals exact t_f
  by_cases h3 : v.kind = 3
  · have h2l := ht1 h3
    match hargs : v.args, h2l with
    | [x, y], _ =>
    have hx : x ∈ v.args := by rw [hargs]; simp
    have hy : y ∈ v.args := by rw [hargs]; simp
    refine t_rg @h2 ?_
    refine t_no ?_
    refine t_rg @h4 ?_
    refine t_no ?_
    refine t_rg @h3 ?_
    refine t_yes ?_
    refine t_a ?_
    first | refine W_reg [] fun K hK => ?_ | refine W_regd (by rw [hP]; exact mixed) [] fun K hK => ?_
    refine t_s @hargs ?_
    refine t_c @hargs (ih x hx (ht2 x hx)) ?_
    refine t_c @hargs (ih y hy (ht2 y hy)) ?_
    refine t_c @hargs (of_ok 10 [x.termN, y.termN]) ?_
    refine t_e ?_
    clear hK K
    have htm : v.termN = Tm.mk 10 0 (Ty.mk 0 []) [x.termN, y.termN] := by rw [Val.termN_eq]; simp [h3, hargs]
    refine t_r ?_
    simp [go_sem, hP, hgl, hn, htm] <;> (try omega)
    all_goals exact t_f
  refine t_rg @h2 ?_
  refine t_no ?_
  refine t_rg @h4 ?_
  refine t_no ?_
  refine t_rg @h3 ?_
  refine t_no ?_
  refine t_a ?_
  first | refine W_reg [] fun K hK => ?_ | refine W_regd (by rw [hP]; exact mixed) [] fun K hK => ?_
  refine t_s0 ?_
  refine t_c trivial (number_ok v.num) ?_
  refine t_e ?_
  clear hK K
  have htm : v.termN = numTm v.num.toNat := by rw [Val.termN_eq]; simp [h2, h3, h4]
  refine t_r ?_
  simp [go_sem, hP, hgl, hn, htm] <;> (try omega)
end Go.Proofs.YtbmnlkfgkdallaaGreatDoor.Lift
