import Derived.Test.YtmdjiajbnifjpaaDoorQ4
/-
  Package code: Compile, walked.
-/
namespace Go.Proofs.YtmdjiajbnifjpaaDoor.Lift
set_option linter.unusedSimpArgs false
set_option linter.unusedVariables false
set_option linter.unnecessarySimpa false
open Go
variable {gl : Globs}

set_option maxHeartbeats 1000000 in
set_option maxRecDepth 10000 in
theorem compile_ok (har : globOf gl 1 = some arEls) (hop : globOf gl 0 = some opEls) (t : Tm) (ht : t.tys) (hc : t.count ≤ 1000000) :
    Con1 Tryd.prog gl 17 [t.dv] [] (.tup [.sl (rowsI t.compN.1), dint t.compN.2]) [] := by
  refine t_in Tryd.func17 ?_
  intro X hP hgl hf hfn hn hR hids hfit
  have hfo := Tm.fold t
  refine t_g0 ?_
  refine t_c1 @hfo (termscheck_ok har t ht (by omega)) ?_
  by_cases h : t.checkN = 0
  · have hsh := ((Tm.checkN_iff t).1 h).1
    refine t_rg @h ?_
    refine t_no ?_
    refine t_rg0 ?_
    refine t_rg0 ?_
    refine t_a ?_
    refine W_reg [16] fun K hK => ?_
    simp [go_sem, hP, hgl, hn, hfo]
    refine vcK_litX (E := 5) (els := [[dint t.kind, dint t.index, dint t.type.kind, .sl (t.type.args.map Ty.cells), .sl (t.args.map Tm.cells)]]) (by simp [go_sem, hP]; rfl) (by simp [go_sem, hP, hgl, hn]) ⟨rfl, by decide⟩ (by rw [hn]; exact Nat.le_of_ble_eq_true rfl) (by rfl) ?_
    intro bT hbT hwT
    simp [go_sem] at hbT
    simp [go_sem, hP, hgl, hn]
    refine hK _ ?_
    clear hK K
    refine t_rg0 ?_
    refine W_expose 6 (by simp [go_sem]; rfl) ?_
    intro bf hbf
    simp [go_sem] at hbf ⊢
    refine W_expose 5 (by simp [go_sem]; rfl) ?_
    intro bo hbo
    simp [go_sem] at hbo ⊢
    refine W_expose 7 (by simp [go_sem]; rfl) ?_
    intro bt hbt
    simp [go_sem] at hbt ⊢
    refine W_expose 8 (by simp [go_sem]; rfl) ?_
    intro be hbe
    simp [go_sem] at hbe ⊢
    refine W_nilraw ?_
    simp [nlz, nlzLV, nlzRow, nlzSV, nlzRow_arr]
    have hd : (bf ≠ bo ∧ bf ≠ bt ∧ bf ≠ be ∧ bo ≠ bt ∧ bo ≠ be ∧ bt ≠ be) ∧ (bo ≠ bf ∧ bt ≠ bf ∧ be ≠ bf ∧ bt ≠ bo ∧ be ≠ bo ∧ be ≠ bt) ∧ (bT ≠ bf ∧ bT ≠ bo ∧ bT ≠ bt ∧ bT ≠ be) ∧ (bf ≠ bT ∧ bo ≠ bT ∧ bt ≠ bT ∧ be ≠ bT) := by
      refine ⟨⟨?_, ?_, ?_, ?_, ?_, ?_⟩, ⟨?_, ?_, ?_, ?_, ?_, ?_⟩, ⟨?_, ?_, ?_, ?_⟩, ⟨?_, ?_, ?_, ?_⟩⟩ <;> intro e <;> subst e <;> simp at hbf hbo hbt hbe
    refine t_rg @hd ?_
    refine t_rg @hd ?_
    refine t_a ?_
    have hnd0 : ((emO bf bo bt be (RS.v ⟨none, 0, 0, []⟩) (RS.v ⟨none, 0, 0, []⟩) (RS.v ⟨some bT, 1, 1, [t.cells]⟩) ⟨none, 0, 0, []⟩ ⟨none, 0, 0, []⟩ ⟨some bT, 1, 1, [t.cells]⟩).map (·.1)).Nodup := by
      simp [emO, RS.objs, hd]
    refine W_sub [] (by simp [go_sem]) ?_ (by simp [go_sem]) (W_rounds
      (fun x : Nat × RS × RS × RS => x.1 ≤ (Tm.bfs [t]).length ∧ x.2.1.is 1 (ints (funPos 0 (lay (t.laid x.1)))) ∧ x.2.2.1.is 2 (rowsI (partC (t.laid x.1))) ∧ x.2.2.2.is 5 ((t.todo x.1).map Tm.cells) ∧ ((emO bf bo bt be x.2.1.v x.2.2.1.v x.2.2.2.v x.2.1 x.2.2.1 x.2.2.2).map (·.1)).Nodup)
      (fun x => (.slot 5, .one (.v (ptr bo))) :: (.slot 6, .one (.v (ptr bf))) :: (.slot 7, .one (.v (ptr bt))) :: (.slot 8, .one (.v (ptr be))) :: (.slot 9, .one (.v (dint x.1))) :: heapSt (emO bf bo bt be x.2.1.v x.2.2.1.v x.2.2.2.v x.2.1 x.2.2.1 x.2.2.2))
      (fun x => (Tm.bfs [t]).length - x.1) (0, ⟨none, 0, 0, []⟩, ⟨none, 0, 0, []⟩, ⟨some bT, 1, 1, [t.cells]⟩) ⟨Nat.zero_le _, ?_, ?_, ?_, hnd0⟩ ?_)
    · simp [go_sem, emO, RS.objs, emV, hd, Tm.cells_eq, arrRow]
    · exact ⟨fun _ => ⟨rfl, rfl⟩, rfl, by simp, Nat.le_refl _, by simp [Tm.laid, lay, funPos, ints]⟩
    · exact ⟨fun _ => ⟨rfl, rfl⟩, rfl, by simp, Nat.le_refl _, by simp [Tm.laid, lay, partC, fillF, rowsI]⟩
    · exact ⟨(fun h => nomatch h), rfl, by simp [Tm.cells_eq], Nat.le_refl _, by simp [Tm.todo]⟩
    · rintro ⟨i, F1, O1, T1⟩ ⟨i1, i2, i3, i4, i5⟩ ihr
      simp only at i1 i2 i3 i4 i5
      have hg1 := emO_get i5
      have hn1 := emO_ne i5
      have hTn : T1.n = (t.todo i).length := by rw [i4.n_eq, List.length_map]
      have hOn : O1.n = (lay (t.laid i)).length := by rw [i3.n_eq]; simp [rowsI, partC, fillF_length]
      have hFn : F1.n = funs (lay (t.laid i)) := by rw [i2.n_eq]; simp [ints, funPos_length]
      have htl := todo_bfs t i
      have hll := laid_le t i1
      have hbl := bfs_len t
      have hb1 : T1.n ≤ 2147483648 := by omega
      have hb2 : O1.n ≤ 2147483648 := by omega
      rcases todo_at t i1 with ⟨hie, hlen⟩ | ⟨x, hlt, hx, hxb, hl1, ht1, hi1⟩
      · rw [hlen] at hTn
        refine t_rg (j2 @hg1 @hTn) ?_
        refine t_no ?_
        have hall := partC_all t hsh
        rw [← hie] at hall
        rw [hall] at i3
        have hOc : O1.n = t.codeN.length := by rw [i3.n_eq]; simp [rowsI]
        by_cases h4 : 4096 < t.codeN.length
        · refine t_g (j2 @hg1 (j2 @hOc (j2 @h4 @hb2))) ?_
          refine t_r ?_
          simp [go_sem, hP, hgl, hn, Tm.compN, h, h4, rowsI] <;> (try omega)
        · have hne : rowsI t.codeN ≠ [] := by
            rw [code_lay]
            intro e
            have := congrArg List.length e
            simp only [rowsI, List.length_map, lay_length, List.length_nil] at this
            have h1 := blocks_ne t
            have h2 : t.code.length = t.blocks.length := fillB_length _ _ _
            exact h1 (List.length_eq_zero_iff.1 (by omega))
          obtain ⟨aO, haO⟩ := i3.there hne
          have hga := hg1.2.2.2.2.2.1 aO haO
          refine t_g (j2 @hg1 (j2 @hOc (j2 @h4 @hb2))) ?_
          refine t_a ?_
          refine W_sub [] (s' := [(.slot 2, .one (.v O1.v)), (.slot 3, .one (.v (dint 0))), (.heap aO, .row (arrRow O1.full))]) (by simp [go_sem]) (by simp [go_sem, hga, rowLe_arrZ]) (by simp [go_sem]) ?_
          refine W_freezeN (b := aO) (E := 2) (full := O1.full) O1.n (by simp [go_sem]) i3.wid (by rw [i3.len]; exact i3.le) (by unfold BIG; omega) (by rw [hids]; rfl) ?_
          have hle := i3.le
          have hvv : frzSV aO (rowsI t.codeN) (.v O1.v) = .v (.sl (rowsI t.codeN)) := by
            rw [← i3.els]
            unfold frzSV RS.v rawQ
            rw [haO]
            simp only [Option.map_some, List.length_take, i3.len]
            rw [if_pos ⟨trivial, by omega, hle⟩]
          rw [i3.els]
          have hv0 : frzSV aO (rowsI t.codeN) (.v (.prim (.int .i64 0))) = .v (dint 0) := rfl
          simp [go_sem, frz, frzLV, hvv, hv0]
          refine t_r ?_
          simp [go_sem, hP, hgl, hn, Tm.compN, h, h4] <;> (try omega)
      · have hlt' : (i : Int) < ((t.todo i).length : Nat) := by omega
        refine t_rg (j2 @hg1 (j2 @hTn @hlt')) ?_
        refine t_yes ?_
        refine t_rg0 ?_
        have hxs := bfs_shape [t] (by simpa using hsh) x (List.mem_of_getElem? hxb)
        have hxc : x.count ≤ t.count := by
          have := bfs_mem [t] x (List.mem_of_getElem? hxb)
          simpa [Tm.count.counts] using this
        have hfun := todo_funs t hsh i
        apply W_cutM (fun O2 : RS => O2.is 2 (rowsI (fillF (fun j => if j < i then ((startAt (t.laid i) (j + 1) : Nat) : Int) else 0) 0 (lay (t.laid i)))) ∧ ((emO bf bo bt be F1.v O2.v T1.v F1 O2 T1).map (·.1)).Nodup)
          (fun O2 => (.slot 5, .one (.v (ptr bo))) :: (.slot 6, .one (.v (ptr bf))) :: (.slot 7, .one (.v (ptr bt))) :: (.slot 8, .one (.v (ptr be))) :: (.slot 9, .one (.v (dint i))) :: heapSt (emO bf bo bt be F1.v O2.v T1.v F1 O2 T1))
        · intro hrest
          rcases Nat.eq_zero_or_pos i with h0 | h0
          · subst h0
            refine t_no ?_
            refine t_b ?_
            refine W_sub [] (by simp [go_sem]) ?_ (by simp [go_sem]) (hrest O1 ⟨?_, i5⟩)
            · simp [go_sem, subLe_hs_self _ i5]
            · simpa [Tm.laid, partC, lay, fillF] using i3
          · obtain ⟨m, rfl⟩ : ∃ m, i = m + 1 := ⟨i - 1, by omega⟩
            obtain ⟨p, p1, p2, ⟨a0, p3⟩, p4⟩ := partC_put (t.laid (m + 1)) (laid_length t i1) (by omega : m < funs (lay (t.laid (m + 1))))
            have hFe : (ints (funPos 0 (lay (t.laid (m + 1)))))[m]? = some [dint (p : Int)] := by simp [ints, p1]
            have hOe : (rowsI (partC (t.laid (m + 1))))[p]? = some [dint 2, dint a0] := by simp [rowsI, p3, Ins.row]
            obtain ⟨aF, haF⟩ := i2.there (by intro e; rw [e] at hFe; cases hFe)
            obtain ⟨aO, haO⟩ := i3.there (by intro e; rw [e] at hOe; cases hOe)
            have hF0 := i2.at hFe
            have hO0 := i3.at hOe
            have hFc : (arrRow F1.full)[m]? = some (.v (dint (p : Int))) := by
              have := arrRow_cell (E := 1) i2.wid hF0 (j := 0) rfl
              simpa using this
            have hFv : F1.v = rawS aF F1.n F1.cap := by unfold RS.v rawQ; rw [haF]; rfl
            have hOv : O1.v = rawS aO O1.n O1.cap := by unfold RS.v rawQ; rw [haO]; rfl
            have hpl : p < O1.n := by rw [i3.n_eq]; simpa [rowsI] using p2
            have hol : (arrRow O1.full).length = O1.cap * 2 := by rw [arrRow_len i3.wid, i3.len]
            have hoc := i3.le
            have hmF : m < F1.n := by omega
            have hgF := hg1.2.2.2.2.1 aF haF
            have hgO := hg1.2.2.2.2.2.1 aO haO
            have hgbf := hg1.1
            have hgbo := hg1.2.1
            refine t_yes ?_
            refine t_a ?_
            generalize hφ : emO bf bo bt be F1.v O1.v T1.v F1 O1 T1 = φ1 at hgF hgO hgbf hgbo i5 ⊢
            refine W_regT (by rw [hP]; exact mixed) 8 (by decide) (by rfl) [] [] fun K hK => ?_
            simp [go_sem, hP, hgl, hn, hgF, hgO, hgbf, hgbo, hFv, hOv, hFc, hb2]
            refine ⟨by omega, by omega, by rfl, hpl, by omega, hK _ ?_⟩
            clear hK K
            have hob1 : O1.objs = [(aO, O1.full.flatten)] := by unfold RS.objs; rw [haO]
            have hob2 : RS.objs ⟨O1.q, O1.n, O1.cap, O1.full.set p [dint 2, dint (O1.n : Nat)]⟩ = [(aO, (O1.full.set p [dint 2, dint (O1.n : Nat)]).flatten)] := by unfold RS.objs; rw [haO]
            refine t_b ?_
            refine W_putT (φ := φ1) (A := [(bf, [F1.v]), (bo, [O1.v]), (bt, [T1.v]), (be, [emV bf bo bt be])] ++ F1.objs) (B := T1.objs) (c := O1.full.flatten) (c' := (O1.full.set p [dint 2, dint (O1.n : Nat)]).flatten) (emO bf bo bt be F1.v O1.v T1.v F1 ⟨O1.q, O1.n, O1.cap, O1.full.set p [dint 2, dint (O1.n : Nat)]⟩ T1) (by repeat (first | exact TailD.nil _ _ | apply TailD.slot | apply TailD.loc)) (by rw [← hφ, emO_O, hob1]; rfl) (by rw [emO_O, hob2]; rfl) i5 ?_ fun hnd2 => ?_
            · have := put_cell i3.wid hO0 (j := 1) (by decide) (dint (O1.n : Nat))
              simpa [arrRow] using this
            · refine W_sub [] (by simp [go_sem]) ?_ (by simp [go_sem]) (hrest ⟨O1.q, O1.n, O1.cap, O1.full.set p [dint 2, dint (O1.n : Nat)]⟩ ⟨?_, hnd2⟩)
              · simp [go_sem, subLe_hs_self _ hnd2]
              · have hset := i3.set (i := p) (e := [dint 2, dint (O1.n : Nat)]) (by simpa [rowsI] using p2) rfl
                have e2 : (rowsI (partC (t.laid (m + 1)))).set p [dint 2, dint (O1.n : Nat)] = rowsI ((partC (t.laid (m + 1))).set p (2, (O1.n : Nat))) := by
                  simp [rowsI, List.map_set, Ins.row]
                rw [e2, hOn, p4] at hset
                rw [hOn]
                exact hset
        · rintro O2 ⟨o1, o2⟩
          have hg2 := emO_get o2
          have hxe : ((t.todo i).map Tm.cells)[i]? = some x.cells := by rw [List.getElem?_map, hx]; rfl
          obtain ⟨aT, haT⟩ := i4.there (by intro e; rw [e] at hxe; cases hxe)
          have hT0 := i4.at hxe
          have hrd := arrRow_rd i4.wid hT0
          rw [Tm.cells_eq x] at hrd
          have hfx := Tm.fold x
          have hTv : T1.v = rawS aT T1.n T1.cap := by unfold RS.v rawQ; rw [haT]; rfl
          have hgT := hg2.2.2.2.2.2.2 aT haT
          have hgbt := hg2.2.2.1
          have hgbe := hg2.2.2.2.1
          have hos : (fillF (fun j => if j < i then ((startAt (t.laid i) (j + 1) : Nat) : Int) else 0) 0 (lay (t.laid i))).length = (lay (t.laid i)).length := fillF_length _ _ _
          have hfl : (funPos 0 (lay (t.laid i))).length = funs (lay (t.laid i)) := funPos_length _ _
          have hcon := emit_ok hop x bf bo bt be (funPos 0 (lay (t.laid i))) (fillF (fun j => if j < i then ((startAt (t.laid i) (j + 1) : Nat) : Int) else 0) 0 (lay (t.laid i))) (t.todo i) F1 O2 T1 hxs (by omega) (by omega) (by omega) (by omega) i2 o1 i4 o2
          rw [hos] at hcon
          refine t_a ?_
          generalize hφ : emO bf bo bt be F1.v O2.v T1.v F1 O2 T1 = φ2 at hgT hgbt hgbe o2 hcon ⊢
          refine W_regT (by rw [hP]; exact mixed) 5 (by decide) (by rfl) [] [] fun K hK => ?_
          simp [go_sem, hP, hgl, hn, hgT, hgbt, hgbe, hTv, hrd, hfx]
          refine ⟨by omega, by rfl, ?_⟩
          refine vcK_callVT hP hgl (f := 48) (fi := #[]) (ca := #[.pointer (some ⟨bf, 0, none⟩), .pointer (some ⟨bo, 0, none⟩), .pointer (some ⟨bt, 0, none⟩), .pointer (some ⟨be, 0, none⟩)]) (by simp [go_sem, emV]) (by simp [primOK]) hcon (by simp [go_sem]; rfl) (by simp) (by repeat (first | exact Tail.nil _ | apply Tail.slot | apply Tail.loc)) o2 (by rw [hn]; exact Nat.le_of_ble_eq_true rfl) rfl ?_
          rintro r ψ ⟨rfl, F2, O3, T2, q1, q2, q3, q4, rfl⟩
          refine ⟨q4, ?_⟩
          simp [go_sem]
          refine hK _ ?_
          clear hK K
          have hg3 := emO_get q4
          have hO3 : O3.n ≤ 1000000000 := by
            rw [q2.n_eq]
            have := skel_le x
            simp only [rowsI, List.length_map, List.length_append]
            omega
          refine t_a ?_
          refine W_reg [45] fun K hK => ?_
          simp [go_sem, hP, hgl, hn, hg3]
          refine vcK_eff (x := O3) (E := 2) (zs := [[dint 14, dint 0]]) (fun O4 => emO bf bo bt be F2.v O3.v T2.v F2 O4 T2) rfl (by repeat (first | exact Tail.nil _ | apply Tail.slot | apply Tail.loc)) (emO_O ..) (fun _ => emO_O ..) q4 q2 (free_append (E := 2) (B := 16) (zd := [dint 0, dint 0]) rfl rfl (by rw [hn]; exact Nat.le_of_ble_eq_true rfl) (by simp [go_sem, hP]) (by decide) (by rw [hP]; rfl) (by simp [go_sem, hP, hgl, hn]) (by simp [go_sem, hP, hgl, hn]) (fun b hb => by simp [go_sem, hg3, hb]) q2.nil q2.len q2.le (by simp) (by simp; unfold BIG; omega) q2.wid (by simp) (by rw [hP]; kernel_rfl) rfl) rfl ?_
          intro O4 hO4 hq hnd2
          simp only [go_sem, List.cons_append, List.nil_append]
          refine VL_boxT (agg := false) (b := bo) (c := O3.v) (d := O4.v) (A := [(bf, [F2.v])]) (B := (bt, [T2.v]) :: (be, [emV bf bo bt be]) :: (F2.objs ++ (O4.objs ++ T2.objs))) (emO bf bo bt be F2.v O4.v T2.v F2 O4 T2) (by repeat (first | exact Tail.nil _ | apply Tail.slot | apply Tail.loc)) rfl rfl hnd2 (by simp [go_sem]) (by simp [go_sem]) (by simp [go_sem, hP]) rfl rfl fun hnd3 => ?_
          simp only [List.cons_append, List.nil_append]
          refine VL_nil (hK _ ?_)
          clear hK K
          refine t_rg0 ?_
          refine t_b ?_
          refine W_sub [] (by simp [go_sem]) ?_ (by simp [go_sem]) (ihr (i + 1, F2, O4, T2) ⟨hi1, ?_, ?_, ?_, hnd3⟩ (by simp only; omega))
          · simp [go_sem, subLe_hs_self _ hnd3]
          · rw [hl1, funPos_lay]
            exact q1
          · rw [hl1, ← partC_lay (t.laid i) x hxs (m := i) (laid_length t i1) (by omega), rowsI_app]
            exact hO4
          · rw [ht1]
            exact q3
  · refine t_g @h ?_
    refine t_r ?_
    simp [go_sem, hP, hgl, hn, Tm.compN, h, rowsI] <;> (try omega)
    all_goals exact t_f
end Go.Proofs.YtmdjiajbnifjpaaDoor.Lift

/-
  Part R of the small logic: a drawn region with two operations of several outcomes, and STRAYS: moves that only the last operations wait for.
-/
namespace Go.Proofs.YtmdjiajbnifjpaaDoor.Lift
set_option linter.unusedSimpArgs false
set_option linter.unusedVariables false
set_option linter.unnecessarySimpa false
open Go
section
variable {X : Ctx} {s s0 : St} {k : List Item}

structure Stray where
  pos : Nat
  dst : Nat
  src : Nat
  val : LV

/-- from m to n1 each operation waits for all before it but strays, from n1 on for all -/
def tailS (T : List Nat) (zs : List Stray) (m n1 n : Nat) : Bool := (List.range n).all fun j => decide (j < m) || (List.range j).all fun i => (T.getD j 0).testBit i || (decide (j < n1) && zs.any fun z => z.pos == i)
theorem tailS_spec {T : List Nat} {zs : List Stray} {m n1 n : Nat} (h : tailS T zs m n1 n = true) : ∀ j, m ≤ j → j < n → ∀ i, i < j → (T.getD j 0).testBit i = true ∨ (j < n1 ∧ ∃ z ∈ zs, z.pos = i) := by
  intro j hj hn i hi
  have := List.all_eq_true.1 h j (List.mem_range.2 hn)
  rw [Bool.or_eq_true] at this
  rcases this with h1 | h1
  · exact absurd (of_decide_eq_true h1) (by omega)
  · have h2 := List.all_eq_true.1 h1 i (List.mem_range.2 hi)
    simp only [Bool.or_eq_true, Bool.and_eq_true, decide_eq_true_eq, List.any_eq_true, beq_iff_eq] at h2
    exact h2
def tailOKS (ops : List Oper) (zs : List Stray) (q m n1 : Nat) : Bool :=
  let T := tabGo ops []
  backB 0 ops && fixB T T ops && tailS T zs m n1 ops.length && ops.all (fun o => o.guard.isNone) && zs.all fun z => decide (z.pos < m) && z.pos != q && zs.all fun y => z.src != y.dst && (y.pos != z.pos || y.dst == z.dst)

/-- the tail's events leave the strays alone -/
def tailEB (T : List Nat) (zs : List Stray) : Nat → List Ev → Bool
  | _, [] => true
  | j, x :: r => x.nm.isEmpty && (zs.all fun z => disL (wrL x.e) [.slot z.src, .slot z.dst] && ((T.getD j 0).testBit z.pos || disL x.fp [.slot z.dst])) && tailEB T zs (j + 1) r

/-- what is known while strays are out -/
def agree (zs : List Stray) (L : Nat → Bool) (s1 s : St) : Prop := ∀ l, (∀ z ∈ zs, L z.pos = false → l ≠ .slot z.dst) → get s1 l = get s l

/-- a stray's step -/
def StrayStep (X : Ctx) (ops : Array Oper) (s0 : St) (z : Stray) : Prop :=
  ∃ (oz : Oper) (ops' : Array Oper), ops[z.pos]? = some oz ∧ oz.guard = none ∧ ∀ s, get s (.slot z.src) = get s0 (.slot z.src) → OpOK X ops' oz s (apply s [(.slot z.dst, some z.val)])

section
variable {ops : Array Oper} {m n1 : Nat} {T0 : List Nat} {zs : List Stray} {K : St → Prop}

theorem stuck_ready {n : Nat} {listed : Array Bool} (hback0 : backB 0 ops.toList = true) (hsz : listed.size = ops.size) (hn : n ≤ ops.size) (hr : Region.ready .any ops listed = []) : ∀ j, j < n → Lof listed j = true := by
  intro j
  induction j using Nat.strongRecOn with
  | _ j ihj =>
    intro hj
    cases hq : Lof listed j with
    | true => rfl
    | false =>
      have hjo : j < ops.size := by omega
      have : j ∈ Region.ready .any ops listed := by
        rw [mem_ready]
        refine ⟨by rw [getD_tf (by omega)]; exact hq, ops[j], Array.getElem?_eq_getElem hjo, fun e he hb => ?_⟩
        have hlt := backB_spec hback0 j ops[j] (by simp [hjo]) e he hb
        exact ihj e.on (by omega) (by omega)
      rw [hr] at this
      cases this
theorem closed_set {listed : Array Bool} {i : Nat} {o : Oper} (hil : i < listed.size) (ho : ops[i]? = some o) (hall : ∀ e ∈ o.after, Region.binds .any e = true → Lof listed e.on = true) (hcl : Closed ops (Lof listed)) : Closed ops (Lof (listed.setIfInBounds i true)) := by
  rw [Lof_set hil]
  intro j o' hL hoj e he hb
  simp only [Bool.or_eq_true, beq_iff_eq] at hL ⊢
  rcases hL with rfl | hL
  · rw [ho] at hoj; cases hoj
    exact .inr (hall e he hb)
  · exact .inr (hcl j o' hL hoj e he hb)
/-- an operation that is wanted anyhow -/
theorem wp_of_op {o : Oper} {i : Nat} {ops' : Array Oper} {s1 s2 : St} {next : Act → World → Prop} {Q : Exit → Act → World → Prop} (ho : ops[i]? = some o) (hg : o.guard = none) (hop : OpOK X ops' o s1 s2) {G : Gh} {a : Act} {w : World} (R : Rel X G s1 a w) (hnext : ∀ G' a' w', Rel X G' s2 a' w' → next a' w') :
    wpOpIn X.F 0 X.P ops Q i next a w := by
  have := hop G a w R next Q hnext
  unfold wpOpIn
  simp only [ho]
  have hw : ∀ y, Region.wanted o y = true := fun y => by simp [Region.wanted, hg]
  simp only [hw, if_true] at this ⊢
  exact this
theorem wp_of_free {o : Oper} {i d : Nat} {a0 : Option Nat} {P : SV → Nat → List SV → Prop} {s1 sr : St} {next : Act → World → Prop} {Q : Exit → Act → World → Prop} (ho : ops[i]? = some o) (hg : o.guard = none) (hf : FreeStep X o sr d a0 P) (hle : leS sr s1) {G : Gh} {a : Act} {w : World} (R : Rel X G s1 a w)
    (hnext : ∀ y b cs, P y b cs → newA b a0 s1 → ∀ G' a' w', Rel X G' (effO d a0 y b cs s1) a' w' → next a' w') : wpOpIn X.F 0 X.P ops Q i next a w := by
  have := hf s1 hle G a w R next Q hnext
  unfold wpOpIn
  simp only [ho]
  have hw : ∀ y, Region.wanted o y = true := fun y => by simp [Region.wanted, hg]
  simp only [hw, if_true]
  exact this
theorem agree_set {L : Nat → Bool} {i : Nat} {s1 s : St} (h : agree zs L s1 s) (hi : ∀ z ∈ zs, z.pos ≠ i) : agree zs (fun j => j == i || L j) s1 s := by
  intro l hl
  refine h l fun z hz hq => hl z hz ?_
  show (z.pos == i || L z.pos) = false
  rw [hq, Bool.or_false]
  simpa using hi z hz
/-- a stray comes in -/
theorem agree_stray {L : Nat → Bool} {z : Stray} {s1 s : St} (hp : ∀ y ∈ zs, y.pos = z.pos → y.dst = z.dst) (h : agree zs L s1 s) (hv : get s (.slot z.dst) = some z.val) : agree zs (fun j => j == z.pos || L j) (apply s1 [(.slot z.dst, some z.val)]) s := by
  intro l hl
  have e : apply s1 [(.slot z.dst, some z.val)] = upd s1 (.slot z.dst) z.val := rfl
  rw [e, get_upd]
  by_cases h1 : Loc.slot z.dst = l
  · rw [if_pos h1, ← h1, hv]
  · rw [if_neg h1]
    refine h l fun y hy hq e2 => ?_
    by_cases hyz : y.pos = z.pos
    · exact h1 (by rw [e2, hp y hy hyz])
    · refine hl y hy ?_ e2
      show (y.pos == z.pos || L y.pos) = false
      rw [hq, Bool.or_false]
      simpa using hyz
theorem agree_apply {L : Nat → Bool} {s1 s : St} (h : agree zs L s1 s) (e : Eff) : agree zs L (apply s1 e) (apply s e) := by
  intro l hl
  rw [get_apply, get_apply, h l hl]
theorem agree_eff {L : Nat → Bool} {s1 s : St} (h : agree zs L s1 s) {d : Nat} {a : Option Nat} {y : SV} {b : Nat} {cs : List SV} : agree zs L (effO d a y b cs s1) (effO d a y b cs s) := by
  intro l hl
  exact effO_eq (.inl (h l hl))

/-- the tail behind the second free operation -/
theorem draw_T2 (hback0 : backB 0 ops.toList = true) (hfix0 : fixB T0 T0 ops.toList = true) (htail : ∀ j, m ≤ j → j < ops.size → ∀ i, i < j → (T0.getD j 0).testBit i = true ∨ (j < n1 ∧ ∃ z ∈ zs, z.pos = i)) (hn1 : n1 ≤ ops.size) (hmn : m ≤ n1)
    (hz : ∀ z ∈ zs, z.pos < m ∧ StrayStep X ops s0 z) (hzd : ∀ z ∈ zs, ∀ y ∈ zs, z.src ≠ y.dst ∧ (y.pos = z.pos → y.dst = z.dst)) :
    ∀ (fuel : Nat) (l : List Oper) (evs : List Ev) (S : St) (j : Nat) (listed : Array Bool) (G : Gh) (a : Act) (w : World) (s1 : St), j + l.length = n1 → m ≤ j → (∀ i o, l[i]? = some o → ops[j + i]? = some o ∧ o.guard = none) → RunL X #[] l S evs → tailEB T0 zs j evs = true →
      (∀ z ∈ zs, get S (.slot z.src) = get s0 (.slot z.src) ∧ get S (.slot z.dst) = some z.val) → VL X ops (ops.toList.drop n1) (appAll S evs) K → listed.size = ops.size → Closed ops (Lof listed) → (∀ i, j ≤ i → Lof listed i = false) → (∀ i, i < j → Lof listed i = true ∨ ∃ z ∈ zs, z.pos = i) → agree zs (Lof listed) s1 S →
      (left n1 listed).length + (ops.size - n1) ≤ fuel → Rel X G s1 a w → wpAnyIn X.F 0 X.P .any ops (Nrm X K) fuel listed a w := by
  intro fuel
  induction fuel with
  | zero =>
    intro l evs S j listed G a w s1 hj hmj hl hrun hte hzs hK hsz hcl htl hlt hag hle R
    have hall : ∀ i, i < n1 → Lof listed i = true := by
      intro i hi
      cases hq : Lof listed i with
      | true => rfl
      | false =>
        have hm : i ∈ left n1 listed := by simp [left, hi, hq]
        have := List.length_pos_of_mem hm
        omega
    have hjn : j = n1 := by
      rcases Nat.lt_or_ge j n1 with h | h
      · have := hall j h; rw [htl j (Nat.le_refl _)] at this; cases this
      · omega
    subst hjn
    have hl0 : l = [] := List.length_eq_zero_iff.1 (by omega)
    subst hl0
    have he0 : evs = [] := by cases evs with | nil => rfl | cons _ _ => exact hrun.elim
    subst he0
    have hR : Rel X G S a w := R.congr fun lc => (hag lc fun z hz1 hq => by
      have := hall z.pos (by have := (hz z hz1).1; omega)
      rw [this] at hq; cases hq).symm
    refine seq_any hback0 hfix0 (fun j' h1 h2 i hi => (htail j' (by omega) h2 i hi).resolve_right fun h => by omega) (ops.size - j) j 0 listed a w (by omega) (Nat.le_refl _) hsz (fun i hi => ?_) (by omega) ?_
    · by_cases him : i < j
      · rw [hall i him]; exact (decide_eq_true him).symm
      · rw [htl i (by omega)]; exact (decide_eq_false him).symm
    · have hw := hK j rfl G a w hR
      have hd : (ops.toList.drop j).length = ops.size - j := by simp
      rw [hd] at hw
      exact hw
  | succ fuel ih =>
    intro l evs S j listed G a w s1 hj hmj hl hrun hte hzs hK hsz hcl htl hlt hag hle R
    by_cases hall : ∀ i, i < n1 → Lof listed i = true
    · have hjn : j = n1 := by
        rcases Nat.lt_or_ge j n1 with h | h
        · have := hall j h; rw [htl j (Nat.le_refl _)] at this; cases this
        · omega
      subst hjn
      have hl0 : l = [] := List.length_eq_zero_iff.1 (by omega)
      subst hl0
      have he0 : evs = [] := by cases evs with | nil => rfl | cons _ _ => exact hrun.elim
      subst he0
      have hR : Rel X G S a w := R.congr fun lc => (hag lc fun z hz1 hq => by
        have := hall z.pos (by have := (hz z hz1).1; omega)
        rw [this] at hq; cases hq).symm
      refine seq_any hback0 hfix0 (fun j' h1 h2 i hi => (htail j' (by omega) h2 i hi).resolve_right fun h => by omega) (ops.size - j) j (fuel + 1) listed a w (by omega) (Nat.le_refl _) hsz (fun i hi => ?_) (by omega) ?_
      · by_cases him : i < j
        · rw [hall i him]; exact (decide_eq_true him).symm
        · rw [htl i (by omega)]; exact (decide_eq_false him).symm
      · have hw := hK j rfl G a w hR
        have hd : (ops.toList.drop j).length = ops.size - j := by simp
        rw [hd] at hw
        exact hw
    refine ⟨fun hr => absurd (stuck_ready hback0 hsz hn1 hr) hall, fun i hi => ?_⟩
    obtain ⟨h1, o, ho, hall1⟩ := mem_ready.1 hi
    have hio : i < ops.size := (Array.getElem?_eq_some_iff.1 ho).1
    have hil : i < listed.size := by omega
    rw [getD_tf hil] at h1
    have hall' : ∀ e ∈ o.after, Region.binds .any e = true → Lof listed e.on = true := hall1
    have hcl' := closed_set hil ho hall' hcl
    rcases Nat.lt_or_ge i j with hij | hij
    · obtain ⟨z, hz1, rfl⟩ := (hlt i hij).resolve_left fun h => by rw [h1] at h; cases h
      obtain ⟨hzm, oz, ops', hoz, hog, hst⟩ := hz z hz1
      have hlft := left_set (n := n1) hil (by omega) h1
      have hsrc : get s1 (.slot z.src) = get s0 (.slot z.src) := by
        rw [hag (.slot z.src) fun y hy _ e => by injection e with e; exact (hzd z hz1 y hy).1 e, (hzs z hz1).1]
      refine wp_of_op hoz hog (hst s1 hsrc) R fun G' a' w' R' => ih l evs S j _ G' a' w' _ hj hmj hl hrun hte hzs hK (by simpa using hsz) hcl' ?_ ?_ ?_ (by omega) R'
      · intro i' hi'
        rw [Lof_set hil]
        show (i' == z.pos || Lof listed i') = false
        rw [htl i' hi', Bool.or_false]
        simp; omega
      · intro i' hi'
        rw [Lof_set hil]
        rcases hlt i' hi' with h | h
        · exact .inl (by simp [h])
        · exact .inr h
      · rw [Lof_set hil]
        exact agree_stray (fun y hy => (hzd z hz1 y hy).2) hag (hzs z hz1).2
    · have hbit : ∀ i', i' < i → (T0.getD i 0).testBit i' = true → Lof listed i' = true := fun i' _ hb => anc_spec hback0 hfix0 hcl i o ho hall' hb
      have hij2 : i = j := by
        rcases Nat.lt_or_ge j i with h | h
        · rcases htail i (by omega) hio j h with h2 | ⟨-, z, hz1, h2⟩
          · have := hbit j h h2; rw [htl j (Nat.le_refl _)] at this; cases this
          · have := (hz z hz1).1; omega
        · omega
      subst hij2
      cases l with
      | nil =>
        have hin : i = n1 := by simpa using hj
        exact absurd (fun i' hi' => by
          rcases htail i (by omega) hio i' (by omega) with h2 | ⟨h2, -⟩
          · exact hbit i' (by omega) h2
          · omega) hall
      | cons o1 l =>
        cases evs with
        | nil => exact hrun.elim
        | cons x evs =>
          obtain ⟨hst, hrun'⟩ := hrun
          obtain ⟨ho1, hog⟩ := hl 0 o1 rfl
          rw [Nat.add_zero] at ho1
          simp only [tailEB, Bool.and_eq_true, List.all_eq_true, Bool.or_eq_true, disL_iff, List.isEmpty_iff] at hte
          obtain ⟨⟨hnm, hze⟩, hte'⟩ := hte
          have hlen1 : i + 1 + l.length = n1 := by simp at hj; omega
          have hlft := left_set (n := n1) hil (by omega) h1
          have hop := hst s1 (fun lc v hg => by
            obtain ⟨hfp, hg1⟩ := get_restr hg
            rw [hag lc fun z hz1 hq e => ?_]
            · exact hg1
            · rcases (hze z hz1).2 with h2 | h2
              · have hb := hbit z.pos (by have := (hz z hz1).1; omega) h2
                rw [hb] at hq; cases hq
              · exact h2 lc hfp (by rw [e]; simp)) (by rw [hnm]; intro n hn; cases hn)
          refine wp_of_op ho1 hog hop R fun G' a' w' R' => ih l evs (apply S x.e) (i + 1) _ G' a' w' _ hlen1 (by omega) ?_ hrun' hte' ?_ hK (by simpa using hsz) hcl' ?_ ?_ ?_ (by omega) R'
          · intro i' o' ho'
            have := hl (i' + 1) o' (by simpa using ho')
            rwa [show i + (i' + 1) = i + 1 + i' from by omega] at this
          · intro z hz1
            have hzw := (hze z hz1).1
            refine ⟨?_, ?_⟩
            · rw [get_apply_ne fun hm => hzw _ hm (by simp)]; exact (hzs z hz1).1
            · rw [get_apply_ne fun hm => hzw _ hm (by simp)]; exact (hzs z hz1).2
          · intro i' hi'
            rw [Lof_set hil]
            show (i' == i || Lof listed i') = false
            rw [htl i' (by omega), Bool.or_false]
            simp; omega
          · intro i' hi'
            rw [Lof_set hil]
            by_cases h : i' = i
            · exact .inl (by simp [h])
            · rcases hlt i' (by omega) with h | h
              · exact .inl (by simp [h])
              · exact .inr h
          · rw [Lof_set hil]
            exact agree_set (agree_apply hag x.e) fun z hz1 e => by have := (hz z hz1).1; omega

/-- up to the second free operation -/
theorem draw_T1 (hback0 : backB 0 ops.toList = true) (hfix0 : fixB T0 T0 ops.toList = true) (htail : ∀ j, m ≤ j → j < ops.size → ∀ i, i < j → (T0.getD j 0).testBit i = true ∨ (j < n1 ∧ ∃ z ∈ zs, z.pos = i)) (hn1 : n1 ≤ ops.size) (hmn : m < n1)
    (hz : ∀ z ∈ zs, z.pos < m ∧ StrayStep X ops s0 z) (hzd : ∀ z ∈ zs, ∀ y ∈ zs, z.src ≠ y.dst ∧ (y.pos = z.pos → y.dst = z.dst)) {S : St} (hzs : ∀ z ∈ zs, get S (.slot z.src) = get s0 (.slot z.src) ∧ get S (.slot z.dst) = some z.val)
    {o2 : Oper} (ho2 : ops[m]? = some o2) (hog2 : o2.guard = none) {fp2 : List Loc} {d2 : Nat} {a2 : Option Nat} {P2 : SV → Nat → List SV → Prop} (hf2 : FreeStep X o2 (restr S fp2) d2 a2 P2) (hfp2 : ∀ z ∈ zs, (T0.getD m 0).testBit z.pos = true ∨ Loc.slot z.dst ∉ fp2) (hd2 : ∀ z ∈ zs, z.src ≠ d2 ∧ z.dst ≠ d2)
    (l : List Oper) (hl : ∀ i o, l[i]? = some o → ops[m + 1 + i]? = some o ∧ o.guard = none) (hll : m + 1 + l.length = n1)
    (hnext : ∀ y b cs, P2 y b cs → newA b a2 S → ∃ evs, RunL X #[] l (effO d2 a2 y b cs S) evs ∧ tailEB T0 zs (m + 1) evs = true ∧ VL X ops (ops.toList.drop n1) (appAll (effO d2 a2 y b cs S) evs) K) :
    ∀ (fuel : Nat) (listed : Array Bool) (G : Gh) (a : Act) (w : World) (s1 : St), listed.size = ops.size → Closed ops (Lof listed) → (∀ i, m ≤ i → Lof listed i = false) → (∀ i, i < m → Lof listed i = true ∨ ∃ z ∈ zs, z.pos = i) → agree zs (Lof listed) s1 S →
      (left n1 listed).length + (ops.size - n1) ≤ fuel → Rel X G s1 a w → wpAnyIn X.F 0 X.P .any ops (Nrm X K) fuel listed a w := by
  intro fuel
  induction fuel with
  | zero =>
    intro listed G a w s1 hsz hcl htl hlt hag hle R
    have hm : m ∈ left n1 listed := by simp [left, hmn, htl m (Nat.le_refl _)]
    have := List.length_pos_of_mem hm
    omega
  | succ fuel ih =>
    intro listed G a w s1 hsz hcl htl hlt hag hle R
    refine ⟨fun hr => ?_, fun i hi => ?_⟩
    · have := stuck_ready hback0 hsz hn1 hr m hmn
      rw [htl m (Nat.le_refl _)] at this; cases this
    obtain ⟨h1, o, ho, hall1⟩ := mem_ready.1 hi
    have hio : i < ops.size := (Array.getElem?_eq_some_iff.1 ho).1
    have hil : i < listed.size := by omega
    rw [getD_tf hil] at h1
    have hall' : ∀ e ∈ o.after, Region.binds .any e = true → Lof listed e.on = true := hall1
    have hcl' := closed_set hil ho hall' hcl
    rcases Nat.lt_or_ge i m with hij | hij
    · obtain ⟨z, hz1, rfl⟩ := (hlt i hij).resolve_left fun h => by rw [h1] at h; cases h
      obtain ⟨hzm, oz, ops', hoz, hog, hst⟩ := hz z hz1
      have hlft := left_set (n := n1) hil (by omega) h1
      have hsrc : get s1 (.slot z.src) = get s0 (.slot z.src) := by
        rw [hag (.slot z.src) fun y hy _ e => by injection e with e; exact (hzd z hz1 y hy).1 e, (hzs z hz1).1]
      refine wp_of_op hoz hog (hst s1 hsrc) R fun G' a' w' R' => ih _ G' a' w' _ (by simpa using hsz) hcl' ?_ ?_ ?_ (by omega) R'
      · intro i' hi'
        rw [Lof_set hil]
        show (i' == z.pos || Lof listed i') = false
        rw [htl i' hi', Bool.or_false]
        simp; omega
      · intro i' hi'
        rw [Lof_set hil]
        rcases hlt i' hi' with h | h
        · exact .inl (by simp [h])
        · exact .inr h
      · rw [Lof_set hil]
        exact agree_stray (fun y hy => (hzd z hz1 y hy).2) hag (hzs z hz1).2
    · have hbit : ∀ i', i' < i → (T0.getD i 0).testBit i' = true → Lof listed i' = true := fun i' _ hb => anc_spec hback0 hfix0 hcl i o ho hall' hb
      have hij2 : i = m := by
        rcases Nat.lt_or_ge m i with h | h
        · rcases htail i (by omega) hio m h with h2 | ⟨-, z, hz1, h2⟩
          · have := hbit m h h2; rw [htl m (Nat.le_refl _)] at this; cases this
          · have := (hz z hz1).1; omega
        · omega
      subst hij2
      have hlft := left_set (n := n1) hil (by omega) h1
      refine wp_of_free ho2 hog2 hf2 (fun lc v hg => ?_) R fun y b cs hp hnew G' a' w' R' => ?_
      · obtain ⟨hfp, hg1⟩ := get_restr hg
        rw [hag lc fun z hz1 hq e => ?_]
        · exact hg1
        · rcases hfp2 z hz1 with h2 | h2
          · have hb := hbit z.pos (by have := (hz z hz1).1; omega) h2
            rw [hb] at hq; cases hq
          · exact h2 (by rw [← e]; exact hfp)
      · have hnew' : newA b a2 S := fun h hne hg => hnew h hne (by rw [hag (.heap h) fun z _ _ e => by cases e]; exact hg)
        obtain ⟨evs, e1, e2, e3⟩ := hnext y b cs hp hnew'
        refine draw_T2 (m := i) hback0 hfix0 htail hn1 (by omega) hz hzd fuel l evs (effO d2 a2 y b cs S) (i + 1) _ G' a' w' _ hll (by omega) hl e1 e2 ?_ e3 (by simpa using hsz) hcl' ?_ ?_ ?_ (by omega) R'
        · intro z hz1
          have hb := hd2 z hz1
          refine ⟨?_, ?_⟩
          · rw [effO_ne (by intro e; injection e with e; exact hb.1 e) (by intro e; cases e) (by intro _ _ e; cases e)]; exact (hzs z hz1).1
          · rw [effO_ne (by intro e; injection e with e; exact hb.2 e) (by intro e; cases e) (by intro _ _ e; cases e)]; exact (hzs z hz1).2
        · intro i' hi'
          rw [Lof_set hil]
          show (i' == i || Lof listed i') = false
          rw [htl i' (by omega), Bool.or_false]
          simp; omega
        · intro i' hi'
          rw [Lof_set hil]
          by_cases h : i' = i
          · exact .inl (by simp [h])
          · rcases hlt i' (by omega) with h | h
            · exact .inl (by simp [h])
            · exact .inr h
        · rw [Lof_set hil]
          exact agree_set (agree_eff hag) fun z hz1 e => by have := (hz z hz1).1; omega
end

section
variable {ops ops' : Array Oper} {m n1 q : Nat} {T0 : List Nat} {zs : List Stray} {evs : List Ev} {K : St → Prop} {d : Nat} {a0 : Option Nat}

/-- behind the free operation -/
theorem draw_S2 (hsz' : ops'.size = m) (hget : ∀ i, i < m → i ≠ q → ops'[i]? = ops[i]?) (haf : ∀ o o' : Oper, ops[q]? = some o → ops'[q]? = some o' → o'.after = o.after) (hqm : q < m) (hmn : m ≤ ops.size) (hrun : RunL X ops' ops'.toList s0 evs) (hg : ∀ i o, i < m → i ≠ q → ops[i]? = some o → o.guard = none) (hchk : chkB ops'.toList s0 evs = true)
    (hback0 : backB 0 ops.toList = true) (hfix0 : fixB T0 T0 ops.toList = true) (htail : ∀ i, m ≤ i → i < ops.size → ∀ j, j < m → (T0.getD i 0).testBit j = true ∨ ∃ z ∈ zs, z.pos = j) (hn1 : n1 ≤ ops.size) (hmn1 : m < n1)
    (hfree : evFree d a0 q evs) (hqe : ∀ x, evs[q]? = some x → ∀ l ∈ wrL x.e, l = .slot d) {y : SV} {b : Nat} {cs : List SV} (hnew : newA b a0 s0) (hfr0 : ∀ n s, fresh n s = true → fresh n (effO d a0 y b cs s) = true) 
    (hend : ∀ (fuel : Nat) (listed : Array Bool) (G : Gh) (a : Act) (w : World), listed.size = ops.size → Closed ops (Lof listed) → (∀ j, m ≤ j → Lof listed j = false) → (∀ j, j < m → Lof listed j = true ∨ ∃ z ∈ zs, z.pos = j) → (left n1 listed).length + (ops.size - n1) ≤ fuel → Rel X G (effO d a0 y b cs (sel (Lof listed) 0 evs s0)) a w → wpAnyIn X.F 0 X.P .any ops (Nrm X K) fuel listed a w) :
    ∀ (fuel : Nat) (listed : Array Bool) (G : Gh) (a : Act) (w : World), listed.size = ops.size → Closed ops (Lof listed) → (∀ j, m ≤ j → Lof listed j = false) → Lof listed q = true → (left n1 listed).length + (ops.size - n1) ≤ fuel → Rel X G (effO d a0 y b cs (sel (Lof listed) 0 evs s0)) a w →
      wpAnyIn X.F 0 X.P .any ops (Nrm X K) fuel listed a w := by
  simp only [chkB, Bool.and_eq_true] at hchk
  obtain ⟨⟨⟨hback, hfix⟩, hfr⟩, hp⟩ := hchk
  generalize tabGo ops'.toList [] = T at *
  have hlen : evs.length = m := by have := RunL_length hrun; simp at this; omega
  have hw : ∀ (j : Nat) (x : Ev), evs[j]? = some x → ∀ l ∈ wrL x.e, ∀ h, l ≠ .heap h := by
    intro j x hj l hl h e
    by_cases hjq : j = q
    · subst hjq
      have := hqe x hj l hl
      rw [this] at e
      cases e
    · have := (evFree_at hfree j x hj hjq).2 l hl
      rw [e] at this
      exact this
  intro fuel
  induction fuel with
  | zero =>
    intro listed G a w hsz hcl htl hLq hle R
    have hm : m ∈ left n1 listed := by simp [left, hmn1, htl m (Nat.le_refl _)]
    have := List.length_pos_of_mem hm
    omega
  | succ fuel ih =>
    intro listed G a w hsz hcl htl hLq hle R
    by_cases hall : ∀ j, j < m → Lof listed j = true ∨ ∃ z ∈ zs, z.pos = j
    · exact hend (fuel + 1) listed G a w hsz hcl htl hall hle R
    refine ⟨fun hr => absurd (fun j hj => .inl (stuck_ready hback0 hsz (by omega) hr j hj)) hall, fun i hi => ?_⟩
    obtain ⟨h1, o, ho, hall1⟩ := mem_ready.1 hi
    have hio : i < ops.size := (Array.getElem?_eq_some_iff.1 ho).1
    have hil : i < listed.size := by omega
    rw [getD_tf hil] at h1
    have hall' : ∀ e ∈ o.after, Region.binds .any e = true → Lof listed e.on = true := hall1
    have him : i < m := by
      rcases Nat.lt_or_ge i m with h | h
      · exact h
      · exact absurd (fun j hj => (htail i h hio j hj).imp_left fun hb => anc_spec hback0 hfix0 hcl i o ho hall' hb) hall
    have hiq : i ≠ q := fun e => by subst e; rw [hLq] at h1; cases h1
    have hcl' : Closed ops' (Lof listed) := by
      intro j o' hL ho' e he hb
      have hj : j < m := by have := (Array.getElem?_eq_some_iff.1 ho').1; omega
      by_cases hjq : j = q
      · subst hjq
        have h2 : ops[j]? = some ops[j] := Array.getElem?_eq_getElem (by omega)
        rw [haf _ _ h2 ho'] at he
        exact hcl j _ hL h2 e he hb
      · exact hcl j o' hL (by rw [← hget j hj hjq]; exact ho') e he hb
    have ho' : ops'[i]? = some o := by rw [hget i him hiq]; exact ho
    have hie : i < evs.length := by omega
    have hev : evs[i]? = some evs[i] := List.getElem?_eq_getElem hie
    have hstep := RunL_at 0 hrun i o evs[i] (by simpa using ho') hev
    have hfi := evFree_at hfree i _ hev hiq
    have hind1 : ∀ (j : Nat) (ev : Ev), evs[j]? = some ev → i < j → Lof listed j = true → apart evs[i] ev = true := by
      intro j ev hj hij hL
      have hjm : j < m := by rw [← hlen]; exact (List.getElem?_eq_some_iff.1 hj).1
      have hjo : j < ops'.size := by omega
      rcases (chkP_spec hp i j _ ev hij hev hj).2 with h | h
      · have := anc_spec hback hfix hcl' j ops'[j] (Array.getElem?_eq_getElem hjo) (fun e he hb => hcl' j _ hL (Array.getElem?_eq_getElem hjo) e he hb) (by simpa using h)
        rw [h1] at this; cases this
      · exact h
    have hind2 : ∀ (j : Nat) (ev : Ev), evs[j]? = some ev → j < i → Lof listed j = false → apart ev evs[i] = true := by
      intro j ev hj hij hL
      rcases (chkP_spec hp j i ev _ hij hj hev).2 with h | h
      · have := anc_spec hback hfix hcl' i o ho' hall' (by simpa using h)
        rw [hL] at this; cases this
      · exact h
    have hop : OpOK X ops' o (effO d a0 y b cs (sel (Lof listed) 0 evs s0)) (apply (effO d a0 y b cs (sel (Lof listed) 0 evs s0)) evs[i].e) := by
      refine hstep _ (fun l v hl => ?_) (fun n hn => ?_)
      · obtain ⟨hfp, hg⟩ := get_restr hl
        have hfl := hfi.1 l hfp
        rw [effO_ne (fun e => by subst e; exact hfl rfl) (fun e => by
          subst e
          rw [heaps_sel hw] at hg
          exact hnew b hfl (by rw [hg]; simp) rfl) (fun b' hb' e => by subst e; exact hfl hb')]
        rw [← hg]
        refine sel_diff evs 0 _ _ rfl fun j ev hj hne hw => ?_
        simp only [Nat.zero_add] at hne
        by_cases hij : j < i
        · cases hq : Lof listed j with
          | true => rw [hq] at hne; simp [hij] at hne
          | false =>
            have := hind2 j ev hj hij hq
            simp only [apart, Bool.and_eq_true, disL_iff] at this
            exact this.1.1.1 l hw hfp
        · cases hq : Lof listed j with
          | false => rw [hq] at hne; simp [hij] at hne
          | true =>
            have hne' : j ≠ i := fun e => by rw [e, h1] at hq; cases hq
            have := hind1 j ev hj (by omega) hq
            simp only [apart, Bool.and_eq_true, disL_iff] at this
            exact this.1.1.2 l hw hfp
      · refine hfr0 n _ (sel_fresh evs 0 s0 (chkF_spec hfr i _ hev n hn) fun j ev hj hL => ?_)
        simp only [Nat.zero_add] at hL
        have hne' : j ≠ i := fun e => by rw [e, h1] at hL; cases hL
        by_cases hij : j < i
        · exact (chkP_spec hp j i ev _ hij hj hev).1 n hn
        · have := hind1 j ev hj (by omega) hL
          simp only [apart, Bool.and_eq_true, allN_iff] at this
          simpa using this.2 n hn
    have hnext : ∀ G' a' w', Rel X G' (apply (effO d a0 y b cs (sel (Lof listed) 0 evs s0)) evs[i].e) a' w' → wpAnyIn X.F 0 X.P .any ops (Nrm X K) fuel (listed.setIfInBounds i true) a' w' := by
      intro G' a' w' R'
      refine ih _ G' a' w' (by simpa using hsz) ?_ ?_ ?_ ?_ ?_
      · rw [Lof_set hil]
        intro j o' hL hoj e he hb
        simp only [Bool.or_eq_true, beq_iff_eq] at hL ⊢
        rcases hL with rfl | hL
        · rw [ho] at hoj; cases hoj
          exact .inr (hall' e he hb)
        · exact .inr (hcl j o' hL hoj e he hb)
      · intro j hj
        rw [Lof_set hil]
        show (j == i || Lof listed j) = false
        rw [htl j hj, Bool.or_false]
        simp; omega
      · rw [Lof_set hil]
        show (q == i || Lof listed q) = true
        rw [hLq, Bool.or_true]
      · have := left_set (n := n1) hil (by omega) h1
        omega
      · rw [Lof_set hil]
        refine R'.congr fun l => ?_
        have hadd : get (sel (fun j => j == i || Lof listed j) 0 evs s0) l = get (apply (sel (Lof listed) 0 evs s0) evs[i].e) l := sel_add h1 evs 0 s0 (Nat.zero_le _) hev fun j ev hj hlt hL hw => by
          simp only [Nat.zero_add] at hlt hL
          have := hind1 j ev hj hlt hL
          simp only [apart, Bool.and_eq_true, disL_iff] at this
          exact this.1.2 l hw
        by_cases hl : l = .slot d ∨ l = .heap b ∨ ∃ b', a0 = some b' ∧ l = .heap b'
        · have hnw : l ∉ wrL evs[i].e := by
            intro hm
            have hfw := hfi.2 l hm
            rcases hl with rfl | rfl | ⟨b', -, rfl⟩
            · exact hfw rfl
            · exact hfw
            · exact hfw
          rw [get_apply_ne hnw]
          exact effO_eq (.inr hl)
        · have h3 := not_or.1 hl
          have h4 := not_or.1 h3.2
          have h5 : ∀ s : St, get (effO d a0 y b cs s) l = get s l := fun s => effO_ne h3.1 h4.1 fun b' hb' e => h4.2 ⟨b', hb', e⟩
          rw [h5, hadd, get_apply, get_apply, h5]
    have hgn : o.guard = none := hg i o him hiq ho
    have := hop G a w R _ (Nrm X K) hnext
    unfold wpOpIn
    simp only [ho]
    have hw : ∀ y, Region.wanted o y = true := fun y => by simp [Region.wanted, hgn]
    simp only [hw, if_true] at this ⊢
    exact this

/-- up to the free operation -/
theorem draw_S1 (hsz' : ops'.size = m) (hget : ∀ i, i < m → i ≠ q → ops'[i]? = ops[i]?) (haf : ∀ o o' : Oper, ops[q]? = some o → ops'[q]? = some o' → o'.after = o.after) (hqm : q < m) (hmn : m ≤ ops.size) (hrun : RunL X ops' ops'.toList s0 evs) (hg : ∀ i o, i < m → ops[i]? = some o → o.guard = none) (hchk : chkB ops'.toList s0 evs = true)
    (hback0 : backB 0 ops.toList = true) (hfix0 : fixB T0 T0 ops.toList = true) (htail : ∀ i, m ≤ i → i < ops.size → ∀ j, j < m → (T0.getD i 0).testBit j = true ∨ ∃ z ∈ zs, z.pos = j) (hqz : ∀ z ∈ zs, z.pos ≠ q) (hn1 : n1 ≤ ops.size) (hmn1 : m < n1)
    (hfree : evFree d a0 q evs) (hqe : ∀ x, evs[q]? = some x → ∀ l ∈ wrL x.e, l = .slot d) {oq : Oper} (hoq : ops[q]? = some oq) {evq : Ev} (hevq : evs[q]? = some evq) {P : SV → Nat → List SV → Prop} (hstepq : FreeStep X oq (restr (sel (fun j => decide (j < 0 + q)) 0 evs s0) evq.fp) d a0 P)
    (hP : ∀ y b cs, P y b cs → newA b a0 s0 → (∀ n s, fresh n s = true → fresh n (effO d a0 y b cs s) = true) ∧ ∀ (fuel : Nat) (listed : Array Bool) (G : Gh) (a : Act) (w : World), listed.size = ops.size → Closed ops (Lof listed) → (∀ j, m ≤ j → Lof listed j = false) → (∀ j, j < m → Lof listed j = true ∨ ∃ z ∈ zs, z.pos = j) → (left n1 listed).length + (ops.size - n1) ≤ fuel → Rel X G (effO d a0 y b cs (sel (Lof listed) 0 evs s0)) a w → wpAnyIn X.F 0 X.P .any ops (Nrm X K) fuel listed a w) :
    ∀ (fuel : Nat) (listed : Array Bool) (G : Gh) (a : Act) (w : World), listed.size = ops.size → Closed ops (Lof listed) → (∀ j, m ≤ j → Lof listed j = false) → Lof listed q = false → (left n1 listed).length + (ops.size - n1) ≤ fuel → Rel X G (sel (Lof listed) 0 evs s0) a w →
      wpAnyIn X.F 0 X.P .any ops (Nrm X K) fuel listed a w := by
  have hF2 := fun (y : SV) (b : Nat) (cs : List SV) (hp : P y b cs) (hn : newA b a0 s0) => draw_S2 (y := y) (b := b) (cs := cs) (K := K) hsz' hget haf hqm hmn hrun (fun i o h1 h2 h3 => hg i o h1 h3) hchk hback0 hfix0 htail hn1 hmn1 hfree hqe hn (hP y b cs hp hn).1 (hP y b cs hp hn).2
  simp only [chkB, Bool.and_eq_true] at hchk
  obtain ⟨⟨⟨hback, hfix⟩, hfr⟩, hp⟩ := hchk
  generalize tabGo ops'.toList [] = T at *
  have hlen : evs.length = m := by have := RunL_length hrun; simp at this; omega
  have hw : ∀ (j : Nat) (x : Ev), evs[j]? = some x → ∀ l ∈ wrL x.e, ∀ h, l ≠ .heap h := by
    intro j x hj l hl h e
    by_cases hjq : j = q
    · subst hjq
      have := hqe x hj l hl
      rw [this] at e
      cases e
    · have := (evFree_at hfree j x hj hjq).2 l hl
      rw [e] at this
      exact this
  intro fuel
  induction fuel with
  | zero =>
    intro listed G a w hsz hcl htl hLq hle R
    have hm : m ∈ left n1 listed := by simp [left, hmn1, htl m (Nat.le_refl _)]
    have := List.length_pos_of_mem hm
    omega
  | succ fuel ih =>
    intro listed G a w hsz hcl htl hLq hle R
    have hall : ¬ ∀ j, j < m → Lof listed j = true := fun h => by have := h q hqm; rw [hLq] at this; cases this
    refine ⟨fun hr => absurd (stuck_ready hback0 hsz (by omega) hr) hall, fun i hi => ?_⟩
    obtain ⟨h1, o, ho, hall1⟩ := mem_ready.1 hi
    have hio : i < ops.size := (Array.getElem?_eq_some_iff.1 ho).1
    have hil : i < listed.size := by omega
    rw [getD_tf hil] at h1
    have hall' : ∀ e ∈ o.after, Region.binds .any e = true → Lof listed e.on = true := hall1
    have him : i < m := by
      rcases Nat.lt_or_ge i m with h | h
      · exact h
      · rcases htail i h hio q hqm with hb | ⟨z, hz1, hz2⟩
        · have := anc_spec hback0 hfix0 hcl i o ho hall' hb
          rw [hLq] at this; cases this
        · exact absurd hz2 (hqz z hz1)
    have hcl' : Closed ops' (Lof listed) := by
      intro j o' hL ho' e he hb
      have hj : j < m := by have := (Array.getElem?_eq_some_iff.1 ho').1; omega
      by_cases hjq : j = q
      · subst hjq
        rw [hLq] at hL; cases hL
      · exact hcl j o' hL (by rw [← hget j hj hjq]; exact ho') e he hb
    have hclu : Closed ops (Lof (listed.setIfInBounds i true)) := by
      rw [Lof_set hil]
      intro j o' hL hoj e he hb
      simp only [Bool.or_eq_true, beq_iff_eq] at hL ⊢
      rcases hL with rfl | hL
      · rw [ho] at hoj; cases hoj
        exact .inr (hall' e he hb)
      · exact .inr (hcl j o' hL hoj e he hb)
    have htlu : ∀ j, m ≤ j → Lof (listed.setIfInBounds i true) j = false := by
      intro j hj
      rw [Lof_set hil]
      show (j == i || Lof listed j) = false
      rw [htl j hj, Bool.or_false]
      simp; omega
    have hie : i < evs.length := by omega
    obtain ⟨o', ho', hae⟩ : ∃ o', ops'[i]? = some o' ∧ o'.after = o.after := by
      by_cases hiq : i = q
      · subst hiq
        have h2 : ops'[i]? = some ops'[i] := Array.getElem?_eq_getElem (by omega)
        exact ⟨_, h2, haf _ _ ho h2⟩
      · exact ⟨o, by rw [hget i him hiq]; exact ho, rfl⟩
    have hind1 : ∀ (j : Nat) (ev : Ev), evs[j]? = some ev → i < j → Lof listed j = true → apart evs[i] ev = true := by
      intro j ev hj hij hL
      have hjm : j < m := by rw [← hlen]; exact (List.getElem?_eq_some_iff.1 hj).1
      have hjo : j < ops'.size := by omega
      rcases (chkP_spec hp i j _ ev hij (List.getElem?_eq_getElem hie) hj).2 with h | h
      · have := anc_spec hback hfix hcl' j ops'[j] (Array.getElem?_eq_getElem hjo) (fun e he hb => hcl' j _ hL (Array.getElem?_eq_getElem hjo) e he hb) (by simpa using h)
        rw [h1] at this; cases this
      · exact h
    have hind2 : ∀ (j : Nat) (ev : Ev), evs[j]? = some ev → j < i → Lof listed j = false → apart ev evs[i] = true := by
      intro j ev hj hij hL
      rcases (chkP_spec hp j i ev _ hij hj (List.getElem?_eq_getElem hie)).2 with h | h
      · have := anc_spec hback hfix hcl' i o' ho' (by rw [hae]; exact hall') (by simpa using h)
        rw [hL] at this; cases this
      · exact h
    have hfpk : ∀ l v, get (restr (sel (fun j => decide (j < 0 + i)) 0 evs s0) evs[i].fp) l = some v → get (sel (Lof listed) 0 evs s0) l = some v := by
      intro l v hl
      obtain ⟨hfp, hg⟩ := get_restr hl
      rw [← hg]
      refine sel_diff evs 0 _ _ rfl fun j ev hj hne hw => ?_
      simp only [Nat.zero_add] at hne
      by_cases hij : j < i
      · cases hq : Lof listed j with
        | true => rw [hq] at hne; simp [hij] at hne
        | false =>
          have := hind2 j ev hj hij hq
          simp only [apart, Bool.and_eq_true, disL_iff] at this
          exact this.1.1.1 l hw hfp
      · cases hq : Lof listed j with
        | false => rw [hq] at hne; simp [hij] at hne
        | true =>
          have hne' : j ≠ i := fun e => by rw [e, h1] at hq; cases hq
          have := hind1 j ev hj (by omega) hq
          simp only [apart, Bool.and_eq_true, disL_iff] at this
          exact this.1.1.2 l hw hfp
    have hadd : ∀ l, get (sel (fun j => j == i || Lof listed j) 0 evs s0) l = get (apply (sel (Lof listed) 0 evs s0) evs[i].e) l := fun l => sel_add h1 evs 0 s0 (Nat.zero_le _) (List.getElem?_eq_getElem hie) fun j ev hj hlt hL hw => by
      simp only [Nat.zero_add] at hlt hL
      have := hind1 j ev hj hlt hL
      simp only [apart, Bool.and_eq_true, disL_iff] at this
      exact this.1.2 l hw
    have hgn : o.guard = none := hg i o him ho
    have hwt : ∀ y, Region.wanted o y = true := fun y => by simp [Region.wanted, hgn]
    have hlft := left_set (n := n1) hil (by omega) h1
    unfold wpOpIn
    simp only [ho, hwt, if_true]
    by_cases hiq : i = q
    · subst hiq
      rw [ho] at hoq
      cases hoq
      rw [List.getElem?_eq_getElem hie] at hevq
      cases hevq
      refine hstepq _ hfpk G a w R _ (Nrm X K) fun y b cs hpb hn G' a' w' R' => ?_
      have hn0 : newA b a0 s0 := fun h hne hg => hn h hne (by rw [heaps_sel hw]; exact hg)
      refine hF2 y b cs hpb hn0 fuel _ G' a' w' (by simpa using hsz) hclu htlu (by rw [Lof_set hil]; simp) (by omega) ?_
      rw [Lof_set hil]
      refine R'.congr fun l => effO_eq ?_
      rw [hadd]
      by_cases hl : l ∈ wrL evs[i].e
      · exact .inr (.inl (hqe _ (List.getElem?_eq_getElem hie) l hl))
      · exact .inl (get_apply_ne hl)
    · have ho2 : ops'[i]? = some o := by rw [hget i him hiq]; exact ho
      have hstep := RunL_at 0 hrun i o evs[i] (by simpa using ho2) (List.getElem?_eq_getElem hie)
      have hop : OpOK X ops' o (sel (Lof listed) 0 evs s0) (apply (sel (Lof listed) 0 evs s0) evs[i].e) := by
        refine hstep _ hfpk (fun n hn => ?_)
        refine sel_fresh evs 0 s0 (chkF_spec hfr i _ (List.getElem?_eq_getElem hie) n hn) fun j ev hj hL => ?_
        simp only [Nat.zero_add] at hL
        have hne' : j ≠ i := fun e => by rw [e, h1] at hL; cases hL
        by_cases hij : j < i
        · exact (chkP_spec hp j i ev _ hij hj (List.getElem?_eq_getElem hie)).1 n hn
        · have := hind1 j ev hj (by omega) hL
          simp only [apart, Bool.and_eq_true, allN_iff] at this
          simpa using this.2 n hn
      have hnext : ∀ G' a' w', Rel X G' (apply (sel (Lof listed) 0 evs s0) evs[i].e) a' w' → wpAnyIn X.F 0 X.P .any ops (Nrm X K) fuel (listed.setIfInBounds i true) a' w' := by
        intro G' a' w' R'
        refine ih _ G' a' w' (by simpa using hsz) hclu htlu ?_ (by omega) ?_
        · rw [Lof_set hil]
          show (q == i || Lof listed q) = false
          rw [hLq, Bool.or_false]
          simpa using fun e => hiq e.symm
        · rw [Lof_set hil]
          exact R'.congr hadd
      have := hop G a w R _ (Nrm X K) hnext
      simp only [hwt, if_true] at this
      exact this
end

/-- a run of operations each with one outcome -/
def vcdN (X : Ctx) (esc : List Nat) (K : St → List Ev → Prop) : List Oper → St → List Ev → Prop
  | [], s, ev => K s ev.reverse
  | o :: l, s, ev => o.guard = none ∧ vcdA X esc #[] [] l (fun _ => False) (vcdN X esc K l) o ev s (fpOf X (get s) o.op)
theorem vcdN_nil {esc : List Nat} {K : St → List Ev → Prop} {ev : List Ev} : vcdN X esc K [] s ev = K s ev.reverse := by rw [vcdN]
theorem vcdN_op {esc : List Nat} {K : St → List Ev → Prop} {ev : List Ev} {l : List Oper} (d : Option Tmp) (op : Op) (ty : TypeId) (pos : String) (af : Array Edge) :
    vcdN X esc K (⟨d, op, ty, pos, af, none⟩ :: l) s ev = vcdA X esc #[] [] l (fun _ => False) (vcdN X esc K l) ⟨d, op, ty, pos, af, none⟩ ev s (fpOf X (get s) op) := by rw [vcdN]; simp
attribute [go_sem] vcdN_nil vcdN_op
theorem vcdN_sound {esc : List Nat} {K : St → List Ev → Prop} : ∀ {l : List Oper} {s : St} {ev : List Ev}, vcdN X esc K l s ev → ∃ evs, RunL X #[] l s evs ∧ K (appAll s evs) (ev.reverse ++ evs)
  | [], s, ev, h => ⟨[], trivial, by rw [List.append_nil]; exact h⟩
  | o :: l, s, ev, h => by
    unfold vcdN vcdA vcdB vcdC at h
    obtain ⟨hg, h⟩ := h
    split at h
    · rename_i c s1' hs
      obtain ⟨evs, h1, h3⟩ := vcdN_sound h.2
      refine ⟨⟨fpOf X (get s) o.op, effOf s1' (wrOp X (get (restr s (fpOf X (get s) o.op))) o.dst o.op), nmOf o.dst o.op⟩ :: evs, ⟨locStep_of hs h.1 (.inl hg), h1⟩, ?_⟩
      simpa [appAll] using h3
    · obtain ⟨evs, -, -, h⟩ := h
      exact h.elim

/-- what is known of the strays behind the prefix -/
def strayE (zs : List Stray) (evs : List Ev) (s' : St) : Prop := ∀ z ∈ zs, evs[z.pos]? = some ⟨[.slot z.src], [(.slot z.dst, some z.val)], []⟩ ∧ (evs.all fun x => disL (wrL x.e) [.slot z.src]) = true ∧ get s' (.slot z.dst) = some z.val

/-- what follows the first free operation: the second, and the tail -/
def afterS (X : Ctx) (ops : Array Oper) (zs : List Stray) (m n1 : Nat) (o2 : Oper) (K : St → Prop) (S : St) : Prop :=
  ∃ (fp2 : List Loc) (d2 : Nat) (a2 : Option Nat) (P2 : SV → Nat → List SV → Prop), FreeStep X o2 (restr S fp2) d2 a2 P2 ∧ (zs.all fun z => ((tabGo ops.toList []).getD m 0).testBit z.pos || disL fp2 [.slot z.dst]) = true ∧ (∀ z ∈ zs, z.src ≠ d2 ∧ z.dst ≠ d2) ∧
    ∀ y2 b2 cs2, P2 y2 b2 cs2 → newA b2 a2 S → ∃ evs, RunL X #[] ((ops.toList.drop (m + 1)).take (n1 - (m + 1))) (effO d2 a2 y2 b2 cs2 S) evs ∧ tailEB (tabGo ops.toList []) zs (m + 1) evs = true ∧ VL X ops (ops.toList.drop n1) (appAll (effO d2 a2 y2 b2 cs2 S) evs) K
theorem leS_restr {s1 s : St} (h : leS s1 s) (fp : List Loc) : leS (restr s1 fp) (restr s fp) := fun l v hg => by
  obtain ⟨h1, h2⟩ := get_restr hg
  exact get_restr_mem h1 (h l v h2)
theorem leS_apply {s1 s : St} (h : leS s1 s) (e : Eff) : leS (apply s1 e) (apply s e) := fun l v hg => by
  rw [get_apply] at hg ⊢
  cases hq : e.says l with
  | none => rw [hq] at hg; exact h l v hg
  | some u => rw [hq] at hg; exact hg
theorem leS_trans {s1 s2 s3 : St} (h1 : leS s1 s2) (h2 : leS s2 s3) : leS s1 s3 := fun l v h => h2 l v (h1 l v h)
theorem leS_effO {s1 s : St} (h : leS s1 s) (d : Nat) (a : Option Nat) (y : SV) (b : Nat) (cs : List SV) : leS (effO d a y b cs s1) (effO d a y b cs s) := fun l v hg => by
  unfold effO at hg ⊢
  rw [get_upd] at hg ⊢
  by_cases h1 : Loc.heap b = l
  · rw [if_pos h1] at hg ⊢; exact hg
  · rw [if_neg h1] at hg ⊢
    rw [get_upd] at hg ⊢
    by_cases h2 : Loc.slot d = l
    · rw [if_pos h2] at hg ⊢; exact hg
    · rw [if_neg h2] at hg ⊢
      cases a with
      | none => exact h l v hg
      | some b0 =>
        simp only [delO, get_del] at hg ⊢
        split
        · rename_i h3; rw [if_pos h3] at hg; exact hg
        · rename_i h3; rw [if_neg h3] at hg; exact h l v hg
theorem RunL_le {ops : Array Oper} : ∀ {l : List Oper} {s1 s : St} {evs : List Ev}, leS s1 s → RunL X ops l s1 evs → RunL X ops l s evs
  | [], _, _, [], _, _ => trivial
  | o :: l, s1, s, ev :: evs, h, hr => ⟨fun s' hs => hr.1 s' (leS_trans (leS_restr h ev.fp) hs), RunL_le (leS_apply h ev.e) hr.2⟩
  | [], _, _, _ :: _, _, hr => hr.elim
  | _ :: _, _, _, [], _, hr => hr.elim
theorem leS_appAll {s1 s : St} (h : leS s1 s) : ∀ (evs : List Ev), leS (appAll s1 evs) (appAll s evs) := by
  intro evs
  induction evs generalizing s1 s with
  | nil => exact h
  | cons ev r ih => exact ih (leS_apply h ev.e)
theorem afterS_le {ops : Array Oper} {zs : List Stray} {m n1 : Nat} {o2 : Oper} {K : St → Prop} {S1 S : St} (h : leS S1 S) (ha : afterS X ops zs m n1 o2 K S1) : afterS X ops zs m n1 o2 K S := by
  obtain ⟨fp2, d2, a2, P2, h1, h2, h3, h4⟩ := ha
  refine ⟨fp2, d2, a2, P2, fun s hs => h1 s (leS_trans (leS_restr h fp2) hs), h2, h3, fun y b cs hp hn => ?_⟩
  obtain ⟨evs, e1, e2, e3⟩ := h4 y b cs hp fun hh hne hg => hn hh hne (by
    cases hq : get S1 (.heap hh) with
    | none => exact absurd hq hg
    | some v => rw [h _ _ hq]; simp)
  have hle := leS_effO h d2 a2 y b cs
  exact ⟨evs, RunL_le hle e1, e2, VL_le (leS_appAll hle evs) e3⟩
/-- the second is an append to a raw slice, in a state that ends in objects -/
theorem afterS_app {ops : Array Oper} {zs : List Stray} {m n1 : Nat} {esc2 : List Nat} {K : St → Prop} {S l : St} {φ A B : Objs} {x : RS} {E Bz : Nat} {ys ws : List (List DV)} (ψ : RS → Objs) (ht : Tail S l φ) (hφ : φ = A ++ (x.objs ++ B)) (hψ : ∀ x', ψ x' = A ++ (x'.objs ++ B)) (hnd : (φ.map (·.1)).Nodup) (hi : x.is E ys)
    {d : Nat} {xo yo : Operand} {T T2 ty : TypeId} {pos : String} {af : Array Edge} {zd : List DV} (hx : evl X (get S) xo = some (.v x.v)) (hy : evl X (get S) yo = some (.v (.sl ws)))
    (he : elemZ X.P T = some (E, Bz)) (hz : zeroE X.P T = some zd) (hzc : cellB zd = true) (hB : 0 < Bz ∧ Bz ≤ 1024) (h2 : (elemT X.P T2).isSome = true) (hn : d < X.n)
    (hrow : ∀ b, x.q = some b → get S (.heap b) = some (.row (arrRow x.full))) (hpos : 0 < ws.length) (hbig : x.n + ws.length ≤ BIG) (hE2 : ∀ e ∈ ws, e.length = E)
    (hb : (zs.all fun z => ((tabGo ops.toList []).getD m 0).testBit z.pos || disL (slotsOf [xo, yo] ++ qL x.q) [.slot z.dst]) = true) (hd2 : ∀ z ∈ zs, z.src ≠ d ∧ z.dst ≠ d)
    (h : ∀ x' : RS, x'.is E (ys ++ ws) → (∃ b, x'.q = some b) → ((ψ x').map (·.1)).Nodup → vcdN X esc2 (fun s3 evs3 => tailEB (tabGo ops.toList []) zs (m + 1) evs3 = true ∧ VL X ops (ops.toList.drop n1) s3 K) ((ops.toList.drop (m + 1)).take (n1 - (m + 1))) (upd l (.slot d) (.one (.v x'.v)) ++ heapSt (ψ x')) []) :
    afterS X ops zs m n1 ⟨some d, .call { callee := .builtin .append, args := #[xo, yo], argTypes := #[T, T2] }, ty, pos, af, none⟩ K S := by
  have hsl : ∀ z : Operand, z = xo ∨ z = yo → ∀ t, z = .tmp t → Loc.slot t ∈ slotsOf [xo, yo] ++ qL x.q := by
    intro z hz t ht
    subst ht
    refine List.mem_append.2 (.inl ?_)
    rcases hz with rfl | rfl
    · simp [slotsOf]
    · cases xo <;> simp [slotsOf]
  have hy' : evl X (get (restr S (slotsOf [xo, yo] ++ qL x.q))) yo = some (.v (.sl ws)) := evl_restr (hsl yo (.inr rfl)) (fun _ _ h => h) hy
  refine ⟨slotsOf [xo, yo] ++ qL x.q, d, x.q, AppP X x.q E x.n x.full ws, free_append (cap := x.cap) (o := ⟨some d, .call { callee := .builtin .append, args := #[xo, yo], argTypes := #[T, T2] }, ty, pos, af, none⟩) rfl rfl hn he hB h2 (evl_restr (hsl xo (.inl rfl)) (fun _ _ h => h) hx) (by rw [hy']; rfl) (fun b hb => ?_) hi.nil hi.len hi.le hpos hbig hi.wid hE2 hz hzc, hb, hd2, fun y b cs hap hnew => ?_⟩
  · refine get_restr_mem (List.mem_append.2 (.inr ?_)) (hrow b hb)
    rw [hb]
    exact List.mem_singleton.2 rfl
  · obtain ⟨x', hq', rfl, rfl, hx'⟩ := hi.app hap
    have h0 := newA_objs ht hnd hnew
    subst hφ
    obtain ⟨hs, hl⟩ := ht.spec
    subst hs
    obtain ⟨h1, h2⟩ := eff_objs (d := d) (y := .v x'.v) hl hnd hq' h0
    have h3 := h x' hx' ⟨b, hq'⟩ (by rw [hψ]; exact h2)
    rw [hψ] at h3
    obtain ⟨evs, e1, e2, e3⟩ := vcdN_sound h3
    exact ⟨evs, RunL_le h1 e1, e2, VL_le (leS_appAll h1 evs) e3⟩

theorem afterS_eff {ops : Array Oper} {zs : List Stray} {m n1 : Nat} {o2 : Oper} {K : St → Prop} {s l : St} {φ A B : Objs} {x : RS} {b d : Nat} {y : SV} (x' : RS) (ψ : Objs) (ht : Tail s l φ) (hφ : φ = A ++ (x.objs ++ B)) (hψ : ψ = A ++ (x'.objs ++ B)) (hnd : (φ.map (·.1)).Nodup) (hx : x'.q = some b) (hnew : ∀ h, x.q ≠ some h → (∃ cs, (h, cs) ∈ φ) → b ≠ h)
    (h : (ψ.map (·.1)).Nodup → afterS X ops zs m n1 o2 K (upd l (.slot d) (.one y) ++ heapSt ψ)) : afterS X ops zs m n1 o2 K (effO d x.q y b (arrRow x'.full) s) := by
  subst hφ hψ
  obtain ⟨hs, hl⟩ := ht.spec
  subst hs
  obtain ⟨h1, h2⟩ := eff_objs (d := d) (y := y) hl hnd hx hnew
  exact afterS_le h1 (h h2)

/-- A DRAWN REGION WITH TWO OPERATIONS OF SEVERAL OUTCOMES (q and m) AND STRAYS -/
theorem W_regS {id : Nat} {ops : Array Oper} {s : St} (hm : X.P.follows .mixedOrders = true) (zs : List Stray) (q m n1 : Nat) (oq o2 : Oper) (hmn : m < n1) (hn1 : n1 ≤ ops.size) (hqm : q < m) (hoq : ops[q]? = some oq) (ho2 : ops[m]? = some o2) (hfull : tailOKS ops.toList zs q m n1 = true) {d : Nat} (hd : d < X.n) (a0 : Option Nat) (P : SV → Nat → List SV → Prop)
    (hfr : ∀ y b cs, P y b cs → ∀ n s, fresh n s = true → fresh n (effO d a0 y b cs s) = true) (esc : List Nat)
    (h : ∀ K : St → Prop, (∀ s', W X k s' → K s') → vcdF X esc ((ops.toList.take m).set q (dumOp d oq)).toArray s oq d a0 P (fun s' evs => evFree d a0 q evs ∧ strayE zs evs s' ∧ ∀ y b cs, P y b cs → newA b a0 s →
      afterS X ops zs m n1 o2 K (effO d a0 y b cs s')) (markO q (ops.toList.take m)) s []) : W X (.code (.region id ops true) :: k) s := by
  intro G a w b cs hf hk hr R
  simp only [tailOKS, Bool.and_eq_true, List.all_eq_true] at hfull
  obtain ⟨⟨⟨⟨t1, t2⟩, t3⟩, t4⟩, t5⟩ := hfull
  have t3 := tailS_spec t3
  have hgn : ∀ (i : Nat) (o : Oper), ops[i]? = some o → o.guard = none := fun i o ho => by
    have := t4 o (List.mem_of_getElem? (i := i) (by simpa using ho))
    cases hq : o.guard with
    | none => rfl
    | some _ => rw [hq] at this; cases this
  have t6 : ∀ z ∈ zs, z.pos < m ∧ z.pos ≠ q := fun z hz => by
    have := (t5 z hz).1
    simpa using this
  have t7 : ∀ z ∈ zs, ∀ y ∈ zs, z.src ≠ y.dst ∧ (y.pos = z.pos → y.dst = z.dst) := fun z hz y hy => by
    have h1 := (t5 z hz).2 y hy
    simp only [Bool.and_eq_true, bne_iff_ne, Bool.or_eq_true, beq_iff_eq] at h1
    exact ⟨h1.1, fun e => h1.2.resolve_left fun hne => hne e⟩
  obtain ⟨evs, h1, h2, ⟨h3, hst, h5⟩, h4⟩ := vcdF_sound hd (h (fun s' => W X k s') (fun _ h => h))
  have htq : (ops.toList.take m)[q]? = some oq := by rw [List.getElem?_take_of_lt hqm]; simpa using hoq
  obtain ⟨m1, m2⟩ := markO_spec d oq q _ htq
  rw [m2] at h1
  rw [List.reverse_nil, List.nil_append] at h2 h3 hst
  have hlen : evs.length = m := by
    have := RunL_length h1
    simp at this
    omega
  have hqe : evs[q]? = some (evs[q]'(by omega)) := List.getElem?_eq_getElem (by omega)
  obtain ⟨k1, k2⟩ := h4 q _ 0 m1 hqe
  have hsrc : ∀ z ∈ zs, ∀ (L : Nat → Bool), get (sel L 0 evs s) (.slot z.src) = get s (.slot z.src) := by
    intro z hz L
    rw [← sel_none (L := fun _ => false) evs 0 s fun _ _ => rfl]
    refine sel_diff evs 0 _ _ ?_ fun j x hj _ hm => ?_
    · rw [sel_none _ _ _ fun _ _ => rfl]
    · have h6 := (hst z hz).2.1
      rw [List.all_eq_true] at h6
      exact (disL_iff _ _).1 (h6 x (List.mem_of_getElem? hj)) _ hm (by simp)
  have hdd : ∀ z ∈ zs, z.src ≠ d ∧ z.dst ≠ d := fun z hz => by
    have h6 := evFree_at h3 z.pos _ (hst z hz).1 (t6 z hz).2
    exact ⟨h6.1 (.slot z.src) (by simp), h6.2 (.slot z.dst) (by simp [wrL])⟩
  have hzz : ∀ z ∈ zs, z.pos < m ∧ StrayStep X ops s z := by
    intro z hz
    have hzm := (t6 z hz).1
    have hzo : z.pos < ops.size := by omega
    refine ⟨hzm, ops[z.pos], ((ops.toList.take m).set q (dumOp d oq)).toArray, Array.getElem?_eq_getElem hzo, hgn z.pos _ (Array.getElem?_eq_getElem hzo), fun s' hs' => ?_⟩
    refine RunL_at 0 h1 z.pos ops[z.pos] _ ?_ (hst z hz).1 s' (fun l v hg => ?_) (fun n hn => by cases hn)
    · simp [List.getElem?_set, (t6 z hz).2.symm, List.getElem?_take_of_lt hzm]
    · obtain ⟨g1, g2⟩ := get_restr hg
      have g1 : l = .slot z.src := by simpa using g1
      subst g1
      rw [hs', ← g2, hsrc z hz]
  have hany := draw_S1 (ops := ops) (ops' := ((ops.toList.take m).set q (dumOp d oq)).toArray) (s0 := s) (K := fun s' => W X k s') (m := m) (n1 := n1) (zs := zs) (q := q) (T0 := tabGo ops.toList []) (evs := evs) (d := d) (a0 := a0) (by simp; omega)
    (fun i hi hne => by simp [List.getElem?_set, hne.symm, List.getElem?_take_of_lt hi])
    (fun o o' ho ho' => by
      rw [hoq] at ho; cases ho
      have hlt : q < (ops.toList.take m).length := by simp; omega
      simp only [List.getElem?_toArray, List.getElem?_set_self hlt, Option.some.injEq] at ho'
      rw [← ho']; rfl)
    hqm (by omega) h1
    (fun i o hi ho => hgn i o ho)
    h2 t1 t2 (fun i h1 h2 j hj => (t3 i h1 (by simpa using h2) j (by omega)).imp_right fun h => h.2) (fun z hz => (t6 z hz).2) hn1 hmn h3 (fun x hx l hl => by
      rw [hqe] at hx; cases hx
      rw [k1] at hl
      simpa [dumE, wrL] using hl) hoq hqe k2 (fun y b cs hp hn => ⟨hfr y b cs hp, ?_⟩) ops.size (Array.replicate ops.size false) G a { w with drawn := w.drawn + 1 } (by simp) (fun j o hL => by simp [Lof, Array.getElem?_replicate] at hL; split at hL <;> simp at hL) (fun j _ => by simp only [Lof, Array.getD_eq_getD_getElem?, Array.getElem?_replicate]; split <;> rfl)
    (by simp only [Lof, Array.getD_eq_getD_getElem?, Array.getElem?_replicate]; split <;> rfl) (by
      have : (left n1 (Array.replicate ops.size false)).length ≤ n1 := Nat.le_trans (List.length_filter_le _ _) (by simp)
      omega) (by
      rw [sel_none _ _ _ (fun j _ => by simp only [Lof, Array.getD_eq_getD_getElem?, Array.getElem?_replicate]; split <;> rfl)]
      exact R.drawn _)
  · obtain ⟨e', a', w', ⟨rfl, G', s', hK, R'⟩, harr⟩ := wpIn_region_any (F := X.F) (n := 0) hm hany b k cs hr trivial (roomF _)
    obtain ⟨w'', fr, q1, q2⟩ := hK G' a' w' b cs hf hk hr R'
    exact ⟨w'', fr, q1, Steps.trans (StepsIn.steps harr) q2⟩
  · obtain ⟨fp2, d2, a2, P2, f1, f2, f3, f4⟩ := h5 y b cs hp hn
    intro fuel listed G a w hsz hcl htl hlt hle R
    have hS : ∀ z ∈ zs, get (effO d a0 y b cs (appAll s evs)) (.slot z.src) = get s (.slot z.src) ∧ get (effO d a0 y b cs (appAll s evs)) (.slot z.dst) = some z.val := by
      intro z hz
      have hb := hdd z hz
      refine ⟨?_, ?_⟩
      · rw [effO_ne (by intro e; injection e with e; exact hb.1 e) (by intro e; cases e) (by intro _ _ e; cases e), ← sel_all 0]
        exact hsrc z hz _
      · rw [effO_ne (by intro e; injection e with e; exact hb.2 e) (by intro e; cases e) (by intro _ _ e; cases e)]
        exact (hst z hz).2.2
    refine draw_T1 (m := m) (n1 := n1) (T0 := tabGo ops.toList []) (zs := zs) (s0 := s) (S := effO d a0 y b cs (appAll s evs)) t1 t2 (fun j h1 h2 => t3 j h1 (by simpa using h2)) hn1 hmn hzz t7 hS ho2 (hgn m o2 ho2) f1 (fun z hz => ?_) f3 ((ops.toList.drop (m + 1)).take (n1 - (m + 1))) (fun i o ho => ?_) ?_ (fun y2 b2 cs2 hp2 hn2 => ?_) fuel listed G a w _ hsz hcl htl hlt ?_ hle R
    · have := List.all_eq_true.1 f2 z hz
      rw [Bool.or_eq_true, disL_iff] at this
      rcases this with h | h
      · exact .inl h
      · exact .inr fun hm => h _ hm (by simp)
    · have h6 := ho
      have hi : i < n1 - (m + 1) := by
        have := (List.getElem?_eq_some_iff.1 ho).1
        simp at this; omega
      rw [List.getElem?_take_of_lt hi, List.getElem?_drop] at h6
      have h7 : ops[m + 1 + i]? = some o := by simpa using h6
      exact ⟨h7, hgn _ o h7⟩
    · simp; omega
    · exact f4 y2 b2 cs2 hp2 hn2
    · intro l hl
      refine effO_eq (.inl ?_)
      rw [← sel_all 0]
      refine sel_diff evs 0 _ _ rfl fun j ev hj hne hw => ?_
      have hj' : j < m := by rw [← hlen]; exact (List.getElem?_eq_some_iff.1 hj).1
      simp only [Nat.zero_add] at hne
      have hL : Lof listed j = false := by
        cases hq : Lof listed j with
        | false => rfl
        | true => exact absurd hq hne
      obtain ⟨z, hz, rfl⟩ := (hlt j hj').resolve_left fun h => by rw [hL] at h; cases h
      rw [(hst z hz).1] at hj
      cases hj
      exact hl z hz hL (by simpa [wrL] using hw)
/-- as W_freezeN, where there are objects of the caller's -/
theorem W_freezeI {b E : Nat} {full : List (List DV)} {kk : List Item} (n : Nat) (hrow : get s (.heap b) = some (.row (arrRow full))) (hE : ∀ e ∈ full, e.length = E) (hn : n ≤ full.length) (hbig : n ≤ BIG) (hids : b ∉ X.ids) (h : W X kk (frz b (full.take n) (del s (.heap b)))) : W X kk s := by
  intro G a w b' cs hf hkk hr R
  have hw : X.w0.heap.size ≤ b := by
    rcases R.own _ _ b hrow rfl with h | ⟨h, -⟩
    · exact h
    · exact absurd h hids
  have hpre : arrRow full = arrRow (full.take n) ++ arrRow (full.drop n) := by rw [← arrRow_append, List.take_append_drop]
  have R1 : Rel X G (upd s (.heap b) (.row (arrRow (full.take n)))) a w := by
    have hb : BlkAt G w b (arrRow (full.take n)) := by
      obtain ⟨c, e, h1, h2, h3⟩ := R.holds _ _ hrow
      rw [hpre, List.length_append] at h2
      refine ⟨c, e, h1, by omega, fun i x hx => ?_⟩
      have hlt := (List.getElem?_eq_some_iff.1 hx).1
      exact h3 i x (by rw [hpre, List.getElem?_append_left hlt]; exact hx)
    refine ⟨R.size, R.defers, R.ext, R.wf, R.nil, fun l v hl => ?_, fun l v l' v' b' hl hl' hb1 hb2 => ?_, fun l v b' hl hb1 => ?_, fun l v b' o hl hb1 ht => ?_⟩
    · rw [get_upd] at hl
      split at hl
      · subst_vars; cases hl; exact hb
      · exact R.holds _ _ hl
    · have key : ∀ l v, get (upd s (.heap b) (.row (arrRow (full.take n)))) l = some v → ∃ v0, get s l = some v0 ∧ blkOf G l v = blkOf G l v0 := by
        intro l v hl
        rw [get_upd] at hl
        split at hl
        · subst_vars; cases hl; exact ⟨_, hrow, rfl⟩
        · exact ⟨v, hl, rfl⟩
      obtain ⟨v0, k1, k2⟩ := key _ _ hl
      obtain ⟨v1, k3, k4⟩ := key _ _ hl'
      rw [k2] at hb1
      rw [k4] at hb2
      exact R.sep _ _ _ _ _ k1 k3 hb1 hb2
    · rw [get_upd] at hl
      split at hl
      · subst_vars; cases hl; exact R.own _ _ _ hrow hb1
      · exact R.own _ _ _ hl hb1
    · rw [get_upd] at hl
      split at hl
      · subst_vars; cases hl; exact R.data _ _ _ o hrow hb1 ht
      · exact R.data _ _ _ o hl hb1 ht
  obtain ⟨G', R'⟩ := R1.freeze (ys := full.take n) (fun e he => hE e (List.mem_of_mem_take he)) (by rw [List.length_take]; omega) hw (by rw [get_upd, if_pos rfl])
  refine h G' a w b' cs hf hkk hr (R'.congr fun l => ?_)
  rw [get_frz, get_frz, get_del, get_del, get_upd]
  by_cases h1 : Loc.heap b = l
  · rw [if_pos h1, if_pos h1]
  · rw [if_neg h1, if_neg h1, if_neg h1]
end
/-! a drawn region's check, where one pair of events is told apart by hand -/
def chkAtX (T : List Nat) (x : Ev) (i i0 j0 : Nat) : Nat → List Ev → Bool
  | _, [] => true
  | j, y :: r => allN (fun d => !ment d x.e) y.nm && ((T.getD j 0).testBit i || ((i == i0 && j == j0) || apart x y)) && chkAtX T x i i0 j0 (j + 1) r
def chkPX (T : List Nat) (i0 j0 : Nat) : Nat → List Ev → Bool
  | _, [] => true
  | i, x :: r => chkAtX T x i i0 j0 (i + 1) r && chkPX T i0 j0 (i + 1) r
def chkBX (i0 j0 : Nat) (ops : List Oper) (s : St) (evs : List Ev) : Bool :=
  let T := tabGo ops []
  backB 0 ops && fixB T T ops && chkF s evs && chkPX T i0 j0 0 evs
theorem chkAtX_to {T : List Nat} {x : Ev} {i i0 j0 : Nat} : ∀ (evs : List Ev) (j : Nat), (i = i0 → ∀ y, j ≤ j0 → evs[j0 - j]? = some y → apart x y = true) → chkAtX T x i i0 j0 j evs = true → chkAt T x i j evs = true
  | [], _, _, _ => rfl
  | y :: r, j, ha, h => by
    simp only [chkAtX, Bool.and_eq_true, Bool.or_eq_true, beq_iff_eq] at h
    simp only [chkAt, Bool.and_eq_true, Bool.or_eq_true]
    refine ⟨⟨h.1.1, ?_⟩, chkAtX_to r (j + 1) (fun e z hj hz => ha e z (by omega) (by rw [show j0 - j = j0 - (j + 1) + 1 from by omega]; simpa using hz)) h.2⟩
    rcases h.1.2 with h | ⟨h1, h2⟩ | h
    · exact .inl h
    · exact .inr (ha h1 y (by omega) (by rw [h2, Nat.sub_self]; rfl))
    · exact .inr h
theorem chkPX_to {T : List Nat} {i0 j0 : Nat} (hij : i0 < j0) {x0 y0 : Ev} (ha : apart x0 y0 = true) : ∀ (evs : List Ev) (i : Nat), (i ≤ i0 → evs[i0 - i]? = some x0 ∧ evs[j0 - i]? = some y0) → chkPX T i0 j0 i evs = true → chkP T i evs = true
  | [], _, _, _ => rfl
  | x :: r, i, he, h => by
    simp only [chkPX, Bool.and_eq_true] at h
    simp only [chkP, Bool.and_eq_true]
    refine ⟨chkAtX_to r (i + 1) (fun e y hj hy => ?_) h.1, chkPX_to hij ha r (i + 1) (fun hi => ?_) h.2⟩
    · obtain ⟨h1, h2⟩ := he (by omega)
      subst e
      rw [Nat.sub_self] at h1
      simp at h1
      subst h1
      rw [show j0 - i = j0 - (i + 1) + 1 from by omega] at h2
      simp only [List.getElem?_cons_succ] at h2
      rw [h2] at hy
      cases hy
      exact ha
    · obtain ⟨h1, h2⟩ := he (by omega)
      rw [show i0 - i = i0 - (i + 1) + 1 from by omega] at h1
      rw [show j0 - i = j0 - (i + 1) + 1 from by omega] at h2
      exact ⟨by simpa using h1, by simpa using h2⟩
theorem chkB_skip {ops : List Oper} {s : St} {evs : List Ev} (i0 j0 : Nat) (hij : i0 < j0) {x0 y0 : Ev} (hx : evs[i0]? = some x0) (hy : evs[j0]? = some y0) (ha : apart x0 y0 = true) (h : chkBX i0 j0 ops s evs = true) : chkB ops s evs = true := by
  simp only [chkBX, Bool.and_eq_true] at h
  simp only [chkB, Bool.and_eq_true]
  exact ⟨h.1, chkPX_to hij ha evs 0 (fun _ => ⟨hx, hy⟩) h.2⟩
end Go.Proofs.YtmdjiajbnifjpaaDoor.Lift

/-
  The reference's maker: emit, op, the block of a term.
-/
namespace Go.Proofs.YtmdjiajbnifjpaaDoor.Lift
set_option linter.unusedSimpArgs false
set_option linter.unusedVariables false
set_option linter.unnecessarySimpa false
open Go
variable {gl : Globs}

/-- a function called by relation, in a state that ends in objects -/
theorem vcK_callRT {X : Ctx} {s : St} {esc : List Nat} {ops : Array Oper} {l : List Oper} {K : St → Prop} {d : Tmp} {f : FuncId} {args : Array Operand} {ats : Array TypeId} {ty : TypeId} {pos : String} {af : Array Edge} {P : Program} {gl : Globs} (hP : X.P = P) (hgl : X.gl = gl)
    {ds : List DV} {φ : Objs} {R : DV → Objs → Prop} (hc : Con P gl f ds φ R) (hargs : evlDs X (get s) args.toList = some ds) {sl : St} (ht : Tail s sl φ) (hnd : (φ.map (·.1)).Nodup) (hdn : d < X.n) {q : Option (Prop × St)} (hq : q = none)
    (h : ∀ r φ', R r φ' → (φ'.map (·.1)).Nodup ∧ vc X esc ops l (upd sl (.slot d) (.one (.v r)) ++ heapSt φ') K) :
    vcK X esc ops l K ⟨some d, .call { callee := .value (.func f), args := args, argTypes := ats }, ty, pos, af, none⟩ s q :=
  vcK_callVT hP hgl (fi := #[]) (ca := #[]) (x := .func f) rfl (by simp) hc hargs (by simp) ht hnd hdn hq h

theorem VL_putD {X : Ctx} {ops : Array Oper} {lst : List Oper} {K : St → Prop} {rest l : St} {φ A B : Objs} {b : Nat} {c c' : List DV} {row : List SV} (ψ : Objs) (ht : TailD rest l φ b) (hφ : φ = A ++ (b, c) :: B) (hψ : ψ = A ++ (b, c') :: B) (hnd : (φ.map (·.1)).Nodup) (hrow : row = c'.map SV.v)
    (h : (ψ.map (·.1)).Nodup → VL X ops lst (l ++ heapSt ψ) K) : VL X ops lst ((.heap b, .row row) :: rest) K := by
  subst hφ hψ hrow
  obtain ⟨hs, hh⟩ := ht.spec
  obtain ⟨k1, k2⟩ := upd_objs (c' := c') hh hnd
  refine VL_le (fun m v hm => ?_) (h k2)
  have h1 := k1 m v hm
  rw [get_upd] at h1
  rw [hs]
  simp only [get]
  split
  · rename_i e; rw [if_pos e] at h1; exact h1
  · rename_i e
    rw [if_neg e, get_append] at h1
    rw [get_append, get_del, if_neg e]
    exact h1
/-- the maker's objects: the maker, and the arrays of its code, bodies and places -/
def mkO (bm : Nat) (vC vB vP : DV) (C B P : RS) : Objs := (bm, [vC, vB, vP]) :: (C.objs ++ (B.objs ++ P.objs))
theorem mkO_C (bm : Nat) (vC vB vP : DV) (C B P : RS) : mkO bm vC vB vP C B P = [(bm, [vC, vB, vP])] ++ (C.objs ++ (B.objs ++ P.objs)) := rfl
theorem mkO_B (bm : Nat) (vC vB vP : DV) (C B P : RS) : mkO bm vC vB vP C B P = ([(bm, [vC, vB, vP])] ++ C.objs) ++ (B.objs ++ P.objs) := by simp [mkO]
theorem mkO_P (bm : Nat) (vC vB vP : DV) (C B P : RS) : mkO bm vC vB vP C B P = ([(bm, [vC, vB, vP])] ++ C.objs ++ B.objs) ++ (P.objs ++ []) := by simp [mkO]
theorem mkO_get {bm : Nat} {vC vB vP : DV} {C B P : RS} (h : ((mkO bm vC vB vP C B P).map (·.1)).Nodup) :
    get (heapSt (mkO bm vC vB vP C B P)) (.heap bm) = some (.row [.v vC, .v vB, .v vP]) ∧
    (∀ b, C.q = some b → get (heapSt (mkO bm vC vB vP C B P)) (.heap b) = some (.row (arrRow C.full))) ∧ (∀ b, B.q = some b → get (heapSt (mkO bm vC vB vP C B P)) (.heap b) = some (.row (arrRow B.full))) ∧ (∀ b, P.q = some b → get (heapSt (mkO bm vC vB vP C B P)) (.heap b) = some (.row (arrRow P.full))) := by
  have hm : ∀ b cs, (b, cs) ∈ mkO bm vC vB vP C B P → get (heapSt (mkO bm vC vB vP C B P)) (.heap b) = some (.row (cs.map SV.v)) := fun b cs hb => get_heapSt_of h hb
  refine ⟨hm bm [vC, vB, vP] (by simp [mkO]), fun b hb => hm b C.full.flatten ?_, fun b hb => hm b B.full.flatten ?_, fun b hb => hm b P.full.flatten ?_⟩
  · have := RS.mem_objs (x := C).2 ⟨hb, rfl⟩
    simp [mkO, this]
  · have := RS.mem_objs (x := B).2 ⟨hb, rfl⟩
    simp [mkO, this]
  · have := RS.mem_objs (x := P).2 ⟨hb, rfl⟩
    simp [mkO, this]
theorem mkO_ne {bm : Nat} {vC vB vP : DV} {C B P : RS} (h : ((mkO bm vC vB vP C B P).map (·.1)).Nodup) : C.q ≠ some bm ∧ B.q ≠ some bm ∧ P.q ≠ some bm := by
  simp only [mkO, List.map_cons, List.map_append, List.nodup_cons, List.mem_append, List.mem_map, not_or] at h
  obtain ⟨⟨a1, a2, a3⟩, -⟩ := h
  have key : ∀ {x : RS} {b : Nat}, (¬ ∃ p, p ∈ x.objs ∧ p.1 = b) → x.q ≠ some b := fun hh e => hh ⟨_, RS.mem_objs.2 ⟨e, rfl⟩, rfl⟩
  exact ⟨key a1, key a2, key a3⟩
/-- what emit leaves: bodies and places as they were -/
def EmM (bm : Nat) (cs : List Ins) (B P : RS) (r : DV) (ψ : Objs) : Prop := r = .tup [] ∧ ∃ C : RS, C.is 2 (rowsI cs) ∧ (ψ.map (·.1)).Nodup ∧ ψ = mkO bm C.v B.v P.v C B P

set_option maxHeartbeats 1000000 in
set_option maxRecDepth 10000 in
theorem memit_ok (bm : Nat) (cs : List Ins) (op a : Int) (C B P : RS) (hl : cs.length ≤ 1000000000) (hC : C.is 2 (rowsI cs)) (hnd : ((mkO bm C.v B.v P.v C B P).map (·.1)).Nodup) :
    Con Tryd.prog gl 52 [ptr bm, dint op, dint a] (mkO bm C.v B.v P.v C B P) (EmM bm (cs ++ [(op, a)]) B P) := by
  refine t_in Tryd.func52 ?_
  intro X hP hgl hf hfn hn hR hids hfit
  have hg := mkO_get hnd
  have hCn : C.n = cs.length := by rw [hC.n_eq]; simp [rowsI]
  simp only [entry, argSt, List.cons_append, List.nil_append]
  refine t_a ?_
  refine W_reg [15] fun K hK => ?_
  simp [go_sem, hP, hgl, hn, hg]
  refine vcK_eff (x := C) (E := 2) (zs := [[dint op, dint a]]) (fun C2 => mkO bm C.v B.v P.v C2 B P) rfl (by repeat (first | exact Tail.nil _ | apply Tail.slot | apply Tail.loc)) (mkO_C ..) (fun _ => mkO_C ..) hnd hC (free_append (E := 2) (B := 16) (zd := [dint 0, dint 0]) rfl rfl (by rw [hn]; exact Nat.le_of_ble_eq_true rfl) (by simp [go_sem, hP]) (by decide) (by rw [hP]; rfl) (by simp [go_sem, hP, hgl, hn]) (by simp [go_sem, hP, hgl, hn]) (fun b hb => by simp [go_sem, hg, hb]) hC.nil hC.len hC.le (by simp) (by simp [hCn]; unfold BIG; omega) hC.wid (by simp) (by rw [hP]; kernel_rfl) rfl) rfl ?_
  intro C2 hC2 hq hnd2
  have hg2 := mkO_get hnd2
  simp only [go_sem, List.cons_append, List.nil_append]
  refine vc_sound (esc := []) ?_
  simp [go_sem, hP, hgl, hn, hg2]
  refine hK _ ?_
  clear hK K
  refine W_putT (φ := mkO bm C.v B.v P.v C2 B P) (A := []) (B := C2.objs ++ (B.objs ++ P.objs)) (c := [C.v, B.v, P.v]) (c' := [C2.v, B.v, P.v]) (mkO bm C2.v B.v P.v C2 B P) (by repeat (first | exact TailD.nil _ _ | apply TailD.slot | apply TailD.loc)) rfl rfl hnd2 rfl fun hnd3 => ?_
  refine t_a ?_
  refine W_endR hP hf hfn (.tup []) (mkO bm C2.v B.v P.v C2 B P) (by simp [go_sem, hP, hgl, hn]) ?_ hnd3 ?_ hR.2
  · repeat (first | exact objsIn_self hnd3 | refine objsIn_slot ?_ | refine objsIn_loc ?_)
  · rw [hR.1]
    refine ⟨rfl, C2, ?_, hnd3, rfl⟩
    rw [rowsI_app]
    exact hC2

def op37 (k : Int) : Int := if 3 ≤ k ∧ k ≤ 12 then k else 13
theorem op37_ok (k : Int) : Con1 Tryd.prog gl 70 [dint k] [] (dint (op37 k)) [] := by
  refine t_in Tryd.func70 ?_
  intro X hP hgl hf hfn hn hR hids hfit
  unfold op37 at hR
  refine t_g0 ?_
  by_cases hs0 : k = 3
  · refine t_g @hs0 ?_
    refine t_r ?_
    simp [go_sem, hP, hgl, hn, op37, hs0] <;> (try omega)
  by_cases hs1 : k = 4
  · refine t_g @hs1 ?_
    refine t_r ?_
    simp [go_sem, hP, hgl, hn, op37, hs1] <;> (try omega)
  by_cases hs2 : k = 5
  · refine t_g @hs2 ?_
    refine t_r ?_
    simp [go_sem, hP, hgl, hn, op37, hs2] <;> (try omega)
  by_cases hs3 : k = 6
  · refine t_g @hs3 ?_
    refine t_r ?_
    simp [go_sem, hP, hgl, hn, op37, hs3] <;> (try omega)
  by_cases hs4 : k = 7
  · refine t_g @hs4 ?_
    refine t_r ?_
    simp [go_sem, hP, hgl, hn, op37, hs4] <;> (try omega)
  by_cases hs5 : k = 8
  · refine t_g @hs5 ?_
    refine t_r ?_
    simp [go_sem, hP, hgl, hn, op37, hs5] <;> (try omega)
  by_cases hs6 : k = 9
  · refine t_g @hs6 ?_
    refine t_r ?_
    simp [go_sem, hP, hgl, hn, op37, hs6] <;> (try omega)
  by_cases hs7 : k = 10
  · refine t_g @hs7 ?_
    refine t_r ?_
    simp [go_sem, hP, hgl, hn, op37, hs7] <;> (try omega)
  by_cases hs8 : k = 11
  · refine t_g @hs8 ?_
    refine t_r ?_
    simp [go_sem, hP, hgl, hn, op37, hs8] <;> (try omega)
  by_cases hs9 : k = 12
  · refine t_g @hs9 ?_
    refine t_r ?_
    simp [go_sem, hP, hgl, hn, op37, hs9] <;> (try omega)
  refine t_g (j2 @hs0 (j2 @hs1 (j2 @hs2 (j2 @hs3 (j2 @hs4 (j2 @hs5 (j2 @hs6 (j2 @hs7 (j2 @hs8 @hs9))))))))) ?_
  refine t_r ?_
  simp [go_sem, hP, hgl, hn, op37, hs0, hs1, hs2, hs3, hs4, hs5, hs6, hs7, hs8, hs9] <;> (try omega)

/-- what block leaves -/
def BlM (bm : Nat) (cs : List Ins) (bs : List Tm) (ps : List Int) (r : DV) (ψ : Objs) : Prop :=
  r = .tup [] ∧ ∃ C B P : RS, C.is 2 (rowsI cs) ∧ B.is 5 (bs.map Tm.cells) ∧ P.is 1 (ints ps) ∧ (ψ.map (·.1)).Nodup ∧ ψ = mkO bm C.v B.v P.v C B P

set_option maxHeartbeats 1000000 in
set_option maxRecDepth 10000 in
theorem mblock_ok (t : Tm) (bm : Nat) : ∀ (cs : List Ins) (bs : List Tm) (ps : List Int) (C B P : RS), t.shape = true → t.count ≤ 1000000 → cs.length + t.count ≤ 1000000000 → bs.length + t.count ≤ 1000000000 → ps.length + t.count ≤ 1000000000 →
    C.is 2 (rowsI cs) → B.is 5 (bs.map Tm.cells) → P.is 1 (ints ps) → ((mkO bm C.v B.v P.v C B P).map (·.1)).Nodup →
    Con Tryd.prog gl 51 [ptr bm, t.dv] (mkO bm C.v B.v P.v C B P) (BlM bm (cs ++ t.skel) (bs ++ t.subs) (ps ++ funPos cs.length t.skel)) := by
  induction t using Tm.ind with
  | h t ih =>
  intro cs bs ps C B P hs hc hcs hbs hps hC hB hP0 hnd
  refine t_in Tryd.func51 ?_
  intro X hP hgl hf hfn hn hR hids hfit
  have hfo := Tm.fold t
  have hlen := Tm.fit_len (hfit t.dv (by simp))
  have hg := mkO_get hnd
  have hne := mkO_ne hnd
  have hcnt := Tm.count_eq t
  have hCn : C.n = cs.length := by rw [hC.n_eq]; simp [rowsI]
  have hBn : B.n = bs.length := by rw [hB.n_eq]; simp
  have hPn : P.n = ps.length := by rw [hP0.n_eq]; simp [ints]
  simp only [entry, argSt, List.cons_append, List.nil_append]
  refine t_rg0 ?_
  refine t_rg0 ?_
  have e3 : ∀ h1 : t.kind = 1, t.args = [] := by
    intro h1
    have h2 := hs
    rw [Tm.shape_eq, Bool.and_eq_true] at h2
    have h2 := h2.1
    simp only [tmKind, h1, Bool.and_eq_true, decide_eq_true_eq, arityI] at h2
    exact List.length_eq_zero_iff.1 (by have := h2.1.1.1; simp at this; omega)
  by_cases h1 : t.kind = 1
  · have e1 : t.skel = [(1, t.index)] := by rw [Tm.skel_eq, if_neg (by omega), e3 h1, h1]; rfl
    have e2 : t.subs = [] := by rw [Tm.subs_eq, if_neg (by omega), e3 h1]; rfl
    refine t_rg @h1 ?_
    refine t_yes ?_
    refine t_a ?_
    refine W_reg [] fun K hK => ?_
    simp [go_sem, hP, hgl, hn]
    refine vcK_callRT hP hgl (memit_ok bm cs 1 t.index C B P (by omega) hC hnd) (by simp [go_sem, hP, hgl, hn]) (by repeat (first | exact Tail.nil _ | apply Tail.slot | apply Tail.loc)) hnd (by rw [hn]; exact Nat.le_of_ble_eq_true rfl) rfl ?_
    rintro r ψ ⟨rfl, C2, q1, q2, rfl⟩
    refine ⟨q2, ?_⟩
    simp [go_sem]
    refine hK _ ?_
    clear hK K
    refine W_retR hP hf hfn (.tup []) (mkO bm C2.v B.v P.v C2 B P) (by simp [go_sem, hP, hgl, hn]) ?_ q2 ?_ hR.2
    · repeat (first | exact objsIn_self q2 | refine objsIn_slot ?_ | refine objsIn_loc ?_)
    · rw [hR.1]
      refine ⟨rfl, C2, B, P, ?_, ?_, ?_, q2, rfl⟩
      · rw [e1]; exact q1
      · rw [e2, List.append_nil]; exact hB
      · rw [e1]; simpa [funPos] using hP0
  by_cases h2 : t.kind = 2
  · obtain ⟨a, ha⟩ : ∃ a, t.args = [a] := by
      have h1 := hs
      rw [Tm.shape_eq, Bool.and_eq_true] at h1
      have h1 := h1.1
      simp only [tmKind, h2, Bool.and_eq_true, decide_eq_true_eq, arityI] at h1
      exact List.length_eq_one_iff.1 (by have := h1.1.1.1; simp at this; omega)
    have hix : t.index = 0 := by
      have h1 := hs
      rw [Tm.shape_eq, Bool.and_eq_true] at h1
      have h1 := h1.1
      simp only [tmKind, h2, Bool.and_eq_true, Bool.or_eq_true, decide_eq_true_eq] at h1
      exact h1.1.2.resolve_left (by omega)
    have e1 : t.skel = [(2, 0)] := by rw [Tm.skel_eq, if_pos h2, hix]
    have e2 : t.subs = [a] := by rw [Tm.subs_eq, if_pos h2, ha]
    refine t_rg @h2 ?_
    refine t_no ?_
    refine t_rg @h2 ?_
    refine t_yes ?_
    refine t_a ?_
    refine W_regS (by rw [hP]; exact mixed) [⟨0, 15, 0, .one (.v (ptr bm))⟩, ⟨1, 16, 0, .one (.v (ptr bm))⟩] 11 22 26 _ _ (by decide) (by decide) (by decide) (by rfl) (by rfl) (by rfl) (d := 26) (by rw [hn]; exact Nat.le_of_ble_eq_true rfl) B.q (AppP X B.q 5 B.n B.full [[dint a.kind, dint a.index, dint a.type.kind, .sl (a.type.args.map Ty.cells), .sl (a.args.map Tm.cells)]]) fresh_app [] fun K hK => ?_
    simp [go_sem, hP, hgl, hn, hg, ha, hCn, markO]
    refine vcdF_append (E := 5) (B := 72) (q := B.q) (n := B.n) (cap := B.cap) (full := B.full) (zs := [[dint a.kind, dint a.index, dint a.type.kind, .sl (a.type.args.map Ty.cells), .sl (a.args.map Tm.cells)]]) (zd := [dint 0, dint 0, dint 0, .sl [], .sl []]) (by simp [go_sem, hP, hgl, hn]) (by simp [go_sem, hP, hgl, hn]) (by simp [go_sem, hP]) (by rw [hP]; kernel_rfl) rfl (by decide) (by rw [hP]; rfl) (by rw [hn]; exact Nat.le_of_ble_eq_true rfl) (fun b hb => by simp [go_sem, hg, hb]) hB.nil hB.len hB.le (by simp) (by simp [hBn]; unfold BIG; omega) hB.wid (by simp) ?_
    simp [go_sem, hP, hgl, hn, hg, hne, ha, hCn]
    refine ⟨by omega, by generalize B.q = q; cases q <;> rfl, by simp [evFree, evFree.evFree', allL, freeR, freeW, wrL, hne], ?_, ?_⟩
    · intro z hz
      rcases List.mem_cons.1 hz with rfl | hz
      · exact ⟨rfl, rfl, by simp [go_sem]⟩
      · rw [List.mem_singleton.1 hz]
        exact ⟨rfl, rfl, by simp [go_sem]⟩
    intro y b cs2 hap hnew
    obtain ⟨B2, hq', rfl, rfl, hB2⟩ := hB.app hap
    have hnew' := newA_objs (by repeat (first | exact Tail.nil _ | apply Tail.slot | apply Tail.loc)) hnd hnew
    refine afterS_eff B2 (mkO bm C.v B.v P.v C B2 P) (by repeat (first | exact Tail.nil _ | apply Tail.slot | apply Tail.loc)) (mkO_B ..) (mkO_B ..) hnd hq' hnew' fun hnd1 => ?_
    have hg1 := mkO_get hnd1
    have hne1 := mkO_ne hnd1
    simp only [go_sem, List.cons_append, List.nil_append]
    refine afterS_app (esc2 := []) (x := P) (E := 1) (Bz := 8) (ws := [[dint (cs.length : Int)]]) (zd := [dint 0]) (fun P2 => mkO bm C.v B.v P.v C B2 P2) (by repeat (first | exact Tail.nil _ | apply Tail.slot | apply Tail.loc)) (mkO_P ..) (fun _ => mkO_P ..) hnd1 hP0 (by simp [go_sem, hP, hgl, hn]) (by simp [go_sem, hP, hgl, hn]) (by simp [go_sem, hP]) (by rw [hP]; kernel_rfl) rfl (by decide) (by rw [hP]; rfl) (by rw [hn]; exact Nat.le_of_ble_eq_true rfl) (fun b hb => by simp [go_sem, hg1, hb]) (by simp) (by simp [hPn]; unfold BIG; omega) (by simp) (by
      rw [List.all_eq_true]; intro z hz; rw [Bool.or_eq_true]; refine .inr ?_; generalize P.q = q
      rcases List.mem_cons.1 hz with rfl | hz
      · cases q <;> rfl
      · rw [List.mem_singleton.1 hz]; cases q <;> rfl) (by simp) ?_
    intro P2 hP2 hqP hnd2
    have hg2 := mkO_get hnd2
    have hne2 := mkO_ne hnd2
    simp [go_sem, hP, hgl, hn, hg2]
    refine ⟨by kernel_rfl, ?_⟩
    refine VL_putD (φ := mkO bm C.v B.v P.v C B2 P2) (A := []) (B := C.objs ++ (B2.objs ++ P2.objs)) (c := [C.v, B.v, P.v]) (c' := [C.v, B2.v, P.v]) (mkO bm C.v B2.v P.v C B2 P2) (by repeat (first | exact TailD.nil _ _ | apply TailD.slot | apply TailD.loc)) rfl rfl hnd2 rfl fun hnd3 => ?_
    have hg3 := mkO_get hnd3
    simp only [go_sem, List.cons_append, List.nil_append]
    refine vc_sound (esc := []) ?_
    simp [go_sem, hP, hgl, hn, hg3]
    refine hK _ ?_
    clear hK K
    refine W_putT (φ := mkO bm C.v B2.v P.v C B2 P2) (A := []) (B := C.objs ++ (B2.objs ++ P2.objs)) (c := [C.v, B2.v, P.v]) (c' := [C.v, B2.v, P2.v]) (mkO bm C.v B2.v P2.v C B2 P2) (by repeat (first | exact TailD.nil _ _ | apply TailD.slot | apply TailD.loc)) rfl rfl hnd3 rfl fun hnd4 => ?_
    simp only [List.cons_append, List.nil_append]
    refine t_a ?_
    refine W_reg [] fun K hK => ?_
    simp [go_sem, hP, hgl, hn]
    refine vcK_callRT hP hgl (memit_ok bm cs 2 0 C B2 P2 (by omega) hC hnd4) (by simp [go_sem, hP, hgl, hn]) (by repeat (first | exact Tail.nil _ | apply Tail.slot | apply Tail.loc)) hnd4 (by rw [hn]; exact Nat.le_of_ble_eq_true rfl) rfl ?_
    rintro r ψ ⟨rfl, C2, q1, q2, rfl⟩
    refine ⟨q2, ?_⟩
    simp [go_sem]
    refine hK _ ?_
    clear hK K
    refine W_retR hP hf hfn (.tup []) (mkO bm C2.v B2.v P2.v C2 B2 P2) (by simp [go_sem, hP, hgl, hn]) ?_ q2 ?_ hR.2
    · repeat (first | exact objsIn_self q2 | refine objsIn_slot ?_ | refine objsIn_loc ?_)
    · rw [hR.1]
      refine ⟨rfl, C2, B2, P2, ?_, ?_, ?_, q2, rfl⟩
      · rw [e1]; exact q1
      · rw [e2, List.map_append, List.map_cons, List.map_nil, Tm.cells_eq]; exact hB2
      · rw [e1, ints_app]; exact hP2
  · obtain ⟨hk1, hk2⟩ := kind_in hs
    have hsh := (Tm.shapes_iff _).1 ((Bool.and_eq_true _ _ ▸ (Tm.shape_eq t ▸ hs : _ = true) : _ ∧ _).2)
    have hix : t.index = 0 := by
      have h3 := hs
      rw [Tm.shape_eq, Bool.and_eq_true] at h3
      have h3 := h3.1
      simp only [tmKind, Bool.and_eq_true, Bool.or_eq_true, decide_eq_true_eq] at h3
      exact h3.1.2.resolve_left h1
    have hop : op37 t.kind = t.kind := by unfold op37; split <;> omega
    have e1 : t.skel = Tm.skel.skels t.args ++ [(t.kind, 0)] := by rw [Tm.skel_eq, if_neg h2, hix]
    have e2 : t.subs = Tm.subs.subss t.args := by rw [Tm.subs_eq, if_neg h2]
    have e4 : funPos cs.length t.skel = funPos cs.length (Tm.skel.skels t.args) := by rw [e1, funPos_append]; simp [funPos, h2]
    refine t_rg @h1 ?_
    refine t_no ?_
    refine t_rg @h2 ?_
    refine t_no ?_
    refine t_rg0 ?_
    refine t_a ?_
    refine W_sub [] (by simp [go_sem]) ?_ (by simp [go_sem]) (W_rounds
      (fun x : Nat × RS × RS × RS => x.1 ≤ t.args.length ∧ x.2.1.is 2 (rowsI (cs ++ Tm.skel.skels (t.args.take x.1))) ∧ x.2.2.1.is 5 ((bs ++ Tm.subs.subss (t.args.take x.1)).map Tm.cells) ∧ x.2.2.2.is 1 (ints (ps ++ funPos cs.length (Tm.skel.skels (t.args.take x.1)))) ∧ ((mkO bm x.2.1.v x.2.2.1.v x.2.2.2.v x.2.1 x.2.2.1 x.2.2.2).map (·.1)).Nodup)
      (fun x => (.slot 0, .one (.v (ptr bm))) :: (.slot 4, .one (.v (dint x.1))) :: (.slot 3, .one (.loc 3 0)) :: (.loc 3, .row [.v (dint t.kind), .v (dint t.index), .v (dint t.type.kind), .v (.sl (t.type.args.map Ty.cells)), .v (.sl (t.args.map Tm.cells))]) :: heapSt (mkO bm x.2.1.v x.2.2.1.v x.2.2.2.v x.2.1 x.2.2.1 x.2.2.2))
      (fun x => t.args.length - x.1) (0, C, B, P) ⟨Nat.zero_le _, ?_, ?_, ?_, hnd⟩ ?_)
    · simp [go_sem, subLe_hs_self _ hnd]
    · simpa [Tm.skel.skels] using hC
    · simpa [Tm.subs.subss] using hB
    · simpa [Tm.skel.skels, funPos] using hP0
    · rintro ⟨i, C1, B1, P1⟩ ⟨i1, i2, i3, i4, i5⟩ ihr
      simp only at i1 i2 i3 i4 i5
      rcases Nat.lt_or_ge i t.args.length with hlt | hgt
      · obtain ⟨x, hx⟩ : ∃ x, t.args[i]? = some x := ⟨_, List.getElem?_eq_getElem hlt⟩
        have hxm := List.mem_of_getElem? hx
        refine t_rg0 ?_
        refine t_yes ?_
        obtain ⟨ht1, hcx⟩ := counts_at hx
        have b1 := skels_le (t.args.take i)
        have b2 := subss_le (t.args.take i)
        have b3 := funPos_le cs.length (Tm.skel.skels (t.args.take i))
        refine t_a ?_
        refine W_reg [] fun K hK => ?_
        simp [go_sem, hP, hgl, hn, hx]
        repeat (refine ⟨by omega, ?_⟩)
        refine vcK_callRT hP hgl (ih x hxm _ _ _ C1 B1 P1 (hsh x hxm) (by omega) (by rw [List.length_append]; omega) (by rw [List.length_append]; omega) (by rw [List.length_append]; omega) i2 i3 i4 i5) (by simp [go_sem]) (by repeat (first | exact Tail.nil _ | apply Tail.slot | apply Tail.loc)) i5 (by rw [hn]; exact Nat.le_of_ble_eq_true rfl) rfl ?_
        rintro r ψ ⟨rfl, C2, B2, P2, q1, q2, q3, q4, rfl⟩
        refine ⟨q4, ?_⟩
        simp [go_sem]
        refine hK _ ?_
        clear hK K
        refine t_rg0 ?_
        refine t_b ?_
        refine W_sub [] (by simp [go_sem]) ?_ (by simp [go_sem]) (ihr (i + 1, C2, B2, P2) ⟨hlt, ?_, ?_, ?_, q4⟩ (by simp only; omega))
        · simp [go_sem, subLe_hs_self _ q4]
        · rw [ht1, Tm.skels_append]
          simpa [Tm.skel.skels] using q1
        · rw [ht1, Tm.subss_append]
          simpa [Tm.subs.subss] using q2
        · rw [ht1, Tm.skels_append, funPos_append]
          simpa [Tm.skel.skels] using q3
      · have hie : i = t.args.length := by omega
        rw [hie, List.take_length] at i2 i3 i4
        have b1 := skels_le t.args
        refine t_rg0 ?_
        refine t_no ?_
        refine t_g0 ?_
        refine t_a ?_
        refine W_reg [] fun K hK => ?_
        simp [go_sem, hP, hgl, hn]
        refine t_c trivial (op37_ok t.kind) ?_
        refine vcK_callRT hP hgl (memit_ok bm (cs ++ Tm.skel.skels t.args) (op37 t.kind) 0 C1 B1 P1 (by rw [List.length_append]; omega) i2 i5) (by simp [go_sem, hP, hgl, hn]) (by repeat (first | exact Tail.nil _ | apply Tail.slot | apply Tail.loc)) i5 (by rw [hn]; exact Nat.le_of_ble_eq_true rfl) rfl ?_
        rintro r ψ ⟨rfl, C2, q1, q2, rfl⟩
        refine ⟨q2, ?_⟩
        simp [go_sem]
        refine hK _ ?_
        clear hK K
        refine t_a ?_
        refine W_endR hP hf hfn (.tup []) (mkO bm C2.v B1.v P1.v C2 B1 P1) (by simp [go_sem, hP, hgl, hn]) ?_ q2 ?_ hR.2
        · repeat (first | exact objsIn_self q2 | refine objsIn_slot ?_ | refine objsIn_loc ?_)
        · rw [hR.1]
          refine ⟨rfl, C2, B1, P1, ?_, ?_, ?_, q2, rfl⟩
          · rw [e1, ← List.append_assoc]; rw [hop] at q1; exact q1
          · rw [e2]; exact i3
          · rw [e4]; exact i4
end Go.Proofs.YtmdjiajbnifjpaaDoor.Lift

/-
  The reference's Compile, walked.
-/
namespace Go.Proofs.YtmdjiajbnifjpaaDoor.Lift
set_option linter.unusedSimpArgs false
set_option linter.unusedVariables false
set_option linter.unnecessarySimpa false
open Go
variable {gl : Globs}

/-- what the reference's Compile returns: its code as a raw slice, or nil and the error -/
def RefC (t : Tm) (r : DV) (ψ : Objs) : Prop :=
  (t.compN.2 ≠ 0 ∧ r = .tup [.sl [], dint t.compN.2] ∧ ψ = []) ∨ (t.compN.2 = 0 ∧ ∃ C : RS, C.is 2 (rowsI t.compN.1) ∧ (ψ.map (·.1)).Nodup ∧ ψ = C.objs ∧ r = .tup [C.v, dint 0])

theorem laid_one (t : Tm) : t.laid 1 = [t.skel] := by rw [Tm.laid, Tm.bfs_cons]; rfl
theorem todo_one (t : Tm) : t.todo 1 = t :: t.subs := by rw [Tm.todo, Tm.bfs_cons]; simp

set_option maxHeartbeats 1000000 in
set_option maxRecDepth 10000 in
theorem refcompile_ok (t : Tm) (ht : t.tys) (hc : t.count ≤ 1000000) : Con Tryd.prog gl 18 [t.dv] [] (RefC t) := by
  refine t_in Tryd.func18 ?_
  intro X hP hgl hf hfn hn hR hids hfit
  have hfo := Tm.fold t
  refine t_g0 ?_
  refine t_c1 @hfo (ref02_check_ok t ht (by omega)) ?_
  by_cases h : t.checkN = 0
  · have hsh := ((Tm.checkN_iff t).1 h).1
    refine t_rg @h ?_
    refine t_no ?_
    refine t_rg0 ?_
    refine W_expose 13 (by simp [go_sem]; rfl) ?_
    intro bm hbm
    simp [go_sem] at hbm ⊢
    refine W_nilraw ?_
    simp [nlz, nlzLV, nlzRow, nlzSV, nlzRow_arr]
    have hnd0 : ((mkO bm (RS.v ⟨none, 0, 0, []⟩) (RS.v ⟨none, 0, 0, []⟩) (RS.v ⟨none, 0, 0, []⟩) ⟨none, 0, 0, []⟩ ⟨none, 0, 0, []⟩ ⟨none, 0, 0, []⟩).map (·.1)).Nodup := by
      simp [mkO, RS.objs]
    refine W_sub [] (s' := (.slot 5, .one (.v (ptr bm))) :: (.loc 1, .row [.v (dint t.kind), .v (dint t.index), .v (dint t.type.kind), .v (.sl (t.type.args.map Ty.cells)), .v (.sl (t.args.map Tm.cells))]) :: (.slot 1, .one (.loc 1 0)) :: heapSt (mkO bm (RS.v ⟨none, 0, 0, []⟩) (RS.v ⟨none, 0, 0, []⟩) (RS.v ⟨none, 0, 0, []⟩) ⟨none, 0, 0, []⟩ ⟨none, 0, 0, []⟩ ⟨none, 0, 0, []⟩)) (by simp [go_sem]) (by simp [go_sem, mkO, RS.objs]) (by simp [go_sem]) ?_
    refine t_a ?_
    refine W_reg [] fun K hK => ?_
    simp [go_sem, hP, hgl, hn, hfo]
    refine vcK_callRT hP hgl (mblock_ok t bm [] [] [] ⟨none, 0, 0, []⟩ ⟨none, 0, 0, []⟩ ⟨none, 0, 0, []⟩ hsh hc (by simp; omega) (by simp; omega) (by simp; omega) ⟨fun _ => ⟨rfl, rfl⟩, rfl, by simp, Nat.le_refl _, by simp [rowsI]⟩ ⟨fun _ => ⟨rfl, rfl⟩, rfl, by simp, Nat.le_refl _, by simp⟩ ⟨fun _ => ⟨rfl, rfl⟩, rfl, by simp, Nat.le_refl _, by simp [ints]⟩ hnd0) (by simp [go_sem]) (by repeat (first | exact Tail.nil _ | apply Tail.slot | apply Tail.loc)) hnd0 (by rw [hn]; exact Nat.le_of_ble_eq_true rfl) rfl ?_
    rintro r ψ ⟨rfl, C0, B0, P0, q1, q2, q3, q4, rfl⟩
    refine ⟨q4, ?_⟩
    simp [go_sem]
    refine hK _ ?_
    clear hK K
    simp only [List.nil_append, List.length_nil] at q1 q2 q3
    have hsk := skel_le t
    refine t_a ?_
    refine W_reg [] fun K hK => ?_
    simp [go_sem, hP, hgl, hn]
    refine vcK_callRT hP hgl (memit_ok bm t.skel 14 0 C0 B0 P0 (by omega) q1 q4) (by simp [go_sem]) (by repeat (first | exact Tail.nil _ | apply Tail.slot | apply Tail.loc)) q4 (by rw [hn]; exact Nat.le_of_ble_eq_true rfl) rfl ?_
    rintro r ψ ⟨rfl, C1, r1, r2, rfl⟩
    refine ⟨r2, ?_⟩
    simp [go_sem]
    refine hK _ ?_
    clear hK K
    refine t_rg0 ?_
    refine t_a ?_
    have hbl1 : 1 ≤ (Tm.bfs [t]).length := by rw [Tm.bfs_cons]; simp
    refine W_sub [] (by simp [go_sem]) ?_ (by simp [go_sem]) (W_rounds
      (fun x : Nat × RS × RS × RS => x.1 + 1 ≤ (Tm.bfs [t]).length ∧ x.2.1.is 2 (rowsI (partC (t.laid (x.1 + 1)))) ∧ x.2.2.1.is 5 ((t.todo (x.1 + 1)).tail.map Tm.cells) ∧ x.2.2.2.is 1 (ints (funPos 0 (lay (t.laid (x.1 + 1))))) ∧ ((mkO bm x.2.1.v x.2.2.1.v x.2.2.2.v x.2.1 x.2.2.1 x.2.2.2).map (·.1)).Nodup)
      (fun x => (.slot 5, .one (.v (ptr bm))) :: (.slot 6, .one (.v (dint x.1))) :: heapSt (mkO bm x.2.1.v x.2.2.1.v x.2.2.2.v x.2.1 x.2.2.1 x.2.2.2))
      (fun x => (Tm.bfs [t]).length - x.1) (0, C1, B0, P0) ⟨hbl1, ?_, ?_, ?_, r2⟩ ?_)
    · simp [go_sem, subLe_hs_self _ r2]
    · have h0 := partC_lay [] t hsh (m := 0) rfl (Nat.zero_le _)
      rw [laid_one]
      have h1 : t.skel ++ [(14, 0)] = partC [t.skel] := h0
      rw [← h1]; exact r1
    · rw [todo_one]; exact q2
    · rw [laid_one]
      have h0 := funPos_lay [] t.skel
      have h1 : funPos 0 (lay [t.skel]) = funPos 0 t.skel := h0
      rw [h1]; exact q3
    · rintro ⟨i, C, B, P⟩ ⟨i1, i2, i3, i4, i5⟩ ihr
      simp only at i1 i2 i3 i4 i5
      have hg1 := mkO_get i5
      have hn1 := mkO_ne i5
      have hBn : B.n = (t.todo (i + 1)).length - 1 := by rw [i3.n_eq, List.length_map, List.length_tail]
      have hCn : C.n = (lay (t.laid (i + 1))).length := by rw [i2.n_eq]; simp [rowsI, partC, fillF_length]
      have hPn : P.n = funs (lay (t.laid (i + 1))) := by rw [i4.n_eq]; simp [ints, funPos_length]
      have htl := todo_bfs t (i + 1)
      have hll := laid_le t i1
      have hbl := bfs_len t
      have hb1 : B.n ≤ 2147483648 := by omega
      have hb2 : C.n ≤ 2147483648 := by omega
      have hfun := todo_funs t hsh (i + 1)
      rcases todo_at t i1 with ⟨hie, hlen⟩ | ⟨x, hlt, hx, hxb, hl1, ht1, hi1⟩
      · have hBi : B.n = i := by omega
        refine t_rg (j2 @hg1 @hBi) ?_
        refine t_no ?_
        have hall := partC_all t hsh
        rw [← hie] at hall
        rw [hall] at i2
        have hCc : C.n = t.codeN.length := by rw [i2.n_eq]; simp [rowsI]
        by_cases h4 : 4096 < t.codeN.length
        · refine t_g (j2 @hg1 (j2 @hCc (j2 @h4 @hb2))) ?_
          refine W_retR hP hf hfn (.tup [.sl [], dint 4]) [] (by simp [go_sem, hP, hgl, hn]) (by intro b cs hm; cases hm) (by simp) ?_ hR.2
          rw [hR.1]
          exact .inl (by simp [Tm.compN, h, h4])
        · refine t_g (j2 @hg1 (j2 @hCc (j2 @h4 @hb2))) ?_
          have hnd1 : (C.objs.map (·.1)).Nodup := by unfold RS.objs; cases C.q <;> simp
          refine W_retR hP hf hfn (.tup [C.v, dint 0]) C.objs (by simp [go_sem, hP, hgl, hn]) ?_ hnd1 ?_ hR.2
          · repeat (first | refine objsIn_slot ?_ | refine objsIn_loc ?_ )
            intro b cs hm
            exact get_heapSt_of i5 (by simp [mkO, hm])
          · rw [hR.1]
            exact .inr ⟨by simp [Tm.compN, h, h4], C, by simpa [Tm.compN, h, h4] using i2, hnd1, rfl, rfl⟩
      · have hlt' : i < B.n := by omega
        refine t_rg (j2 @hg1 @hlt') ?_
        refine t_yes ?_
        have hxs := bfs_shape [t] (by simpa using hsh) x (List.mem_of_getElem? hxb)
        have hxc : x.count ≤ t.count := by
          have := bfs_mem [t] x (List.mem_of_getElem? hxb)
          simpa [Tm.count.counts] using this
        obtain ⟨p, p1, p2, ⟨a0, p3⟩, p4⟩ := partC_put (t.laid (i + 1)) (laid_length t i1) (by omega : i < funs (lay (t.laid (i + 1))))
        have hPe : (ints (funPos 0 (lay (t.laid (i + 1)))))[i]? = some [dint (p : Int)] := by simp [ints, p1]
        have hCe : (rowsI (partC (t.laid (i + 1))))[p]? = some [dint 2, dint a0] := by simp [rowsI, p3, Ins.row]
        obtain ⟨aP, haP⟩ := i4.there (by intro e; rw [e] at hPe; cases hPe)
        obtain ⟨aC, haC⟩ := i2.there (by intro e; rw [e] at hCe; cases hCe)
        have hP0 := i4.at hPe
        have hC0 := i2.at hCe
        have hPc : (arrRow P.full)[i]? = some (.v (dint (p : Int))) := by
          have := arrRow_cell (E := 1) i4.wid hP0 (j := 0) rfl
          simpa using this
        have hPv : P.v = rawS aP P.n P.cap := by unfold RS.v rawQ; rw [haP]; rfl
        have hCv : C.v = rawS aC C.n C.cap := by unfold RS.v rawQ; rw [haC]; rfl
        have hpl : p < C.n := by rw [i2.n_eq]; simpa [rowsI] using p2
        have hol : (arrRow C.full).length = C.cap * 2 := by rw [arrRow_len i2.wid, i2.len]
        have hoc := i2.le
        have hiP : i < P.n := by omega
        have hgP := hg1.2.2.2 aP haP
        have hgC := hg1.2.1 aC haC
        have hgm := hg1.1
        refine t_a ?_
        have i5' := i5
        generalize hφ : mkO bm C.v B.v P.v C B P = φ1 at hgP hgC hgm i5 ⊢
        refine W_regT (by rw [hP]; exact mixed) 16 (by decide) (by rfl) [] [] fun K hK => ?_
        simp [go_sem, hP, hgl, hn, hgP, hgC, hgm, hPv, hCv, hPc, hb2]
        refine ⟨by omega, by rfl, hpl, by omega, hK _ ?_⟩
        clear hK K
        have hob1 : C.objs = [(aC, C.full.flatten)] := by unfold RS.objs; rw [haC]
        have hob2 : RS.objs ⟨C.q, C.n, C.cap, C.full.set p [dint 2, dint (C.n : Nat)]⟩ = [(aC, (C.full.set p [dint 2, dint (C.n : Nat)]).flatten)] := by unfold RS.objs; rw [haC]
        refine W_putT (φ := φ1) (A := [(bm, [C.v, B.v, P.v])]) (B := B.objs ++ P.objs) (c := C.full.flatten) (c' := (C.full.set p [dint 2, dint (C.n : Nat)]).flatten) (mkO bm C.v B.v P.v ⟨C.q, C.n, C.cap, C.full.set p [dint 2, dint (C.n : Nat)]⟩ B P) (by repeat (first | exact TailD.nil _ _ | apply TailD.slot | apply TailD.loc)) (by rw [← hφ, mkO_C, hob1]; rfl) (by rw [mkO_C, hob2]; rfl) i5 ?_ fun hnd2 => ?_
        · have := put_cell i2.wid hC0 (j := 1) (by decide) (dint (C.n : Nat))
          simpa [arrRow] using this
        have hset := i2.set (i := p) (e := [dint 2, dint (C.n : Nat)]) (by simpa [rowsI] using p2) rfl
        have e2 : (rowsI (partC (t.laid (i + 1)))).set p [dint 2, dint (C.n : Nat)] = rowsI ((partC (t.laid (i + 1))).set p (2, (C.n : Nat))) := by
          simp [rowsI, List.map_set, Ins.row]
        rw [e2, hCn, p4] at hset
        rw [← hCn] at hset
        have hvv : C.v = RS.v ⟨C.q, C.n, C.cap, C.full.set p [dint 2, dint (C.n : Nat)]⟩ := rfl
        rw [hvv] at hnd2 ⊢
        generalize (⟨C.q, C.n, C.cap, C.full.set p [dint 2, dint (C.n : Nat)]⟩ : RS) = C2 at hset hnd2 ⊢
        have hg2 := mkO_get hnd2
        have hxe : ((t.todo (i + 1)).tail.map Tm.cells)[i]? = some x.cells := by rw [List.getElem?_map, List.getElem?_tail, hx]; rfl
        obtain ⟨aB, haB⟩ := i3.there (by intro e; rw [e] at hxe; cases hxe)
        have hB0 := i3.at hxe
        have hrd := arrRow_rd i3.wid hB0
        rw [Tm.cells_eq x] at hrd
        have hfx := Tm.fold x
        have hBv : B.v = rawS aB B.n B.cap := by unfold RS.v rawQ; rw [haB]; rfl
        have hgB := hg2.2.2.1 aB haB
        have hgm2 := hg2.1
        have hos : (fillF (fun j => if j < i + 1 then ((startAt (t.laid (i + 1)) (j + 1) : Nat) : Int) else 0) 0 (lay (t.laid (i + 1)))).length = (lay (t.laid (i + 1))).length := fillF_length _ _ _
        have hfl : (funPos 0 (lay (t.laid (i + 1)))).length = funs (lay (t.laid (i + 1))) := funPos_length _ _
        have htt : (t.todo (i + 1)).tail.length = (t.todo (i + 1)).length - 1 := List.length_tail
        have hcon := mblock_ok (gl := gl) x bm (fillF (fun j => if j < i + 1 then ((startAt (t.laid (i + 1)) (j + 1) : Nat) : Int) else 0) 0 (lay (t.laid (i + 1)))) ((t.todo (i + 1)).tail) (funPos 0 (lay (t.laid (i + 1)))) C2 B P hxs (by omega) (by omega) (by omega) (by omega) hset i3 i4 hnd2
        rw [hos] at hcon
        refine t_a ?_
        generalize hφ2 : mkO bm C2.v B.v P.v C2 B P = φ2 at hgB hgm2 hnd2 hcon ⊢
        refine W_reg [] fun K hK => ?_
        simp [go_sem, hP, hgl, hn, hgB, hgm2, hBv, hrd, hfx]
        refine ⟨by omega, ?_⟩
        refine vcK_callRT hP hgl hcon (by simp [go_sem]) (by repeat (first | exact Tail.nil _ | apply Tail.slot | apply Tail.loc)) hnd2 (by rw [hn]; exact Nat.le_of_ble_eq_true rfl) rfl ?_
        rintro r ψ ⟨rfl, C3, B3, P3, q1, q2, q3, q4, rfl⟩
        refine ⟨q4, ?_⟩
        simp [go_sem]
        refine hK _ ?_
        clear hK K
        have hC3 := skel_le x
        refine t_a ?_
        refine W_reg [] fun K hK => ?_
        simp [go_sem, hP, hgl, hn]
        refine vcK_callRT hP hgl (memit_ok bm _ 14 0 C3 B3 P3 (by rw [List.length_append, hos]; omega) q1 q4) (by simp [go_sem]) (by repeat (first | exact Tail.nil _ | apply Tail.slot | apply Tail.loc)) q4 (by rw [hn]; exact Nat.le_of_ble_eq_true rfl) rfl ?_
        rintro r ψ ⟨rfl, C4, r1, r2, rfl⟩
        refine ⟨r2, ?_⟩
        simp [go_sem]
        refine hK _ ?_
        clear hK K
        refine t_rg0 ?_
        refine t_b ?_
        refine W_sub [] (by simp [go_sem]) ?_ (by simp [go_sem]) (ihr (i + 1, C4, B3, P3) ⟨hi1, ?_, ?_, ?_, r2⟩ (by simp only; omega))
        · simp [go_sem, subLe_hs_self _ r2]
        · simp only
          rw [hl1, ← partC_lay (t.laid (i + 1)) x hxs (m := i + 1) (laid_length t i1) (by omega)]
          exact r1
        · simp only
          rw [ht1]
          have hne : t.todo (i + 1) ≠ [] := by unfold Tm.todo; simp
          rw [List.tail_append_of_ne_nil hne]
          exact q2
        · simp only
          rw [hl1, funPos_lay]
          exact q3
  · refine t_g @h ?_
    refine W_retR hP hf hfn (.tup [.sl [], dint t.checkN]) [] (by simp [go_sem, hP, hgl, hn]) (by intro b cs hm; cases hm) (by simp) ?_ hR.2
    rw [hR.1]
    exact .inl (by simp [Tm.compN, h])
end Go.Proofs.YtmdjiajbnifjpaaDoor.Lift

/-
  Plain facts: lifting, putting in, reducing.
-/
namespace Go.Proofs.YtmdjiajbnifjpaaDoor.Lift
set_option linter.unusedSimpArgs false
set_option linter.unusedVariables false
set_option linter.unnecessarySimpa false
open Go

namespace Tm
set_option linter.unusedSimpArgs false
set_option linter.unusedVariables false
set_option linter.unnecessarySimpa false
/-- all indexes are numbers up to m -/
def idx : Tm → Int → Prop
  | .mk _ i _ a, m => (0 ≤ i ∧ i ≤ m) ∧ idxs a m
where
  idxs : List Tm → Int → Prop
    | [], _ => True
    | x :: r, m => x.idx m ∧ idxs r m
theorem idxs_iff (l : List Tm) (m : Int) : idx.idxs l m ↔ ∀ x ∈ l, x.idx m := by
  induction l with
  | nil => simp [idx.idxs]
  | cons a r ih => simp [idx.idxs, ih]
theorem idx_eq (t : Tm) (m : Int) : t.idx m ↔ (0 ≤ t.index ∧ t.index ≤ m) ∧ ∀ x ∈ t.args, x.idx m := by cases t; simp only [idx, idxs_iff, index, args]
theorem idx_mono {t : Tm} {m n : Int} (h : m ≤ n) (hi : t.idx m) : t.idx n := by
  induction t using Tm.ind with
  | h t ih =>
  rw [idx_eq] at hi ⊢
  exact ⟨⟨hi.1.1, by omega⟩, fun x hx => ih x hx (hi.2 x hx)⟩
end Tm
end Go.Proofs.YtmdjiajbnifjpaaDoor.Lift

namespace Go.Proofs.YtmdjiajbnifjpaaDoor.Lift
set_option linter.unusedSimpArgs false
set_option linter.unusedVariables false
set_option linter.unnecessarySimpa false
open Go
variable {gl : Globs}

/-- several ways lead to one state, at a place that the first way tells -/
theorem W_cutX {X : Ctx} {k kk : List Item} {s : St} (S : St) (h1 : W X kk S → W X k s) (h2 : W X kk S) : W X k s := h1 h2

theorem ref02_var_ok (i : Int) : Con1 Tryd.prog gl 33 [dint i] [] (Tm.mk 1 i (Ty.mk 0 []) []).dv [] := by
  refine t_in Tryd.func33 ?_
  intro X hP hgl hf hfn hn hR hids hfit
  refine t_g0 ?_
  refine t_r ?_
  simp [go_sem, hP, hgl, hn] <;> (try omega)
  all_goals exact t_f

end Go.Proofs.YtmdjiajbnifjpaaDoor.Lift

namespace Go.Proofs.YtmdjiajbnifjpaaDoor.Lift
set_option linter.unusedSimpArgs false
set_option linter.unusedVariables false
set_option linter.unnecessarySimpa false
open Go
variable {gl : Globs}

def appT (f a : Tm) : Tm := Tm.mk 3 0 (Ty.mk 0 []) [f, a]

theorem ref02_t_ok (k : Int) (s : Ty) (l : List Tm) : Con1 Tryd.prog gl 35 [dint k, s.dv, .sl (l.map Tm.cells)] [] (Tm.mk k 0 s l).dv [] := by
  refine t_in Tryd.func35 ?_
  intro X hP hgl hf hfn hn hR hids hfit
  refine t_g0 ?_
  refine t_c1 trivial (ref02_n_ok k l) ?_
  refine t_g0 ?_
  refine t_c1 trivial (ref01_copy_ok s) ?_
  refine t_g0 ?_
  refine t_r ?_
  simp [go_sem, hP, hgl, hn] <;> (try omega)
  all_goals exact t_f

end Go.Proofs.YtmdjiajbnifjpaaDoor.Lift

namespace Go.Proofs.YtmdjiajbnifjpaaDoor.Lift
set_option linter.unusedSimpArgs false
set_option linter.unusedVariables false
set_option linter.unnecessarySimpa false
open Go
variable {gl : Globs}

def lamsT (b : Tm) (l : List Ty) : Tm := l.foldr (fun s b => Tm.mk 2 0 s [b]) b
def appsT (f : Tm) (l : List Tm) : Tm := l.foldl appT f
theorem appsT_snoc (f : Tm) (l : List Tm) (x : Tm) : appsT f (l ++ [x]) = appT (appsT f l) x := by simp [appsT]
theorem appsT_nil (f : Tm) : appsT f [] = f := rfl
theorem mk_app_ok (f : Tm) (l : List Tm) : Con1 Tryd.prog gl 41 [f.dv, .sl (l.map Tm.cells)] [] (appsT f l).dv [] := by
  refine t_in Tryd.func41 ?_
  intro X hP hgl hf hfn hn hR hids hfit
  have hlen := sl_len (hfit (.sl (l.map Tm.cells)) (by simp))
  simp only [List.length_map] at hlen
  refine t_g0 ?_
  refine t_a ?_
  refine t_sub [] @appsT_nil (W_list (l) (fun done rest => [(.slot 9, .one (.v (dint done.length))), (.slot 8, .one (.v (dint l.length))), (.slot 7, .one (.v (.sl (l.map Tm.cells)))), (.loc 2, .row ([.v (dint (appsT f done).kind), .v (dint (appsT f done).index), .v (dint (appsT f done).type.kind), .v (.sl ((appsT f done).type.args.map Ty.cells)), .v (.sl ((appsT f done).args.map Tm.cells))])), (.slot 2, .one (.loc 2 0)), (.loc 4, .row ([.v (dint 0), .v (dint 0), .v (dint 0), .own 0 [], .own 0 []])), (.slot 4, .one (.loc 4 0))]) ?_ ?_)
  · intro done x rest hL hg0 hnext
    have hlt : done.length < l.length := by rw [hL]; simp
    refine t_rg0 ?_
    refine t_yes ?_
    refine t_g @hg0 ?_
    refine t_c1 @hg0 (ref02_n_ok 3 [appsT f done, x]) ?_
    repeat (first | (refine W_sub [] (by simp [go_sem]) (by simp [go_sem, appsT_snoc, appT, Tm.kind_mk, Tm.index_mk, Tm.type_mk, Tm.args_mk] <;> omega) (by simp [go_sem]) hnext) | refine W_seq ?_ | refine W_skip ?_ | refine W_block ?_ | refine W_inBlock ?_ | refine W_label ?_ | refine W_exit rfl ?_ | ((first | refine W_reg [] fun K hK => ?_ | refine W_regd (by rw [hP]; exact mixed) [] fun K hK => ?_); simp [go_sem, hP, hgl, hn]; (repeat (refine ⟨by omega, ?_⟩)); (first | refine hK _ ?_ | refine ⟨by rfl, hK _ ?_⟩); clear hK K) | refine W_cond rfl (fun _ => ?_) (fun hq => False.elim (by first | (simp; done) | (simp; omega) | (simp at hq; done) | (simp at hq; omega))) | refine W_cond rfl (fun hq => False.elim (by first | (simp; done) | (simp; omega) | (simp at hq; done) | (simp at hq; omega))) (fun _ => ?_))
  · refine t_rg0 ?_
    refine t_no ?_
    refine t_g0 ?_
    refine t_r ?_
    simp [go_sem, hP, hgl, hn] <;> (try omega)
    all_goals exact t_f

def vT (i : Int) : Tm := Tm.mk 1 i (Ty.mk 0 []) []
def nT (k : Int) (l : List Tm) : Tm := Tm.mk k 0 (Ty.mk 0 []) l
def recT (b s o : Tm) : Tm := Tm.mk 6 0 (Ty.mk 1 []) [b, lamsT s [Ty.mk 1 [], Ty.mk 1 []], o]
def twoT (b : Tm) : Tm := lamsT b [Ty.mk 1 [], Ty.mk 1 []]
def predT : Tm := lamsT (recT (nT 4 []) (vT 1) (vT 0)) [Ty.mk 1 []]
def plusT : Tm := twoT (recT (vT 1) (nT 5 [vT 0]) (vT 0))
def subT : Tm := twoT (recT (vT 1) (appsT predT [vT 0]) (vT 0))
end Go.Proofs.YtmdjiajbnifjpaaDoor.Lift

namespace Go.Proofs.YtmdjiajbnifjpaaDoor.Lift
set_option linter.unusedSimpArgs false
set_option linter.unusedVariables false
set_option linter.unnecessarySimpa false
open Go
variable {gl : Globs}

theorem plainD_cases (l : List Int) (p : Nat) : (plainD l p).1 = Ty.mk 1 [] ∨ (plainD l p).1 = Ty.mk 2 [] ∨ (plainD l p).1 = Ty.mk 5 [] ∨ (plainD l p).1 = Ty.mk 3 [Ty.mk 1 [], Ty.mk 2 []] ∨ (plainD l p).1 = Ty.mk 3 [Ty.mk 1 [], Ty.mk 1 []] := by
  unfold plainD
  generalize nextD l p 6 = q
  obtain ⟨k, p'⟩ := q
  simp only
  by_cases h1 : k = 0 ∨ k = 1
  · rw [if_pos h1]; simp
  · rw [if_neg h1]
    by_cases h2 : k = 2
    · rw [if_pos h2]; simp
    · rw [if_neg h2]
      by_cases h3 : k = 3
      · rw [if_pos h3]; simp
      · rw [if_neg h3]
        by_cases h4 : k = 4
        · rw [if_pos h4]; simp
        · rw [if_neg h4]; simp
theorem numTm_count : ∀ n : Nat, (numTm n).count = n + 1
  | 0 => rfl
  | n + 1 => by rw [numTm, Tm.count_eq]; simp [Tm.args, Tm.count.counts, numTm_count n]; omega
end Go.Proofs.YtmdjiajbnifjpaaDoor.Lift

/-
  Plain facts: the terms of small values.
-/
namespace Go.Proofs.YtmdjiajbnifjpaaDoor.Lift
set_option linter.unusedSimpArgs false
set_option linter.unusedVariables false
set_option linter.unnecessarySimpa false
open Go

theorem num_shape : ∀ n : Nat, (numTm n).shape = true
  | 0 => rfl
  | n + 1 => by
    rw [numTm, Tm.shape_eq]
    simp [Tm.kind, Tm.index, Tm.type, Tm.args, Tm.shape.shapes, num_shape n, tmKind, tyOfKind, arityI, Ty.zero, Ty.kind, Ty.args]
end Go.Proofs.YtmdjiajbnifjpaaDoor.Lift

/-
  Plain facts: what is drawn out of a deck of numbers: types, contexts, terms; their forms.
-/
namespace Go.Proofs.YtmdjiajbnifjpaaDoor.Lift
set_option linter.unusedSimpArgs false
set_option linter.unusedVariables false
set_option linter.unnecessarySimpa false
open Go

/-- a small type -/
def typeD (l : List Int) : Nat → Nat → Ty × Nat
  | 0, p =>
    if (nextD l p 7).1 = 3 then (Ty.mk 2 [], (nextD l p 7).2) else if (nextD l p 7).1 = 4 then (Ty.mk 5 [], (nextD l p 7).2) else (Ty.mk 1 [], (nextD l p 7).2)
  | n + 1, p =>
    if (nextD l p 7).1 = 3 then (Ty.mk 2 [], (nextD l p 7).2) else if (nextD l p 7).1 = 4 then (Ty.mk 5 [], (nextD l p 7).2)
    else if (nextD l p 7).1 = 5 then (Ty.mk 3 [(typeD l n (nextD l p 7).2).1, (typeD l n (typeD l n (nextD l p 7).2).2).1], (typeD l n (typeD l n (nextD l p 7).2).2).2)
    else if (nextD l p 7).1 = 6 then (Ty.mk 4 [(typeD l n (nextD l p 7).2).1, (typeD l n (typeD l n (nextD l p 7).2).2).1], (typeD l n (typeD l n (nextD l p 7).2).2).2)
    else (Ty.mk 1 [], (nextD l p 7).2)

/-- n small types -/
def typesD (l : List Int) : Nat → Nat → List Ty × Nat
  | 0, p => ([], p)
  | n + 1, p => ((typeD l 1 p).1 :: (typesD l n (typeD l 1 p).2).1, (typesD l n (typeD l 1 p).2).2)
def ctxD (l : List Int) (p : Nat) : List Ty × Nat := typesD l (nextD l p 4).1.toNat (nextD l p 4).2

/-- the variable i's type -/
def varTy (g : List Ty) (i : Nat) : Ty := g.getD (g.length - 1 - i) zeroTy
/-- the variables of a type -/
def varsN (g : List Ty) (t : Ty) : List Nat := (List.range g.length).filter fun i => (varTy g i).same t
/-- the first variable that is a function into a type -/
def funN (g : List Ty) (t : Ty) : Option Nat := (List.range g.length).find? fun i => decide ((varTy g i).kind = 4) && ((varTy g i).arg 1).same t

/-- a variable, if one is chosen -/
def pickD (l : List Int) (t : Ty) (g : List Ty) (p : Nat) : Option Tm × Nat :=
  if (varsN g t).length = 0 then (none, p)
  else if (nextD l p 3).1 = 0 then (none, (nextD l p 3).2)
  else (some (vT ((varsN g t).getD (nextD l (nextD l p 3).2 (varsN g t).length).1.toNat 0 : Nat)), (nextD l (nextD l p 3).2 (varsN g t).length).2)

def numD (l : List Int) (p : Nat) : Tm × Nat := (numTm (nextD l p 3).1.toNat, (nextD l p 3).2)

/-- a term of a type, without depth -/
def leafD (l : List Int) (t : Ty) (g : List Ty) (p : Nat) : Tm × Nat :=
  match pickD l t g p with
  | (some x, q) => (x, q)
  | (none, q) =>
    match t with
    | .mk k ts =>
      if k = 1 then numD l q
      else if k = 2 then (nT 7 [], q)
      else match ts with
        | [a, b] =>
          if k = 3 then (nT 10 [(leafD l a g q).1, (leafD l b g (leafD l a g q).2).1], (leafD l b g (leafD l a g q).2).2)
          else if k = 4 then (Tm.mk 2 0 a [(leafD l b (g ++ [a]) q).1], (leafD l b (g ++ [a]) q).2)
          else (nT 13 [], q)
        | _ => (nT 13 [], q)
termination_by SizeOf.sizeOf t

/-- the end of a draw: by the type -/
def endD (l : List Int) (F : Ty → List Ty → Nat → Tm × Nat) (t : Ty) (g : List Ty) (q : Nat) : Tm × Nat :=
  if t.kind = 1 then
    if (nextD l q 5).1 = 0 then (nT 5 [(F t g (nextD l q 5).2).1], (F t g (nextD l q 5).2).2)
    else if (nextD l q 5).1 = 1 then (appsT plusT [(F t g (nextD l q 5).2).1, (F t g (F t g (nextD l q 5).2).2).1], (F t g (F t g (nextD l q 5).2).2).2)
    else if (nextD l q 5).1 = 2 then (appsT subT [(F t g (nextD l q 5).2).1, (F t g (F t g (nextD l q 5).2).2).1], (F t g (F t g (nextD l q 5).2).2).2)
    else numD l (nextD l q 5).2
  else if t.kind = 2 then
    if (nextD l q 2).1 = 0 then (nT 8 [(F (Ty.mk 1 []) g (nextD l q 2).2).1, (F t g (F (Ty.mk 1 []) g (nextD l q 2).2).2).1], (F t g (F (Ty.mk 1 []) g (nextD l q 2).2).2).2)
    else (nT 7 [], (nextD l q 2).2)
  else if t.kind = 3 then (nT 10 [(F (t.arg 0) g q).1, (F (t.arg 1) g (F (t.arg 0) g q).2).1], (F (t.arg 1) g (F (t.arg 0) g q).2).2)
  else if t.kind = 4 then (Tm.mk 2 0 (t.arg 0) [(F (t.arg 1) (g ++ [t.arg 0]) q).1], (F (t.arg 1) (g ++ [t.arg 0]) q).2)
  else (nT 13 [], q)

/-- a draw with depth, without a variable: by the choice k -/
def stepD (l : List Int) (F : Ty → List Ty → Nat → Tm × Nat) (t : Ty) (g : List Ty) (k : Int) (q : Nat) : Tm × Nat :=
  if k = 0 then
    let s := typeD l 0 q
    let x := F t (g ++ [s.1]) s.2
    let y := F s.1 g x.2
    (nT 3 [Tm.mk 2 0 s.1 [x.1], y.1], y.2)
  else if k = 1 then
    let s := typeD l 0 q
    let x := F t g s.2
    let y := F s.1 g x.2
    (nT 11 [nT 10 [x.1, y.1]], y.2)
  else if k = 2 then
    let x := F t (g ++ [Ty.mk 1 [], t]) q
    let y := F t g x.2
    let z := numD l y.2
    (Tm.mk 6 0 t [y.1, Tm.mk 2 0 (Ty.mk 1 []) [Tm.mk 2 0 t [x.1]], z.1], z.2)
  else if k = 3 then
    let x := F t (g ++ [Ty.mk 1 [], Ty.mk 2 [], t]) q
    let y := F t g x.2
    let z := F (Ty.mk 2 []) g y.2
    (Tm.mk 9 0 t [y.1, Tm.mk 2 0 (Ty.mk 1 []) [Tm.mk 2 0 (Ty.mk 2 []) [Tm.mk 2 0 t [x.1]]], z.1], z.2)
  else if k = 4 then
    let s := typeD l 0 q
    let x := F s.1 g s.2
    let y := F t g x.2
    (nT 12 [nT 10 [x.1, y.1]], y.2)
  else if k = 5 then
    match funN g t with
    | some i => (nT 3 [vT i, (F ((varTy g i).arg 0) g q).1], (F ((varTy g i).arg 0) g q).2)
    | none => endD l F t g q
  else endD l F t g q

/-- a term of a type in a context -/
def termD (l : List Int) : Nat → Ty → List Ty → Nat → Tm × Nat
  | 0, t, g, p => leafD l t g p
  | n + 1, t, g, p =>
    match pickD l t g p with
    | (some x, q) => (x, q)
    | (none, q) => stepD l (termD l n) t g (nextD l q 8).1 (nextD l q 8).2

theorem leafD_eq (l : List Int) (t : Ty) (g : List Ty) (p : Nat) (ht : t.ok) : leafD l t g p =
    match pickD l t g p with
    | (some x, q) => (x, q)
    | (none, q) =>
      if t.kind = 1 then numD l q
      else if t.kind = 2 then (nT 7 [], q)
      else if t.kind = 3 then (nT 10 [(leafD l (t.arg 0) g q).1, (leafD l (t.arg 1) g (leafD l (t.arg 0) g q).2).1], (leafD l (t.arg 1) g (leafD l (t.arg 0) g q).2).2)
      else if t.kind = 4 then (Tm.mk 2 0 (t.arg 0) [(leafD l (t.arg 1) (g ++ [t.arg 0]) q).1], (leafD l (t.arg 1) (g ++ [t.arg 0]) q).2)
      else (nT 13 [], q) := by
  rw [leafD.eq_def]
  rcases pickD l t g p with ⟨_ | x, q⟩
  · cases t with
    | mk k ts =>
      simp only [Ty.kind]
      by_cases h1 : k = 1
      · simp [h1]
      by_cases h2 : k = 2
      · simp [h2]
      simp only [h1, h2, if_false]
      by_cases h34 : k = 3 ∨ k = 4
      · obtain ⟨a, b, e, -, -, e0, e1⟩ := Ty.ok_args ht h34
        simp only [Ty.args] at e
        subst e
        rw [e0, e1]
        rfl
      · have h3 : k ≠ 3 := fun e => h34 (.inl e)
        have h4 : k ≠ 4 := fun e => h34 (.inr e)
        simp only [h3, h4, if_false]
        match ts with
        | [a, b] => rfl
        | [] => rfl
        | [_] => rfl
        | _ :: _ :: _ :: _ => rfl
  · rfl

theorem ty_two {k : Int} {a b : Ty} (hk : k = 3 ∨ k = 4) (ha : a.shape = true) (hb : b.shape = true) : (Ty.mk k [a, b]).shape = true := by
  rcases hk with rfl | rfl <;> simp [Ty.shape, Ty.shape.shapes, tyKind, ha, hb]

theorem typeD_facts (l : List Int) : ∀ (n p : Nat), p ≤ l.length → (typeD l n p).2 ≤ l.length ∧ (typeD l n p).1.shape = true ∧ (typeD l n p).1.count + 1 ≤ 2 ^ (n + 1)
  | 0, p, hp => by
    have hq := nextD_le (n := 7) hp
    unfold typeD
    split
    · exact ⟨hq, rfl, Nat.le_refl 2⟩
    · split
      · exact ⟨hq, rfl, Nat.le_refl 2⟩
      · exact ⟨hq, rfl, Nat.le_refl 2⟩
  | n + 1, p, hp => by
    have hq := nextD_le (n := 7) hp
    obtain ⟨a1, a2, a3⟩ := typeD_facts l n _ hq
    obtain ⟨b1, b2, b3⟩ := typeD_facts l n _ a1
    have h2 : 2 ≤ 2 ^ (n + 1) := Nat.pow_le_pow_right (n := 2) (by decide) (show 1 ≤ n + 1 by omega)
    have h3 : 2 ^ (n + 1 + 1) = 2 ^ (n + 1) * 2 := Nat.pow_succ ..
    have hc : ∀ (k : Int) (a b : Ty), (Ty.mk k [a, b]).count = 1 + (a.count + (b.count + 0)) := fun _ _ _ => rfl
    unfold typeD
    split
    · exact ⟨hq, rfl, by show 1 + 0 + 1 ≤ _; omega⟩
    split
    · exact ⟨hq, rfl, by show 1 + 0 + 1 ≤ _; omega⟩
    split
    · exact ⟨b1, ty_two (.inl rfl) a2 b2, by rw [hc]; omega⟩
    split
    · exact ⟨b1, ty_two (.inr rfl) a2 b2, by rw [hc]; omega⟩
    · exact ⟨hq, rfl, by show 1 + 0 + 1 ≤ _; omega⟩

/-- a small type -/
def Ty.small (t : Ty) : Prop := t.shape = true ∧ t.count ≤ 15
theorem Ty.small.ok {t : Ty} (h : t.small) : t.ok := ⟨h.1, by have := h.2; omega⟩
theorem Ty.small.arg {t : Ty} (h : t.small) (hk : t.kind = 3 ∨ t.kind = 4) : (t.arg 0).small ∧ (t.arg 1).small ∧ (t.arg 0).count + (t.arg 1).count < t.count := by
  obtain ⟨a, b, e, oa, ob, e0, e1⟩ := Ty.ok_args h.ok hk
  have hc : t.count = 1 + (a.count + (b.count + 0)) := by rw [Ty.count_eq, e]; rfl
  have := h.2
  rw [e0, e1]
  exact ⟨⟨oa.1, by omega⟩, ⟨ob.1, by omega⟩, by omega⟩
theorem typeD_small (l : List Int) {n p : Nat} (hp : p ≤ l.length) (hn : n ≤ 3) : (typeD l n p).2 ≤ l.length ∧ (typeD l n p).1.small := by
  obtain ⟨h1, h2, h3⟩ := typeD_facts l n p hp
  have : 2 ^ (n + 1) ≤ 2 ^ 4 := Nat.pow_le_pow_right (by decide) (by omega)
  exact ⟨h1, h2, by omega⟩
theorem small_nat : (Ty.mk 1 []).small := ⟨rfl, by decide⟩
theorem small_list : (Ty.mk 2 []).small := ⟨rfl, by decide⟩
theorem typesD_facts (l : List Int) : ∀ (n p : Nat), p ≤ l.length → (typesD l n p).2 ≤ l.length ∧ (∀ t ∈ (typesD l n p).1, t.small) ∧ (typesD l n p).1.length = n
  | 0, p, hp => ⟨hp, by simp [typesD], rfl⟩
  | n + 1, p, hp => by
    obtain ⟨a1, a2⟩ := typeD_small l (n := 1) hp (by decide)
    obtain ⟨b1, b2, b3⟩ := typesD_facts l n _ a1
    refine ⟨b1, fun t ht => ?_, by simp [typesD, b3]⟩
    simp only [typesD, List.mem_cons] at ht
    rcases ht with rfl | ht
    · exact a2
    · exact b2 t ht
theorem ctxD_facts (l : List Int) {p : Nat} (hp : p ≤ l.length) : (ctxD l p).2 ≤ l.length ∧ (∀ t ∈ (ctxD l p).1, t.small) ∧ (ctxD l p).1.length ≤ 3 := by
  obtain ⟨h1, h2, h3⟩ := typesD_facts l (nextD l p 4).1.toNat _ (nextD_le (n := 4) hp)
  have := nextD_bd (l := l) (p := p) (n := 4) (by decide)
  exact ⟨h1, h2, by show (typesD _ _ _).1.length ≤ 3; omega⟩

theorem varTy_mem {g : List Ty} {i : Nat} (h : i < g.length) : varTy g i ∈ g ∧ g[g.length - 1 - i]? = some (varTy g i) := by
  have hl : g.length - 1 - i < g.length := by omega
  unfold varTy
  rw [List.getD_eq_getElem?_getD, List.getElem?_eq_getElem hl]
  exact ⟨List.getElem_mem _, rfl⟩
theorem varsN_mem {g : List Ty} {t : Ty} {i : Nat} (h : i ∈ varsN g t) : i < g.length ∧ varTy g i = t := by
  simp only [varsN, List.mem_filter, List.mem_range, Ty.same_iff] at h
  exact h
theorem funN_some {g : List Ty} {t : Ty} {i : Nat} (h : funN g t = some i) : i < g.length ∧ (varTy g i).kind = 4 ∧ (varTy g i).arg 1 = t := by
  have h1 := List.find?_some h
  have h2 := List.mem_of_find?_eq_some h
  simp only [Bool.and_eq_true, decide_eq_true_eq, Ty.same_iff] at h1
  exact ⟨List.mem_range.1 h2, h1.1, h1.2⟩

theorem pickD_le {l : List Int} {t : Ty} {g : List Ty} {p : Nat} (hp : p ≤ l.length) : (pickD l t g p).2 ≤ l.length := by
  unfold pickD
  split
  · exact hp
  · split
    · exact nextD_le hp
    · exact nextD_le (nextD_le hp)
theorem pickD_some {l : List Int} {t : Ty} {g : List Ty} {p q : Nat} {x : Tm} (h : pickD l t g p = (some x, q)) : ∃ i : Nat, x = vT i ∧ i < g.length ∧ varTy g i = t := by
  unfold pickD at h
  split at h
  · cases h
  · rename_i hne
    split at h
    · cases h
    · simp only [Prod.mk.injEq, Option.some.injEq] at h
      generalize hk : (nextD l (nextD l p 3).2 (varsN g t).length).1.toNat = k at h
      have hb := nextD_bd (l := l) (p := (nextD l p 3).2) (n := (varsN g t).length) (by omega)
      have hlt : k < (varsN g t).length := by omega
      refine ⟨(varsN g t)[k], ?_, varsN_mem (List.getElem_mem hlt)⟩
      rw [← h.1, List.getD_eq_getElem?_getD, List.getElem?_eq_getElem hlt, Option.getD_some]

theorem shape_v {i : Nat} : (vT i).shape = true := by
  unfold vT
  rw [Tm.shape_eq]
  simp [Tm.kind, Tm.index, Tm.type, Tm.args, Tm.shape.shapes, tmKind, tyOfKind, arityI, Ty.zero, Ty.kind, Ty.args]
theorem shape_n {k : Int} {a : List Tm} (h : (a.length : Int) = arityI k) (hk : ¬ (k = 2 ∨ k = 6 ∨ k = 9)) (ha : ∀ x ∈ a, x.shape = true) : (nT k a).shape = true := by
  unfold nT
  rw [Tm.shape_eq]
  have hz : tyOfKind k (Ty.mk 0 []) = true := by unfold tyOfKind; rw [if_neg hk]; rfl
  simp only [Tm.kind, Tm.index, Tm.type, Tm.args, (Tm.shapes_iff a).2 ha, tmKind, hz, h]
  simp
theorem shape_t {k : Int} {s : Ty} {a : List Tm} (h : (a.length : Int) = arityI k) (hk : k = 2 ∨ k = 6 ∨ k = 9) (hs : s.ok) (ha : ∀ x ∈ a, x.shape = true) : (Tm.mk k 0 s a).shape = true := by
  rw [Tm.shape_eq]
  simp only [Tm.kind, Tm.index, Tm.type, Tm.args, (Tm.shapes_iff a).2 ha, tmKind, tyOfKind, if_pos hk, h, (Ty.checkN_iff s).2 hs]
  simp

/-- what holds of all that F draws -/
def Draws (l : List Int) (F : Ty → List Ty → Nat → Tm × Nat) (Q : Ty → List Ty → Tm → Prop) : Prop :=
  ∀ t g p, t.small → (∀ x ∈ g, x.small) → p ≤ l.length → (F t g p).2 ≤ l.length ∧ Q t g (F t g p).1

/-- what a property of drawn terms must obey -/
structure DrawOK (Q : Ty → List Ty → Tm → Prop) : Prop where
  var : ∀ g i, i < g.length → Q (varTy g i) g (vT (i : Nat))
  num : ∀ g n, n < 3 → Q (Ty.mk 1 []) g (numTm n)
  app : ∀ g s t f x, s.small → t.small → Q (Ty.mk 4 [s, t]) g f → Q s g x → Q t g (nT 3 [f, x])
  lam : ∀ g s t x, s.small → t.small → Q t (g ++ [s]) x → Q (Ty.mk 4 [s, t]) g (Tm.mk 2 0 s [x])
  lam2 : ∀ g s t r x, s.small → t.small → r.small → Q r (g ++ [s, t]) x → Q (Ty.mk 4 [s, Ty.mk 4 [t, r]]) g (Tm.mk 2 0 s [Tm.mk 2 0 t [x]])
  lam3 : ∀ g s t u r x, s.small → t.small → u.small → r.small → Q r (g ++ [s, t, u]) x → Q (Ty.mk 4 [s, Ty.mk 4 [t, Ty.mk 4 [u, r]]]) g (Tm.mk 2 0 s [Tm.mk 2 0 t [Tm.mk 2 0 u [x]]])
  pair : ∀ g s t x y, s.small → t.small → Q s g x → Q t g y → Q (Ty.mk 3 [s, t]) g (nT 10 [x, y])
  fst : ∀ g s t x, s.small → t.small → Q (Ty.mk 3 [s, t]) g x → Q s g (nT 11 [x])
  snd : ∀ g s t x, s.small → t.small → Q (Ty.mk 3 [s, t]) g x → Q t g (nT 12 [x])
  rc : ∀ g t x f n, t.small → Q t g x → Q (Ty.mk 4 [Ty.mk 1 [], Ty.mk 4 [t, t]]) g f → Q (Ty.mk 1 []) g n → Q t g (Tm.mk 6 0 t [x, f, n])
  fold : ∀ g t x f n, t.small → Q t g x → Q (Ty.mk 4 [Ty.mk 1 [], Ty.mk 4 [Ty.mk 2 [], Ty.mk 4 [t, t]]]) g f → Q (Ty.mk 2 []) g n → Q t g (Tm.mk 9 0 t [x, f, n])
  succ : ∀ g x, Q (Ty.mk 1 []) g x → Q (Ty.mk 1 []) g (nT 5 [x])
  plus : ∀ g x y, Q (Ty.mk 1 []) g x → Q (Ty.mk 1 []) g y → Q (Ty.mk 1 []) g (appsT plusT [x, y])
  sub : ∀ g x y, Q (Ty.mk 1 []) g x → Q (Ty.mk 1 []) g y → Q (Ty.mk 1 []) g (appsT subT [x, y])
  nil : ∀ g, Q (Ty.mk 2 []) g (nT 7 [])
  cons : ∀ g x y, Q (Ty.mk 1 []) g x → Q (Ty.mk 2 []) g y → Q (Ty.mk 2 []) g (nT 8 [x, y])
  unit : ∀ g, Q (Ty.mk 5 []) g (nT 13 [])

theorem numD_facts {l : List Int} {Q : Ty → List Ty → Tm → Prop} (hQ : DrawOK Q) {p : Nat} (hp : p ≤ l.length) (g : List Ty) : (numD l p).2 ≤ l.length ∧ Q (Ty.mk 1 []) g (numD l p).1 := by
  have := nextD_bd (l := l) (p := p) (n := 3) (by decide)
  exact ⟨nextD_le hp, hQ.num g _ (by omega)⟩

theorem small_kinds {t : Ty} (h : t.small) : (t.kind = 1 ∧ t = Ty.mk 1 []) ∨ (t.kind = 2 ∧ t = Ty.mk 2 []) ∨ (t.kind = 5 ∧ t = Ty.mk 5 []) ∨ (t.kind = 3 ∧ t = Ty.mk 3 [t.arg 0, t.arg 1]) ∨ (t.kind = 4 ∧ t = Ty.mk 4 [t.arg 0, t.arg 1]) := by
  cases t with
  | mk k ts =>
    have h1 := h.1
    rw [Ty.shape_eq, Bool.and_eq_true] at h1
    have hk := h1.1
    unfold tyKind at hk
    simp [Ty.kind, Ty.args] at hk
    rcases hk with ⟨h2, rfl⟩ | ⟨h2, h3⟩
    · rcases of_decide_eq_true h2 with rfl | rfl | rfl <;> simp [Ty.kind]
    · match ts, h3 with
      | [a, b], _ => rcases of_decide_eq_true h2 with rfl | rfl <;> simp [Ty.kind, Ty.arg, Ty.args]

theorem endD_facts {l : List Int} {F : Ty → List Ty → Nat → Tm × Nat} {Q : Ty → List Ty → Tm → Prop} (hQ : DrawOK Q) (hF : Draws l F Q) : Draws l (endD l F) Q := by
  intro t g p ht hg hp
  unfold endD
  have h5 := nextD_le (n := 5) hp
  have h2 := nextD_le (n := 2) hp
  rcases small_kinds ht with ⟨h, e⟩ | ⟨h, e⟩ | ⟨h, e⟩ | ⟨h, e⟩ | ⟨h, e⟩
  · rw [if_pos h]
    obtain ⟨a1, a2⟩ := hF t g _ ht hg h5
    obtain ⟨b1, b2⟩ := hF t g _ ht hg a1
    rw [e] at a1 a2 b1 b2 ⊢
    split
    · exact ⟨a1, hQ.succ g _ a2⟩
    split
    · exact ⟨b1, hQ.plus g _ _ a2 b2⟩
    split
    · exact ⟨b1, hQ.sub g _ _ a2 b2⟩
    · exact numD_facts hQ h5 g
  · rw [if_neg (by omega), if_pos h]
    obtain ⟨a1, a2⟩ := hF _ g _ small_nat hg h2
    obtain ⟨b1, b2⟩ := hF t g _ ht hg a1
    rw [e] at b1 b2 ⊢
    split
    · exact ⟨b1, hQ.cons g _ _ a2 b2⟩
    · exact ⟨h2, hQ.nil g⟩
  · rw [if_neg (by omega), if_neg (by omega), if_neg (by omega), if_neg (by omega)]
    rw [e]
    exact ⟨hp, hQ.unit g⟩
  · rw [if_neg (by omega), if_neg (by omega), if_pos h]
    obtain ⟨s0, s1, _⟩ := ht.arg (.inl h)
    obtain ⟨a1, a2⟩ := hF _ g _ s0 hg hp
    obtain ⟨b1, b2⟩ := hF _ g _ s1 hg a1
    refine ⟨b1, ?_⟩
    rw [e]
    exact hQ.pair g _ _ _ _ s0 s1 a2 b2
  · rw [if_neg (by omega), if_neg (by omega), if_neg (by omega), if_pos h]
    obtain ⟨s0, s1, _⟩ := ht.arg (.inr h)
    obtain ⟨a1, a2⟩ := hF (t.arg 1) (g ++ [t.arg 0]) _ s1 (by intro x hx; rcases List.mem_append.1 hx with hx | hx; exact hg x hx; rw [List.mem_singleton.1 hx]; exact s0) hp
    refine ⟨a1, ?_⟩
    rw [e]
    exact hQ.lam g _ _ _ s0 s1 a2

theorem stepD_facts {l : List Int} {F : Ty → List Ty → Nat → Tm × Nat} {Q : Ty → List Ty → Tm → Prop} (hQ : DrawOK Q) (hF : Draws l F Q) (k : Int) : Draws l (fun t g p => stepD l F t g k p) Q := by
  intro t g p ht hg hp
  have hg1 : ∀ a : List Ty, (∀ x ∈ a, x.small) → ∀ x ∈ g ++ a, x.small := by
    intro a ha x hx
    rcases List.mem_append.1 hx with hx | hx
    · exact hg x hx
    · exact ha x hx
  have hg2 : ∀ s : Ty, s.small → ∀ x ∈ g ++ [s], x.small := fun s hs => hg1 [s] (by simpa using hs)
  obtain ⟨s1, s2⟩ := typeD_small l (n := 0) hp (by decide)
  show (stepD l F t g k p).2 ≤ l.length ∧ Q t g (stepD l F t g k p).1
  unfold stepD
  split
  · obtain ⟨a1, a2⟩ := hF t _ _ ht (hg2 _ s2) s1
    obtain ⟨b1, b2⟩ := hF _ g _ s2 hg a1
    exact ⟨b1, hQ.app g _ _ _ _ s2 ht (hQ.lam g _ _ _ s2 ht a2) b2⟩
  split
  · obtain ⟨a1, a2⟩ := hF t g _ ht hg s1
    obtain ⟨b1, b2⟩ := hF _ g _ s2 hg a1
    exact ⟨b1, hQ.fst g _ _ _ ht s2 (hQ.pair g _ _ _ _ ht s2 a2 b2)⟩
  split
  · obtain ⟨a1, a2⟩ := hF t _ _ ht (hg1 [Ty.mk 1 [], t] (by intro x hx; simp at hx; rcases hx with rfl | rfl; exact small_nat; exact ht)) hp
    obtain ⟨b1, b2⟩ := hF t g _ ht hg a1
    obtain ⟨c1, c2⟩ := numD_facts hQ b1 g
    exact ⟨c1, hQ.rc g _ _ _ _ ht b2 (hQ.lam2 g _ _ _ _ small_nat ht ht a2) c2⟩
  split
  · obtain ⟨a1, a2⟩ := hF t _ _ ht (hg1 [Ty.mk 1 [], Ty.mk 2 [], t] (by intro x hx; simp at hx; rcases hx with rfl | rfl | rfl; exact small_nat; exact small_list; exact ht)) hp
    obtain ⟨b1, b2⟩ := hF t g _ ht hg a1
    obtain ⟨c1, c2⟩ := hF _ g _ small_list hg b1
    exact ⟨c1, hQ.fold g _ _ _ _ ht b2 (hQ.lam3 g _ _ _ _ _ small_nat small_list ht ht a2) c2⟩
  split
  · obtain ⟨a1, a2⟩ := hF _ g _ s2 hg s1
    obtain ⟨b1, b2⟩ := hF t g _ ht hg a1
    exact ⟨b1, hQ.snd g _ _ _ s2 ht (hQ.pair g _ _ _ _ s2 ht a2 b2)⟩
  split
  · split
    · rename_i i hi
      obtain ⟨f1, f2, f3⟩ := funN_some hi
      have hfs := hg _ (varTy_mem f1).1
      obtain ⟨c0, c1, -⟩ := hfs.arg (.inr f2)
      obtain ⟨a1, a2⟩ := hF _ g _ c0 hg hp
      have hv := hQ.var g i f1
      rcases small_kinds hfs with ⟨h, e⟩ | ⟨h, e⟩ | ⟨h, e⟩ | ⟨h, e⟩ | ⟨h, e⟩
      · omega
      · omega
      · omega
      · omega
      · rw [e, f3] at hv
        exact ⟨a1, hQ.app g _ _ _ _ c0 ht hv a2⟩
    · exact endD_facts hQ hF t g p ht hg hp
  · exact endD_facts hQ hF t g p ht hg hp

theorem leafD_facts {l : List Int} {Q : Ty → List Ty → Tm → Prop} (hQ : DrawOK Q) : Draws l (leafD l) Q := by
  intro t
  generalize hn : t.count = n
  induction n using Nat.strongRecOn generalizing t with
  | _ n ih =>
  intro g p ht hg hp
  rw [leafD_eq l t g p ht.ok]
  have hq := pickD_le (t := t) (g := g) hp
  split
  · rename_i x q hx
    obtain ⟨i, rfl, h1, h2⟩ := pickD_some hx
    rw [hx] at hq
    have := hQ.var g i h1
    rw [h2] at this
    exact ⟨hq, this⟩
  · rename_i q hx
    rw [hx] at hq
    rcases small_kinds ht with ⟨h, e⟩ | ⟨h, e⟩ | ⟨h, e⟩ | ⟨h, e⟩ | ⟨h, e⟩
    · rw [if_pos h, e]; exact numD_facts hQ hq g
    · rw [if_neg (by omega), if_pos h, e]; exact ⟨hq, hQ.nil g⟩
    · rw [if_neg (by omega), if_neg (by omega), if_neg (by omega), if_neg (by omega), e]; exact ⟨hq, hQ.unit g⟩
    · rw [if_neg (by omega), if_neg (by omega), if_pos h]
      obtain ⟨s0, s1, hc⟩ := ht.arg (.inl h)
      have p0 := Ty.count_eq (t.arg 0)
      have p1 := Ty.count_eq (t.arg 1)
      obtain ⟨a1, a2⟩ := ih _ (by omega) (t.arg 0) rfl g _ s0 hg hq
      obtain ⟨b1, b2⟩ := ih _ (by omega) (t.arg 1) rfl g _ s1 hg a1
      refine ⟨b1, ?_⟩
      have := hQ.pair g _ _ _ _ s0 s1 a2 b2
      rw [← e] at this
      exact this
    · rw [if_neg (by omega), if_neg (by omega), if_neg (by omega), if_pos h]
      obtain ⟨s0, s1, hc⟩ := ht.arg (.inr h)
      have p0 := Ty.count_eq (t.arg 0)
      have p1 := Ty.count_eq (t.arg 1)
      obtain ⟨a1, a2⟩ := ih _ (by omega) (t.arg 1) rfl (g ++ [t.arg 0]) _ s1 (by intro x hx; rcases List.mem_append.1 hx with hx | hx; exact hg x hx; rw [List.mem_singleton.1 hx]; exact s0) hq
      refine ⟨a1, ?_⟩
      have := hQ.lam g _ _ _ s0 s1 a2
      rw [← e] at this
      exact this

theorem termD_facts {l : List Int} {Q : Ty → List Ty → Tm → Prop} (hQ : DrawOK Q) : ∀ n, Draws l (termD l n) Q
  | 0 => leafD_facts hQ
  | n + 1 => by
    intro t g p ht hg hp
    have hq := pickD_le (t := t) (g := g) hp
    unfold termD
    split
    · rename_i x q hx
      obtain ⟨i, rfl, h1, h2⟩ := pickD_some hx
      rw [hx] at hq
      have := hQ.var g i h1
      rw [h2] at this
      exact ⟨hq, this⟩
    · rename_i q hx
      rw [hx] at hq
      exact stepD_facts hQ (termD_facts hQ n) _ t g _ ht hg (nextD_le hq)

theorem app2_shape {f x y : Tm} (hf : f.shape = true) (hx : x.shape = true) (hy : y.shape = true) : (appsT f [x, y]).shape = true := by
  show (nT 3 [nT 3 [f, x], y]).shape = true
  exact shape_n rfl (by decide) (by intro z hz; simp at hz; rcases hz with rfl | rfl; exact shape_n rfl (by decide) (by intro z hz; simp at hz; rcases hz with rfl | rfl; exact hf; exact hx); exact hy)

theorem closed_shape : DrawOK (fun _ _ x => x.shape = true) where
  var _ _ _ := shape_v
  num _ n _ := num_shape n
  app _ _ _ _ _ _ _ hf hx := shape_n rfl (by decide) (by intro z hz; simp at hz; rcases hz with rfl | rfl; exact hf; exact hx)
  lam _ _ _ _ hs _ hx := shape_t rfl (.inl rfl) hs.ok (by intro z hz; simp at hz; rw [hz]; exact hx)
  lam2 _ _ _ _ _ hs ht _ hx := shape_t rfl (.inl rfl) hs.ok (by intro z hz; simp at hz; rw [hz]; exact shape_t rfl (.inl rfl) ht.ok (by intro z hz; simp at hz; rw [hz]; exact hx))
  lam3 _ _ _ _ _ _ hs ht hu _ hx := shape_t rfl (.inl rfl) hs.ok (by intro z hz; simp at hz; rw [hz]; exact shape_t rfl (.inl rfl) ht.ok (by intro z hz; simp at hz; rw [hz]; exact shape_t rfl (.inl rfl) hu.ok (by intro z hz; simp at hz; rw [hz]; exact hx)))
  pair _ _ _ _ _ _ _ hf hx := shape_n rfl (by decide) (by intro z hz; simp at hz; rcases hz with rfl | rfl; exact hf; exact hx)
  fst _ _ _ _ _ _ hx := shape_n rfl (by decide) (by intro z hz; simp at hz; rw [hz]; exact hx)
  snd _ _ _ _ _ _ hx := shape_n rfl (by decide) (by intro z hz; simp at hz; rw [hz]; exact hx)
  rc _ _ _ _ _ ht hx hf hn := shape_t rfl (.inr (.inl rfl)) ht.ok (by intro z hz; simp at hz; rcases hz with rfl | rfl | rfl; exact hx; exact hf; exact hn)
  fold _ _ _ _ _ ht hx hf hn := shape_t rfl (.inr (.inr rfl)) ht.ok (by intro z hz; simp at hz; rcases hz with rfl | rfl | rfl; exact hx; exact hf; exact hn)
  succ _ _ hx := shape_n rfl (by decide) (by intro z hz; simp at hz; rw [hz]; exact hx)
  plus _ _ _ hx hy := app2_shape (by decide) hx hy
  sub _ _ _ hx hy := app2_shape (by decide) hx hy
  nil _ := rfl
  cons _ _ _ hf hx := shape_n rfl (by decide) (by intro z hz; simp at hz; rcases hz with rfl | rfl; exact hf; exact hx)
  unit _ := rfl
end Go.Proofs.YtmdjiajbnifjpaaDoor.Lift

namespace Go.Proofs.YtmdjiajbnifjpaaDoor.Lift
set_option linter.unusedSimpArgs false
set_option linter.unusedVariables false
set_option linter.unnecessarySimpa false
open Go
variable {gl : Globs}

theorem numeral_ok (n : Nat) : Con1 Tryd.prog gl 76 [dint n] [] (numTm n).dv [] := by
  refine t_in Tryd.func76 ?_
  intro X hP hgl hf hfn hn hR hids hfit
  have hn1 : intOK .i64 n := hfit (dint n) (by simp)
  rw [intOK_i64] at hn1
  refine t_g0 ?_
  refine t_c1 trivial (ref02_n_ok 4 []) ?_
  refine t_a ?_
  refine W_sub [] (by simp [go_sem]) (by simp [go_sem, numTm] <;> omega) (by simp [go_sem]) (W_rounds (fun x : Nat => x ≤ n) (fun x : Nat => [(.slot 0, .one (.v (dint x))), (.loc 3, .row ((numTm (n - x)).cells.map .v)), (.slot 3, .one (.loc 3 0)), (.loc 2, .row ([.v (dint 0), .v (dint 0), .v (dint 0), .own 0 [], .own 0 []])), (.slot 2, .one (.loc 2 0))]) (fun x : Nat => x) n (Nat.le_refl n) ?_)
  intro x hx ih
  cases x with
  | zero =>
    refine t_rg0 ?_
    refine t_no ?_
    refine t_g0 ?_
    refine t_r ?_
    simp [go_sem, hP, hgl, hn] <;> (try omega)
  | succ x =>
    have hs : n - x = (n - (x + 1)) + 1 := by omega
    refine t_rg0 ?_
    refine t_yes ?_
    refine t_rg0 ?_
    refine t_rg0 ?_
    repeat (first | refine W_inBlock ?_ | refine W_skip ?_ | refine W_label ?_ | refine W_exit rfl ?_)
    refine W_sub [] (by simp [go_sem]) (by simp [go_sem, hs, numTm] <;> omega) (by simp [go_sem]) (ih x (by omega) (by omega))

theorem ref05_number_ok (n : Nat) (hn4 : n < 4096) : Con1 Tryd.prog gl 64 [dint n] [] (.tup [(numTm n).dv, dint 0]) [] := by
  refine t_in Tryd.func64 ?_
  intro X hP hgl hf hfn hn hR hids hfit
  have h1 : ¬ (n : Int) < 0 := by omega
  have h2 : ¬ (4096 : Int) ≤ n := by omega
  refine t_g (j2 @h1 @h2) ?_
  refine t_c1 trivial (numeral_ok n) ?_
  refine t_r ?_
  simp [go_sem, hP, hgl, hn] <;> (try omega)

theorem mk_num_ok (n : Nat) (hn4 : n < 4096) : Con1 Tryd.prog gl 38 [dint n] [] (numTm n).dv [] := by
  refine t_in Tryd.func38 ?_
  intro X hP hgl hf hfn hn hR hids hfit
  refine t_g0 ?_
  refine t_c1 trivial (ref05_number_ok n hn4) ?_
  refine t_g0 ?_
  refine t_r ?_
  simp [go_sem, hP, hgl, hn] <;> (try omega)
  all_goals exact t_f

theorem lam5_ok (t : Tm) : Con1 Tryd.prog gl 65 [t.dv] [] (Tm.mk 2 0 (Ty.mk 1 []) [t]).dv [] := by
  refine t_in Tryd.func65 ?_
  intro X hP hgl hf hfn hn hR hids hfit
  refine t_g0 ?_
  refine t_c2 @nat_v ref01_nat_ok (ref02_t_ok 2 (Ty.mk 1 []) [t]) ?_
  refine t_r ?_
  simp [go_sem, hP, hgl, hn] <;> (try omega)
  all_goals exact t_f
theorem rec5_ok (a b c : Tm) : Con1 Tryd.prog gl 66 [a.dv, b.dv, c.dv] [] (Tm.mk 6 0 (Ty.mk 1 []) [a, b, c]).dv [] := by
  refine t_in Tryd.func66 ?_
  intro X hP hgl hf hfn hn hR hids hfit
  refine t_g0 ?_
  refine t_c2 @nat_v ref01_nat_ok (ref02_t_ok 6 (Ty.mk 1 []) [a, b, c]) ?_
  refine t_r ?_
  simp [go_sem, hP, hgl, hn] <;> (try omega)
  all_goals exact t_f
def lamN (t : Tm) : Tm := Tm.mk 2 0 (Ty.mk 1 []) [t]
def recN (a b c : Tm) : Tm := Tm.mk 6 0 (Ty.mk 1 []) [a, b, c]
theorem lam5' (t : Tm) : Con1 Tryd.prog gl 65 [t.dv] [] (lamN t).dv [] := lam5_ok t
theorem rec5' (a b c : Tm) : Con1 Tryd.prog gl 66 [a.dv, b.dv, c.dv] [] (recN a b c).dv [] := rec5_ok a b c
theorem var5 (i : Int) : Con1 Tryd.prog gl 33 [dint i] [] (vT i).dv [] := ref02_var_ok i
theorem n5 (k : Int) (l : List Tm) : Con1 Tryd.prog gl 34 [dint k, .sl (l.map Tm.cells)] [] (nT k l).dv [] := ref02_n_ok k l

theorem pred_eq : lamN (recN (nT 4 []) (lamN (lamN (vT 1))) (vT 0)) = predT := rfl
theorem plus_eq : lamN (lamN (recN (vT 1) (lamN (lamN (nT 5 [vT 0]))) (vT 0))) = plusT := rfl
theorem sub_eq : lamN (lamN (recN (vT 1) (lamN (lamN (nT 3 [predT, vT 0]))) (vT 0))) = subT := rfl
theorem ref05_pred_ok : Con1 Tryd.prog gl 67 [] [] predT.dv [] := by
  refine t_in Tryd.func67 ?_
  intro X hP hgl hf hfn hn hR hids hfit
  refine t_g0 ?_
  refine t_c7 trivial (n5 4 []) (var5 1) (lam5' (vT 1)) (lam5' (lamN (vT 1))) (var5 0) (rec5' (nT 4 []) (lamN (lamN (vT 1))) (vT 0)) (lam5' (recN (nT 4 []) (lamN (lamN (vT 1))) (vT 0))) ?_
  refine t_r ?_
  simp [go_sem, hP, hgl, hn, pred_eq] <;> (try omega)
theorem ref05_plus_ok : Con1 Tryd.prog gl 42 [] [] plusT.dv [] := by
  refine t_in Tryd.func42 ?_
  intro X hP hgl hf hfn hn hR hids hfit
  refine t_g0 ?_
  refine t_c9 trivial (var5 1) (var5 0) (n5 5 [vT 0]) (lam5' (nT 5 [vT 0])) (lam5' (lamN (nT 5 [vT 0]))) (var5 0) (rec5' (vT 1) (lamN (lamN (nT 5 [vT 0]))) (vT 0)) (lam5' (recN (vT 1) (lamN (lamN (nT 5 [vT 0]))) (vT 0))) (lam5' (lamN (recN (vT 1) (lamN (lamN (nT 5 [vT 0]))) (vT 0)))) ?_
  refine t_r ?_
  simp [go_sem, hP, hgl, hn, plus_eq] <;> (try omega)
theorem ref05_sub_ok : Con1 Tryd.prog gl 43 [] [] subT.dv [] := by
  refine t_in Tryd.func43 ?_
  intro X hP hgl hf hfn hn hR hids hfit
  refine t_g0 ?_
  refine t_c10 trivial (var5 1) ref05_pred_ok (var5 0) (n5 3 [predT, vT 0]) (lam5' (nT 3 [predT, vT 0])) (lam5' (lamN (nT 3 [predT, vT 0]))) (var5 0) (rec5' (vT 1) (lamN (lamN (nT 3 [predT, vT 0]))) (vT 0)) (lam5' (recN (vT 1) (lamN (lamN (nT 3 [predT, vT 0]))) (vT 0))) (lam5' (lamN (recN (vT 1) (lamN (lamN (nT 3 [predT, vT 0]))) (vT 0)))) ?_
  refine t_r ?_
  simp [go_sem, hP, hgl, hn, sub_eq] <;> (try omega)
end Go.Proofs.YtmdjiajbnifjpaaDoor.Lift

namespace Go.Proofs.YtmdjiajbnifjpaaDoor.Lift
set_option linter.unusedSimpArgs false
set_option linter.unusedVariables false
set_option linter.unnecessarySimpa false
open Go
variable {gl : Globs}

theorem mk_type_ok (n : Nat) (b : Nat) (l : List Int) (p : Nat) (hl : l.length ≤ 500) (hp : p ≤ l.length) (hn3 : n ≤ 3) :
    Con1 Tryd.prog gl 16 [ptr b, dint n] [(b, deck l p)] (typeD l n p).1.dv [(b, deck l (typeD l n p).2)] := by
  induction n generalizing p with
  | zero =>
    refine t_in Tryd.func16 ?_
    intro X hP hgl hf hfn hn hR hids hfit
    rw [typeD] at hR
    have hkb := nextD_bd (l := l) (p := p) (n := 7) (by decide)
    refine t_g0 ?_
    refine t_c1 trivial (next_ok b l p 7 (by decide) (by omega)) ?_
    generalize hd : nextD l p 7 = d at *
    obtain ⟨k, q⟩ := d
    simp only at hkb hR
    by_cases h3 : k = 3
    · refine t_g @h3 ?_
      refine t_c1 trivial ref01_list_ok ?_
      repeat (first | refine W_seq ?_ | refine W_skip ?_ | refine W_block ?_ | refine W_inBlock ?_ | refine W_label ?_ | refine W_exit rfl ?_)
      first | refine W_retR hP hf hfn _ ([(b, deck l q)]) (by first | (simp [go_sem, hP, hgl, hn, h3]; done) | (simp [go_sem, hP, hgl, hn, h3]; rfl)) (by simp [go_sem, hP, hgl, hn, h3]) (by simp) ?_ hR.2 | refine W_endR hP hf hfn _ ([(b, deck l q)]) (by first | (simp [go_sem, hP, hgl, hn, h3]; done) | (simp [go_sem, hP, hgl, hn, h3]; rfl)) (by simp [go_sem, hP, hgl, hn, h3]) (by simp) ?_ hR.2
      rw [hR.1]
      refine ⟨?_, by simp [h3]⟩
      try simp [h3]
      try all_goals (simp [Ty.dv, Ty.cells_eq, Ty.kind_mk, Ty.args_mk, Tm.dv, Tm.cells_eq, Tm.kind_mk, Tm.index_mk, Tm.type_mk, Tm.args_mk, Val.dv, Val.cells_eq, Val.kind_mk, Val.num_mk, Val.list_mk, Val.args_mk, ints])
    by_cases h4 : k = 4
    · refine t_g @h4 ?_
      refine t_c1 trivial ref01_unit_ok ?_
      repeat (first | refine W_seq ?_ | refine W_skip ?_ | refine W_block ?_ | refine W_inBlock ?_ | refine W_label ?_ | refine W_exit rfl ?_)
      first | refine W_retR hP hf hfn _ ([(b, deck l q)]) (by first | (simp [go_sem, hP, hgl, hn, h4]; done) | (simp [go_sem, hP, hgl, hn, h4]; rfl)) (by simp [go_sem, hP, hgl, hn, h4]) (by simp) ?_ hR.2 | refine W_endR hP hf hfn _ ([(b, deck l q)]) (by first | (simp [go_sem, hP, hgl, hn, h4]; done) | (simp [go_sem, hP, hgl, hn, h4]; rfl)) (by simp [go_sem, hP, hgl, hn, h4]) (by simp) ?_ hR.2
      rw [hR.1]
      refine ⟨?_, by simp [h4]⟩
      try simp [h4]
      try all_goals (simp [Ty.dv, Ty.cells_eq, Ty.kind_mk, Ty.args_mk, Tm.dv, Tm.cells_eq, Tm.kind_mk, Tm.index_mk, Tm.type_mk, Tm.args_mk, Val.dv, Val.cells_eq, Val.kind_mk, Val.num_mk, Val.list_mk, Val.args_mk, ints])
    by_cases h0 : k = 0
    · refine t_g @h0 ?_
      refine t_c1 trivial ref01_nat_ok ?_
      repeat (first | refine W_seq ?_ | refine W_skip ?_ | refine W_block ?_ | refine W_inBlock ?_ | refine W_label ?_ | refine W_exit rfl ?_)
      first | refine W_retR hP hf hfn _ ([(b, deck l q)]) (by first | (simp [go_sem, hP, hgl, hn, h0]; done) | (simp [go_sem, hP, hgl, hn, h0]; rfl)) (by simp [go_sem, hP, hgl, hn, h0]) (by simp) ?_ hR.2 | refine W_endR hP hf hfn _ ([(b, deck l q)]) (by first | (simp [go_sem, hP, hgl, hn, h0]; done) | (simp [go_sem, hP, hgl, hn, h0]; rfl)) (by simp [go_sem, hP, hgl, hn, h0]) (by simp) ?_ hR.2
      rw [hR.1]
      refine ⟨?_, by simp [h0]⟩
      try simp [h0]
      try all_goals (simp [Ty.dv, Ty.cells_eq, Ty.kind_mk, Ty.args_mk, Tm.dv, Tm.cells_eq, Tm.kind_mk, Tm.index_mk, Tm.type_mk, Tm.args_mk, Val.dv, Val.cells_eq, Val.kind_mk, Val.num_mk, Val.list_mk, Val.args_mk, ints])
    by_cases h1 : k = 1
    · refine t_g @h1 ?_
      refine t_c1 trivial ref01_nat_ok ?_
      repeat (first | refine W_seq ?_ | refine W_skip ?_ | refine W_block ?_ | refine W_inBlock ?_ | refine W_label ?_ | refine W_exit rfl ?_)
      first | refine W_retR hP hf hfn _ ([(b, deck l q)]) (by first | (simp [go_sem, hP, hgl, hn, h1]; done) | (simp [go_sem, hP, hgl, hn, h1]; rfl)) (by simp [go_sem, hP, hgl, hn, h1]) (by simp) ?_ hR.2 | refine W_endR hP hf hfn _ ([(b, deck l q)]) (by first | (simp [go_sem, hP, hgl, hn, h1]; done) | (simp [go_sem, hP, hgl, hn, h1]; rfl)) (by simp [go_sem, hP, hgl, hn, h1]) (by simp) ?_ hR.2
      rw [hR.1]
      refine ⟨?_, by simp [h1]⟩
      try simp [h1]
      try all_goals (simp [Ty.dv, Ty.cells_eq, Ty.kind_mk, Ty.args_mk, Tm.dv, Tm.cells_eq, Tm.kind_mk, Tm.index_mk, Tm.type_mk, Tm.args_mk, Val.dv, Val.cells_eq, Val.kind_mk, Val.num_mk, Val.list_mk, Val.args_mk, ints])
    by_cases h2 : k = 2
    · refine t_g @h2 ?_
      refine t_c1 trivial ref01_nat_ok ?_
      repeat (first | refine W_seq ?_ | refine W_skip ?_ | refine W_block ?_ | refine W_inBlock ?_ | refine W_label ?_ | refine W_exit rfl ?_)
      first | refine W_retR hP hf hfn _ ([(b, deck l q)]) (by first | (simp [go_sem, hP, hgl, hn, h2]; done) | (simp [go_sem, hP, hgl, hn, h2]; rfl)) (by simp [go_sem, hP, hgl, hn, h2]) (by simp) ?_ hR.2 | refine W_endR hP hf hfn _ ([(b, deck l q)]) (by first | (simp [go_sem, hP, hgl, hn, h2]; done) | (simp [go_sem, hP, hgl, hn, h2]; rfl)) (by simp [go_sem, hP, hgl, hn, h2]) (by simp) ?_ hR.2
      rw [hR.1]
      refine ⟨?_, by simp [h2]⟩
      try simp [h2]
      try all_goals (simp [Ty.dv, Ty.cells_eq, Ty.kind_mk, Ty.args_mk, Tm.dv, Tm.cells_eq, Tm.kind_mk, Tm.index_mk, Tm.type_mk, Tm.args_mk, Val.dv, Val.cells_eq, Val.kind_mk, Val.num_mk, Val.list_mk, Val.args_mk, ints])
    by_cases h5 : k = 5
    · refine t_g @h5 ?_
      refine t_c1 trivial ref01_nat_ok ?_
      repeat (first | refine W_seq ?_ | refine W_skip ?_ | refine W_block ?_ | refine W_inBlock ?_ | refine W_label ?_ | refine W_exit rfl ?_)
      first | refine W_retR hP hf hfn _ ([(b, deck l q)]) (by first | (simp [go_sem, hP, hgl, hn, h5]; done) | (simp [go_sem, hP, hgl, hn, h5]; rfl)) (by simp [go_sem, hP, hgl, hn, h5]) (by simp) ?_ hR.2 | refine W_endR hP hf hfn _ ([(b, deck l q)]) (by first | (simp [go_sem, hP, hgl, hn, h5]; done) | (simp [go_sem, hP, hgl, hn, h5]; rfl)) (by simp [go_sem, hP, hgl, hn, h5]) (by simp) ?_ hR.2
      rw [hR.1]
      refine ⟨?_, by simp [h5]⟩
      try simp [h5]
      try all_goals (simp [Ty.dv, Ty.cells_eq, Ty.kind_mk, Ty.args_mk, Tm.dv, Tm.cells_eq, Tm.kind_mk, Tm.index_mk, Tm.type_mk, Tm.args_mk, Val.dv, Val.cells_eq, Val.kind_mk, Val.num_mk, Val.list_mk, Val.args_mk, ints])
    have h6 : k = 6 := by omega
    refine t_g @h6 ?_
    refine t_c1 trivial ref01_nat_ok ?_
    repeat (first | refine W_seq ?_ | refine W_skip ?_ | refine W_block ?_ | refine W_inBlock ?_ | refine W_label ?_ | refine W_exit rfl ?_)
    first | refine W_retR hP hf hfn _ ([(b, deck l q)]) (by first | (simp [go_sem, hP, hgl, hn, h6]; done) | (simp [go_sem, hP, hgl, hn, h6]; rfl)) (by simp [go_sem, hP, hgl, hn, h6]) (by simp) ?_ hR.2 | refine W_endR hP hf hfn _ ([(b, deck l q)]) (by first | (simp [go_sem, hP, hgl, hn, h6]; done) | (simp [go_sem, hP, hgl, hn, h6]; rfl)) (by simp [go_sem, hP, hgl, hn, h6]) (by simp) ?_ hR.2
    rw [hR.1]
    refine ⟨?_, by simp [h6]⟩
    try simp [h6]
    try all_goals (simp [Ty.dv, Ty.cells_eq, Ty.kind_mk, Ty.args_mk, Tm.dv, Tm.cells_eq, Tm.kind_mk, Tm.index_mk, Tm.type_mk, Tm.args_mk, Val.dv, Val.cells_eq, Val.kind_mk, Val.num_mk, Val.list_mk, Val.args_mk, ints])
  | succ n ih =>
    refine t_in Tryd.func16 ?_
    intro X hP hgl hf hfn hn hR hids hfit
    rw [typeD] at hR
    have hkb := nextD_bd (l := l) (p := p) (n := 7) (by decide)
    have hq := nextD_le (n := 7) hp
    refine t_g0 ?_
    refine t_c1 trivial (next_ok b l p 7 (by decide) (by omega)) ?_
    generalize hd : nextD l p 7 = d at *
    obtain ⟨k, q⟩ := d
    simp only at hkb hR hq
    have hpos : (0 : Int) < ((n + 1 : Nat) : Int) := by omega
    have hsub : ((n + 1 : Nat) : Int) - 1 = (n : Int) := by omega
    obtain ⟨a1, -⟩ := typeD_facts l n q hq
    by_cases h3 : k = 3
    · refine t_g @h3 ?_
      refine t_c1 trivial ref01_list_ok ?_
      repeat (first | refine W_seq ?_ | refine W_skip ?_ | refine W_block ?_ | refine W_inBlock ?_ | refine W_label ?_ | refine W_exit rfl ?_)
      first | refine W_retR hP hf hfn _ ([(b, deck l q)]) (by first | (simp [go_sem, hP, hgl, hn, h3]; done) | (simp [go_sem, hP, hgl, hn, h3]; rfl)) (by simp [go_sem, hP, hgl, hn, h3]) (by simp) ?_ hR.2 | refine W_endR hP hf hfn _ ([(b, deck l q)]) (by first | (simp [go_sem, hP, hgl, hn, h3]; done) | (simp [go_sem, hP, hgl, hn, h3]; rfl)) (by simp [go_sem, hP, hgl, hn, h3]) (by simp) ?_ hR.2
      rw [hR.1]
      refine ⟨?_, by simp [h3]⟩
      try simp [h3]
      try all_goals (simp [Ty.dv, Ty.cells_eq, Ty.kind_mk, Ty.args_mk, Tm.dv, Tm.cells_eq, Tm.kind_mk, Tm.index_mk, Tm.type_mk, Tm.args_mk, Val.dv, Val.cells_eq, Val.kind_mk, Val.num_mk, Val.list_mk, Val.args_mk, ints])
    by_cases h4 : k = 4
    · refine t_g @h4 ?_
      refine t_c1 trivial ref01_unit_ok ?_
      repeat (first | refine W_seq ?_ | refine W_skip ?_ | refine W_block ?_ | refine W_inBlock ?_ | refine W_label ?_ | refine W_exit rfl ?_)
      first | refine W_retR hP hf hfn _ ([(b, deck l q)]) (by first | (simp [go_sem, hP, hgl, hn, h4]; done) | (simp [go_sem, hP, hgl, hn, h4]; rfl)) (by simp [go_sem, hP, hgl, hn, h4]) (by simp) ?_ hR.2 | refine W_endR hP hf hfn _ ([(b, deck l q)]) (by first | (simp [go_sem, hP, hgl, hn, h4]; done) | (simp [go_sem, hP, hgl, hn, h4]; rfl)) (by simp [go_sem, hP, hgl, hn, h4]) (by simp) ?_ hR.2
      rw [hR.1]
      refine ⟨?_, by simp [h4]⟩
      try simp [h4]
      try all_goals (simp [Ty.dv, Ty.cells_eq, Ty.kind_mk, Ty.args_mk, Tm.dv, Tm.cells_eq, Tm.kind_mk, Tm.index_mk, Tm.type_mk, Tm.args_mk, Val.dv, Val.cells_eq, Val.kind_mk, Val.num_mk, Val.list_mk, Val.args_mk, ints])
    by_cases h0 : k = 0
    · refine t_g @h0 ?_
      refine t_c1 trivial ref01_nat_ok ?_
      repeat (first | refine W_seq ?_ | refine W_skip ?_ | refine W_block ?_ | refine W_inBlock ?_ | refine W_label ?_ | refine W_exit rfl ?_)
      first | refine W_retR hP hf hfn _ ([(b, deck l q)]) (by first | (simp [go_sem, hP, hgl, hn, h0]; done) | (simp [go_sem, hP, hgl, hn, h0]; rfl)) (by simp [go_sem, hP, hgl, hn, h0]) (by simp) ?_ hR.2 | refine W_endR hP hf hfn _ ([(b, deck l q)]) (by first | (simp [go_sem, hP, hgl, hn, h0]; done) | (simp [go_sem, hP, hgl, hn, h0]; rfl)) (by simp [go_sem, hP, hgl, hn, h0]) (by simp) ?_ hR.2
      rw [hR.1]
      refine ⟨?_, by simp [h0]⟩
      try simp [h0]
      try all_goals (simp [Ty.dv, Ty.cells_eq, Ty.kind_mk, Ty.args_mk, Tm.dv, Tm.cells_eq, Tm.kind_mk, Tm.index_mk, Tm.type_mk, Tm.args_mk, Val.dv, Val.cells_eq, Val.kind_mk, Val.num_mk, Val.list_mk, Val.args_mk, ints])
    by_cases h1 : k = 1
    · refine t_g @h1 ?_
      refine t_c1 trivial ref01_nat_ok ?_
      repeat (first | refine W_seq ?_ | refine W_skip ?_ | refine W_block ?_ | refine W_inBlock ?_ | refine W_label ?_ | refine W_exit rfl ?_)
      first | refine W_retR hP hf hfn _ ([(b, deck l q)]) (by first | (simp [go_sem, hP, hgl, hn, h1]; done) | (simp [go_sem, hP, hgl, hn, h1]; rfl)) (by simp [go_sem, hP, hgl, hn, h1]) (by simp) ?_ hR.2 | refine W_endR hP hf hfn _ ([(b, deck l q)]) (by first | (simp [go_sem, hP, hgl, hn, h1]; done) | (simp [go_sem, hP, hgl, hn, h1]; rfl)) (by simp [go_sem, hP, hgl, hn, h1]) (by simp) ?_ hR.2
      rw [hR.1]
      refine ⟨?_, by simp [h1]⟩
      try simp [h1]
      try all_goals (simp [Ty.dv, Ty.cells_eq, Ty.kind_mk, Ty.args_mk, Tm.dv, Tm.cells_eq, Tm.kind_mk, Tm.index_mk, Tm.type_mk, Tm.args_mk, Val.dv, Val.cells_eq, Val.kind_mk, Val.num_mk, Val.list_mk, Val.args_mk, ints])
    by_cases h2 : k = 2
    · refine t_g @h2 ?_
      refine t_c1 trivial ref01_nat_ok ?_
      repeat (first | refine W_seq ?_ | refine W_skip ?_ | refine W_block ?_ | refine W_inBlock ?_ | refine W_label ?_ | refine W_exit rfl ?_)
      first | refine W_retR hP hf hfn _ ([(b, deck l q)]) (by first | (simp [go_sem, hP, hgl, hn, h2]; done) | (simp [go_sem, hP, hgl, hn, h2]; rfl)) (by simp [go_sem, hP, hgl, hn, h2]) (by simp) ?_ hR.2 | refine W_endR hP hf hfn _ ([(b, deck l q)]) (by first | (simp [go_sem, hP, hgl, hn, h2]; done) | (simp [go_sem, hP, hgl, hn, h2]; rfl)) (by simp [go_sem, hP, hgl, hn, h2]) (by simp) ?_ hR.2
      rw [hR.1]
      refine ⟨?_, by simp [h2]⟩
      try simp [h2]
      try all_goals (simp [Ty.dv, Ty.cells_eq, Ty.kind_mk, Ty.args_mk, Tm.dv, Tm.cells_eq, Tm.kind_mk, Tm.index_mk, Tm.type_mk, Tm.args_mk, Val.dv, Val.cells_eq, Val.kind_mk, Val.num_mk, Val.list_mk, Val.args_mk, ints])
    by_cases h5 : k = 5
    · refine t_g (j2 @h5 @hpos) ?_
      refine t_c3 @hsub (ih q hq (by omega)) (ih _ a1 (by omega)) (ref01_two_ok (typeD l n q).1 (typeD l n (typeD l n q).2).1) ?_
      repeat (first | refine W_seq ?_ | refine W_skip ?_ | refine W_block ?_ | refine W_inBlock ?_ | refine W_label ?_ | refine W_exit rfl ?_)
      first | refine W_retR hP hf hfn _ ([(b, deck l (typeD l n (typeD l n q).2).2)]) (by first | (simp [go_sem, hP, hgl, hn, h5]; done) | (simp [go_sem, hP, hgl, hn, h5]; rfl)) (by simp [go_sem, hP, hgl, hn, h5]) (by simp) ?_ hR.2 | refine W_endR hP hf hfn _ ([(b, deck l (typeD l n (typeD l n q).2).2)]) (by first | (simp [go_sem, hP, hgl, hn, h5]; done) | (simp [go_sem, hP, hgl, hn, h5]; rfl)) (by simp [go_sem, hP, hgl, hn, h5]) (by simp) ?_ hR.2
      rw [hR.1]
      refine ⟨?_, by simp [h5]⟩
      try simp [h5]
      try all_goals (simp [Ty.dv, Ty.cells_eq, Ty.kind_mk, Ty.args_mk, Tm.dv, Tm.cells_eq, Tm.kind_mk, Tm.index_mk, Tm.type_mk, Tm.args_mk, Val.dv, Val.cells_eq, Val.kind_mk, Val.num_mk, Val.list_mk, Val.args_mk, ints])
    have h6 : k = 6 := by omega
    refine t_g (j2 @h6 @hpos) ?_
    refine t_c3 @hsub (ih q hq (by omega)) (ih _ a1 (by omega)) (ref01_fun_ok (typeD l n q).1 (typeD l n (typeD l n q).2).1) ?_
    repeat (first | refine W_seq ?_ | refine W_skip ?_ | refine W_block ?_ | refine W_inBlock ?_ | refine W_label ?_ | refine W_exit rfl ?_)
    first | refine W_retR hP hf hfn _ ([(b, deck l (typeD l n (typeD l n q).2).2)]) (by first | (simp [go_sem, hP, hgl, hn, h6]; done) | (simp [go_sem, hP, hgl, hn, h6]; rfl)) (by simp [go_sem, hP, hgl, hn, h6]) (by simp) ?_ hR.2 | refine W_endR hP hf hfn _ ([(b, deck l (typeD l n (typeD l n q).2).2)]) (by first | (simp [go_sem, hP, hgl, hn, h6]; done) | (simp [go_sem, hP, hgl, hn, h6]; rfl)) (by simp [go_sem, hP, hgl, hn, h6]) (by simp) ?_ hR.2
    rw [hR.1]
    refine ⟨?_, by simp [h6]⟩
    try simp [h6]
    try all_goals (simp [Ty.dv, Ty.cells_eq, Ty.kind_mk, Ty.args_mk, Tm.dv, Tm.cells_eq, Tm.kind_mk, Tm.index_mk, Tm.type_mk, Tm.args_mk, Val.dv, Val.cells_eq, Val.kind_mk, Val.num_mk, Val.list_mk, Val.args_mk, ints])

theorem mk_context_ok (b : Nat) (l : List Int) (p : Nat) (hl : l.length ≤ 500) (hp : p ≤ l.length) :
    Con1 Tryd.prog gl 15 [ptr b] [(b, deck l p)] (.sl ((ctxD l p).1.map Ty.cells)) [(b, deck l (ctxD l p).2)] := by
  refine t_in Tryd.func15 ?_
  intro X hP hgl hf hfn hn hR hids hfit
  have hq := nextD_le (n := 4) hp
  have hkb := nextD_bd (l := l) (p := p) (n := 4) (by decide)
  obtain ⟨k0, hk0⟩ : ∃ k0 : Nat, (nextD l p 4).1 = k0 := ⟨(nextD l p 4).1.toNat, by omega⟩
  unfold ctxD at hR
  rw [hk0, Int.toNat_natCast] at hR
  rw [hk0] at hkb
  refine t_g0 ?_
  refine t_c1 trivial (next_ok b l p 4 (by decide) (by omega)) ?_
  refine t_a ?_
  refine t_sub [(1003, 0)] @hk0 (W_rounds (fun x : List Ty × Nat × Nat => x.2.1 ≤ l.length ∧ (x.1 ++ (typesD l x.2.2 x.2.1).1, (typesD l x.2.2 x.2.1).2) = typesD l k0 (nextD l p 4).2 ∧ x.1.length + x.2.2 ≤ 3) (fun x : List Ty × Nat × Nat => [(.slot 4, .one (.v (dint x.2.2))), (.heap  b, .row ([.v (.sl (ints l)), .v (dint x.2.1)])), (.slot 3, .one (.own 1003 (x.1.map Ty.cells))), (.tok 1003, .tk 2 x.1.length), (.slot 0, .one (.v (ptr b))), (.slot 2, .one (.own 0 []))]) (fun x : List Ty × Nat × Nat => x.2.2) (([] : List Ty), (nextD l p 4).2, k0) (⟨hq, by simp, by simp; omega⟩) ?_)
  rintro ⟨acc, q, r⟩ ⟨i1, i2, i3⟩ ihr
  simp only at i1 i2 i3
  cases r with
  | zero =>
    simp only [typesD, List.append_nil] at i2
    refine t_rg0 ?_
    refine t_a ?_
    refine W_cond rfl ?_ ?_
    · intro h; simp at h
    intro _
    refine t_g0 ?_
    repeat (first | refine W_seq ?_ | refine W_skip ?_ | refine W_block ?_ | refine W_inBlock ?_ | refine W_label ?_ | refine W_exit rfl ?_)
    first | refine W_retR hP hf hfn _ ([(b, deck l q)]) (by first | (simp [go_sem, hP, hgl, hn, ← i2]; done) | (simp [go_sem, hP, hgl, hn, ← i2]; rfl)) (by simp [go_sem, hP, hgl, hn, ← i2]) (by simp) ?_ hR.2 | refine W_endR hP hf hfn _ ([(b, deck l q)]) (by first | (simp [go_sem, hP, hgl, hn, ← i2]; done) | (simp [go_sem, hP, hgl, hn, ← i2]; rfl)) (by simp [go_sem, hP, hgl, hn, ← i2]) (by simp) ?_ hR.2
    rw [hR.1]
    refine ⟨?_, by simp [← i2]⟩
    try simp [← i2]
    try all_goals (simp [Ty.dv, Ty.cells_eq, Ty.kind_mk, Ty.args_mk, Tm.dv, Tm.cells_eq, Tm.kind_mk, Tm.index_mk, Tm.type_mk, Tm.args_mk, Val.dv, Val.cells_eq, Val.kind_mk, Val.num_mk, Val.list_mk, Val.args_mk, ints])
  | succ r =>
    obtain ⟨a1, -⟩ := typeD_facts l 1 q i1
    refine t_rg0 ?_
    refine t_yes ?_
    refine t_g0 ?_
    refine t_c1 (Ty.cells_eq (typeD l 1 q).1) (mk_type_ok 1 b l q hl i1 (by decide)) ?_
    refine t_gt (wr [(1003, 15)]) (Ty.cells_eq (typeD l 1 q).1) trivial (ihr (acc ++ [(typeD l 1 q).1], (typeD l 1 q).2, r) ⟨a1, by rw [← i2]; simp [typesD], by simp; omega⟩ (by simp))

def varsP (g : List Ty) (t : Ty) (n : Nat) : List Nat := (List.range n).filter fun i => (varTy g i).same t
theorem varsP_succ (g : List Ty) (t : Ty) (n : Nat) : varsP g t (n + 1) = if (varTy g n).same t = true then varsP g t n ++ [n] else varsP g t n := by
  unfold varsP
  rw [List.range_succ, List.filter_append]
  split <;> simp_all
theorem varsP_le (g : List Ty) (t : Ty) (n : Nat) : (varsP g t n).length ≤ n := by
  have := List.length_filter_le (fun i => (varTy g i).same t) (List.range n)
  simpa [varsP] using this
def natI (l : List Nat) : List Int := l.map Int.ofNat
theorem natI_len (l : List Nat) : (natI l).length = l.length := by simp [natI]
theorem natI_snoc (l : List Nat) (n : Nat) : natI (l ++ [n]) = natI l ++ [(n : Int)] := by simp [natI]

theorem mk_vars_ok (g : List Ty) (t : Ty) (hlg : g.length ≤ 1000000) :
    Con1 Tryd.prog gl 32 [.sl (g.map Ty.cells), t.dv] [] (.sl (ints (natI (varsN g t)))) [] := by
  refine t_in Tryd.func32 ?_
  intro X hP hgl hf hfn hn hR hids hfit
  refine t_g0 ?_
  refine t_a ?_
  refine W_sub [(1005, 0)] (by simp [go_sem]) (by simp [go_sem, natI, varsP, ints_nil] <;> omega) (by simp [go_sem]) (W_upto (g.length) (fun i => True) (fun i => [(.slot 9, .one (.v (dint i))), (.slot 8, .one (.v (dint g.length))), (.slot 5, .one (.own 1005 (ints (natI (varsP g t i))))), (.tok 1005, .tk 1 (varsP g t i).length), (.slot 0, .one (.v (.sl (g.map Ty.cells)))), (.loc 3, .row ([.v (dint t.kind), .v (.sl (t.args.map Ty.cells))])), (.slot 3, .one (.loc 3 0)), (.slot 4, .one (.own 0 []))]) (trivial) ?_ ?_)
  · intro i hi _ hnext
    have hli := varsP_le g t i
    have hvt := (varTy_mem hi).2
    have hix : (g.length : Int) - 1 - i = ((g.length - 1 - i : Nat) : Int) := by omega
    refine t_rg0 ?_
    refine t_yes ?_
    refine t_g0 ?_
    refine t_c1 (j2 @hix @hvt) (ref01_same_ok (varTy g i) t) ?_
    have hsu := varsP_succ g t i
    by_cases hs : (varTy g i).same t = true
    · rw [if_pos hs] at hsu
      rw [hsu] at hnext
      refine t_gt (wr [(1005, 25)]) (j2 @natI_len (j2 @natI_snoc (j2 @ints_cons @ints_nil))) (j2 @hs @natI_len) (hnext trivial)
    · rw [if_neg hs] at hsu
      rw [hsu] at hnext
      refine t_gt (wr []) trivial @hs (hnext trivial)
  · intro _
    refine t_rg0 ?_
    refine t_no ?_
    refine t_g0 ?_
    refine t_r ?_
    simp [go_sem, hP, hgl, hn, varsN, varsP] <;> (try omega)

theorem mk_longer_ok (g h : List Ty) (hlg : g.length + h.length ≤ 1000000) :
    Con1 Tryd.prog gl 36 [.sl (g.map Ty.cells), .sl (h.map Ty.cells)] [] (.sl ((g ++ h).map Ty.cells)) [] := by
  refine t_in Tryd.func36 ?_
  intro X hP hgl hf hfn hn hR hids hfit
  have hl1 : g.length ≤ 1000000 := by omega
  refine t_g0 ?_
  refine t_r ?_
  simp [go_sem, hP, hgl, hn] <;> (try omega)
end Go.Proofs.YtmdjiajbnifjpaaDoor.Lift

namespace Go.Proofs.YtmdjiajbnifjpaaDoor.Lift
set_option linter.unusedSimpArgs false
set_option linter.unusedVariables false
set_option linter.unnecessarySimpa false
open Go
variable {gl : Globs}

theorem pickD_none {l : List Int} {t : Ty} {g : List Ty} {p q : Nat} (h : pickD l t g p = (none, q)) : ((varsN g t).length = 0 ∧ q = p) ∨ ((varsN g t).length ≠ 0 ∧ (nextD l p 3).1 = 0 ∧ q = (nextD l p 3).2) := by
  unfold pickD at h
  split at h
  · rename_i h0; cases h; exact .inl ⟨h0, rfl⟩
  · rename_i h0
    split at h
    · rename_i h1; cases h; exact .inr ⟨h0, h1, rfl⟩
    · cases h
theorem pickD_some' {l : List Int} {t : Ty} {g : List Ty} {p q : Nat} {x : Tm} (h : pickD l t g p = (some x, q)) : (varsN g t).length ≠ 0 ∧ (nextD l p 3).1 ≠ 0 ∧ ∃ k i : Nat, (nextD l (nextD l p 3).2 (varsN g t).length).1 = k ∧ (varsN g t)[k]? = some i ∧ x = vT i ∧ q = (nextD l (nextD l p 3).2 (varsN g t).length).2 := by
  unfold pickD at h
  split at h
  · cases h
  · rename_i h0
    split at h
    · cases h
    · rename_i h1
      have hb := nextD_bd (l := l) (p := (nextD l p 3).2) (n := (varsN g t).length) (by omega)
      cases h
      obtain ⟨k, hk⟩ : ∃ k : Nat, (nextD l (nextD l p 3).2 (varsN g t).length).1 = k := ⟨_, (Int.toNat_of_nonneg hb.1).symm⟩
      rw [hk] at hb
      have hlt : k < (varsN g t).length := by omega
      refine ⟨h0, h1, k, (varsN g t)[k], hk, List.getElem?_eq_getElem hlt, ?_, rfl⟩
      rw [hk, Int.toNat_natCast, List.getD_eq_getElem?_getD, List.getElem?_eq_getElem hlt, Option.getD_some]

set_option maxHeartbeats 1000000 in
theorem mk_term_leaf (b : Nat) (l : List Int) (hl : l.length ≤ 500) (t : Ty) : ∀ (z : Int) (g : List Ty) (p : Nat), z ≤ 0 → t.count ≤ z + 1000 → t.small → (∀ x ∈ g, x.small) → g.length + t.count ≤ 1000000 → p ≤ l.length →
    Con1 Tryd.prog gl 14 [ptr b, .sl (g.map Ty.cells), t.dv, dint z] [(b, deck l p)] (leafD l t g p).1.dv [(b, deck l (leafD l t g p).2)] := by
  induction t using Ty.ind with
  | h t ih =>
  intro z g p hz hz1 ht hg hgl1 hp
  refine t_in Tryd.func14 ?_
  intro X hP hgl hf hfn hn hR hids hfit
  rw [leafD_eq l t g p ht.ok] at hR
  have hvl : (varsN g t).length ≤ g.length := varsP_le g t g.length
  have hq3 := nextD_le (n := 3) hp
  have hb3 := nextD_bd (l := l) (p := p) (n := 3) (by decide)
  rcases hpk : pickD l t g p with ⟨_ | x, q⟩
  · rw [hpk] at hR
    simp only at hR
    have hq : q ≤ l.length := by have := pickD_le (t := t) (g := g) hp; rw [hpk] at this; exact this
    apply W_cutX [(.slot 215, .one (.v (dbool (decide (t.kind = 1))))), (.slot 214, .one (.v (dint t.kind))), (.slot 0, .one (.v (ptr b))), (.slot 1, .one (.v (.sl (g.map Ty.cells)))), (.slot 3, .one (.v (dint z))), (.slot 6, .one (.loc 6 0)), (.loc 6, .row ([.v (dint t.kind), .v (.sl (t.args.map Ty.cells))])), (.slot 8, .one (.loc 8 0)), (.loc 8, .row ([.v (dint 0), .v (dint 0), .v (dint 0), .own 0 [], .own 0 []])), (.heap  b, .row ([.v (.sl (ints l)), .v (dint q)]))]
    · intro hrest
      refine t_g0 ?_
      refine t_c1 trivial (mk_vars_ok g t (by omega)) ?_
      rcases pickD_none hpk with ⟨h0, rfl⟩ | ⟨h0, h1, rfl⟩
      · refine t_g (j2 @natI_len @h0) ?_
        refine t_b ?_
        refine t_sub [] trivial hrest
      · have hpos : 0 < (varsN g t).length := by omega
        refine t_g0 ?_
        refine t_c1 (j2 @natI_len (j2 @hpos @h1)) (next_ok b l p 3 (by decide) (by omega)) ?_
        refine t_g @h1 ?_
        refine t_b ?_
        refine t_sub [] trivial hrest
    · have hz2 : ¬ 0 < z := by omega
      rcases small_kinds ht with ⟨h, e⟩ | ⟨h, e⟩ | ⟨h, e⟩ | ⟨h, e⟩ | ⟨h, e⟩
      · rw [if_pos h] at hR
        have hb := nextD_bd (l := l) (p := q) (n := 3) (by decide)
        obtain ⟨k, hk⟩ : ∃ k : Nat, (nextD l q 3).1 = k := ⟨_, (Int.toNat_of_nonneg hb.1).symm⟩
        rw [hk] at hb
        refine t_g (j2 @hz2 @h) ?_
        refine t_c2 @hk (next_ok b l q 3 (by decide) (by omega)) (mk_num_ok k (by omega)) ?_
        repeat (first | refine W_seq ?_ | refine W_skip ?_ | refine W_block ?_ | refine W_inBlock ?_ | refine W_label ?_ | refine W_exit rfl ?_)
        first | refine W_retR hP hf hfn _ ([(b, deck l (nextD l q 3).2)]) (by first | (simp [go_sem, hP, hgl, hn, numD, hk]; done) | (simp [go_sem, hP, hgl, hn, numD, hk]; rfl)) (by simp [go_sem, hP, hgl, hn, numD, hk]) (by simp) ?_ hR.2 | refine W_endR hP hf hfn _ ([(b, deck l (nextD l q 3).2)]) (by first | (simp [go_sem, hP, hgl, hn, numD, hk]; done) | (simp [go_sem, hP, hgl, hn, numD, hk]; rfl)) (by simp [go_sem, hP, hgl, hn, numD, hk]) (by simp) ?_ hR.2
        rw [hR.1]
        refine ⟨?_, by simp [numD, hk]⟩
        try simp [numD, hk]
        try all_goals (simp [Ty.dv, Ty.cells_eq, Ty.kind_mk, Ty.args_mk, Tm.dv, Tm.cells_eq, Tm.kind_mk, Tm.index_mk, Tm.type_mk, Tm.args_mk, Val.dv, Val.cells_eq, Val.kind_mk, Val.num_mk, Val.list_mk, Val.args_mk, ints])
      · rw [if_neg (by omega), if_pos h] at hR
        refine t_g (j2 @hz2 @h) ?_
        refine t_c1 trivial (ref02_n_ok 7 []) ?_
        repeat (first | refine W_seq ?_ | refine W_skip ?_ | refine W_block ?_ | refine W_inBlock ?_ | refine W_label ?_ | refine W_exit rfl ?_)
        first | refine W_retR hP hf hfn _ ([(b, deck l q)]) (by first | (simp [go_sem, hP, hgl, hn, nT]; done) | (simp [go_sem, hP, hgl, hn, nT]; rfl)) (by simp [go_sem, hP, hgl, hn, nT]) (by simp) ?_ hR.2 | refine W_endR hP hf hfn _ ([(b, deck l q)]) (by first | (simp [go_sem, hP, hgl, hn, nT]; done) | (simp [go_sem, hP, hgl, hn, nT]; rfl)) (by simp [go_sem, hP, hgl, hn, nT]) (by simp) ?_ hR.2
        rw [hR.1]
        refine ⟨?_, by simp [nT]⟩
        try simp [nT]
        try all_goals (simp [Ty.dv, Ty.cells_eq, Ty.kind_mk, Ty.args_mk, Tm.dv, Tm.cells_eq, Tm.kind_mk, Tm.index_mk, Tm.type_mk, Tm.args_mk, Val.dv, Val.cells_eq, Val.kind_mk, Val.num_mk, Val.list_mk, Val.args_mk, ints])
      · rw [if_neg (by omega), if_neg (by omega), if_neg (by omega), if_neg (by omega)] at hR
        refine t_g (j2 @hz2 @h) ?_
        refine t_c1 trivial (ref02_n_ok 13 []) ?_
        repeat (first | refine W_seq ?_ | refine W_skip ?_ | refine W_block ?_ | refine W_inBlock ?_ | refine W_label ?_ | refine W_exit rfl ?_)
        first | refine W_retR hP hf hfn _ ([(b, deck l q)]) (by first | (simp [go_sem, hP, hgl, hn, nT]; done) | (simp [go_sem, hP, hgl, hn, nT]; rfl)) (by simp [go_sem, hP, hgl, hn, nT]) (by simp) ?_ hR.2 | refine W_endR hP hf hfn _ ([(b, deck l q)]) (by first | (simp [go_sem, hP, hgl, hn, nT]; done) | (simp [go_sem, hP, hgl, hn, nT]; rfl)) (by simp [go_sem, hP, hgl, hn, nT]) (by simp) ?_ hR.2
        rw [hR.1]
        refine ⟨?_, by simp [nT]⟩
        try simp [nT]
        try all_goals (simp [Ty.dv, Ty.cells_eq, Ty.kind_mk, Ty.args_mk, Tm.dv, Tm.cells_eq, Tm.kind_mk, Tm.index_mk, Tm.type_mk, Tm.args_mk, Val.dv, Val.cells_eq, Val.kind_mk, Val.num_mk, Val.list_mk, Val.args_mk, ints])
      · rw [if_neg (by omega), if_neg (by omega), if_pos h] at hR
        obtain ⟨s0, s1, hc⟩ := ht.arg (.inl h)
        have p0 := Ty.count_eq (t.arg 0)
        have p1 := Ty.count_eq (t.arg 1)
        have ha : t.args = [t.arg 0, t.arg 1] := by rw [e]; rfl
        obtain ⟨a1, -⟩ := leafD_facts closed_shape (t.arg 0) g q s0 hg hq
        refine t_g (j2 @hz2 @h) ?_
        refine t_c3 @ha (ih (t.arg 0) (by rw [ha]; simp) (z - 1) g q (by omega) (by omega) s0 hg (by omega) hq) (ih (t.arg 1) (by rw [ha]; simp) (z - 1) g (leafD l (t.arg 0) g q).2 (by omega) (by omega) s1 hg (by omega) a1) (ref02_n_ok 10 [(leafD l (t.arg 0) g q).1, (leafD l (t.arg 1) g (leafD l (t.arg 0) g q).2).1]) ?_
        repeat (first | refine W_seq ?_ | refine W_skip ?_ | refine W_block ?_ | refine W_inBlock ?_ | refine W_label ?_ | refine W_exit rfl ?_)
        first | refine W_retR hP hf hfn _ ([(b, deck l (leafD l (t.arg 1) g (leafD l (t.arg 0) g q).2).2)]) (by first | (simp [go_sem, hP, hgl, hn, nT]; done) | (simp [go_sem, hP, hgl, hn, nT]; rfl)) (by simp [go_sem, hP, hgl, hn, nT]) (by simp) ?_ hR.2 | refine W_endR hP hf hfn _ ([(b, deck l (leafD l (t.arg 1) g (leafD l (t.arg 0) g q).2).2)]) (by first | (simp [go_sem, hP, hgl, hn, nT]; done) | (simp [go_sem, hP, hgl, hn, nT]; rfl)) (by simp [go_sem, hP, hgl, hn, nT]) (by simp) ?_ hR.2
        rw [hR.1]
        refine ⟨?_, by simp [nT]⟩
        try simp [nT]
        try all_goals (simp [Ty.dv, Ty.cells_eq, Ty.kind_mk, Ty.args_mk, Tm.dv, Tm.cells_eq, Tm.kind_mk, Tm.index_mk, Tm.type_mk, Tm.args_mk, Val.dv, Val.cells_eq, Val.kind_mk, Val.num_mk, Val.list_mk, Val.args_mk, ints])
      · rw [if_neg (by omega), if_neg (by omega), if_neg (by omega), if_pos h] at hR
        obtain ⟨s0, s1, hc⟩ := ht.arg (.inr h)
        have p0 := Ty.count_eq (t.arg 0)
        have p1 := Ty.count_eq (t.arg 1)
        have ha : t.args = [t.arg 0, t.arg 1] := by rw [e]; rfl
        have hgs : ∀ x ∈ g ++ [t.arg 0], x.small := by intro x hx; rcases List.mem_append.1 hx with hx | hx; exact hg x hx; rw [List.mem_singleton.1 hx]; exact s0
        refine t_g (j2 @hz2 @h) ?_
        refine t_c3 @ha (mk_longer_ok g [t.arg 0] (by simp; omega)) (ih (t.arg 1) (by rw [ha]; simp) (z - 1) (g ++ [t.arg 0]) q (by omega) (by omega) s1 hgs (by simp; omega) hq) (ref02_t_ok 2 (t.arg 0) [(leafD l (t.arg 1) (g ++ [t.arg 0]) q).1]) ?_
        repeat (first | refine W_seq ?_ | refine W_skip ?_ | refine W_block ?_ | refine W_inBlock ?_ | refine W_label ?_ | refine W_exit rfl ?_)
        first | refine W_retR hP hf hfn _ ([(b, deck l (leafD l (t.arg 1) (g ++ [t.arg 0]) q).2)]) (by first | (simp [go_sem, hP, hgl, hn]; done) | (simp [go_sem, hP, hgl, hn]; rfl)) (by simp [go_sem, hP, hgl, hn]) (by simp) ?_ hR.2 | refine W_endR hP hf hfn _ ([(b, deck l (leafD l (t.arg 1) (g ++ [t.arg 0]) q).2)]) (by first | (simp [go_sem, hP, hgl, hn]; done) | (simp [go_sem, hP, hgl, hn]; rfl)) (by simp [go_sem, hP, hgl, hn]) (by simp) ?_ hR.2
        rw [hR.1]
        refine ⟨?_, by simp⟩
        try simp
        try all_goals (simp [Ty.dv, Ty.cells_eq, Ty.kind_mk, Ty.args_mk, Tm.dv, Tm.cells_eq, Tm.kind_mk, Tm.index_mk, Tm.type_mk, Tm.args_mk, Val.dv, Val.cells_eq, Val.kind_mk, Val.num_mk, Val.list_mk, Val.args_mk, ints])
  · rw [hpk] at hR
    simp only at hR
    obtain ⟨h0, h1, k, i, hk, hi, rfl, rfl⟩ := pickD_some' hpk
    have hpos : 0 < (varsN g t).length := by omega
    have hpos3 : 0 < (nextD l p 3).1 := by omega
    have hgi := ints_get (l := natI (varsN g t)) (i := k) (n := i) (by simp [natI, hi])
    have hkl := (List.getElem?_eq_some_iff.1 hi).1
    refine t_g0 ?_
    refine t_c1 trivial (mk_vars_ok g t (by omega)) ?_
    refine t_g0 ?_
    refine t_c1 (j2 @natI_len (j2 @hpos @hpos3)) (next_ok b l p 3 (by decide) (by omega)) ?_
    refine t_g @hpos3 ?_
    refine t_c2 (j2 @natI_len (j2 @hk @hgi)) (next_ok b l (nextD l p 3).2 (varsN g t).length (by omega) (by omega)) (ref02_var_ok i) ?_
    repeat (first | refine W_seq ?_ | refine W_skip ?_ | refine W_block ?_ | refine W_inBlock ?_ | refine W_label ?_ | refine W_exit rfl ?_)
    first | refine W_retR hP hf hfn _ ([(b, deck l (nextD l (nextD l p 3).2 (varsN g t).length).2)]) (by first | (simp [go_sem, hP, hgl, hn, vT]; done) | (simp [go_sem, hP, hgl, hn, vT]; rfl)) (by simp [go_sem, hP, hgl, hn, vT]) (by simp) ?_ hR.2 | refine W_endR hP hf hfn _ ([(b, deck l (nextD l (nextD l p 3).2 (varsN g t).length).2)]) (by first | (simp [go_sem, hP, hgl, hn, vT]; done) | (simp [go_sem, hP, hgl, hn, vT]; rfl)) (by simp [go_sem, hP, hgl, hn, vT]) (by simp) ?_ hR.2
    rw [hR.1]
    refine ⟨?_, by simp [vT]⟩
    try simp [vT]
    try all_goals (simp [Ty.dv, Ty.cells_eq, Ty.kind_mk, Ty.args_mk, Tm.dv, Tm.cells_eq, Tm.kind_mk, Tm.index_mk, Tm.type_mk, Tm.args_mk, Val.dv, Val.cells_eq, Val.kind_mk, Val.num_mk, Val.list_mk, Val.args_mk, ints])
end Go.Proofs.YtmdjiajbnifjpaaDoor.Lift

namespace Go.Proofs.YtmdjiajbnifjpaaDoor.Lift
set_option linter.unusedSimpArgs false
set_option linter.unusedVariables false
set_option linter.unnecessarySimpa false
open Go
variable {gl : Globs}

def funP (g : List Ty) (t : Ty) (i : Nat) : Bool := decide ((varTy g i).kind = 4) && ((varTy g i).arg 1).same t
theorem upto_snoc {Q : Nat → Prop} {i : Nat} (h : ∀ j, j < i → Q j) (hi : Q i) : ∀ j, j < i + 1 → Q j := by
  intro j hj
  by_cases e : j = i
  · rw [e]; exact hi
  · exact h j (by omega)
theorem funN_found {g : List Ty} {t : Ty} {i : Nat} (hi : i < g.length) (h : ∀ j, j < i → funP g t j = false) (hp : funP g t i = true) : funN g t = some i := by
  unfold funN
  rw [List.find?_range_eq_some]
  exact ⟨hp, List.mem_range.2 hi, fun j hj => by show (!funP g t j) = true; rw [h j hj]; rfl⟩
theorem funN_none {g : List Ty} {t : Ty} (h : ∀ j, j < g.length → funP g t j = false) : funN g t = none := by
  unfold funN
  rw [List.find?_eq_none]
  intro j hj
  show ¬ funP g t j = true
  rw [h j (List.mem_range.1 hj)]
  decide

theorem W_cutXP {X : Ctx} {k kk : List Item} {s : St} (E : Prop) (S : St) (h1 : (E → W X kk S) → W X k s) (h2 : E → W X kk S) : W X k s := h1 h2

set_option maxHeartbeats 4000000 in
theorem mk_term_ok (b : Nat) (l : List Int) (hl : l.length ≤ 500) (n : Nat) (hn9 : n ≤ 9) : ∀ (t : Ty) (g : List Ty) (p : Nat), t.small → (∀ x ∈ g, x.small) → g.length + 3 * n + 15 ≤ 1000000 → p ≤ l.length →
    Con1 Tryd.prog gl 14 [ptr b, .sl (g.map Ty.cells), t.dv, dint n] [(b, deck l p)] (termD l n t g p).1.dv [(b, deck l (termD l n t g p).2)] := by
  induction n with
  | zero =>
    intro t g p ht hg hgl1 hp
    exact mk_term_leaf b l hl t 0 g p (by omega) (by have := ht.2; omega) ht hg (by have := ht.2; omega) hp
  | succ n ihn0 =>
  intro t g p ht hg hgl1 hp
  have ihn := ihn0 (by omega)
  have hD := termD_facts (l := l) closed_shape n
  have hg1 : ∀ a : List Ty, (∀ x ∈ a, x.small) → ∀ x ∈ g ++ a, x.small := by
    intro a ha x hx
    rcases List.mem_append.1 hx with hx | hx
    · exact hg x hx
    · exact ha x hx
  have hz2 : (0 : Int) < ((n + 1 : Nat) : Int) := by omega
  have hsub : ((n + 1 : Nat) : Int) - 1 = (n : Int) := by omega
  refine t_in Tryd.func14 ?_
  intro X hP hgl hf hfn hn hR hids hfit
  rw [termD] at hR
  have hvl : (varsN g t).length ≤ g.length := varsP_le g t g.length
  have hq3 := nextD_le (n := 3) hp
  have hb3 := nextD_bd (l := l) (p := p) (n := 3) (by decide)
  rcases hpk : pickD l t g p with ⟨_ | x, q⟩
  · rw [hpk] at hR
    simp only at hR
    have hq : q ≤ l.length := by have := pickD_le (t := t) (g := g) hp; rw [hpk] at this; exact this
    apply W_cutX [(.slot 0, .one (.v (ptr b))), (.slot 1, .one (.v (.sl (g.map Ty.cells)))), (.slot 3, .one (.v (dint ((n + 1 : Nat) : Int)))), (.slot 6, .one (.loc 6 0)), (.loc 6, .row ([.v (dint t.kind), .v (.sl (t.args.map Ty.cells))])), (.slot 8, .one (.loc 8 0)), (.loc 8, .row ([.v (dint 0), .v (dint 0), .v (dint 0), .own 0 [], .own 0 []])), (.heap  b, .row ([.v (.sl (ints l)), .v (dint q)]))]
    · intro hrest
      refine t_g0 ?_
      refine t_c1 trivial (mk_vars_ok g t (by omega)) ?_
      rcases pickD_none hpk with ⟨h0, rfl⟩ | ⟨h0, h1, rfl⟩
      · refine t_g (j2 @natI_len @h0) ?_
        refine t_b ?_
        refine t_sub [] trivial hrest
      · have hpos : 0 < (varsN g t).length := by omega
        refine t_g0 ?_
        refine t_c1 (j2 @natI_len (j2 @hpos @h1)) (next_ok b l p 3 (by decide) (by omega)) ?_
        refine t_g @h1 ?_
        refine t_b ?_
        refine t_sub [] trivial hrest
    · have hq8 := nextD_le (n := 8) hq
      have hb8 := nextD_bd (l := l) (p := q) (n := 8) (by decide)
      refine t_g @hz2 ?_
      refine t_c1 trivial (next_ok b l q 8 (by decide) (by omega)) ?_
      generalize hd : nextD l q 8 = d at *
      obtain ⟨k, r⟩ := d
      simp only at hR hb8 hq8
      have hr : r ≤ l.length := hq8
      by_cases h0 : k = 0
      · rw [stepD, if_pos h0] at hR
        have cs := mk_type_ok (gl := gl) 0 b l r hl hr (by decide)
        obtain ⟨fs, ss⟩ := typeD_small l (n := 0) hr (by decide)
        generalize hes : typeD l 0 r = rs at cs fs ss hR
        obtain ⟨s, qs⟩ := rs
        simp only at cs fs ss hR
        have cx := ihn (t) (g ++ [s]) qs ht (hg1 [s] (by simpa using ss)) (by simp; omega) fs
        have fx := (hD (t) (g ++ [s]) qs ht (hg1 [s] (by simpa using ss)) fs).1
        generalize hex : termD l n (t) (g ++ [s]) qs = rx at cx fx hR
        obtain ⟨x, qx⟩ := rx
        simp only at cx fx hR
        have cy := ihn (s) (g) qx ss hg (by omega) fx
        have fy := (hD (s) (g) qx ss hg fx).1
        generalize hey : termD l n (s) (g) qx = ry at cy fy hR
        obtain ⟨y, qy⟩ := ry
        simp only at cy fy hR
        refine t_g @h0 ?_
        refine t_c1 trivial cs ?_
        refine t_c5 @hsub (mk_longer_ok g [s] (by simp; omega)) cx (ref02_t_ok 2 s [x]) cy (ref02_n_ok 3 [Tm.mk 2 0 s [x], y]) ?_
        repeat (first | refine W_seq ?_ | refine W_skip ?_ | refine W_block ?_ | refine W_inBlock ?_ | refine W_label ?_ | refine W_exit rfl ?_)
        first | refine W_retR hP hf hfn _ ([(b, deck l qy)]) (by first | (simp [go_sem, hP, hgl, hn, nT]; done) | (simp [go_sem, hP, hgl, hn, nT]; rfl)) (by simp [go_sem, hP, hgl, hn, nT]) (by simp) ?_ hR.2 | refine W_endR hP hf hfn _ ([(b, deck l qy)]) (by first | (simp [go_sem, hP, hgl, hn, nT]; done) | (simp [go_sem, hP, hgl, hn, nT]; rfl)) (by simp [go_sem, hP, hgl, hn, nT]) (by simp) ?_ hR.2
        rw [hR.1]
        refine ⟨?_, by simp [nT]⟩
        try simp [nT]
        try all_goals (simp [Ty.dv, Ty.cells_eq, Ty.kind_mk, Ty.args_mk, Tm.dv, Tm.cells_eq, Tm.kind_mk, Tm.index_mk, Tm.type_mk, Tm.args_mk, Val.dv, Val.cells_eq, Val.kind_mk, Val.num_mk, Val.list_mk, Val.args_mk, ints])
      by_cases h1 : k = 1
      · rw [stepD, if_neg h0, if_pos h1] at hR
        have cs := mk_type_ok (gl := gl) 0 b l r hl hr (by decide)
        obtain ⟨fs, ss⟩ := typeD_small l (n := 0) hr (by decide)
        generalize hes : typeD l 0 r = rs at cs fs ss hR
        obtain ⟨s, qs⟩ := rs
        simp only at cs fs ss hR
        have cx := ihn (t) (g) qs ht hg (by omega) fs
        have fx := (hD (t) (g) qs ht hg fs).1
        generalize hex : termD l n (t) (g) qs = rx at cx fx hR
        obtain ⟨x, qx⟩ := rx
        simp only at cx fx hR
        have cy := ihn (s) (g) qx ss hg (by omega) fx
        have fy := (hD (s) (g) qx ss hg fx).1
        generalize hey : termD l n (s) (g) qx = ry at cy fy hR
        obtain ⟨y, qy⟩ := ry
        simp only at cy fy hR
        refine t_g @h1 ?_
        refine t_c1 trivial cs ?_
        refine t_c4 @hsub cx cy (ref02_n_ok 10 [x, y]) (ref02_n_ok 11 [Tm.mk 10 0 (Ty.mk 0 []) [x, y]]) ?_
        repeat (first | refine W_seq ?_ | refine W_skip ?_ | refine W_block ?_ | refine W_inBlock ?_ | refine W_label ?_ | refine W_exit rfl ?_)
        first | refine W_retR hP hf hfn _ ([(b, deck l qy)]) (by first | (simp [go_sem, hP, hgl, hn, nT]; done) | (simp [go_sem, hP, hgl, hn, nT]; rfl)) (by simp [go_sem, hP, hgl, hn, nT]) (by simp) ?_ hR.2 | refine W_endR hP hf hfn _ ([(b, deck l qy)]) (by first | (simp [go_sem, hP, hgl, hn, nT]; done) | (simp [go_sem, hP, hgl, hn, nT]; rfl)) (by simp [go_sem, hP, hgl, hn, nT]) (by simp) ?_ hR.2
        rw [hR.1]
        refine ⟨?_, by simp [nT]⟩
        try simp [nT]
        try all_goals (simp [Ty.dv, Ty.cells_eq, Ty.kind_mk, Ty.args_mk, Tm.dv, Tm.cells_eq, Tm.kind_mk, Tm.index_mk, Tm.type_mk, Tm.args_mk, Val.dv, Val.cells_eq, Val.kind_mk, Val.num_mk, Val.list_mk, Val.args_mk, ints])
      by_cases h2 : k = 2
      · rw [stepD, if_neg h0, if_neg h1, if_pos h2] at hR
        have cx := ihn (t) (g ++ [Ty.mk 1 [], t]) r ht (hg1 [Ty.mk 1 [], t] (by intro x hx; simp at hx; rcases hx with rfl | rfl; exact small_nat; exact ht)) (by simp; omega) hr
        have fx := (hD (t) (g ++ [Ty.mk 1 [], t]) r ht (hg1 [Ty.mk 1 [], t] (by intro x hx; simp at hx; rcases hx with rfl | rfl; exact small_nat; exact ht)) hr).1
        generalize hex : termD l n (t) (g ++ [Ty.mk 1 [], t]) r = rx at cx fx hR
        obtain ⟨x, qx⟩ := rx
        simp only at cx fx hR
        have cy := ihn (t) (g) qx ht hg (by omega) fx
        have fy := (hD (t) (g) qx ht hg fx).1
        generalize hey : termD l n (t) (g) qx = ry at cy fy hR
        obtain ⟨y, qy⟩ := ry
        simp only at cy fy hR
        have hqy := nextD_le (n := 3) fy
        have hby := nextD_bd (l := l) (p := qy) (n := 3) (by decide)
        obtain ⟨m, hm⟩ : ∃ m : Nat, (nextD l qy 3).1 = m := ⟨_, (Int.toNat_of_nonneg hby.1).symm⟩
        rw [hm] at hby
        refine t_g @h2 ?_
        refine t_c6 (j2 @hsub @nat_v) ref01_nat_ok ref01_nat_ok (mk_longer_ok g [Ty.mk 1 [], t] (by simp; omega)) cx (ref02_t_ok 2 t [x]) (ref02_t_ok 2 (Ty.mk 1 []) [Tm.mk 2 0 t [x]]) ?_
        refine t_c4 (j2 @hsub @hm) cy (next_ok b l qy 3 (by decide) (by omega)) (mk_num_ok m (by omega)) (ref02_t_ok 6 t [y, Tm.mk 2 0 (Ty.mk 1 []) [Tm.mk 2 0 t [x]], numTm m]) ?_
        repeat (first | refine W_seq ?_ | refine W_skip ?_ | refine W_block ?_ | refine W_inBlock ?_ | refine W_label ?_ | refine W_exit rfl ?_)
        first | refine W_retR hP hf hfn _ ([(b, deck l (nextD l qy 3).2)]) (by first | (simp [go_sem, hP, hgl, hn, numD, hm]; done) | (simp [go_sem, hP, hgl, hn, numD, hm]; rfl)) (by simp [go_sem, hP, hgl, hn, numD, hm]) (by simp) ?_ hR.2 | refine W_endR hP hf hfn _ ([(b, deck l (nextD l qy 3).2)]) (by first | (simp [go_sem, hP, hgl, hn, numD, hm]; done) | (simp [go_sem, hP, hgl, hn, numD, hm]; rfl)) (by simp [go_sem, hP, hgl, hn, numD, hm]) (by simp) ?_ hR.2
        rw [hR.1]
        refine ⟨?_, by simp [numD, hm]⟩
        try simp [numD, hm]
        try all_goals (simp [Ty.dv, Ty.cells_eq, Ty.kind_mk, Ty.args_mk, Tm.dv, Tm.cells_eq, Tm.kind_mk, Tm.index_mk, Tm.type_mk, Tm.args_mk, Val.dv, Val.cells_eq, Val.kind_mk, Val.num_mk, Val.list_mk, Val.args_mk, ints])
      by_cases h3 : k = 3
      · rw [stepD, if_neg h0, if_neg h1, if_neg h2, if_pos h3] at hR
        have cx := ihn (t) (g ++ [Ty.mk 1 [], Ty.mk 2 [], t]) r ht (hg1 [Ty.mk 1 [], Ty.mk 2 [], t] (by intro x hx; simp at hx; rcases hx with rfl | rfl | rfl; exact small_nat; exact small_list; exact ht)) (by simp; omega) hr
        have fx := (hD (t) (g ++ [Ty.mk 1 [], Ty.mk 2 [], t]) r ht (hg1 [Ty.mk 1 [], Ty.mk 2 [], t] (by intro x hx; simp at hx; rcases hx with rfl | rfl | rfl; exact small_nat; exact small_list; exact ht)) hr).1
        generalize hex : termD l n (t) (g ++ [Ty.mk 1 [], Ty.mk 2 [], t]) r = rx at cx fx hR
        obtain ⟨x, qx⟩ := rx
        simp only at cx fx hR
        have cy := ihn (t) (g) qx ht hg (by omega) fx
        have fy := (hD (t) (g) qx ht hg fx).1
        generalize hey : termD l n (t) (g) qx = ry at cy fy hR
        obtain ⟨y, qy⟩ := ry
        simp only at cy fy hR
        have cz := ihn (Ty.mk 2 []) (g) qy small_list hg (by omega) fy
        have fz := (hD (Ty.mk 2 []) (g) qy small_list hg fy).1
        generalize hez : termD l n (Ty.mk 2 []) (g) qy = rz at cz fz hR
        obtain ⟨z, qz⟩ := rz
        simp only at cz fz hR
        refine t_g @h3 ?_
        refine t_c9 (j2 @hsub (j2 @nat_v @list_v)) ref01_nat_ok ref01_list_ok ref01_nat_ok ref01_list_ok (mk_longer_ok g [Ty.mk 1 [], Ty.mk 2 [], t] (by simp; omega)) cx (ref02_t_ok 2 t [x]) (ref02_t_ok 2 (Ty.mk 2 []) [Tm.mk 2 0 t [x]]) (ref02_t_ok 2 (Ty.mk 1 []) [Tm.mk 2 0 (Ty.mk 2 []) [Tm.mk 2 0 t [x]]]) ?_
        refine t_c4 (j2 @hsub @list_v) cy ref01_list_ok cz (ref02_t_ok 9 t [y, Tm.mk 2 0 (Ty.mk 1 []) [Tm.mk 2 0 (Ty.mk 2 []) [Tm.mk 2 0 t [x]]], z]) ?_
        repeat (first | refine W_seq ?_ | refine W_skip ?_ | refine W_block ?_ | refine W_inBlock ?_ | refine W_label ?_ | refine W_exit rfl ?_)
        first | refine W_retR hP hf hfn _ ([(b, deck l qz)]) (by first | (simp [go_sem, hP, hgl, hn]; done) | (simp [go_sem, hP, hgl, hn]; rfl)) (by simp [go_sem, hP, hgl, hn]) (by simp) ?_ hR.2 | refine W_endR hP hf hfn _ ([(b, deck l qz)]) (by first | (simp [go_sem, hP, hgl, hn]; done) | (simp [go_sem, hP, hgl, hn]; rfl)) (by simp [go_sem, hP, hgl, hn]) (by simp) ?_ hR.2
        rw [hR.1]
        refine ⟨?_, by simp⟩
        try simp
        try all_goals (simp [Ty.dv, Ty.cells_eq, Ty.kind_mk, Ty.args_mk, Tm.dv, Tm.cells_eq, Tm.kind_mk, Tm.index_mk, Tm.type_mk, Tm.args_mk, Val.dv, Val.cells_eq, Val.kind_mk, Val.num_mk, Val.list_mk, Val.args_mk, ints])
      by_cases h4 : k = 4
      · rw [stepD, if_neg h0, if_neg h1, if_neg h2, if_neg h3, if_pos h4] at hR
        have cs := mk_type_ok (gl := gl) 0 b l r hl hr (by decide)
        obtain ⟨fs, ss⟩ := typeD_small l (n := 0) hr (by decide)
        generalize hes : typeD l 0 r = rs at cs fs ss hR
        obtain ⟨s, qs⟩ := rs
        simp only at cs fs ss hR
        have cx := ihn (s) (g) qs ss hg (by omega) fs
        have fx := (hD (s) (g) qs ss hg fs).1
        generalize hex : termD l n (s) (g) qs = rx at cx fx hR
        obtain ⟨x, qx⟩ := rx
        simp only at cx fx hR
        have cy := ihn (t) (g) qx ht hg (by omega) fx
        have fy := (hD (t) (g) qx ht hg fx).1
        generalize hey : termD l n (t) (g) qx = ry at cy fy hR
        obtain ⟨y, qy⟩ := ry
        simp only at cy fy hR
        refine t_g @h4 ?_
        refine t_c1 trivial cs ?_
        refine t_c4 @hsub cx cy (ref02_n_ok 10 [x, y]) (ref02_n_ok 12 [Tm.mk 10 0 (Ty.mk 0 []) [x, y]]) ?_
        repeat (first | refine W_seq ?_ | refine W_skip ?_ | refine W_block ?_ | refine W_inBlock ?_ | refine W_label ?_ | refine W_exit rfl ?_)
        first | refine W_retR hP hf hfn _ ([(b, deck l qy)]) (by first | (simp [go_sem, hP, hgl, hn, nT]; done) | (simp [go_sem, hP, hgl, hn, nT]; rfl)) (by simp [go_sem, hP, hgl, hn, nT]) (by simp) ?_ hR.2 | refine W_endR hP hf hfn _ ([(b, deck l qy)]) (by first | (simp [go_sem, hP, hgl, hn, nT]; done) | (simp [go_sem, hP, hgl, hn, nT]; rfl)) (by simp [go_sem, hP, hgl, hn, nT]) (by simp) ?_ hR.2
        rw [hR.1]
        refine ⟨?_, by simp [nT]⟩
        try simp [nT]
        try all_goals (simp [Ty.dv, Ty.cells_eq, Ty.kind_mk, Ty.args_mk, Tm.dv, Tm.cells_eq, Tm.kind_mk, Tm.index_mk, Tm.type_mk, Tm.args_mk, Val.dv, Val.cells_eq, Val.kind_mk, Val.num_mk, Val.list_mk, Val.args_mk, ints])
      apply W_cutXP (stepD l (termD l n) t g k r = endD l (termD l n) t g r) [(.slot 215, .one (.v (dbool (decide (t.kind = 1))))), (.slot 214, .one (.v (dint t.kind))), (.slot 0, .one (.v (ptr b))), (.slot 1, .one (.v (.sl (g.map Ty.cells)))), (.slot 3, .one (.v (dint ((n + 1 : Nat) : Int)))), (.slot 6, .one (.loc 6 0)), (.loc 6, .row ([.v (dint t.kind), .v (.sl (t.args.map Ty.cells))])), (.slot 8, .one (.loc 8 0)), (.loc 8, .row ([.v (dint 0), .v (dint 0), .v (dint 0), .own 0 [], .own 0 []])), (.heap  b, .row ([.v (.sl (ints l)), .v (dint r)]))]
      · intro hrest
        by_cases h5 : k = 5
        · refine t_g @h5 ?_
          refine t_a ?_
          refine t_sub [] trivial (W_upto (g.length) (fun i => ∀ j, j < i → funP g t j = false) (fun i => [(.slot 177, .one (.v (dint i))), (.slot 176, .one (.v (dint g.length))), (.slot 0, .one (.v (ptr b))), (.slot 1, .one (.v (.sl (g.map Ty.cells)))), (.slot 3, .one (.v (dint ((n + 1 : Nat) : Int)))), (.slot 6, .one (.loc 6 0)), (.loc 6, .row ([.v (dint t.kind), .v (.sl (t.args.map Ty.cells))])), (.slot 8, .one (.loc 8 0)), (.loc 8, .row ([.v (dint 0), .v (dint 0), .v (dint 0), .own 0 [], .own 0 []])), (.heap  b, .row ([.v (.sl (ints l)), .v (dint r)]))]) (by intro j hj; omega) ?_ ?_)
          · intro i hi hI hnext
            have hvt := (varTy_mem hi).2
            have hix : (g.length : Int) - 1 - i = ((g.length - 1 - i : Nat) : Int) := by omega
            refine t_rg0 ?_
            refine t_yes ?_
            refine t_g (j2 @hix @hvt) ?_
            by_cases hk4 : (varTy g i).kind = 4
            · have hfs := hg _ (varTy_mem hi).1
              obtain ⟨c0, c1, -⟩ := hfs.arg (.inr hk4)
              obtain ⟨a0, a1, ha, -, -, e0, e1⟩ := Ty.ok_args hfs.ok (.inr hk4)
              rw [e0] at c0
              refine t_c1 (j2 @hix (j2 @hvt (j2 @hk4 @ha))) (ref01_same_ok a1 t) ?_
              by_cases hs : a1.same t = true
              · have hfi : funN g t = some i := funN_found hi hI (by simp [funP, hk4, e1, hs])
                rw [stepD, if_neg h0, if_neg h1, if_neg h2, if_neg h3, if_neg h4, if_pos h5, hfi] at hR
                simp only at hR
                rw [e0] at hR
                have cx := ihn (a0) (g) r c0 hg (by omega) hr
                have fx := (hD (a0) (g) r c0 hg hr).1
                generalize hex : termD l n (a0) (g) r = rx at cx fx hR
                obtain ⟨x, qx⟩ := rx
                simp only at cx fx hR
                refine t_g @hs ?_
                refine t_a ?_
                first | refine W_reg [] fun K hK => ?_ | refine W_regd (by rw [hP]; exact mixed) [] fun K hK => ?_
                simp [go_sem, hP, hgl, hn, hsub, ha, vT]
                repeat (refine ⟨by omega, ?_⟩)
                first | refine vcK_call hP hgl (ref02_var_ok i) (by simp [go_sem, hP, hgl, hn, hsub, ha, vT]) rfl (by simp [go_sem]) (by simp) (by rw [hn]; exact Nat.le_of_ble_eq_true rfl) ?_ | refine vcdC_call (fun _ _ => vcd_sound) hP hgl (ref02_var_ok i) (by simp [go_sem, hP, hgl, hn, hsub, ha, vT]) rfl (by simp [go_sem]) (by simp) (by rw [hn]; exact Nat.le_of_ble_eq_true rfl) ?_ | refine vcK_callG hP hgl (ref02_var_ok i) (by simp [go_sem, hP, hgl, hn, hsub, ha, vT]) rfl (by simp [go_sem]) (by simp) (by rw [hn]; exact Nat.le_of_ble_eq_true rfl) (by simp [go_sem]; rfl) (by rw [hn]; exact Nat.le_of_ble_eq_true rfl) (by simp [go_sem]) ?_ | refine vcdC_callG (fun _ _ => vcd_sound) hP hgl (ref02_var_ok i) (by simp [go_sem, hP, hgl, hn, hsub, ha, vT]) rfl (by simp [go_sem]) (by simp) (by rw [hn]; exact Nat.le_of_ble_eq_true rfl) (by simp [go_sem]; rfl) (by rw [hn]; exact Nat.le_of_ble_eq_true rfl) (by simp [go_sem]) ?_
                simp [go_sem, hP, hgl, hn, hsub, ha, vT]
                repeat (refine ⟨by omega, ?_⟩)
                first | refine vcK_call hP hgl (cx) (by simp [go_sem, hP, hgl, hn, hsub, ha, vT]) rfl (by simp [go_sem]) (by simp) (by rw [hn]; exact Nat.le_of_ble_eq_true rfl) ?_ | refine vcdC_call (fun _ _ => vcd_sound) hP hgl (cx) (by simp [go_sem, hP, hgl, hn, hsub, ha, vT]) rfl (by simp [go_sem]) (by simp) (by rw [hn]; exact Nat.le_of_ble_eq_true rfl) ?_ | refine vcK_callG hP hgl (cx) (by simp [go_sem, hP, hgl, hn, hsub, ha, vT]) rfl (by simp [go_sem]) (by simp) (by rw [hn]; exact Nat.le_of_ble_eq_true rfl) (by simp [go_sem]; rfl) (by rw [hn]; exact Nat.le_of_ble_eq_true rfl) (by simp [go_sem]) ?_ | refine vcdC_callG (fun _ _ => vcd_sound) hP hgl (cx) (by simp [go_sem, hP, hgl, hn, hsub, ha, vT]) rfl (by simp [go_sem]) (by simp) (by rw [hn]; exact Nat.le_of_ble_eq_true rfl) (by simp [go_sem]; rfl) (by rw [hn]; exact Nat.le_of_ble_eq_true rfl) (by simp [go_sem]) ?_
                simp [go_sem, hP, hgl, hn, hsub, ha, vT]
                repeat (refine ⟨by omega, ?_⟩)
                first | refine vcK_call hP hgl (ref02_n_ok 3 [vT i, x]) (by simp [go_sem, hP, hgl, hn, hsub, ha, vT]) rfl (by simp [go_sem]) (by simp) (by rw [hn]; exact Nat.le_of_ble_eq_true rfl) ?_ | refine vcdC_call (fun _ _ => vcd_sound) hP hgl (ref02_n_ok 3 [vT i, x]) (by simp [go_sem, hP, hgl, hn, hsub, ha, vT]) rfl (by simp [go_sem]) (by simp) (by rw [hn]; exact Nat.le_of_ble_eq_true rfl) ?_ | refine vcK_callG hP hgl (ref02_n_ok 3 [vT i, x]) (by simp [go_sem, hP, hgl, hn, hsub, ha, vT]) rfl (by simp [go_sem]) (by simp) (by rw [hn]; exact Nat.le_of_ble_eq_true rfl) (by simp [go_sem]; rfl) (by rw [hn]; exact Nat.le_of_ble_eq_true rfl) (by simp [go_sem]) ?_ | refine vcdC_callG (fun _ _ => vcd_sound) hP hgl (ref02_n_ok 3 [vT i, x]) (by simp [go_sem, hP, hgl, hn, hsub, ha, vT]) rfl (by simp [go_sem]) (by simp) (by rw [hn]; exact Nat.le_of_ble_eq_true rfl) (by simp [go_sem]; rfl) (by rw [hn]; exact Nat.le_of_ble_eq_true rfl) (by simp [go_sem]) ?_
                simp [go_sem, hP, hgl, hn, hsub, ha, vT]
                refine t_e ?_
                clear hK K
                repeat (first | refine W_seq ?_ | refine W_skip ?_ | refine W_block ?_ | refine W_inBlock ?_ | refine W_label ?_ | refine W_exit rfl ?_)
                first | refine W_retR hP hf hfn _ ([(b, deck l qx)]) (by first | (simp [go_sem, hP, hgl, hn, nT, vT]; done) | (simp [go_sem, hP, hgl, hn, nT, vT]; rfl)) (by simp [go_sem, hP, hgl, hn, nT, vT]) (by simp) ?_ hR.2 | refine W_endR hP hf hfn _ ([(b, deck l qx)]) (by first | (simp [go_sem, hP, hgl, hn, nT, vT]; done) | (simp [go_sem, hP, hgl, hn, nT, vT]; rfl)) (by simp [go_sem, hP, hgl, hn, nT, vT]) (by simp) ?_ hR.2
                rw [hR.1]
                refine ⟨?_, by simp [nT, vT]⟩
                try simp [nT, vT]
                try all_goals (simp [Ty.dv, Ty.cells_eq, Ty.kind_mk, Ty.args_mk, Tm.dv, Tm.cells_eq, Tm.kind_mk, Tm.index_mk, Tm.type_mk, Tm.args_mk, Val.dv, Val.cells_eq, Val.kind_mk, Val.num_mk, Val.list_mk, Val.args_mk, ints])
              · refine t_gt (wr []) trivial @hs (hnext (upto_snoc hI (by simp [funP, hk4, e1, hs])))
            · refine t_gt (wr []) trivial @hk4 (hnext (upto_snoc hI (by simp [funP, hk4])))
          · intro hI
            refine t_rg0 ?_
            refine t_no ?_
            refine t_g0 ?_
            refine t_b ?_
            refine t_sub [] trivial (hrest (by rw [stepD, if_neg h0, if_neg h1, if_neg h2, if_neg h3, if_neg h4, if_pos h5, funN_none hI]))
        · have hE : stepD l (termD l n) t g k r = endD l (termD l n) t g r := by rw [stepD, if_neg h0, if_neg h1, if_neg h2, if_neg h3, if_neg h4, if_neg h5]
          by_cases h6 : k = 6
          · refine t_g @h6 ?_
            refine t_b ?_
            refine t_sub [] trivial (hrest hE)
          · have h7 : k = 7 := by omega
            refine t_g @h7 ?_
            refine t_b ?_
            refine t_sub [] trivial (hrest hE)
      · intro hE
        rw [hE, endD] at hR
        have h5q := nextD_le (n := 5) hr
        have h2q := nextD_le (n := 2) hr
        have hfd := Ty.fold t
        rcases small_kinds ht with ⟨h, e⟩ | ⟨h, e⟩ | ⟨h, e⟩ | ⟨h, e⟩ | ⟨h, e⟩
        · rw [if_pos h] at hR
          rw [h] at hfd
          have hb5 := nextD_bd (l := l) (p := r) (n := 5) (by decide)
          refine t_g (j2 @h @hz2) ?_
          refine t_c1 trivial (next_ok b l r 5 (by decide) (by omega)) ?_
          generalize hd5 : nextD l r 5 = d at *
          obtain ⟨c, q5⟩ := d
          simp only at hR hb5 h5q
          by_cases c0 : c = 0
          · rw [if_pos c0] at hR
            have cx := ihn (t) (g) q5 ht hg (by omega) h5q
            have fx := (hD (t) (g) q5 ht hg h5q).1
            generalize hex : termD l n (t) (g) q5 = rx at cx fx hR
            obtain ⟨x, qx⟩ := rx
            simp only at cx fx hR
            refine t_g @c0 ?_
            refine t_c2 (j2 @hsub @hfd) cx (ref02_n_ok 5 [x]) ?_
            repeat (first | refine W_seq ?_ | refine W_skip ?_ | refine W_block ?_ | refine W_inBlock ?_ | refine W_label ?_ | refine W_exit rfl ?_)
            first | refine W_retR hP hf hfn _ ([(b, deck l qx)]) (by first | (simp [go_sem, hP, hgl, hn, nT]; done) | (simp [go_sem, hP, hgl, hn, nT]; rfl)) (by simp [go_sem, hP, hgl, hn, nT]) (by simp) ?_ hR.2 | refine W_endR hP hf hfn _ ([(b, deck l qx)]) (by first | (simp [go_sem, hP, hgl, hn, nT]; done) | (simp [go_sem, hP, hgl, hn, nT]; rfl)) (by simp [go_sem, hP, hgl, hn, nT]) (by simp) ?_ hR.2
            rw [hR.1]
            refine ⟨?_, by simp [nT]⟩
            try simp [nT]
            try all_goals (simp [Ty.dv, Ty.cells_eq, Ty.kind_mk, Ty.args_mk, Tm.dv, Tm.cells_eq, Tm.kind_mk, Tm.index_mk, Tm.type_mk, Tm.args_mk, Val.dv, Val.cells_eq, Val.kind_mk, Val.num_mk, Val.list_mk, Val.args_mk, ints])
          rw [if_neg c0] at hR
          by_cases c1 : c = 1
          · rw [if_pos c1] at hR
            have cx := ihn (t) (g) q5 ht hg (by omega) h5q
            have fx := (hD (t) (g) q5 ht hg h5q).1
            generalize hex : termD l n (t) (g) q5 = rx at cx fx hR
            obtain ⟨x, qx⟩ := rx
            simp only at cx fx hR
            have cy := ihn (t) (g) qx ht hg (by omega) fx
            have fy := (hD (t) (g) qx ht hg fx).1
            generalize hey : termD l n (t) (g) qx = ry at cy fy hR
            obtain ⟨y, qy⟩ := ry
            simp only at cy fy hR
            refine t_g @c1 ?_
            refine t_c4 (j2 @hsub @hfd) ref05_plus_ok cx cy (mk_app_ok plusT [x, y]) ?_
            repeat (first | refine W_seq ?_ | refine W_skip ?_ | refine W_block ?_ | refine W_inBlock ?_ | refine W_label ?_ | refine W_exit rfl ?_)
            first | refine W_retR hP hf hfn _ ([(b, deck l qy)]) (by first | (simp [go_sem, hP, hgl, hn]; done) | (simp [go_sem, hP, hgl, hn]; rfl)) (by simp [go_sem, hP, hgl, hn]) (by simp) ?_ hR.2 | refine W_endR hP hf hfn _ ([(b, deck l qy)]) (by first | (simp [go_sem, hP, hgl, hn]; done) | (simp [go_sem, hP, hgl, hn]; rfl)) (by simp [go_sem, hP, hgl, hn]) (by simp) ?_ hR.2
            rw [hR.1]
            refine ⟨?_, by simp⟩
            try simp
            try all_goals (simp [Ty.dv, Ty.cells_eq, Ty.kind_mk, Ty.args_mk, Tm.dv, Tm.cells_eq, Tm.kind_mk, Tm.index_mk, Tm.type_mk, Tm.args_mk, Val.dv, Val.cells_eq, Val.kind_mk, Val.num_mk, Val.list_mk, Val.args_mk, ints])
          rw [if_neg c1] at hR
          by_cases c2 : c = 2
          · rw [if_pos c2] at hR
            have cx := ihn (t) (g) q5 ht hg (by omega) h5q
            have fx := (hD (t) (g) q5 ht hg h5q).1
            generalize hex : termD l n (t) (g) q5 = rx at cx fx hR
            obtain ⟨x, qx⟩ := rx
            simp only at cx fx hR
            have cy := ihn (t) (g) qx ht hg (by omega) fx
            have fy := (hD (t) (g) qx ht hg fx).1
            generalize hey : termD l n (t) (g) qx = ry at cy fy hR
            obtain ⟨y, qy⟩ := ry
            simp only at cy fy hR
            refine t_g @c2 ?_
            refine t_c4 (j2 @hsub @hfd) ref05_sub_ok cx cy (mk_app_ok subT [x, y]) ?_
            repeat (first | refine W_seq ?_ | refine W_skip ?_ | refine W_block ?_ | refine W_inBlock ?_ | refine W_label ?_ | refine W_exit rfl ?_)
            first | refine W_retR hP hf hfn _ ([(b, deck l qy)]) (by first | (simp [go_sem, hP, hgl, hn]; done) | (simp [go_sem, hP, hgl, hn]; rfl)) (by simp [go_sem, hP, hgl, hn]) (by simp) ?_ hR.2 | refine W_endR hP hf hfn _ ([(b, deck l qy)]) (by first | (simp [go_sem, hP, hgl, hn]; done) | (simp [go_sem, hP, hgl, hn]; rfl)) (by simp [go_sem, hP, hgl, hn]) (by simp) ?_ hR.2
            rw [hR.1]
            refine ⟨?_, by simp⟩
            try simp
            try all_goals (simp [Ty.dv, Ty.cells_eq, Ty.kind_mk, Ty.args_mk, Tm.dv, Tm.cells_eq, Tm.kind_mk, Tm.index_mk, Tm.type_mk, Tm.args_mk, Val.dv, Val.cells_eq, Val.kind_mk, Val.num_mk, Val.list_mk, Val.args_mk, ints])
          rw [if_neg c2] at hR
          have hb3 := nextD_bd (l := l) (p := q5) (n := 3) (by decide)
          obtain ⟨m, hm⟩ : ∃ m : Nat, (nextD l q5 3).1 = m := ⟨_, (Int.toNat_of_nonneg hb3.1).symm⟩
          rw [hm] at hb3
          by_cases c3 : c = 3
          · refine t_g @c3 ?_
            refine t_c2 @hm (next_ok b l q5 3 (by decide) (by omega)) (mk_num_ok m (by omega)) ?_
            repeat (first | refine W_seq ?_ | refine W_skip ?_ | refine W_block ?_ | refine W_inBlock ?_ | refine W_label ?_ | refine W_exit rfl ?_)
            first | refine W_retR hP hf hfn _ ([(b, deck l (nextD l q5 3).2)]) (by first | (simp [go_sem, hP, hgl, hn, numD, hm]; done) | (simp [go_sem, hP, hgl, hn, numD, hm]; rfl)) (by simp [go_sem, hP, hgl, hn, numD, hm]) (by simp) ?_ hR.2 | refine W_endR hP hf hfn _ ([(b, deck l (nextD l q5 3).2)]) (by first | (simp [go_sem, hP, hgl, hn, numD, hm]; done) | (simp [go_sem, hP, hgl, hn, numD, hm]; rfl)) (by simp [go_sem, hP, hgl, hn, numD, hm]) (by simp) ?_ hR.2
            rw [hR.1]
            refine ⟨?_, by simp [numD, hm]⟩
            try simp [numD, hm]
            try all_goals (simp [Ty.dv, Ty.cells_eq, Ty.kind_mk, Ty.args_mk, Tm.dv, Tm.cells_eq, Tm.kind_mk, Tm.index_mk, Tm.type_mk, Tm.args_mk, Val.dv, Val.cells_eq, Val.kind_mk, Val.num_mk, Val.list_mk, Val.args_mk, ints])
          · have c4 : c = 4 := by omega
            refine t_g @c4 ?_
            refine t_c2 @hm (next_ok b l q5 3 (by decide) (by omega)) (mk_num_ok m (by omega)) ?_
            repeat (first | refine W_seq ?_ | refine W_skip ?_ | refine W_block ?_ | refine W_inBlock ?_ | refine W_label ?_ | refine W_exit rfl ?_)
            first | refine W_retR hP hf hfn _ ([(b, deck l (nextD l q5 3).2)]) (by first | (simp [go_sem, hP, hgl, hn, numD, hm]; done) | (simp [go_sem, hP, hgl, hn, numD, hm]; rfl)) (by simp [go_sem, hP, hgl, hn, numD, hm]) (by simp) ?_ hR.2 | refine W_endR hP hf hfn _ ([(b, deck l (nextD l q5 3).2)]) (by first | (simp [go_sem, hP, hgl, hn, numD, hm]; done) | (simp [go_sem, hP, hgl, hn, numD, hm]; rfl)) (by simp [go_sem, hP, hgl, hn, numD, hm]) (by simp) ?_ hR.2
            rw [hR.1]
            refine ⟨?_, by simp [numD, hm]⟩
            try simp [numD, hm]
            try all_goals (simp [Ty.dv, Ty.cells_eq, Ty.kind_mk, Ty.args_mk, Tm.dv, Tm.cells_eq, Tm.kind_mk, Tm.index_mk, Tm.type_mk, Tm.args_mk, Val.dv, Val.cells_eq, Val.kind_mk, Val.num_mk, Val.list_mk, Val.args_mk, ints])
        · rw [if_neg (by omega), if_pos h] at hR
          rw [h] at hfd
          have hb2 := nextD_bd (l := l) (p := r) (n := 2) (by decide)
          refine t_g @h ?_
          generalize hd2 : nextD l r 2 = d at *
          obtain ⟨c, q2⟩ := d
          have cn := next_ok (gl := gl) b l r 2 (by decide) (by omega)
          rw [hd2] at cn
          simp only at hR hb2 h2q cn
          by_cases c0 : c = 0
          · rw [if_pos c0] at hR
            have cx := ihn (Ty.mk 1 []) (g) q2 small_nat hg (by omega) h2q
            have fx := (hD (Ty.mk 1 []) (g) q2 small_nat hg h2q).1
            generalize hex : termD l n (Ty.mk 1 []) (g) q2 = rx at cx fx hR
            obtain ⟨x, qx⟩ := rx
            simp only at cx fx hR
            have cy := ihn (t) (g) qx ht hg (by omega) fx
            have fy := (hD (t) (g) qx ht hg fx).1
            generalize hey : termD l n (t) (g) qx = ry at cy fy hR
            obtain ⟨y, qy⟩ := ry
            simp only at cy fy hR
            refine t_c1 (j2 @hz2 @c0) cn ?_
            refine t_g @c0 ?_
            refine t_c4 (j2 @hsub (j2 @nat_v @hfd)) ref01_nat_ok cx cy (ref02_n_ok 8 [x, y]) ?_
            repeat (first | refine W_seq ?_ | refine W_skip ?_ | refine W_block ?_ | refine W_inBlock ?_ | refine W_label ?_ | refine W_exit rfl ?_)
            first | refine W_retR hP hf hfn _ ([(b, deck l qy)]) (by first | (simp [go_sem, hP, hgl, hn, nT]; done) | (simp [go_sem, hP, hgl, hn, nT]; rfl)) (by simp [go_sem, hP, hgl, hn, nT]) (by simp) ?_ hR.2 | refine W_endR hP hf hfn _ ([(b, deck l qy)]) (by first | (simp [go_sem, hP, hgl, hn, nT]; done) | (simp [go_sem, hP, hgl, hn, nT]; rfl)) (by simp [go_sem, hP, hgl, hn, nT]) (by simp) ?_ hR.2
            rw [hR.1]
            refine ⟨?_, by simp [nT]⟩
            try simp [nT]
            try all_goals (simp [Ty.dv, Ty.cells_eq, Ty.kind_mk, Ty.args_mk, Tm.dv, Tm.cells_eq, Tm.kind_mk, Tm.index_mk, Tm.type_mk, Tm.args_mk, Val.dv, Val.cells_eq, Val.kind_mk, Val.num_mk, Val.list_mk, Val.args_mk, ints])
          · rw [if_neg c0] at hR
            refine t_c1 (j2 @hz2 @c0) cn ?_
            refine t_g @c0 ?_
            refine t_c1 trivial (ref02_n_ok 7 []) ?_
            repeat (first | refine W_seq ?_ | refine W_skip ?_ | refine W_block ?_ | refine W_inBlock ?_ | refine W_label ?_ | refine W_exit rfl ?_)
            first | refine W_retR hP hf hfn _ ([(b, deck l q2)]) (by first | (simp [go_sem, hP, hgl, hn, nT]; done) | (simp [go_sem, hP, hgl, hn, nT]; rfl)) (by simp [go_sem, hP, hgl, hn, nT]) (by simp) ?_ hR.2 | refine W_endR hP hf hfn _ ([(b, deck l q2)]) (by first | (simp [go_sem, hP, hgl, hn, nT]; done) | (simp [go_sem, hP, hgl, hn, nT]; rfl)) (by simp [go_sem, hP, hgl, hn, nT]) (by simp) ?_ hR.2
            rw [hR.1]
            refine ⟨?_, by simp [nT]⟩
            try simp [nT]
            try all_goals (simp [Ty.dv, Ty.cells_eq, Ty.kind_mk, Ty.args_mk, Tm.dv, Tm.cells_eq, Tm.kind_mk, Tm.index_mk, Tm.type_mk, Tm.args_mk, Val.dv, Val.cells_eq, Val.kind_mk, Val.num_mk, Val.list_mk, Val.args_mk, ints])
        · rw [if_neg (by omega), if_neg (by omega), if_neg (by omega), if_neg (by omega)] at hR
          refine t_g @h ?_
          refine t_c1 trivial (ref02_n_ok 13 []) ?_
          repeat (first | refine W_seq ?_ | refine W_skip ?_ | refine W_block ?_ | refine W_inBlock ?_ | refine W_label ?_ | refine W_exit rfl ?_)
          first | refine W_retR hP hf hfn _ ([(b, deck l r)]) (by first | (simp [go_sem, hP, hgl, hn, nT]; done) | (simp [go_sem, hP, hgl, hn, nT]; rfl)) (by simp [go_sem, hP, hgl, hn, nT]) (by simp) ?_ hR.2 | refine W_endR hP hf hfn _ ([(b, deck l r)]) (by first | (simp [go_sem, hP, hgl, hn, nT]; done) | (simp [go_sem, hP, hgl, hn, nT]; rfl)) (by simp [go_sem, hP, hgl, hn, nT]) (by simp) ?_ hR.2
          rw [hR.1]
          refine ⟨?_, by simp [nT]⟩
          try simp [nT]
          try all_goals (simp [Ty.dv, Ty.cells_eq, Ty.kind_mk, Ty.args_mk, Tm.dv, Tm.cells_eq, Tm.kind_mk, Tm.index_mk, Tm.type_mk, Tm.args_mk, Val.dv, Val.cells_eq, Val.kind_mk, Val.num_mk, Val.list_mk, Val.args_mk, ints])
        · rw [if_neg (by omega), if_neg (by omega), if_pos h] at hR
          obtain ⟨s0, s1, hc⟩ := ht.arg (.inl h)
          have ha : t.args = [t.arg 0, t.arg 1] := by rw [e]; rfl
          have cx := ihn (t.arg 0) (g) r s0 hg (by omega) hr
          have fx := (hD (t.arg 0) (g) r s0 hg hr).1
          generalize hex : termD l n (t.arg 0) (g) r = rx at cx fx hR
          obtain ⟨x, qx⟩ := rx
          simp only at cx fx hR
          have cy := ihn (t.arg 1) (g) qx s1 hg (by omega) fx
          have fy := (hD (t.arg 1) (g) qx s1 hg fx).1
          generalize hey : termD l n (t.arg 1) (g) qx = ry at cy fy hR
          obtain ⟨y, qy⟩ := ry
          simp only at cy fy hR
          refine t_g @h ?_
          refine t_c3 (j2 @hsub @ha) cx cy (ref02_n_ok 10 [x, y]) ?_
          repeat (first | refine W_seq ?_ | refine W_skip ?_ | refine W_block ?_ | refine W_inBlock ?_ | refine W_label ?_ | refine W_exit rfl ?_)
          first | refine W_retR hP hf hfn _ ([(b, deck l qy)]) (by first | (simp [go_sem, hP, hgl, hn, nT]; done) | (simp [go_sem, hP, hgl, hn, nT]; rfl)) (by simp [go_sem, hP, hgl, hn, nT]) (by simp) ?_ hR.2 | refine W_endR hP hf hfn _ ([(b, deck l qy)]) (by first | (simp [go_sem, hP, hgl, hn, nT]; done) | (simp [go_sem, hP, hgl, hn, nT]; rfl)) (by simp [go_sem, hP, hgl, hn, nT]) (by simp) ?_ hR.2
          rw [hR.1]
          refine ⟨?_, by simp [nT]⟩
          try simp [nT]
          try all_goals (simp [Ty.dv, Ty.cells_eq, Ty.kind_mk, Ty.args_mk, Tm.dv, Tm.cells_eq, Tm.kind_mk, Tm.index_mk, Tm.type_mk, Tm.args_mk, Val.dv, Val.cells_eq, Val.kind_mk, Val.num_mk, Val.list_mk, Val.args_mk, ints])
        · rw [if_neg (by omega), if_neg (by omega), if_neg (by omega), if_pos h] at hR
          obtain ⟨s0, s1, hc⟩ := ht.arg (.inr h)
          have ha : t.args = [t.arg 0, t.arg 1] := by rw [e]; rfl
          have cx := ihn (t.arg 1) (g ++ [t.arg 0]) r s1 (hg1 [t.arg 0] (by simpa using s0)) (by simp; omega) hr
          have fx := (hD (t.arg 1) (g ++ [t.arg 0]) r s1 (hg1 [t.arg 0] (by simpa using s0)) hr).1
          generalize hex : termD l n (t.arg 1) (g ++ [t.arg 0]) r = rx at cx fx hR
          obtain ⟨x, qx⟩ := rx
          simp only at cx fx hR
          refine t_g @h ?_
          refine t_c3 (j2 @hsub @ha) (mk_longer_ok g [t.arg 0] (by simp; omega)) cx (ref02_t_ok 2 (t.arg 0) [x]) ?_
          repeat (first | refine W_seq ?_ | refine W_skip ?_ | refine W_block ?_ | refine W_inBlock ?_ | refine W_label ?_ | refine W_exit rfl ?_)
          first | refine W_retR hP hf hfn _ ([(b, deck l qx)]) (by first | (simp [go_sem, hP, hgl, hn]; done) | (simp [go_sem, hP, hgl, hn]; rfl)) (by simp [go_sem, hP, hgl, hn]) (by simp) ?_ hR.2 | refine W_endR hP hf hfn _ ([(b, deck l qx)]) (by first | (simp [go_sem, hP, hgl, hn]; done) | (simp [go_sem, hP, hgl, hn]; rfl)) (by simp [go_sem, hP, hgl, hn]) (by simp) ?_ hR.2
          rw [hR.1]
          refine ⟨?_, by simp⟩
          try simp
          try all_goals (simp [Ty.dv, Ty.cells_eq, Ty.kind_mk, Ty.args_mk, Tm.dv, Tm.cells_eq, Tm.kind_mk, Tm.index_mk, Tm.type_mk, Tm.args_mk, Val.dv, Val.cells_eq, Val.kind_mk, Val.num_mk, Val.list_mk, Val.args_mk, ints])
  · rw [hpk] at hR
    simp only at hR
    obtain ⟨h0, h1, k, i, hk, hi, rfl, rfl⟩ := pickD_some' hpk
    have hpos : 0 < (varsN g t).length := by omega
    have hpos3 : 0 < (nextD l p 3).1 := by omega
    have hgi := ints_get (l := natI (varsN g t)) (i := k) (n := i) (by simp [natI, hi])
    have hkl := (List.getElem?_eq_some_iff.1 hi).1
    refine t_g0 ?_
    refine t_c1 trivial (mk_vars_ok g t (by omega)) ?_
    refine t_g0 ?_
    refine t_c1 (j2 @natI_len (j2 @hpos @hpos3)) (next_ok b l p 3 (by decide) (by omega)) ?_
    refine t_g @hpos3 ?_
    refine t_c2 (j2 @natI_len (j2 @hk @hgi)) (next_ok b l (nextD l p 3).2 (varsN g t).length (by omega) (by omega)) (ref02_var_ok i) ?_
    repeat (first | refine W_seq ?_ | refine W_skip ?_ | refine W_block ?_ | refine W_inBlock ?_ | refine W_label ?_ | refine W_exit rfl ?_)
    first | refine W_retR hP hf hfn _ ([(b, deck l (nextD l (nextD l p 3).2 (varsN g t).length).2)]) (by first | (simp [go_sem, hP, hgl, hn, vT]; done) | (simp [go_sem, hP, hgl, hn, vT]; rfl)) (by simp [go_sem, hP, hgl, hn, vT]) (by simp) ?_ hR.2 | refine W_endR hP hf hfn _ ([(b, deck l (nextD l (nextD l p 3).2 (varsN g t).length).2)]) (by first | (simp [go_sem, hP, hgl, hn, vT]; done) | (simp [go_sem, hP, hgl, hn, vT]; rfl)) (by simp [go_sem, hP, hgl, hn, vT]) (by simp) ?_ hR.2
    rw [hR.1]
    refine ⟨?_, by simp [vT]⟩
    try simp [vT]
    try all_goals (simp [Ty.dv, Ty.cells_eq, Ty.kind_mk, Ty.args_mk, Tm.dv, Tm.cells_eq, Tm.kind_mk, Tm.index_mk, Tm.type_mk, Tm.args_mk, Val.dv, Val.cells_eq, Val.kind_mk, Val.num_mk, Val.list_mk, Val.args_mk, ints])
end Go.Proofs.YtmdjiajbnifjpaaDoor.Lift

/-
  Drawn terms have small indices; so has their code.
-/
namespace Go.Proofs.YtmdjiajbnifjpaaDoor.Lift
set_option linter.unusedSimpArgs false
set_option linter.unusedVariables false
set_option linter.unnecessarySimpa false
open Go

theorem idx_nd {k : Int} {s : Ty} {l : List Tm} {m : Int} (hm : 0 ≤ m) (h : ∀ x ∈ l, x.idx m) : (Tm.mk k 0 s l).idx m := by
  rw [Tm.idx_eq]; exact ⟨⟨Int.le_refl _, hm⟩, h⟩
theorem idx_vr {i m : Int} (h0 : 0 ≤ i) (h : i ≤ m) : (vT i).idx m := by
  unfold vT; rw [Tm.idx_eq]; exact ⟨⟨h0, h⟩, fun x hx => by cases hx⟩
theorem plus_idx : plusT.idx 3 ∧ 3 ≤ plusT.count := by
  refine ⟨?_, by decide⟩
  simp [plusT, lamsT, recT, twoT, nT, vT, Tm.idx, Tm.idx.idxs]
theorem sub_idx : subT.idx 3 ∧ 3 ≤ subT.count := by
  refine ⟨?_, by decide⟩
  simp [subT, predT, appsT, appT, lamsT, recT, twoT, nT, vT, Tm.idx, Tm.idx.idxs]
theorem num_idx (n : Nat) (m : Int) (hm : 0 ≤ m) : (numTm n).idx m := by
  induction n with
  | zero => rw [numTm]; exact idx_nd hm (by simp)
  | succ n ih => rw [numTm]; exact idx_nd hm (by intro x hx; rw [List.mem_singleton.1 hx]; exact ih)
def IdxQ (_ : Ty) (g : List Ty) (x : Tm) : Prop := ∀ m : Int, (g.length : Int) + x.count ≤ m → x.idx m
theorem app2_idx {f : Tm} (hf : f.idx 3 ∧ 3 ≤ f.count) (g : List Ty) (x y : Tm) (hx : IdxQ (Ty.mk 1 []) g x) (hy : IdxQ (Ty.mk 1 []) g y) : IdxQ (Ty.mk 1 []) g (appsT f [x, y]) := by
  intro m hm
  have e : appsT f [x, y] = nT 3 [nT 3 [f, x], y] := rfl
  rw [e] at hm ⊢
  simp only [nT, Tm.count, Tm.count.counts] at hm
  have := hf.2
  refine idx_nd (by omega) ?_
  intro z hz
  simp at hz
  rcases hz with rfl | rfl
  · refine idx_nd (by omega) ?_
    intro z hz
    simp at hz
    rcases hz with rfl | rfl
    · exact Tm.idx_mono (by omega) hf.1
    · exact hx m (by omega)
  · exact hy m (by omega)
theorem draw_idx : DrawOK IdxQ where
  var g i hi m hm := by
    refine idx_vr (by omega) ?_
    omega
  num g n _ m hm := num_idx n m (by omega)
  app g s t f x _ _ hf hx m hm := by
    simp only [nT, Tm.count, Tm.count.counts] at hm
    exact idx_nd (by omega) (by intro z hz; simp at hz; rcases hz with rfl | rfl; exact hf m (by omega); exact hx m (by omega))
  lam g s t x _ _ hx m hm := by
    simp only [Tm.count, Tm.count.counts] at hm
    exact idx_nd (by omega) (by intro z hz; simp at hz; rw [hz]; exact hx m (by simp; omega))
  lam2 g s t r x _ _ _ hx m hm := by
    simp only [Tm.count, Tm.count.counts] at hm
    exact idx_nd (by omega) (by intro z hz; simp at hz; rw [hz]; exact idx_nd (by omega) (by intro z hz; simp at hz; rw [hz]; exact hx m (by simp; omega)))
  lam3 g s t u r x _ _ _ _ hx m hm := by
    simp only [Tm.count, Tm.count.counts] at hm
    exact idx_nd (by omega) (by intro z hz; simp at hz; rw [hz]; exact idx_nd (by omega) (by intro z hz; simp at hz; rw [hz]; exact idx_nd (by omega) (by intro z hz; simp at hz; rw [hz]; exact hx m (by simp; omega))))
  pair g s t f x _ _ hf hx m hm := by
    simp only [nT, Tm.count, Tm.count.counts] at hm
    exact idx_nd (by omega) (by intro z hz; simp at hz; rcases hz with rfl | rfl; exact hf m (by omega); exact hx m (by omega))
  fst g s t x _ _ hx m hm := by
    simp only [nT, Tm.count, Tm.count.counts] at hm
    exact idx_nd (by omega) (by intro z hz; simp at hz; rw [hz]; exact hx m (by omega))
  snd g s t x _ _ hx m hm := by
    simp only [nT, Tm.count, Tm.count.counts] at hm
    exact idx_nd (by omega) (by intro z hz; simp at hz; rw [hz]; exact hx m (by omega))
  rc g t x f n _ hx hf hn m hm := by
    simp only [Tm.count, Tm.count.counts] at hm
    exact idx_nd (by omega) (by intro z hz; simp at hz; rcases hz with rfl | rfl | rfl; exact hx m (by omega); exact hf m (by omega); exact hn m (by omega))
  fold g t x f n _ hx hf hn m hm := by
    simp only [Tm.count, Tm.count.counts] at hm
    exact idx_nd (by omega) (by intro z hz; simp at hz; rcases hz with rfl | rfl | rfl; exact hx m (by omega); exact hf m (by omega); exact hn m (by omega))
  succ g x hx m hm := by
    simp only [nT, Tm.count, Tm.count.counts] at hm
    exact idx_nd (by omega) (by intro z hz; simp at hz; rw [hz]; exact hx m (by omega))
  plus g x y hx hy := app2_idx plus_idx g x y hx hy
  sub g x y hx hy := app2_idx sub_idx g x y hx hy
  nil g m hm := idx_nd (by omega) (by simp)
  cons g x y hf hx m hm := by
    simp only [nT, Tm.count, Tm.count.counts] at hm
    exact idx_nd (by omega) (by intro z hz; simp at hz; rcases hz with rfl | rfl; exact hf m (by omega); exact hx m (by omega))
  unit g m hm := idx_nd (by omega) (by simp)

theorem skel_idx (t : Tm) (m : Int) : t.idx m → (∀ x ∈ t.skel, x.1 = 1 → 0 ≤ x.2 ∧ x.2 ≤ m) ∧ ∀ s ∈ t.subs, s.idx m := by
  induction t using Tm.ind with
  | h t ih =>
  intro hi
  obtain ⟨h1, h2⟩ := (Tm.idx_eq t m).1 hi
  have key : ∀ l : List Tm, (∀ x ∈ l, x ∈ t.args) → (∀ x ∈ Tm.skel.skels l, x.1 = 1 → 0 ≤ x.2 ∧ x.2 ≤ m) ∧ ∀ s ∈ Tm.subs.subss l, s.idx m := by
    intro l
    induction l with
    | nil => intro _; exact ⟨(fun x hx => by cases hx), fun s hs => by cases hs⟩
    | cons a r ihr =>
      intro hl
      obtain ⟨k1, k2⟩ := ih a (hl a (by simp)) (h2 a (hl a (by simp)))
      obtain ⟨k3, k4⟩ := ihr fun x hx => hl x (by simp [hx])
      constructor
      · intro x hx
        rcases List.mem_append.1 hx with hx | hx
        · exact k1 x hx
        · exact k3 x hx
      · intro x hx
        rcases List.mem_append.1 hx with hx | hx
        · exact k2 x hx
        · exact k4 x hx
  obtain ⟨k1, k2⟩ := key t.args fun _ h => h
  rw [Tm.skel_eq, Tm.subs_eq]
  split
  · refine ⟨fun x hx h => ?_, h2⟩
    simp at hx
    subst hx
    simp at h
  · refine ⟨fun x hx h => ?_, k2⟩
    rcases List.mem_append.1 hx with hx | hx
    · exact k1 x hx h
    · simp at hx
      subst hx
      exact h1
theorem bfs_idx (m : Int) : ∀ q : List Tm, (∀ t ∈ q, t.idx m) → ∀ t ∈ Tm.bfs q, t.idx m
  | [], _ => by rw [Tm.bfs_nil]; intro t ht; cases ht
  | t :: r, h => by
    rw [Tm.bfs_cons]
    intro s hs
    rcases List.mem_cons.1 hs with rfl | hs
    · exact h _ (by simp)
    · refine bfs_idx m (r ++ t.subs) (fun x hx => ?_) s hs
      rcases List.mem_append.1 hx with hx | hx
      · exact h x (by simp [hx])
      · exact (skel_idx t m (h t (by simp))).2 x hx
termination_by q => Tm.count.counts q
decreasing_by
  have := Tm.skel_count t
  have := Tm.skel_pos t
  simp only [Tm.counts_app, Tm.count.counts]
  omega
theorem fillF_mem (p : Nat → Int) : ∀ (c : List Ins) (j : Nat) (x : Ins), x ∈ fillF p j c → (x.1 = 2 ∧ ∃ k, j ≤ k ∧ k < j + funs c ∧ x.2 = p k) ∨ (¬ x.1 = 2 ∧ x ∈ c)
  | [], j, x, h => by simp [fillF] at h
  | (o, a) :: r, j, x, h => by
    have hf := funs_cons (o, a) r
    simp only [fillF] at h
    split at h
    · rename_i ho
      simp only at hf
      rw [if_pos ho] at hf
      rcases List.mem_cons.1 h with rfl | h
      · exact .inl ⟨rfl, j, Nat.le_refl _, by omega, rfl⟩
      · rcases fillF_mem p r (j + 1) x h with ⟨h1, k, h2, h3, h4⟩ | ⟨h1, h2⟩
        · exact .inl ⟨h1, k, by omega, by omega, h4⟩
        · exact .inr ⟨h1, by simp [h2]⟩
    · rename_i ho
      simp only at hf
      rw [if_neg ho] at hf
      rcases List.mem_cons.1 h with rfl | h
      · exact .inr ⟨ho, by simp⟩
      · rcases fillF_mem p r j x h with ⟨h1, k, h2, h3, h4⟩ | ⟨h1, h2⟩
        · exact .inl ⟨h1, k, h2, by omega, h4⟩
        · exact .inr ⟨h1, by simp [h2]⟩
/-- the numbers in code are small -/
theorem code_small (t : Tm) (h : t.shape = true) {m : Int} (hi : t.idx m) (hm : 4096 ≤ m) (hl : t.codeN.length ≤ 4096) : ∀ x ∈ t.codeN, 0 ≤ x.2 ∧ x.2 ≤ m := by
  intro x hx
  have hlen : t.codeN.length = (lay t.blocks).length := by unfold Tm.codeN prog; exact fillF_length _ _ _
  unfold Tm.codeN prog at hx
  rcases fillF_mem _ _ _ x hx with ⟨h1, k, -, h3, h4⟩ | ⟨h1, h2⟩
  · rw [h4]
    have : startAt t.blocks (k + 1) ≤ (lay t.blocks).length := by
      unfold startAt
      conv => rhs; rw [← List.take_append_drop (k + 1) t.blocks]
      rw [lay_append, List.length_append]
      exact Nat.le_add_right _ _
    omega
  · unfold lay at h2
    rw [List.mem_flatMap] at h2
    obtain ⟨b, hb, hxb⟩ := h2
    rcases List.mem_append.1 hxb with hxb | hxb
    · unfold Tm.blocks at hb
      obtain ⟨s, hs, rfl⟩ := List.mem_map.1 hb
      have hsi := bfs_idx m [t] (by simpa using hi) s hs
      have hss := bfs_shape [t] (by simpa using h) s hs
      by_cases h5 : x.1 = 1
      · exact (skel_idx s m hsi).1 x hxb h5
      · have h6 := (skel_ok s hss x hxb).2.2
        rw [if_neg h5] at h6
        omega
    · rw [List.mem_singleton.1 hxb]
      exact ⟨Int.le_refl _, by simp only; omega⟩
end Go.Proofs.YtmdjiajbnifjpaaDoor.Lift

namespace Go.Proofs.YtmdjiajbnifjpaaDoor.Lift
set_option linter.unusedSimpArgs false
set_option linter.unusedVariables false
set_option linter.unnecessarySimpa false
open Go
variable {gl : Globs}

/-- the value of which a term is the term, as the document reads it: it differs where there is none -/
def Tm.readR : Tm → Val × Bool
  | .mk k i ty l =>
    if k = 4 ∨ k = 5 then (Val.mk 1 (Tm.mk k i ty l).peel.1 [] [], decide ((Tm.mk k i ty l).peel.2 = 4))
    else if k = 7 ∨ k = 8 then (match (Tm.mk k i ty l).readL with
      | none => (zeroV, false)
      | some p => (Val.mk 2 0 p.1 [], decide (p.2 = 7)))
    else if k = 10 then (Val.mk 3 0 [] (reads l).1, (reads l).2)
    else (Val.mk 4 0 [] [], decide (k = 13))
where
  reads : List Tm → List Val × Bool
    | [] => ([], true)
    | a :: r => ((a.readR).1 :: (reads r).1, (a.readR).2 && (reads r).2)
end Go.Proofs.YtmdjiajbnifjpaaDoor.Lift

namespace Go.Proofs.YtmdjiajbnifjpaaDoor.Lift
set_option linter.unusedSimpArgs false
set_option linter.unusedVariables false
set_option linter.unnecessarySimpa false
open Go
variable {gl : Globs}

/-! sizes of what is drawn, and of the terms of values -/
theorem shape_tys (t : Tm) (h : t.shape = true) : t.tys := by
  induction t using Tm.ind with
  | h t ih =>
  obtain ⟨-, -, -, h4, h5⟩ := Tm.shape_node h
  rw [Tm.tys_eq]
  refine ⟨?_, fun a ha => ih a ha (h5 a ha)⟩
  split at h4
  · have := h4.2; omega
  · unfold Ty.zero at h4
    simp at h4
    rw [Ty.count_eq, h4.2]
    decide

theorem pickD_count {l : List Int} {t : Ty} {g : List Ty} {p q : Nat} {x : Tm} (h : pickD l t g p = (some x, q)) : x.count = 1 := by
  obtain ⟨i, rfl, -⟩ := pickD_some h
  rfl
theorem numD_count (l : List Int) (p : Nat) : (numD l p).1.count ≤ 3 := by
  have := nextD_bd (l := l) (p := p) (n := 3) (by decide)
  show (numTm _).count ≤ 3
  rw [numTm_count]
  omega
theorem leafD_count (l : List Int) (t : Ty) : t.small → ∀ (g : List Ty) (p : Nat), (leafD l t g p).1.count ≤ 3 * t.count := by
  generalize hn : t.count = n
  induction n using Nat.strongRecOn generalizing t with
  | _ n ih =>
  intro ht g p
  have h1 : 1 ≤ t.count := by rw [Ty.count_eq]; omega
  rw [leafD_eq l t g p ht.ok]
  split
  · rename_i x q hx
    have := pickD_count hx
    simp only; omega
  · rename_i q hx
    have hN := numD_count l q
    rcases small_kinds ht with ⟨h, e⟩ | ⟨h, e⟩ | ⟨h, e⟩ | ⟨h, e⟩ | ⟨h, e⟩
    · rw [if_pos h]; omega
    · rw [if_neg (by omega), if_pos h]; show 1 + 0 ≤ _; omega
    · rw [if_neg (by omega), if_neg (by omega), if_neg (by omega), if_neg (by omega)]; show 1 + 0 ≤ _; omega
    · rw [if_neg (by omega), if_neg (by omega), if_pos h]
      obtain ⟨s0, s1, hc⟩ := ht.arg (.inl h)
      have a := ih _ (by omega) (t.arg 0) rfl s0 g q
      have b := ih _ (by omega) (t.arg 1) rfl s1 g (leafD l (t.arg 0) g q).2
      show 1 + (_ + (_ + 0)) ≤ _
      omega
    · rw [if_neg (by omega), if_neg (by omega), if_neg (by omega), if_pos h]
      obtain ⟨s0, s1, hc⟩ := ht.arg (.inr h)
      have b := ih _ (by omega) (t.arg 1) rfl s1 (g ++ [t.arg 0]) q
      show 1 + (_ + 0) ≤ _
      omega

def Small (l : List Int) (F : Ty → List Ty → Nat → Tm × Nat) (B : Nat) : Prop := ∀ t g p, t.small → (∀ x ∈ g, x.small) → p ≤ l.length → (F t g p).1.count ≤ B
theorem plusT_count : plusT.count = 9 := by decide
theorem subT_count : subT.count ≤ 16 := by decide
theorem app2_count (f x y : Tm) : (appsT f [x, y]).count = 2 + f.count + x.count + y.count := by
  show 1 + ((1 + (f.count + (x.count + 0))) + (y.count + 0)) = _
  omega
theorem endD_count {l : List Int} {F : Ty → List Ty → Nat → Tm × Nat} {B : Nat} (hD : Draws l F (fun _ _ x => x.shape = true)) (hF : Small l F B) : Small l (endD l F) (2 * B + 20) := by
  intro t g q ht hg hq
  have h5 := nextD_le (n := 5) hq
  have h2 := nextD_le (n := 2) hq
  have c1 := hF t g (nextD l q 5).2 ht hg h5
  have d1 := (hD t g (nextD l q 5).2 ht hg h5).1
  have c2 := hF t g _ ht hg d1
  have e1 := hF (Ty.mk 1 []) g (nextD l q 2).2 small_nat hg h2
  have f1 := (hD (Ty.mk 1 []) g (nextD l q 2).2 small_nat hg h2).1
  have e2 := hF t g _ ht hg f1
  have hN := numD_count l (nextD l q 5).2
  have hp := plusT_count
  have hs := subT_count
  unfold endD
  split
  · split
    · show 1 + (_ + 0) ≤ _; omega
    split
    · simp only [app2_count]; omega
    split
    · simp only [app2_count]; omega
    · omega
  split
  · split
    · show 1 + (_ + (_ + 0)) ≤ _; omega
    · show 1 + 0 ≤ _; omega
  split
  · rename_i h
    obtain ⟨s0, s1, -⟩ := ht.arg (.inl h)
    have a1 := hF (t.arg 0) g q s0 hg hq
    have a2 := hF (t.arg 1) g _ s1 hg (hD (t.arg 0) g q s0 hg hq).1
    show 1 + (_ + (_ + 0)) ≤ _; omega
  split
  · rename_i h
    obtain ⟨s0, s1, -⟩ := ht.arg (.inr h)
    have a2 := hF (t.arg 1) (g ++ [t.arg 0]) q s1 (by intro x hx; rcases List.mem_append.1 hx with hx | hx; exact hg x hx; rw [List.mem_singleton.1 hx]; exact s0) hq
    show 1 + (_ + 0) ≤ _; omega
  · show 1 + 0 ≤ _; omega
end Go.Proofs.YtmdjiajbnifjpaaDoor.Lift

/-
  Plain law: what is drawn has its type, by the rules, and at most 4096 nodes.
-/
namespace Go.Proofs.YtmdjiajbnifjpaaDoor.Lift
set_option linter.unusedSimpArgs false
set_option linter.unusedVariables false
set_option linter.unnecessarySimpa false
open Go

theorem endD_count' {l : List Int} {F : Ty → List Ty → Nat → Tm × Nat} {B : Nat} (hB : 16 ≤ B) (hD : Draws l F (fun _ _ x => x.shape = true)) (hF : Small l F B) : Small l (endD l F) (3 * B + 4) := fun t g p ht hg hp => by
  have := endD_count hD hF t g p ht hg hp
  omega
theorem stepD_count' {l : List Int} {F : Ty → List Ty → Nat → Tm × Nat} {B : Nat} (hB : 16 ≤ B) (hD : Draws l F (fun _ _ x => x.shape = true)) (hF : Small l F B) (k : Int) : Small l (fun t g p => stepD l F t g k p) (3 * B + 4) := by
  intro t g p ht hg hp
  have hg1 : ∀ a : List Ty, (∀ x ∈ a, x.small) → ∀ x ∈ g ++ a, x.small := by
    intro a ha x hx
    rcases List.mem_append.1 hx with hx | hx
    · exact hg x hx
    · exact ha x hx
  have hE := endD_count' hB hD hF t g p ht hg hp
  obtain ⟨s1, s2⟩ := typeD_small l (n := 0) hp (by decide)
  show (stepD l F t g k p).1.count ≤ _
  unfold stepD
  split
  · have gs := hg1 [(typeD l 0 p).1] (by simpa using s2)
    have a := hF t _ _ ht gs s1
    have b := hF _ g _ s2 hg (hD t _ _ ht gs s1).1
    show 1 + ((1 + (_ + 0)) + (_ + 0)) ≤ _; omega
  split
  · have a := hF t g _ ht hg s1
    have b := hF _ g _ s2 hg (hD t g _ ht hg s1).1
    show 1 + ((1 + (_ + (_ + 0))) + 0) ≤ _; omega
  split
  · have gs := hg1 [Ty.mk 1 [], t] (by intro x hx; simp at hx; rcases hx with rfl | rfl; exact small_nat; exact ht)
    have d := (hD t _ _ ht gs hp).1
    have a := hF t _ _ ht gs hp
    have b := hF t g _ ht hg d
    have c := numD_count l (F t g (F t (g ++ [Ty.mk 1 [], t]) p).2).2
    show 1 + (_ + ((1 + ((1 + (_ + 0)) + 0)) + (_ + 0))) ≤ _; omega
  split
  · have gs := hg1 [Ty.mk 1 [], Ty.mk 2 [], t] (by intro x hx; simp at hx; rcases hx with rfl | rfl | rfl; exact small_nat; exact small_list; exact ht)
    have d := (hD t _ _ ht gs hp).1
    have a := hF t _ _ ht gs hp
    have b := hF t g _ ht hg d
    have c := hF (Ty.mk 2 []) g _ small_list hg (hD t g _ ht hg d).1
    show 1 + (_ + ((1 + ((1 + ((1 + (_ + 0)) + 0)) + 0)) + (_ + 0))) ≤ _; omega
  split
  · have a := hF _ g _ s2 hg s1
    have b := hF t g _ ht hg (hD _ g _ s2 hg s1).1
    show 1 + ((1 + (_ + (_ + 0))) + 0) ≤ _; omega
  split
  · split
    · rename_i i hi
      obtain ⟨f1, f2, f3⟩ := funN_some hi
      obtain ⟨c0, c1, -⟩ := (hg _ (varTy_mem f1).1).arg (.inr f2)
      have a := hF _ g _ c0 hg hp
      show 1 + ((1 + 0) + (_ + 0)) ≤ _; omega
    · omega
  · omega
def drawC : Nat → Nat
  | 0 => 45
  | n + 1 => 3 * drawC n + 4
theorem drawC_pos : ∀ n, 16 ≤ drawC n
  | 0 => by decide
  | n + 1 => by have := drawC_pos n; simp only [drawC]; omega
theorem termD_count' (l : List Int) : ∀ n, Small l (termD l n) (drawC n)
  | 0 => by intro t g p ht hg hp; have := leafD_count l t ht g p; have := ht.2; show _ ≤ 45; simp only [termD]; omega
  | n + 1 => by
    intro t g p ht hg hp
    have hq := pickD_le (t := t) (g := g) hp
    have ih := stepD_count' (drawC_pos n) (termD_facts closed_shape n) (termD_count' l n)
    unfold termD
    split
    · rename_i x q hx
      have := pickD_count hx
      simp only [drawC]; omega
    · rename_i q hx
      rw [hx] at hq
      exact ih _ t g _ ht hg (nextD_le hq)

end Go.Proofs.YtmdjiajbnifjpaaDoor.Lift

/-
  play.Data, mk.Closed, play.Code.
-/
namespace Go.Proofs.YtmdjiajbnifjpaaDoor.Lift
set_option linter.unusedSimpArgs false
set_option linter.unusedVariables false
set_option linter.unnecessarySimpa false
open Go
variable {gl : Globs}

def dataD (l : List Int) (p : Nat) : (Tm × Ty) × Nat := (((termD l 3 (plainD l p).1 [] (plainD l p).2).1, (plainD l p).1), (termD l 3 (plainD l p).1 [] (plainD l p).2).2)
def closedD (l : List Int) (p : Nat) : (Tm × Ty) × Nat := (((termD l 3 (typeD l 1 p).1 [] (typeD l 1 p).2).1, (typeD l 1 p).1), (termD l 3 (typeD l 1 p).1 [] (typeD l 1 p).2).2)
theorem plainD_small (l : List Int) (p : Nat) : (plainD l p).1.small := by
  rcases plainD_cases l p with h | h | h | h | h <;> rw [h] <;> exact ⟨by decide, by decide⟩
/-- what is asked of a drawn term -/
structure DrawnT (t : Tm) : Prop where
  shape : t.shape = true
  idx : t.idx 1267
  count : t.count ≤ 1267
theorem drawnT (l : List Int) {p : Nat} (hp : p ≤ l.length) {ty : Ty} (ht : ty.small) : DrawnT (termD l 3 ty [] p).1 ∧ (termD l 3 ty [] p).2 ≤ l.length := by
  obtain ⟨f1, f2⟩ := termD_facts (l := l) closed_shape 3 ty [] p ht (by simp) hp
  obtain ⟨-, f3⟩ := termD_facts (l := l) draw_idx 3 ty [] p ht (by simp) hp
  have g1 := termD_count' l 3 ty [] p ht (by simp) hp
  have hB : drawC 3 = 1267 := rfl
  rw [hB] at g1
  exact ⟨⟨f2, f3 1267 (by simp; omega), g1⟩, f1⟩
theorem data_ok (b : Nat) (l : List Int) (p : Nat) (hl : l.length ≤ 500) (hp : p ≤ l.length) :
    Con1 Tryd.prog gl 53 [ptr b] [(b, deck l p)] (.tup [(dataD l p).1.1.dv, (dataD l p).1.2.dv]) [(b, deck l (dataD l p).2)] := by
  have w1 := plain_ok (gl := gl) b l p hl hp
  have h1 := plainD_small l p
  have h2 : (plainD l p).2 ≤ l.length := nextD_le (n := 6) hp
  have w2 := mk_term_ok (gl := gl) b l hl 3 (by decide) (plainD l p).1 [] (plainD l p).2 h1 (by simp) (by simp) h2
  unfold dataD
  generalize plainD l p = d at *
  obtain ⟨ty, q⟩ := d
  simp only at h1 h2 w1 w2 ⊢
  generalize termD l 3 ty [] q = d at *
  obtain ⟨t, q2⟩ := d
  simp only [List.map_nil] at w1 w2 ⊢
  refine t_in Tryd.func53 ?_
  intro X hP hgl hf hfn hn hR hids hfit
  have hft := Ty.fold ty
  have hfa := Tm.fold t
  refine t_g0 ?_
  refine t_c1 @hft w1 ?_
  refine t_g0 ?_
  refine t_c1 @hft w2 ?_
  refine t_g (j2 @hfa @hft) ?_
  repeat (first | refine W_seq ?_ | refine W_skip ?_ | refine W_block ?_ | refine W_inBlock ?_ | refine W_label ?_ | refine W_exit rfl ?_)
  first | refine W_retR hP hf hfn _ ([(b, deck l q2)]) (by first | (simp [go_sem, hP, hgl, hn, hfa, hft]; done) | (simp [go_sem, hP, hgl, hn, hfa, hft]; rfl)) (by simp [go_sem, hP, hgl, hn, hfa, hft]) (by simp) ?_ hR.2 | refine W_endR hP hf hfn _ ([(b, deck l q2)]) (by first | (simp [go_sem, hP, hgl, hn, hfa, hft]; done) | (simp [go_sem, hP, hgl, hn, hfa, hft]; rfl)) (by simp [go_sem, hP, hgl, hn, hfa, hft]) (by simp) ?_ hR.2
  rw [hR.1]
  refine ⟨?_, by simp [hfa, hft]⟩
  try simp [hfa, hft]
  try all_goals (simp [Ty.dv, Ty.cells_eq, Ty.kind_mk, Ty.args_mk, Tm.dv, Tm.cells_eq, Tm.kind_mk, Tm.index_mk, Tm.type_mk, Tm.args_mk, Val.dv, Val.cells_eq, Val.kind_mk, Val.num_mk, Val.list_mk, Val.args_mk, ints])
theorem closed_ok (b : Nat) (l : List Int) (p : Nat) (hl : l.length ≤ 500) (hp : p ≤ l.length) :
    Con1 Tryd.prog gl 54 [ptr b] [(b, deck l p)] (.tup [(closedD l p).1.1.dv, (closedD l p).1.2.dv]) [(b, deck l (closedD l p).2)] := by
  have w1 := mk_type_ok (gl := gl) 1 b l p hl hp (by decide)
  obtain ⟨h2, h1⟩ := typeD_small l (n := 1) hp (by decide)
  have w2 := mk_term_ok (gl := gl) b l hl 3 (by decide) (typeD l 1 p).1 [] (typeD l 1 p).2 h1 (by simp) (by simp) h2
  unfold closedD
  generalize typeD l 1 p = d at *
  obtain ⟨ty, q⟩ := d
  simp only at h1 h2 w1 w2 ⊢
  generalize termD l 3 ty [] q = d at *
  obtain ⟨t, q2⟩ := d
  simp only [List.map_nil] at w1 w2 ⊢
  refine t_in Tryd.func54 ?_
  intro X hP hgl hf hfn hn hR hids hfit
  have hft := Ty.fold ty
  have hfa := Tm.fold t
  refine t_g0 ?_
  refine t_c1 @hft w1 ?_
  refine t_g0 ?_
  refine t_c1 @hft w2 ?_
  refine t_g (j2 @hfa @hft) ?_
  repeat (first | refine W_seq ?_ | refine W_skip ?_ | refine W_block ?_ | refine W_inBlock ?_ | refine W_label ?_ | refine W_exit rfl ?_)
  first | refine W_retR hP hf hfn _ ([(b, deck l q2)]) (by first | (simp [go_sem, hP, hgl, hn, hfa, hft]; done) | (simp [go_sem, hP, hgl, hn, hfa, hft]; rfl)) (by simp [go_sem, hP, hgl, hn, hfa, hft]) (by simp) ?_ hR.2 | refine W_endR hP hf hfn _ ([(b, deck l q2)]) (by first | (simp [go_sem, hP, hgl, hn, hfa, hft]; done) | (simp [go_sem, hP, hgl, hn, hfa, hft]; rfl)) (by simp [go_sem, hP, hgl, hn, hfa, hft]) (by simp) ?_ hR.2
  rw [hR.1]
  refine ⟨?_, by simp [hfa, hft]⟩
  try simp [hfa, hft]
  try all_goals (simp [Ty.dv, Ty.cells_eq, Ty.kind_mk, Ty.args_mk, Tm.dv, Tm.cells_eq, Tm.kind_mk, Tm.index_mk, Tm.type_mk, Tm.args_mk, Val.dv, Val.cells_eq, Val.kind_mk, Val.num_mk, Val.list_mk, Val.args_mk, ints])

/-- code that is bent: its block, cap, the deck's place, the array, the code -/
structure PCs where
  a : Nat
  cap : Nat
  q : Nat
  full : List (List DV)
  c : List Ins
theorem app_full {full : List (List DV)} {n : Nat} {e : List DV} {rest : List (List DV)} (hn : n ≤ full.length) (hw : ∀ x ∈ full, x.length = 2) (hr : ∀ x ∈ rest, x.length = 2) (he : e.length = 2) :
    (full.take n ++ e :: rest).length = n + 1 + rest.length ∧ (∀ x ∈ full.take n ++ e :: rest, x.length = 2) ∧ (full.take n ++ e :: rest).take (n + 1) = full.take n ++ [e] := by
  have hl : (full.take n).length = n := by rw [List.length_take]; omega
  refine ⟨by rw [List.length_append, hl, List.length_cons]; omega, fun x hx => ?_, ?_⟩
  · rcases List.mem_append.1 hx with hx | hx
    · exact hw x (List.mem_of_mem_take hx)
    · rcases List.mem_cons.1 hx with rfl | hx
      · exact he
      · exact hr x hx
  · rw [List.take_append, hl, List.take_of_length_le (by omega), show n + 1 - n = 1 from by omega]; rfl
/-- what play.Code returns -/
def PlC (b : Nat) (l : List Int) (r : DV) (ψ : Objs) : Prop := ∃ (c : List Ins) (q : Nat), c.length ≤ 4097 ∧ q ≤ l.length ∧ r = .sl (rowsI c) ∧ ψ = [(b, deck l q)]

set_option maxHeartbeats 1000000 in
set_option maxRecDepth 10000 in
theorem play_code_ok (b : Nat) (l : List Int) (p : Nat) (hl : l.length ≤ 500) (hp : p ≤ l.length) : Con Tryd.prog gl 20 [ptr b] [(b, deck l p)] (PlC b l) := by
  have w1 := data_ok (gl := gl) b l p hl hp
  obtain ⟨dt, dq⟩ : DrawnT (dataD l p).1.1 ∧ (dataD l p).2 ≤ l.length := drawnT l (nextD_le (n := 6) hp) (plainD_small l p)
  generalize dataD l p = d at *
  obtain ⟨⟨t, ty⟩, p1⟩ := d
  simp only at w1 dt dq
  have hft := Ty.fold ty
  have hfa := Tm.fold t
  have hca := Tm.cells_eq t
  refine t_in Tryd.func20 ?_
  intro X hP hgl hf hfn hn hR hids hfit
  refine t_g0 ?_
  refine t_c1 (j2 @hft @hfa) w1 ?_
  refine t_g0 ?_
  have hkb := nextD_bd (l := l) (p := p1) (n := 2) (by decide)
  have hq1 := nextD_le (n := 2) dq
  refine t_c1 trivial (next_ok b l p1 2 (by decide) (by omega)) ?_
  generalize nextD l p1 2 = nd at *
  obtain ⟨k, p2⟩ := nd
  simp only at hkb hq1
  apply W_cutM (fun x : Tm × Nat => DrawnT x.1 ∧ x.2 ≤ l.length) (fun x => [(.slot 0, .one (.v (ptr b))), (.loc 3, .row [.v (dint x.1.kind), .v (dint x.1.index), .v (dint x.1.type.kind), .v (.sl (x.1.type.args.map Ty.cells)), .v (.sl (x.1.args.map Tm.cells))]), (.slot 3, .one (.loc 3 0)), (.heap b, .row [.v (.sl (ints l)), .v (dint (x.2 : Nat))])])
  · intro hrest
    by_cases hk : k = 0
    · have w2 := closed_ok (gl := gl) b l p2 hl hq1
      obtain ⟨et, eq⟩ : DrawnT (closedD l p2).1.1 ∧ (closedD l p2).2 ≤ l.length := by
        obtain ⟨h2, h1⟩ := typeD_small l (n := 1) hq1 (by decide)
        exact drawnT l h2 h1
      generalize closedD l p2 = d at *
      obtain ⟨⟨t2, ty2⟩, p3⟩ := d
      simp only at w2 et eq
      have hft2 := Ty.fold ty2
      have hfa2 := Tm.fold t2
      have hca2 := Tm.cells_eq t2
      refine t_g @hk ?_
      refine t_c1 (j2 @hft2 @hfa2) w2 ?_
      refine t_g0 ?_
      refine t_a ?_
      refine W_sub [] (by simp [go_sem]) ?_ (by simp [go_sem]) (hrest (t2, p3) ⟨et, eq⟩)
      simp [go_sem]
    · refine t_g @hk ?_
      refine t_a ?_
      refine W_sub [] (by simp [go_sem]) ?_ (by simp [go_sem]) (hrest (t, p2) ⟨dt, hq1⟩)
      simp [go_sem]
  clear hkb hq1 dt dq w1 hft hfa hca
  rintro ⟨x, q⟩ ⟨dx, hq⟩
  simp only at dx hq
  have hfx := Tm.fold x
  have hxc := dx.count
  refine t_a ?_
  refine W_reg [] fun K hK => ?_
  simp [go_sem, hP, hgl, hn, hfx]
  refine vcK_callR hP hgl (refcompile_ok x (shape_tys x dx.shape) (by omega)) (by simp [go_sem]) rfl (by intro b cs hm; cases hm) (by simp) (by rw [hn]; exact Nat.le_of_ble_eq_true rfl) ?_
  rintro r φ hrel hnew
  have k1 := compN_cases x dx.shape (by omega)
  rcases hrel with ⟨e0, rfl, rfl⟩ | ⟨e0, C, hC, hnd, rfl, rfl⟩
  · have k2 : x.compN.2 = 4 := by
      rcases k1 with ⟨k1, -⟩ | k1
      · rw [k1] at e0; exact absurd rfl e0
      · rw [k1]
    rw [k2]
    simp [go_sem, hP, hgl, hn]
    refine hK _ ?_
    clear hK K
    refine t_g0 ?_
    refine W_retR hP hf hfn (.sl []) [(b, deck l q)] (by simp [go_sem, hP, hgl, hn]) (by simp [go_sem, objsIn]) (by simp) ?_ hR.2
    rw [hR.1]
    exact ⟨[], q, by simp, hq, rfl, rfl⟩
  · obtain ⟨k1, kl⟩ : x.compN = (x.codeN, 0) ∧ x.codeN.length ≤ 4096 := by
      rcases k1 with k1 | k1
      · exact k1
      · rw [k1] at e0; cases e0
    rw [k1] at hC
    simp only at hC
    have hne : rowsI x.codeN ≠ [] := by
      rw [code_lay]
      intro e
      have := congrArg List.length e
      simp only [rowsI, List.length_map, lay_length, List.length_nil] at this
      have h1 := blocks_ne x
      have h2 : x.code.length = x.blocks.length := fillB_length _ _ _
      exact h1 (List.length_eq_zero_iff.1 (by omega))
    have hsm := code_small x dx.shape (Tm.idx_mono (by decide : (1267 : Int) ≤ 4096) dx.idx) (by omega) kl
    generalize x.codeN = c at *
    obtain ⟨a, ha⟩ := hC.there hne
    have hob : C.objs = [(a, C.full.flatten)] := by unfold RS.objs; rw [ha]
    have hCv : C.v = rawS a C.n C.cap := by unfold RS.v rawQ; rw [ha]; rfl
    have hCn : C.n = c.length := by rw [hC.n_eq]; simp [rowsI]
    have hpos : 0 < c.length := by
      have := List.length_pos_iff.2 hne
      simpa [rowsI] using this
    obtain ⟨-, clen, cwid, cle, cels⟩ := hC
    obtain ⟨Cq, n, cap, full⟩ := C
    simp only at hob hCv hCn clen cwid cle cels ha
    rw [hob] at hnew hnd ⊢
    rw [hCv]
    subst hCn
    simp [newB] at hnew
    have hnew' : ¬ a = b := fun e => hnew e.symm
    simp [go_sem, hP, hgl, hn, hnew, hnew']
    refine hK _ ?_
    clear hK K
    have hfl : (List.map (List.map SV.v) full).flatten = arrRow full := by simp [arrRow]
    refine W_sub [] (s' := [(.slot 5, .one (.v (rawS a c.length cap))), (.slot 6, .one (.v (dint 0))), (.slot 0, .one (.v (ptr b))), (.heap b, .row [.v (.sl (ints l)), .v (dint (q : Nat))]), (.heap a, .row (arrRow full))]) (by simp [go_sem]) (by simp [go_sem, hnew, hnew', hfl, rowLe_arrZ]) (by simp [go_sem]) ?_
    have hcl : (c.length : Int) ≤ 4096 := by omega
    have hc0 : ¬ c = [] := by intro e; rw [e] at hpos; cases hpos
    have hcN : c.length ≤ 2147483648 := by omega
    refine t_g (j2 @hpos (j2 @hcN @hc0)) ?_
    have hkb := nextD_bd (l := l) (p := q) (n := 8) (by decide)
    have hq1 := nextD_le (n := 8) hq
    refine t_c1 (j2 @hnew @hnew') (next_ok b l q 8 (by decide) (by omega)) ?_
    generalize nextD l q 8 = nd at *
    obtain ⟨k, q1⟩ := nd
    simp only at hkb hq1
    clear hne e0 k1 hnd ha hob hCv Cq
    apply W_cutM (fun y : PCs => y.full.length = y.cap ∧ (∀ e ∈ y.full, e.length = 2) ∧ y.c.length ≤ y.cap ∧ y.full.take y.c.length = rowsI y.c ∧ y.c.length ≤ 4097 ∧ y.q ≤ l.length ∧ ¬ b = y.a)
      (fun y => [(.slot 2, .one (.v (rawS y.a y.c.length y.cap))), (.heap b, .row [.v (.sl (ints l)), .v (dint (y.q : Nat))]), (.heap y.a, .row (arrRow y.full))])
    · intro hrest
      by_cases h0 : k = 0
      · refine t_g @h0 ?_
        have hk1 := nextD_bd (l := l) (p := q1) (n := (c.length : Int)) (by omega)
        have hq2 := nextD_le (n := (c.length : Int)) hq1
        have v1 := next_ok (gl := gl) b l q1 (c.length : Int) (by omega) (by omega)
        generalize nextD l q1 (c.length : Int) = nd at *
        obtain ⟨i, q2⟩ := nd
        simp only at hk1 hq2 v1
        have hk2 := nextD_bd (l := l) (p := q2) (n := 16) (by decide)
        have hq3 := nextD_le (n := 16) hq2
        have v2 := next_ok (gl := gl) b l q2 16 (by decide) (by omega)
        generalize nextD l q2 16 = nd at *
        obtain ⟨o, q3⟩ := nd
        simp only at hk2 hq3 v2
        obtain ⟨i, rfl⟩ := Int.eq_ofNat_of_zero_le hk1.1
        have hi : i < c.length := by omega
        obtain ⟨o0, u0, hx⟩ : ∃ o u, c[i]? = some (o, u) := ⟨(c[i]'hi).1, (c[i]'hi).2, by rw [List.getElem?_eq_getElem hi]⟩
        have hr : (rowsI c)[i]? = some [dint o0, dint u0] := by simp [rowsI, hx, Ins.row]
        have hfi : full[i]? = some [dint o0, dint u0] := by
          rw [← cels, List.getElem?_take_of_lt hi] at hr
          exact hr
        refine t_a ?_
        refine W_reg [] fun K hK => ?_
        simp [go_sem, hP, hgl, hn, hnew, hnew', hcN]
        refine t_c (j2 @hnew @hnew') (v1) ?_
        refine t_c (j2 @hnew @hnew') (v2) ?_
        have hal : (arrRow full).length = cap * 2 := by rw [arrRow_len cwid, clen]
        refine ⟨hi, by omega, hK _ ?_⟩
        clear hK K
        have hput := put_cell cwid hfi (j := 0) (by decide) (dint o)
        rw [Nat.add_zero] at hput
        simp only [List.set_cons_zero] at hput
        have hput' : put (arrRow full) (i * 2) [SV.v (DV.prim (Value.int IntKind.i64 o))] = arrRow (full.set i [dint o, dint u0]) := hput
        rw [hput']
        refine t_g0 ?_
        refine t_a ?_
        refine W_sub [] (by simp [go_sem]) ?_ (by simp [go_sem]) (hrest ⟨a, cap, q3, full.set i [dint o, dint u0], c.set i (o, u0)⟩ ⟨by simpa using clen, fun e he => ?_, by simpa using cle, ?_, by simp; omega, hq3, hnew⟩)
        · simp [go_sem, hnew, hnew', rowLe_arrZ]
        · rcases List.mem_or_eq_of_mem_set he with he | rfl
          · exact cwid e he
          · rfl
        · simp only [List.length_set, List.take_set, cels]
          simp [rowsI, List.map_set, Ins.row]
      by_cases h1 : k = 1
      · refine t_g @h1 ?_
        have hk1 := nextD_bd (l := l) (p := q1) (n := (c.length : Int)) (by omega)
        have hq2 := nextD_le (n := (c.length : Int)) hq1
        have v1 := next_ok (gl := gl) b l q1 (c.length : Int) (by omega) (by omega)
        generalize nextD l q1 (c.length : Int) = nd at *
        obtain ⟨i, q2⟩ := nd
        simp only at hk1 hq2 v1
        have hk2 := nextD_bd (l := l) (p := q2) (n := 3) (by decide)
        have hq3 := nextD_le (n := 3) hq2
        have v2 := next_ok (gl := gl) b l q2 3 (by decide) (by omega)
        generalize nextD l q2 3 = nd at *
        obtain ⟨o, q3⟩ := nd
        simp only at hk2 hq3 v2
        obtain ⟨i, rfl⟩ := Int.eq_ofNat_of_zero_le hk1.1
        have hi : i < c.length := by omega
        obtain ⟨o0, u0, hx⟩ : ∃ o u, c[i]? = some (o, u) := ⟨(c[i]'hi).1, (c[i]'hi).2, by rw [List.getElem?_eq_getElem hi]⟩
        have hr : (rowsI c)[i]? = some [dint o0, dint u0] := by simp [rowsI, hx, Ins.row]
        have hfi : full[i]? = some [dint o0, dint u0] := by
          rw [← cels, List.getElem?_take_of_lt hi] at hr
          exact hr
        have hu0 := hsm _ (List.mem_of_getElem? hx)
        simp only at hu0
        have hcell := arrRow_cell cwid hfi (j := 1) rfl
        have hal : (arrRow full).length = cap * 2 := by rw [arrRow_len cwid, clen]
        refine t_a ?_
        refine W_regT (by rw [hP]; exact mixed) 12 (by decide) (by rfl) [] [] fun K hK => ?_
        simp [go_sem, hP, hgl, hn, hnew, hnew', hcN]
        refine t_c (j2 @hnew (j2 @hnew' @hcell)) (v1) ?_
        refine ⟨hi, ?_⟩
        refine t_c (j2 @hnew (j2 @hnew' @hcell)) (v2) ?_
        refine ⟨by omega, by omega, chkB_skip 7 9 (by decide) rfl rfl (by simp [apart, disL, memL, Loc.eqB, wrL, allN, hnew, hnew']) (by rfl), ?_⟩
        refine ⟨hi, by omega, hK _ ?_⟩
        clear hK K
        have hput := put_cell cwid hfi (j := 1) (by decide) (dint (u0 + (o - 1)))
        simp only [List.set_cons_succ, List.set_cons_zero] at hput
        have hput' : put (arrRow full) (i * 2 + 1) [SV.v (DV.prim (Value.int IntKind.i64 (u0 + (o - 1))))] = arrRow (full.set i [dint o0, dint (u0 + (o - 1))]) := hput
        rw [hput']
        refine t_g0 ?_
        refine t_a ?_
        refine W_sub [] (by simp [go_sem]) ?_ (by simp [go_sem]) (hrest ⟨a, cap, q3, full.set i [dint o0, dint (u0 + (o - 1))], c.set i (o0, u0 + (o - 1))⟩ ⟨by simpa using clen, fun e he => ?_, by simpa using cle, ?_, by simp; omega, hq3, hnew⟩)
        · simp [go_sem, hnew, hnew', rowLe_arrZ]
        · rcases List.mem_or_eq_of_mem_set he with he | rfl
          · exact cwid e he
          · rfl
        · simp only [List.length_set, List.take_set, cels]
          simp [rowsI, List.map_set, Ins.row]
      by_cases h2 : k = 2
      · refine t_g @h2 ?_
        have hk1 := nextD_bd (l := l) (p := q1) (n := (c.length : Int) + 1) (by omega)
        have hq2 := nextD_le (n := (c.length : Int) + 1) hq1
        have v1 := next_ok (gl := gl) b l q1 ((c.length : Int) + 1) (by omega) (by omega)
        generalize nextD l q1 ((c.length : Int) + 1) = nd at *
        obtain ⟨i, q2⟩ := nd
        simp only at hk1 hq2 v1
        obtain ⟨i, rfl⟩ := Int.eq_ofNat_of_zero_le hk1.1
        have hi : i ≤ c.length := by omega
        refine t_a ?_
        refine W_reg [] fun K hK => ?_
        simp [go_sem, hP, hgl, hn, hnew, hnew', hcN]
        repeat (refine ⟨by omega, ?_⟩)
        refine t_c (j2 @hnew @hnew') (v1) ?_
        refine ⟨by omega, hK _ ?_⟩
        clear hK K
        refine t_g0 ?_
        refine t_a ?_
        have hlt : (c.take i).length = i := by rw [List.length_take]; omega
        refine W_sub [] (by simp [go_sem]) ?_ (by simp [go_sem]) (hrest ⟨a, cap, q2, full, c.take i⟩ ⟨clen, cwid, by simp only; omega, ?_, by simp only; omega, hq2, hnew⟩)
        · simp [go_sem, hnew, hnew', rowLe_arrZ, hlt]
        · simp only [hlt]
          have e1 : full.take i = (full.take c.length).take i := by rw [List.take_take, Nat.min_eq_left hi]
          rw [e1, cels]
          simp [rowsI, List.map_take]
      by_cases h3 : k = 3
      · refine t_g @h3 ?_
        have hk1 := nextD_bd (l := l) (p := q1) (n := (c.length : Int)) (by omega)
        have hq2 := nextD_le (n := (c.length : Int)) hq1
        have v1 := next_ok (gl := gl) b l q1 (c.length : Int) (by omega) (by omega)
        generalize nextD l q1 (c.length : Int) = nd at *
        obtain ⟨i, q2⟩ := nd
        simp only at hk1 hq2 v1
        obtain ⟨i, rfl⟩ := Int.eq_ofNat_of_zero_le hk1.1
        have hi : i < c.length := by omega
        obtain ⟨o0, u0, hx⟩ : ∃ o u, c[i]? = some (o, u) := ⟨(c[i]'hi).1, (c[i]'hi).2, by rw [List.getElem?_eq_getElem hi]⟩
        have hr : (rowsI c)[i]? = some [dint o0, dint u0] := by simp [rowsI, hx, Ins.row]
        have hfi : full[i]? = some [dint o0, dint u0] := by
          rw [← cels, List.getElem?_take_of_lt hi] at hr
          exact hr
        have hrd := arrRow_rd cwid hfi
        have hal : (arrRow full).length = cap * 2 := by rw [arrRow_len cwid, clen]
        have hzr : rowsI (c ++ [(o0, u0)]) = rowsI c ++ [[dint o0, dint u0]] := by simp [rowsI, Ins.row]
        refine t_a ?_
        refine W_reg [81] fun K hK => ?_
        simp [go_sem, hP, hgl, hn, hnew, hnew', hcN]
        refine t_c (j2 @hnew (j2 @hnew' @hrd)) (v1) ?_
        refine ⟨hi, ?_⟩
        refine vcK_appendR (E := 2) (B := 16) (b := a) (n := c.length) (cap := cap) (full := full) (zs := [[dint o0, dint u0]]) (zd := [dint 0, dint 0]) (by simp [go_sem, hP, hgl, hn]) (by simp [go_sem, hP, hgl, hn]) (by simp [go_sem, hnew, hnew']) (by simp [go_sem, hP]) (by rw [hP]; kernel_rfl) rfl ⟨by decide, by decide⟩ (by rw [hP]; rfl) (by rw [hn]; exact Nat.le_of_ble_eq_true rfl) clen cle (by simp; unfold BIG; omega) cwid (by simp) rfl ?_ ?_
        · intro hle
          simp only [List.length_singleton] at hle
          simp [go_sem, hP, hgl, hn, hnew, hnew']
          refine hK _ ?_
          clear hK K
          obtain ⟨g1, g2, g3⟩ := app_full (e := [dint o0, dint u0]) (rest := full.drop (c.length + 1)) (by omega : c.length ≤ full.length) cwid (fun e he => cwid e (List.mem_of_mem_drop he)) rfl
          rw [List.length_drop] at g1
          generalize full.take c.length ++ [dint o0, dint u0] :: full.drop (c.length + 1) = f2 at g1 g2 g3 ⊢
          refine t_g0 ?_
          refine t_a ?_
          refine W_sub [] (by simp [go_sem]) ?_ (by simp [go_sem]) (hrest ⟨a, cap, q2, f2, c ++ [(o0, u0)]⟩ ⟨by simp only; omega, g2, by simp; omega, ?_, by simp; omega, hq2, hnew⟩)
          · simp [go_sem, hnew, hnew', rowLe_arrZ]
          · simp only [List.length_append, List.length_singleton]
            rw [g3, cels, hzr]
        · intro hlt b2 cap2 hc2 hnb hsz
          simp only [List.length_singleton] at hlt hc2
          simp [newB] at hnb
          have hb1 := hnb.1
          have hb1' : ¬ b2 = b := fun e => hb1 e.symm
          have hb2 := hnb.2
          have hb2' : ¬ b2 = a := fun e => hb2 e.symm
          obtain ⟨g1, g2, g3⟩ := app_full (e := [dint o0, dint u0]) (rest := List.replicate (cap2 - (c.length + 1)) [dint 0, dint 0]) (by omega : c.length ≤ full.length) cwid (fun e he => by rw [(List.mem_replicate.1 he).2]; rfl) rfl
          rw [List.length_replicate] at g1
          simp only [List.length_singleton, List.append_assoc, List.singleton_append]
          generalize full.take c.length ++ [dint o0, dint u0] :: List.replicate (cap2 - (c.length + 1)) [dint 0, dint 0] = f2 at g1 g2 g3 ⊢
          simp [go_sem, hP, hgl, hn, hnew, hnew', hb1, hb1', hb2, hb2']
          refine hK _ ?_
          clear hK K
          refine t_g0 ?_
          refine t_a ?_
          refine W_sub [] (by simp [go_sem]) ?_ (by simp [go_sem]) (hrest ⟨b2, cap2, q2, f2, c ++ [(o0, u0)]⟩ ⟨by simp only; omega, g2, by simp; omega, ?_, by simp; omega, hq2, hb1⟩)
          · simp [go_sem, hnew, hnew', hb1, hb1', hb2, hb2', rowLe_arrZ]
          · simp only [List.length_append, List.length_singleton]
            rw [g3, cels, hzr]
      refine t_g (j2 @h0 (j2 @h1 (j2 @h2 @h3))) ?_
      refine t_a ?_
      refine W_sub [] (by simp [go_sem]) ?_ (by simp [go_sem]) (hrest ⟨a, cap, q1, full, c⟩ ⟨clen, cwid, cle, cels, by simp only; omega, hq1, hnew⟩)
      simp [go_sem, hnew, hnew', rowLe_arrZ]
    · rintro ⟨a', cap', q', full', c'⟩ ⟨y1, y2, y3, y4, y5, y6, y7⟩
      simp only at y1 y2 y3 y4 y5 y6 y7 ⊢
      refine W_freezeI (b := a') (E := 2) (full := full') c'.length (by simp [go_sem, y7]) y2 (by omega) (by unfold BIG; omega) (by rw [hids]; simp; exact fun e => y7 e.symm) ?_
      have hvv : frzSV a' (rowsI c') (.v (rawS a' c'.length cap')) = .v (.sl (rowsI c')) := by
        rw [← y4]
        unfold frzSV rawS
        simp only [List.length_take, y1]
        rw [if_pos ⟨trivial, by omega, y3⟩]
      rw [y4]
      have y7' : ¬ a' = b := fun e => y7 e.symm
      have hfz : frzRow a' (rowsI c') [.v (.sl (ints l)), .v (dint (q' : Nat))] = [.v (.sl (ints l)), .v (dint (q' : Nat))] := rfl
      simp [go_sem, frz, frzLV, hvv, y7, y7', hfz]
      refine W_retR hP hf hfn (.sl (rowsI c')) [(b, deck l q')] (by simp [go_sem, hP, hgl, hn]) (by simp [go_sem, objsIn, y7, y7']) (by simp) ?_ hR.2
      rw [hR.1]
      exact ⟨c', q', y5, y6, rfl, rfl⟩
end Go.Proofs.YtmdjiajbnifjpaaDoor.Lift

