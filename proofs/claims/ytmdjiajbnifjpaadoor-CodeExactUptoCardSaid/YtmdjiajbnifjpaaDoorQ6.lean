import Derived.Test.YtmdjiajbnifjpaaDoorQ5
/-
  Package code: Check, walked.
-/
namespace Go.Proofs.YtmdjiajbnifjpaaDoor.Lift
set_option linter.unusedSimpArgs false
set_option linter.unusedVariables false
set_option linter.unnecessarySimpa false
open Go
variable {gl : Globs}

theorem codecheck_ok (hop : globOf gl 0 = some opEls) (c : List Ins) (hb : c.length ≤ 1000000000) : Con1 Tryd.prog gl 23 [.sl (rowsI c)] [] (dint (if (startsN c).2 = true then 0 else 43)) [] := by
  refine t_in Tryd.func23 ?_
  intro X hP hgl hf hfn hn hR hids hfit
  refine t_g0 ?_
  refine t_c1 trivial (starts_ok hop c hb) ?_
  by_cases h : (startsN c).2 = true
  · refine t_g @h ?_
    refine t_r ?_
    simp [go_sem, hP, hgl, hn, h] <;> (try omega)
  · have h' : (startsN c).2 = false := by simpa using h
    refine t_g @h' ?_
    refine t_r ?_
    simp [go_sem, hP, hgl, hn, h'] <;> (try omega)
end Go.Proofs.YtmdjiajbnifjpaaDoor.Lift

/-
  Package code: Term, walked.
-/
namespace Go.Proofs.YtmdjiajbnifjpaaDoor.Lift
set_option linter.unusedSimpArgs false
set_option linter.unusedVariables false
set_option linter.unnecessarySimpa false
open Go
variable {gl : Globs}

set_option maxHeartbeats 2000000 in
set_option maxRecDepth 10000 in
theorem codeterm_ok (hop : globOf gl 0 = some opEls) (c : List Ins) (hb : c.length ≤ 1000000000) : Con1 Tryd.prog gl 21 [.sl (rowsI c)] [] (.tup [(termC c).1.dv, dint (termC c).2]) [] := by
  refine t_in Tryd.func21 ?_
  intro X hP hgl hf hfn hn hR hids hfit
  refine t_g0 ?_
  refine t_c1 trivial (starts_ok hop c hb) ?_
  by_cases hs : (startsN c).2 = true
  · obtain ⟨bs, rfl, hp, hst⟩ := starts_of (starts_snd hs)
    have htc : termC (lay bs) = (termOf bs, 0) := by rw [termC, if_pos hs, split_lay bs hp.no14]
    have hpos : 0 < bs.length := List.length_pos_iff.2 hp.one
    have hsl : (ints (startsN (lay bs)).1).length = bs.length := by rw [hst]; simp [ints, ends_length]; omega
    have hbl : bs.length ≤ 4096 := by have := hp.len; rw [lay_length] at this; omega
    refine t_rg @hs ?_
    refine t_no ?_
    refine t_a ?_
    refine W_reg [22] fun K hK => ?_
    simp [go_sem, hP, hgl, hn, hs]
    refine vcK_makeMap (by rw [hn]; exact Nat.le_of_ble_eq_true rfl) (by rfl) ?_
    intro bm hbm hwm
    simp [go_sem] at hbm
    simp [go_sem, hP, hgl, hn]
    refine hK _ ?_
    clear hK K
    refine t_rg0 ?_
    refine t_rg0 ?_
    refine t_rg @hsl ?_
    rw [hst]
    have hlay := hp.len
    rw [lay_length] at hlay
    refine t_a ?_
    refine W_sub [] (by simp [go_sem]) ?_ (by simp [go_sem]) (W_rounds (fun x : Nat => x ≤ bs.length)
      (fun x => [(.slot 0, .one (.v (.sl (rowsI (lay bs))))), (.slot 4, .one (.v (.sl (ints (0 :: (ends 0 bs).dropLast))))), (.slot 6, .one (.v (.prim (.map (some bm))))), (.slot 7, .one (.loc 7 0)), (.loc 7, .row [.v (dint 5), .own 0 []]), (.slot 8, .one (.v (dint ((bs.drop x).flatten.length : Nat)))), (.slot 9, .one (.v (dint ((x : Int) - 1)))), (.slot 2, .one (.loc 2 0)), (.loc 2, .row [.v (dint 0), .v (dint 0), .v (dint 0), .own 0 [], .own 0 []]), (.heap bm, .mp (mapD (decAt bs x)))])
      (fun x => x) bs.length (Nat.le_refl _) ?_)
    · simp [go_sem, decAt_end hp.one, mapD]
    rintro x hx ihx
    rcases Nat.eq_zero_or_pos x with h0 | h0
    · subst h0
      have hN : ((bs.drop 0).flatten.length) ≤ 4096 := by rw [List.drop_zero]; omega
      have hN' : ¬ (4096 : Int) < ((bs.drop 0).flatten.length : Nat) := by omega
      generalize hNN : (bs.drop 0).flatten.length = NN at *
      refine t_rg0 ?_
      refine t_no ?_
      refine t_rg @hN' ?_
      refine t_no ?_
      obtain ⟨v0, hv0⟩ : ∃ v, (0, v) ∈ decAt bs 0 := (decAt_keys hp.one bs.length 0 (by omega) 0).2 ⟨0, Nat.le_refl _, hpos, by simp [startAt, lay]⟩
      have hlk := lookM_yes ⟨v0, hv0⟩
      have htt : termOf bs = look (decAt bs 0) 0 := by unfold termOf decAt zipS; rw [List.drop_zero]
      generalize look (decAt bs 0) 0 = tt at hlk htt
      refine t_a ?_
      refine W_reg [] fun K hK => ?_
      simp [go_sem, hP, hgl, hn]
      refine vcK_lookup (b := bm) (n := 0) (dv := tt.dv) (by rw [hn]; exact Nat.le_of_ble_eq_true rfl) (by rw [hP]; kernel_rfl) (by simp [go_sem]) (by simp [go_sem]) (by simp [go_sem]) hlk (by rfl) ?_
      have hcd : cellsD tt.dv = [dint tt.kind, dint tt.index, dint tt.type.kind, .sl (tt.type.args.map Ty.cells), .sl (tt.args.map Tm.cells)] := by rw [← Tm.fold tt]; rfl
      have hfo := Tm.fold tt
      simp [go_sem, hP, hgl, hn, hcd]
      refine hK _ ?_
      clear hK K
      refine t_r ?_
      simp [go_sem, hP, hgl, hn, htc, htt, hfo] <;> (try omega)
    · obtain ⟨k, rfl⟩ : ∃ k, x = k + 1 := ⟨x - 1, by omega⟩
      obtain ⟨b, hb⟩ : ∃ b, bs[k]? = some b := ⟨bs[k]'(by omega), List.getElem?_eq_getElem (by omega)⟩
      obtain ⟨la, le, ll⟩ := lay_at bs hb
      have hgk : (ints (0 :: (ends 0 bs).dropLast))[k]? = some [dint ((startAt bs k : Nat) : Int)] := by
        have := starts_get (bs := bs) (k := k) (by omega)
        simp only [ints, List.getElem?_map, this]
        rfl
      have hkI : (0 : Int) ≤ (k : Int) := by omega
      have hstep := decAt_step hb
      have hrow : ∀ j o a, (lay bs)[startAt bs k + j]? = some (o, a) → (rowsI (lay bs))[startAt bs k + j]? = some [dint o, dint a] := by
        intro j o a h
        simp [rowsI, h, Ins.row]
      have hdk : bs.drop k = b :: bs.drop (k + 1) := by
        rw [List.drop_eq_getElem_cons (by omega)]
        congr 1
        rw [List.getElem?_eq_getElem (by omega)] at hb
        exact Option.some.inj hb
      have hNk : (bs.drop k).flatten.length = b.length + (bs.drop (k + 1)).flatten.length := by rw [hdk]; simp
      generalize hNN : (bs.drop (k + 1)).flatten.length = N at *
      have hNb : (bs.drop k).flatten.length ≤ bs.flatten.length := by
        have h1 : bs.flatten.length = (bs.take k).flatten.length + (bs.drop k).flatten.length := by
          rw [← List.length_append, ← List.flatten_append, List.take_append_drop]
        omega
      have hnokey : lookM (mapD (decAt bs (k + 1))) ((startAt bs k : Nat) : Int) = none := by
        refine lookM_no fun hv => ?_
        obtain ⟨k', h1, h2, h3⟩ := (decAt_keys hp.one (bs.length - (k + 1)) (k + 1) (by omega) _).1 hv
        have := startAt_inj bs (i := k) (k := k') (by omega) (by omega) (by omega)
        omega
      have hfk : ∀ (j : Nat) (a : Int), b[j]? = some (2, a) → lookM (mapD (decAt bs (k + 1))) a = some (look (decAt bs (k + 1)) a).dv := by
        intro j a hj
        obtain ⟨k', h1, h2, h3⟩ := fun_later hp hb hj
        exact lookM_yes ((decAt_keys hp.one (bs.length - (k + 1)) (k + 1) (by omega) a).2 ⟨k', h1, h2, h3⟩)
      have hokj : ∀ (j : Nat) (x : Ins), b[j]? = some x → okI (startAt bs k + j) x = true := by
        intro j x hj
        have hjl := (List.getElem?_eq_some_iff.1 hj).1
        have := okCd_at hp.ok (i := startAt bs k + j) (by rw [la j hjl]; exact hj) (hp.no14 b (List.mem_of_getElem? hb) x (List.mem_of_getElem? hj))
        rwa [Nat.zero_add] at this
      generalize hst0 : startAt bs k = st at *
      generalize decAt bs (k + 1) = D at *
      refine t_rg0 ?_
      refine t_yes ?_
      refine t_rg0 ?_
      refine t_rg @hgk ?_
      refine t_a ?_
      refine W_nilslot 10 (by simp [go_sem]) ?_
      simp [go_sem]
      refine W_sub [] (by simp [go_sem]) ?_ (by simp [go_sem]) (W_rounds (fun y : Nat × RS => y.1 ≤ b.length ∧ y.2.is 5 ((runB (look D) (b.take y.1) []).map Tm.cells) ∧ y.2.q ≠ some bm)
        (fun y => (.slot 0, .one (.v (.sl (rowsI (lay bs))))) :: (.slot 4, .one (.v (.sl (ints (0 :: (ends 0 bs).dropLast))))) :: (.slot 6, .one (.v (.prim (.map (some bm))))) :: (.slot 7, .one (.loc 7 0)) :: (.loc 7, .row [.v (dint 5), .own 0 []]) :: (.slot 8, .one (.v (dint ((N + y.1 : Nat) : Int)))) :: (.slot 9, .one (.v (dint (k : Int)))) :: (.slot 2, .one (.loc 2 0)) :: (.loc 2, .row [.v (dint 0), .v (dint 0), .v (dint 0), .own 0 [], .own 0 []]) :: (.slot 11, .one (.v (dint ((st + y.1 : Nat) : Int)))) :: (.slot 10, .one (.v y.2.v)) :: (.heap bm, .mp (mapD D)) :: heapSt y.2.objs)
        (fun y => b.length - y.1) (0, ⟨none, 0, 0, []⟩) ⟨Nat.zero_le _, ?_, by simp⟩ ?_)
      · simp [go_sem, RS.objs]
      · exact ⟨fun _ => ⟨rfl, rfl⟩, rfl, by simp, Nat.le_refl _, by simp [runB]⟩
      rintro ⟨j, S⟩ ⟨j1', hS, hSb⟩ ihj
      simp only at j1' hS hSb
      have hSn : S.n = (runB (look D) (b.take j) []).length := by rw [hS.n_eq, List.length_map]
      have hrl := runB_le (look D) (b.take j) []
      rw [List.length_take, List.length_nil] at hrl
      have htn : ((st : Int) + (j : Int)).toNat = st + j := by omega
      have hbl2 : st + b.length + 1 ≤ 1000000000 := by omega
      rcases Nat.lt_or_ge j b.length with hjl | hjl
      · obtain ⟨o, a, hx0⟩ : ∃ o a, b[j]? = some (o, a) := ⟨(b[j]'hjl).1, (b[j]'hjl).2, by rw [List.getElem?_eq_getElem hjl]⟩
        have hge := hrow j o a (by rw [la j hjl]; exact hx0)
        have hok := hokj j _ hx0
        obtain ⟨htk, htake⟩ := hts_at (hp.high b (List.mem_of_getElem? hb)) hx0 (look D)
        have hrun : runB (look D) (b.take (j + 1)) [] = stepB (look D) (runB (look D) (b.take j) []) (o, a) := by
          rw [htake, runB_append]; rfl
        simp only [okI, Bool.and_eq_true, decide_eq_true_eq] at hok
        obtain ⟨⟨ho1, ho2⟩, ho3⟩ := hok
        simp only at ho1 ho2 htk
        generalize hstk : runB (look D) (b.take j) [] = stk at *
        obtain ⟨n0, rfl⟩ := Int.eq_ofNat_of_zero_le (by omega : 0 ≤ o)
        have hop1 := opEls_get n0 (by omega) (by omega)
        have hn14 : ¬ n0 = 14 := by omega
        have hn14' : ¬ (n0 : Int) = 14 := by omega
        have hnlt : (n0 : Int) < 14 := by omega
        have hnlt' : n0 < 14 := by omega
        have htk3 : takesI (n0 : Int) ≤ 3 := by
          unfold takesI; repeat' split
          all_goals omega
        refine t_rg (j2 @hge (j2 @htn (j2 @hn14 @hn14'))) ?_
        refine t_yes ?_
        refine t_rg (j2 @hge (j2 @htn (j2 @hop (j2 @hop1 (j2 @hnlt @hnlt'))))) ?_
        refine t_rg0 ?_
        refine t_rg0 ?_
        apply W_cutM (fun _ : Unit => True) (fun _ => (.slot 0, .one (.v (.sl (rowsI (lay bs))))) :: (.slot 4, .one (.v (.sl (ints (0 :: (ends 0 bs).dropLast))))) :: (.slot 6, .one (.v (.prim (.map (some bm))))) :: (.slot 7, .one (.loc 7 0)) :: (.loc 7, .row [.v (dint 5), .own 0 []]) :: (.slot 8, .one (.v (dint ((N + j : Nat) : Int)))) :: (.slot 9, .one (.v (dint (k : Int)))) :: (.slot 2, .one (.loc 2 0)) :: (.loc 2, .row [.v (dint 0), .v (dint 0), .v (dint 0), .own 0 [], .own 0 []]) :: (.slot 11, .one (.v (dint ((st + j : Nat) : Int)))) :: (.slot 10, .one (.v S.v)) :: (.slot 83, .one (.v (dbool (decide ((0 : Int) < ((takesI (n0 : Int) : Nat) : Int)))))) :: (.slot 12, .one (.loc 12 0)) :: (.loc 12, .row [.v (dint (takesI (n0 : Int) : Nat)), .v (dint n0)]) :: (.slot 13, .one (.loc 13 0)) :: (.loc 13, .row [.v (dint n0), .v (dint (if n0 = 1 then a else 0)), .v (dint (if hasTy (n0 : Int) = true then 5 else 0)), .v (.sl []), .v (.sl (if n0 = 2 then [(look D a).cells] else []))]) :: (.heap bm, .mp (mapD D)) :: heapSt S.objs)
        · intro hrest
          have hsl1 : ∀ (σ : Nat → Nat) (v : LV) (s : St), subLe σ ((.heap bm, v) :: s) (heapSt S.objs) = subLe σ s (heapSt S.objs) := fun σ v s => subLe_hs_mp σ hSb v s
          have hsl2 : ∀ σ : Nat → Nat, subLe σ (heapSt S.objs) (heapSt S.objs) = True := fun σ => subLe_hs_self σ S.nodup
          by_cases e1 : n0 = 1
          · subst e1
            refine t_g (j2 @hge @htn) ?_
            refine t_b ?_
            refine W_sub [] (by simp [go_sem]) ?_ (by simp [go_sem]) (hrest () trivial)
            simp [go_sem, hsl1, hsl2, hasTy]
            done
          by_cases e2 : n0 = 2
          · subst e2
            have hlk := hfk j a hx0
            have hfo := Tm.fold (look D a)
            have hcd : cellsD (look D a).dv = [dint (look D a).kind, dint (look D a).index, dint (look D a).type.kind, .sl ((look D a).type.args.map Ty.cells), .sl ((look D a).args.map Tm.cells)] := by rw [← hfo]; rfl
            have hcc := Tm.cells_eq (look D a)
            refine t_g0 ?_
            refine W_regd (by rw [hP]; exact mixed) [] fun K hK => ?_
            simp [go_sem, hP, hgl, hn, hge, htn]
            refine ⟨by omega, ?_⟩
            refine vcdC_lookup (b := bm) (n := a) (ml := mapD D) (dv := (look D a).dv) (fun _ _ => vcd_sound) (by rw [hn]; exact Nat.le_of_ble_eq_true rfl) (by rw [hP]; kernel_rfl) (by simp [go_sem]) (by simp [go_sem]) (by simp [go_sem]) hlk (by rfl) ?_
            simp [go_sem, hP, hgl, hn, hge, htn, hcd]
            refine ⟨by rfl, hK _ ?_⟩
            clear hK K
            refine t_rg0 ?_
            refine t_b ?_
            refine W_sub [] (by simp [go_sem]) ?_ (by simp [go_sem]) (hrest () trivial)
            simp [go_sem, hsl1, hsl2, hasTy, hcc]
          by_cases e3 : n0 = 6 ∨ n0 = 9
          · have e3' : hasTy (n0 : Int) = true := by
              rcases e3 with rfl | rfl <;> rfl
            have ha0 : ¬ (n0 : Int) = 1 := by omega
            have ha1 : ¬ (n0 : Int) = 2 := by omega
            rcases e3 with rfl | rfl
            · refine t_g0 ?_
              refine t_b ?_
              refine W_sub [] (by simp [go_sem]) ?_ (by simp [go_sem]) (hrest () trivial)
              simp [go_sem, hsl1, hsl2, hasTy]
            · refine t_g0 ?_
              refine t_b ?_
              refine W_sub [] (by simp [go_sem]) ?_ (by simp [go_sem]) (hrest () trivial)
              simp [go_sem, hsl1, hsl2, hasTy]
          · have e4 : ¬ n0 = 6 := fun e => e3 (.inl e)
            have e5 : ¬ n0 = 9 := fun e => e3 (.inr e)
            have ha0 : ¬ (n0 : Int) = 1 := by omega
            have ha1 : ¬ (n0 : Int) = 2 := by omega
            have ha2 : ¬ (n0 : Int) = 6 := by omega
            have ha3 : ¬ (n0 : Int) = 9 := by omega
            refine t_g (j2 @e1 (j2 @e2 (j2 @e4 (j2 @e5 (j2 @ha0 (j2 @ha1 (j2 @ha2 @ha3))))))) ?_
            refine t_b ?_
            refine W_sub [] (by simp [go_sem]) ?_ (by simp [go_sem]) (hrest () trivial)
            simp [go_sem, hsl1, hsl2, hasTy, e1, e2, e4, e5, ha0, ha1, ha2, ha3]
        · intro _ _
          have hn0 : n0 = 2 → takesI (n0 : Int) = 0 := fun e => by subst e; rfl
          apply W_cutM (fun S1 : RS => S1.is 5 ((stk.take (stk.length - takesI (n0 : Int))).map Tm.cells) ∧ S1.q ≠ some bm) (fun S1 => (.slot 0, .one (.v (.sl (rowsI (lay bs))))) :: (.slot 4, .one (.v (.sl (ints (0 :: (ends 0 bs).dropLast))))) :: (.slot 6, .one (.v (.prim (.map (some bm))))) :: (.slot 7, .one (.loc 7 0)) :: (.loc 7, .row [.v (dint 5), .own 0 []]) :: (.slot 8, .one (.v (dint ((N + j : Nat) : Int)))) :: (.slot 9, .one (.v (dint (k : Int)))) :: (.slot 2, .one (.loc 2 0)) :: (.loc 2, .row [.v (dint 0), .v (dint 0), .v (dint 0), .own 0 [], .own 0 []]) :: (.slot 11, .one (.v (dint ((st + j : Nat) : Int)))) :: (.slot 10, .one (.v S1.v)) :: (.slot 13, .one (.loc 13 0)) :: (.loc 13, .row [.v (dint n0), .v (dint (if n0 = 1 then a else 0)), .v (dint (if hasTy (n0 : Int) = true then 5 else 0)), .v (.sl []), .v (.sl ((if n0 = 2 then [look D a] else stk.drop (stk.length - takesI (n0 : Int))).map Tm.cells))]) :: (.heap bm, .mp (mapD D)) :: heapSt S1.objs)
          · intro hrest
            by_cases ht0 : takesI (n0 : Int) = 0
            · have hsl1 : ∀ (σ : Nat → Nat) (v : LV) (s : St), subLe σ ((.heap bm, v) :: s) (heapSt S.objs) = subLe σ s (heapSt S.objs) := fun σ v s => subLe_hs_mp σ hSb v s
              have hsl2 : ∀ σ : Nat → Nat, subLe σ (heapSt S.objs) (heapSt S.objs) = True := fun σ => subLe_hs_self σ S.nodup
              have hargs : ((if n0 = 2 then [look D a] else stk.drop (stk.length - takesI (n0 : Int))).map Tm.cells) = if n0 = 2 then [(look D a).cells] else [] := by
                rw [ht0]
                split
                · rfl
                · simp
              rw [ht0, Nat.sub_zero, List.take_length] at hrest
              rw [ht0, Nat.sub_zero] at hargs
              refine t_a ?_
              refine W_cond rfl ?_ ?_
              · intro h; rw [ht0] at h; simp at h
              intro _
              refine t_b ?_
              refine W_sub [] (by simp [go_sem]) ?_ (by simp [go_sem]) (hrest S ⟨hS, hSb⟩)
              rw [hargs]
              simp [go_sem, hsl1, hsl2]
            · have htp : 0 < takesI (n0 : Int) := Nat.pos_of_ne_zero ht0
              have hn2 : ¬ n0 = 2 := fun e => ht0 (hn0 e)
              have hlt0 : (0 : Int) < ((takesI (n0 : Int) : Nat) : Int) := by omega
              obtain ⟨aS, haS⟩ := hS.there (by intro e; have := congrArg List.length e; simp at this; rw [this] at htk; simp at htk; omega)
              have hgS := RS.get_objs haS
              have hSv : S.v = rawS aS S.n S.cap := by unfold RS.v rawQ; rw [haS]; rfl
              have hbne : ¬ bm = aS := fun e => hSb (by rw [haS, e])
              generalize hT : takesI (n0 : Int) = tk at *
              have hlo : ((S.n : Int) - (tk : Int)).toNat = S.n - tk := by omega
              have hcap := hS.le
              have hdrop : (S.full.drop (S.n - tk)).take tk = (stk.drop (stk.length - tk)).map Tm.cells := by
                have h1 := hS.els
                have h2 : ((S.full.take S.n).drop (S.n - tk)) = (S.full.drop (S.n - tk)).take tk := by
                  rw [List.drop_take]
                  congr 1
                  omega
                rw [← h2, h1, hSn, List.map_drop]
              have hS2 : RS.is ⟨S.q, S.n - tk, S.cap, S.full⟩ 5 ((stk.take (stk.length - tk)).map Tm.cells) := by
                refine ⟨fun e => (by rw [haS] at e; cases e), hS.len, hS.wid, by show S.n - tk ≤ S.cap; omega, ?_⟩
                show S.full.take (S.n - tk) = _
                have h1 := congrArg (List.take (S.n - tk)) hS.els
                rw [List.take_take, Nat.min_eq_left (by omega), ← List.map_take, hSn] at h1
                rw [hSn]
                exact h1
              refine t_a ?_
              refine W_cond rfl ?_ ?_
              rotate_left
              · intro h; rw [decide_eq_true hlt0] at h; cases h
              intro _
              refine t_a ?_
              refine W_reg [90, 91] fun K hK => ?_
              simp [go_sem, hP, hgl, hn, hSv]
              repeat (refine ⟨by omega, ?_⟩)
              refine vcK_sliceR (E := 5) (b := aS) (n := S.n) (cap := S.cap) (l := (S.n : Int) - tk) (by simp [go_sem, hP]) (by rw [hn]; exact Nat.le_of_ble_eq_true rfl) (by simp [go_sem]) (by simp [go_sem]; rfl) (by omega) (by omega) (by omega) hcap (by rfl) ?_
              rw [hlo]
              simp [go_sem, hP, hgl, hn]
              have hk2 : S.n - (S.n - tk) = tk := by omega
              rw [hk2]
              refine vcK_appendV (E := 5) (B := 72) (b := aS) (lo := S.n - tk) (k := tk) (cap := S.cap - (S.n - tk)) (full := S.full) (by simp [go_sem, hP]) (by decide) (by rw [hP]; rfl) (by rw [hn]; exact Nat.le_of_ble_eq_true rfl) (by simp [go_sem]) (by simp [go_sem]) (by simp [go_sem, hbne, hgS]) hS.wid (by rw [hS.len]; omega) htp (by unfold BIG; omega) (by rfl) ?_
              rw [hdrop]
              simp [go_sem, hP, hgl, hn]
              refine hK _ ?_
              clear hK K
              refine t_rg @hSv ?_
              refine t_b ?_
              have hv2 : RS.v ⟨S.q, S.n - tk, S.cap, S.full⟩ = rawS aS (S.n - tk) S.cap := by unfold RS.v rawQ; rw [haS]; rfl
              have hob : RS.objs ⟨S.q, S.n - tk, S.cap, S.full⟩ = S.objs := rfl
              have hsl1 : ∀ (σ : Nat → Nat) (v : LV) (s : St), subLe σ ((.heap bm, v) :: s) (heapSt S.objs) = subLe σ s (heapSt S.objs) := fun σ v s => subLe_hs_mp σ hSb v s
              have hsl2 : ∀ σ : Nat → Nat, subLe σ (heapSt S.objs) (heapSt S.objs) = True := fun σ => subLe_hs_self σ S.nodup
              refine W_sub [] (by simp [go_sem]) ?_ (by simp [go_sem]) (hrest ⟨S.q, S.n - tk, S.cap, S.full⟩ ⟨hS2, hSb⟩)
              rw [hv2, hob, if_neg hn2]
              simp [go_sem, hsl1, hsl2]
          · rintro S1 ⟨hS1, hS1b⟩
            have hS1n : S1.n ≤ 1000000000 := by
              rw [hS1.n_eq]
              simp only [List.length_map, List.length_take]
              omega
            refine t_a ?_
            refine W_reg [103] fun K hK => ?_
            simp [go_sem, hP, hgl, hn]
            refine vcK_effM (x := S1) (E := 5) (zs := [[dint n0, dint (if n0 = 1 then a else 0), dint (if hasTy (n0 : Int) = true then 5 else 0), .sl [], .sl ((if n0 = 2 then [look D a] else stk.drop (stk.length - takesI (n0 : Int))).map Tm.cells)]]) rfl (by repeat (first | exact TailM.nil | apply TailM.slot | apply TailM.loc)) rfl hS1 hS1b (free_append (E := 5) (B := 72) (zd := [dint 0, dint 0, dint 0, .sl [], .sl []]) rfl rfl (by rw [hn]; exact Nat.le_of_ble_eq_true rfl) (by simp [go_sem, hP]) (by decide) (by rw [hP]; rfl) (by simp [go_sem, hP, hgl, hn]) (by simp [go_sem, hP, hgl, hn]) (fun b' hb' => ?_) hS1.nil hS1.len hS1.le (by simp) (by simp; unfold BIG; omega) hS1.wid (by simp) (by rw [hP]; kernel_rfl) rfl) (by rfl) ?_
            · have hbne : ¬ bm = b' := fun e => hS1b (by rw [hb', e])
              have := RS.get_objs hb'
              simp [go_sem, hbne, this]
            · intro S2 hS2 hS2b
              simp [go_sem, hP, hgl, hn]
              refine hK _ ?_
              clear hK K
              generalize (if n0 = 2 then [look D a] else stk.drop (stk.length - takesI (n0 : Int))) = ags
              repeat (first | refine W_seq ?_ | refine W_skip ?_ | refine W_block ?_ | refine W_inBlock ?_ | refine W_label ?_ | refine W_exit rfl ?_)
              first | refine W_reg [] fun K hK => ?_ | refine W_regd (by rw [hP]; exact mixed) [] fun K hK => ?_
              simp [go_sem, hP, hgl, hn]
              repeat (refine ⟨by omega, ?_⟩)
              first | refine hK _ ?_ | refine ⟨by rfl, hK _ ?_⟩
              clear hK K
              repeat (first | refine W_seq ?_ | refine W_skip ?_ | refine W_block ?_ | refine W_inBlock ?_ | refine W_label ?_ | refine W_exit rfl ?_)
              first | refine W_reg [] fun K hK => ?_ | refine W_regd (by rw [hP]; exact mixed) [] fun K hK => ?_
              simp [go_sem, hP, hgl, hn]
              repeat (refine ⟨by omega, ?_⟩)
              first | refine hK _ ?_ | refine ⟨by rfl, hK _ ?_⟩
              clear hK K
              refine t_b ?_
              have hsl1 : ∀ (σ : Nat → Nat) (v : LV) (s : St), subLe σ ((.heap bm, v) :: s) (heapSt S2.objs) = subLe σ s (heapSt S2.objs) := fun σ v s => subLe_hs_mp σ hS2b v s
              have hsl2 : ∀ σ : Nat → Nat, subLe σ (heapSt S2.objs) (heapSt S2.objs) = True := fun σ => subLe_hs_self σ S2.nodup
              refine W_sub [] (by simp [go_sem]) ?_ (by simp [go_sem]) (ihj (j + 1, S2) ⟨hjl, ?_, hS2b⟩ (by simp only; omega))
              · simp [go_sem, hsl1, hsl2]
                omega
              · rw [hrun]
                have hce : (Tm.mk (n0 : Int) (if (n0 : Int) = 1 then a else 0) (if hasTy (n0 : Int) = true then uTy else zTy) (if (n0 : Int) = 2 then [look D a] else stk.drop (stk.length - takesI (n0 : Int)))).cells = [dint n0, dint (if n0 = 1 then a else 0), dint (if hasTy (n0 : Int) = true then 5 else 0), .sl [], .sl ((if n0 = 2 then [look D a] else stk.drop (stk.length - takesI (n0 : Int))).map Tm.cells)] := by
                  rw [Tm.cells_eq]
                  simp only [Tm.kind_mk, Tm.index_mk, Tm.type_mk, Tm.args_mk]
                  have h1 : ((n0 : Int) = 1) = (n0 = 1) := by apply propext; omega
                  have h2 : ((n0 : Int) = 2) = (n0 = 2) := by apply propext; omega
                  simp only [h1, h2]
                  by_cases h5 : hasTy (n0 : Int) = true
                  · simp only [h5, if_true]; rfl
                  · simp only [h5]; rfl
                unfold stepB
                rw [List.map_append, List.map_cons, List.map_nil, hce]
                exact hS2
      · have hje : j = b.length := by omega
        subst hje
        have hge := hrow b.length 14 0 le
        refine t_rg (j2 @hge @htn) ?_
        refine t_no ?_
        have hlen1 := runB_len (look D) b [] 1 (by simpa using hp.high b (List.mem_of_getElem? hb))
        rw [List.take_length] at hS
        obtain ⟨tt, htt⟩ : ∃ tt, runB (look D) b [] = [tt] := List.length_eq_one_iff.1 (by omega)
        rw [htt] at hS hstep
        obtain ⟨aS, haS⟩ := hS.there (by simp)
        have hgS := RS.get_objs haS
        have hSv : S.v = rawS aS S.n S.cap := by unfold RS.v rawQ; rw [haS]; rfl
        have hSn1 : S.n = 1 := by rw [hS.n_eq]; rfl
        have hbne : ¬ bm = aS := fun e => hSb (by rw [haS, e])
        have hrd := arrRow_rd hS.wid (hS.at (i := 0) rfl)
        rw [Tm.cells_eq tt] at hrd
        simp only [Nat.zero_mul, List.drop_zero] at hrd
        have hfo := Tm.fold tt
        generalize hφ : S.objs = φs at hgS ⊢
        refine t_a ?_
        refine W_regT (by rw [hP]; exact mixed) 8 (by decide) (by rfl) [] [] fun K hK => ?_
        simp [go_sem, hP, hgl, hn, hgS, hSv, hrd, hbne, hgk, hSn1, hfo]
        repeat (refine ⟨by omega, ?_⟩)
        refine ⟨by rfl, ?_⟩
        refine vcK_mapUpdate (b := bm) (n := st) (ml := mapD D) (dv := tt.dv) (by rw [hP]; kernel_rfl) (by simp [go_sem]) (by simp [go_sem]) (by simp [go_sem]) (by simp [go_sem]) hnokey (by rfl) ?_
        simp [go_sem]
        refine hK _ ?_
        clear hK K
        refine t_rg0 ?_
        refine t_b ?_
        refine W_sub [] (by simp [go_sem]) ?_ (by simp [go_sem]) (ihx k (by omega) (by omega))
        have e1 : mapD (decAt bs k) = mapD D ++ [((st : Int), tt.dv)] := by rw [hstep, mapD_app]; rfl
        rw [e1, hNk]
        simp [go_sem]
        omega
  · have hs' : (startsN c).2 = false := by simpa using hs
    have htc : termC c = (.mk 0 0 zTy [], 43) := by rw [termC, if_neg hs]
    refine t_g @hs' ?_
    refine t_r ?_
    simp [go_sem, hP, hgl, hn, htc, zTy] <;> (try omega)
    all_goals exact t_f
end Go.Proofs.YtmdjiajbnifjpaaDoor.Lift

/-
  The laws of layer 37: the sanity check.
-/
namespace Go.Proofs.YtmdjiajbnifjpaaDoor.Lift
set_option linter.unusedSimpArgs false
set_option linter.unusedVariables false
set_option linter.unnecessarySimpa false
open Go
variable {gl : Globs}

/-- a term's program is valid, and leads back -/
theorem codeN_back (t : Tm) (h : t.shape = true) (hl : t.codeN.length ≤ 4096) : (startsN t.codeN).2 = true ∧ termC t.codeN = (t.untyped, 0) := by
  have hp := code_prg t h hl
  have h1 := starts_to hp
  rw [← code_lay] at h1
  have h2 : (startsN t.codeN).2 = true := by rw [h1]
  refine ⟨h2, ?_⟩
  rw [termC, if_pos h2, code_lay, split_lay _ hp.no14, code_back t h]

/-- the identity -/
def idT : Tm := .mk 2 0 (.mk 1 []) [.mk 1 0 (.mk 0 []) []]
theorem idT_code : idT.codeN = [(2, 2), (14, 0), (1, 0), (14, 0)] := by
  have h1 : Tm.bfs [idT] = [idT, .mk 1 0 (.mk 0 []) []] := by
    rw [Tm.bfs_cons]
    have e1 : ([] : List Tm) ++ idT.subs = [.mk 1 0 (.mk 0 []) []] := rfl
    rw [e1, Tm.bfs_cons]
    have e2 : ([] : List Tm) ++ (Tm.mk 1 0 (.mk 0 []) []).subs = [] := rfl
    rw [e2, Tm.bfs_nil]
  unfold Tm.codeN Tm.blocks
  rw [h1]
  rfl
theorem idT_comp : idT.compN = ([(2, 2), (14, 0), (1, 0), (14, 0)], 0) := by
  unfold Tm.compN
  rw [idT_code]
  rfl
theorem idT_back : (startsN [(2, 2), (14, 0), (1, 0), (14, 0)]).2 = true ∧ termC [(2, 2), (14, 0), (1, 0), (14, 0)] = (idT.untyped, 0) := by
  rw [← idT_code]
  exact codeN_back idT rfl (by rw [idT_code]; decide)

set_option maxHeartbeats 1000000 in
set_option maxRecDepth 10000 in
theorem awake37_ok (har : globOf gl 1 = some arEls) (hop : globOf gl 0 = some opEls) : Con1 Tryd.prog gl 8 [] [] (dbool true) [] := by
  have w1 := compile_ok (gl := gl) har hop idT (by simp [idT, Tm.tys, Tm.tys.tyss, Ty.count, Ty.count.counts]) (by decide)
  rw [idT_comp] at w1
  have w2 := codeterm_ok (gl := gl) hop [(2, 2), (14, 0), (1, 0), (14, 0)] (by decide)
  rw [idT_back.2] at w2
  have w3 := codecheck_ok (gl := gl) hop [(2, 2), (14, 0), (1, 0), (14, 0)] (by decide)
  rw [if_pos idT_back.1] at w3
  have w4 := codecheck_ok (gl := gl) hop [] (by decide)
  refine t_in Tryd.func8 ?_
  intro X hP hgl hf hfn hn hR hids hfit
  have hid : DV.agg [.prim (.int .i64 2), .prim (.int .i64 0), .prim (.int .i64 1), .sl [], .sl [[.prim (.int .i64 1), .prim (.int .i64 0), .prim (.int .i64 0), .sl [], .sl []]]] = idT.dv := rfl
  have hu : idT.untyped = .mk 2 0 (.mk 5 []) [.mk 1 0 (.mk 0 []) []] := rfl
  have hr : rowsI [(2, 2), (14, 0), (1, 0), (14, 0)] = [[dint 2, dint 2], [dint 14, dint 0], [dint 1, dint 0], [dint 14, dint 0]] := rfl
  have hr0 : rowsI [] = [] := rfl
  have hs0 : (startsN []).2 = false := rfl
  refine t_g0 ?_
  refine t_c1 @hid w1 ?_
  refine t_c1 trivial w2 ?_
  rw [hu]
  rw [hr] at w3
  rw [hr0, hs0] at w4
  repeat (first | refine W_seq ?_ | refine W_skip ?_ | refine W_block ?_ | refine W_inBlock ?_ | refine W_label ?_ | refine W_exit rfl ?_)
  first | refine W_reg [] fun K hK => ?_ | refine W_regd (by rw [hP]; exact mixed) [] fun K hK => ?_
  simp [go_sem, hP, hgl, hn, hr]
  refine vcK_eqSG (dj := 31) (a := 2) (b := 2) (c := 2) (e := 2) false (by rw [hn]; exact Nat.le_of_ble_eq_true rfl) (by rw [hP]; kernel_rfl) (by simp [go_sem]) (by simp [go_sem]) rfl (by rfl) (by simp [go_sem]) (by rw [hn]; exact Nat.le_of_ble_eq_true rfl) (by simp [go_sem]) ?_
  have he : eqR false 2 2 2 2 = true := rfl
  rw [he]
  simp [go_sem, hP, hgl, hn]
  refine t_c trivial (w3) ?_
  refine t_c trivial (w4) ?_
  refine t_e ?_
  clear hK K
  refine t_r ?_
  simp [go_sem, hP, hgl, hn] <;> (try omega)
end Go.Proofs.YtmdjiajbnifjpaaDoor.Lift

/-
  The law CodeExact, walked.
-/
namespace Go.Proofs.YtmdjiajbnifjpaaDoor.Lift
set_option linter.unusedSimpArgs false
set_option linter.unusedVariables false
set_option linter.unnecessarySimpa false
open Go
variable {gl : Globs}

/-- a sum that is not counted on beyond 20000 -/
def sumF {α : Type} (f : α → Int) : List α → Int → Int
  | [], n => n
  | x :: r, n => if n ≤ 20000 then sumF f r (n + f x) else n
theorem sumF_stop {α : Type} (f : α → Int) (l : List α) (n : Int) (h : ¬ n ≤ 20000) : sumF f l n = n := by cases l <;> simp [sumF, h]
theorem count0_ok : Con1 Tryd.prog gl 10 [] [] (.agg [dint 0]) [] := by
  refine t_in Tryd.func10 ?_
  intro X hP hgl hf hfn hn hR hids hfit
  refine t_g0 ?_
  refine t_r ?_
  simp [go_sem, hP, hgl, hn] <;> (try omega)
  all_goals exact t_f
theorem sumfew_ok (n : Int) : Con1 Tryd.prog gl 12 [.agg [dint n]] [] (dbool (decide (n ≤ 20000))) [] := by
  refine t_in Tryd.func12 ?_
  intro X hP hgl hf hfn hn hR hids hfit
  refine t_g0 ?_
  refine t_r ?_
  simp [go_sem, hP, hgl, hn] <;> (try omega)

set_option maxHeartbeats 1000000 in
theorem sumterm_ok (l : List Tm) (n : Int) (hl : l.length ≤ 1000) (ht : ∀ x ∈ l, x.tot ≤ 2000000) (h0 : 0 ≤ n) (hn3 : n ≤ 3000000) :
    Con1 Tryd.prog gl 11 [.agg [dint n], .sl (l.map Tm.cells)] [] (.agg [dint (sumF (fun t => t.cntN 20000) l n)]) [] := by
  refine t_in Tryd.func11 ?_
  intro X hP hgl hf hfn hn hR hids hfit
  refine t_g0 ?_
  refine t_a ?_
  refine t_sub [] trivial (W_rounds (fun x : Nat × Int => x.1 ≤ l.length ∧ 0 ≤ x.2 ∧ x.2 ≤ 3000000 ∧ sumF (fun t => Tm.cntN t 20000) (l.drop x.1) x.2 = sumF (fun t => Tm.cntN t 20000) l n) (fun x : Nat × Int => [(.slot 1, .one (.v (.sl (l.map Tm.cells)))), (.slot 5, .one (.v (dint x.1))), (.slot 2, .one (.loc 2 0)), (.loc 2, .row ([.v (dint x.2)])), (.slot 4, .one (.loc 4 0)), (.loc 4, .row ([.v (dint 0)]))]) (fun x : Nat × Int => l.length - x.1) (0, n) (⟨Nat.zero_le _, h0, hn3, rfl⟩) ?_)
  rintro ⟨i, m⟩ ⟨i1, i2, i3, i4⟩ ih
  simp only at i1 i2 i3 i4
  have wf := sumfew_ok (gl := gl) m
  by_cases hi : i < l.length
  · have hg : l[i]? = some l[i] := List.getElem?_eq_getElem hi
    have hd : l.drop i = l[i] :: l.drop (i + 1) := List.drop_eq_getElem_cons hi
    generalize hx : l[i] = x at *
    have hxm : x ∈ l := List.mem_of_getElem? hg
    rw [hd] at i4
    by_cases hm : m ≤ 20000
    · simp only [sumF] at i4
      rw [if_pos hm] at i4
      have hb := Tm.cnt_bd x 20000
      have hxt := ht x hxm
      have w := countterm_ok (gl := gl) x 20000 (by omega) (by omega)
      rw [decide_eq_true hm] at wf
      have hgm : (l.map Tm.cells)[i]? = some x.cells := by rw [List.getElem?_map, hg]; rfl
      have hcx := Tm.cells_eq x
      have hfx := Tm.fold x
      have hnx := ih (i + 1, m + x.cntN 20000) ⟨by show i + 1 ≤ l.length; omega, by show 0 ≤ m + x.cntN 20000; omega, by show m + x.cntN 20000 ≤ 3000000; omega, i4⟩ (by show l.length - (i + 1) < l.length - i; omega)
      generalize x.cntN 20000 = cx at *
      refine t_g0 ?_
      refine t_c1 @hi wf ?_
      refine t_yes ?_
      refine t_g0 ?_
      refine t_c1 (j2 @hgm (j2 @hcx @hfx)) w ?_
      refine t_gt (wr []) trivial trivial hnx
    · rw [sumF_stop _ _ _ hm] at i4
      rw [decide_eq_false hm] at wf
      rw [← i4] at hR
      refine t_g0 ?_
      refine t_c1 @hi wf ?_
      refine t_no ?_
      refine t_g0 ?_
      refine t_r ?_
      simp [go_sem, hP, hgl, hn] <;> (try omega)
  · have hil : i = l.length := by omega
    subst hil
    rw [List.drop_length] at i4
    simp only [sumF] at i4
    rw [← i4] at hR
    refine t_g0 ?_
    refine t_r ?_
    simp [go_sem, hP, hgl, hn] <;> (try omega)


theorem code_ne (t : Tm) : t.codeN ≠ [] := by
  rw [code_lay]
  intro e
  have := congrArg List.length e
  simp only [lay_length, List.length_nil] at this
  have h1 := blocks_ne t
  have h2 : t.code.length = t.blocks.length := fillB_length _ _ _
  exact h1 (List.length_eq_zero_iff.1 (by omega))
theorem frz_sl (b : Nat) (ys ls : List (List DV)) : frzSV b ys (.v (.sl ls)) = .v (.sl ls) := rfl
theorem frz_int (b : Nat) (ys : List (List DV)) (n : Int) : frzSV b ys (.v (dint n)) = .v (dint n) := rfl
theorem frz_ptr (b a : Nat) (ys : List (List DV)) : frzSV b ys (.v (ptr a)) = .v (ptr a) := rfl

set_option maxHeartbeats 2000000 in
set_option maxRecDepth 100000 in
theorem codeExact_ok (har : globOf gl 1 = some arEls) (hop : globOf gl 0 = some opEls) (l : List Int) (t : Tm) (c : List Ins) (ht : t.tot ≤ 1048576) (hc : c.length ≤ 1048576) :
    Con1 Tryd.prog gl 3 [.sl (ints l), t.dv, .sl (rowsI c)] [] (dbool true) [] := by
  have wa := awake37_ok (gl := gl) har hop
  obtain ⟨ct1, ct2⟩ := Tm.tot_count t
  have ct2 := ct2 (by omega)
  have hft := Tm.fold t
  have hcl : (rowsI c).length = c.length := by simp [rowsI]
  have q0 := count0_ok (gl := gl)
  have q2 := sumterm_ok (gl := gl) [t] 0 (by simp) (by simp; omega) (by decide) (by decide)
  have hSv : sumF (fun t => Tm.cntN t 20000) [t] 0 = t.cntN 20000 := by simp [sumF]
  have hcb := (Tm.cnt_bd t 20000).2.2
  rw [← hSv] at hcb
  clear hSv
  generalize sumF (fun t => Tm.cntN t 20000) [t] 0 = S at *
  have q4 := sumfew_ok (gl := gl) S
  simp only [List.map_cons, List.map_nil, Tm.cells_eq t] at q2
  refine t_in Tryd.func3 ?_
  intro X hP hgl hf hfn hn hR hids hfit
  by_cases hl : l.length ≤ 500
  rotate_left
  · refine t_g0 ?_
    refine t_c2 @hl wa (few_ok l) ?_
    refine t_g0 ?_
    refine t_c1 trivial wa ?_
    refine t_r ?_
    simp [go_sem, hP, hgl, hn] <;> (try omega)
  by_cases hS : S ≤ 20000
  rotate_left
  · rw [decide_eq_false hS] at q4
    refine t_g0 ?_
    refine t_c5 (j2 @hl @hft) wa (few_ok l) q0 q2 q4 ?_
    refine t_g0 ?_
    refine t_c1 trivial wa ?_
    refine t_r ?_
    simp [go_sem, hP, hgl, hn] <;> (try omega)
  rw [decide_eq_true hS] at q4
  by_cases hlc : 6000 < c.length
  · have hlc' : (6000 : Int) < (c.length : Int) := by omega
    refine t_g0 ?_
    refine t_c5 (j2 @hl (j2 @hft (j2 @hcl @hlc'))) wa (few_ok l) q0 q2 q4 ?_
    refine t_g0 ?_
    refine t_c1 trivial wa ?_
    refine t_r ?_
    simp [go_sem, hP, hgl, hn] <;> (try omega)
  have hlc' : ¬ (6000 : Int) < (c.length : Int) := by omega
  refine t_g0 ?_
  refine t_c5 (j2 @hl (j2 @hft (j2 @hcl @hlc'))) wa (few_ok l) q0 q2 q4 ?_
  refine t_g0 ?_
  refine t_a ?_
  refine W_reg [] fun K hK => ?_
  simp [go_sem, hP, hgl, hn]
  repeat (refine ⟨by omega, ?_⟩)
  refine vcK_callR hP hgl (new_ok l) (by simp [go_sem]) rfl (by simp [go_sem]) (by simp) (by rw [hn]; exact Nat.le_of_ble_eq_true rfl) ?_
  rintro r φ ⟨b0, rfl, rfl⟩ -
  simp [go_sem, hP, hgl, hn]
  refine hK _ ?_
  clear hK K
  obtain ⟨c1, c2, c3⟩ := ctxD_facts l (p := 0) (by omega)
  have wc := mk_context_ok (gl := gl) b0 l 0 hl (by omega)
  generalize ctxD l 0 = cd at *
  obtain ⟨g, p1⟩ := cd
  simp only at c1 c2 c3 wc
  obtain ⟨d1, d2⟩ := typeD_small l (n := 1) c1 (by decide)
  have wt := mk_type_ok (gl := gl) 1 b0 l p1 hl c1 (by decide)
  generalize typeD l 1 p1 = td at *
  obtain ⟨ty, p2⟩ := td
  simp only at d1 d2 wt
  have ws := mk_term_ok (gl := gl) b0 l hl 3 (by decide) ty g p2 d2 c2 (by omega) d1
  obtain ⟨f1, f2⟩ := termD_facts (l := l) closed_shape 3 ty g p2 d2 c2 d1
  have g1 := termD_count' l 3 ty g p2 d2 c2 d1
  generalize termD l 3 ty g p2 = xd at *
  obtain ⟨x, p3⟩ := xd
  simp only at f1 f2 g1 ws
  have hB : drawC 3 = 1267 := rfl
  rw [hB] at g1
  have hfy := Ty.fold ty
  have hfx := Tm.fold x
  have hcx := Tm.cells_eq x
  have hct := Tm.cells_eq t
  have hcdt : cellsD t.dv = [dint t.kind, dint t.index, dint t.type.kind, .sl (t.type.args.map Ty.cells), .sl (t.args.map Tm.cells)] := by rw [← hft]; rfl
  have hcdx : cellsD x.dv = [dint x.kind, dint x.index, dint x.type.kind, .sl (x.type.args.map Ty.cells), .sl (x.args.map Tm.cells)] := by rw [← hfx]; rfl
  refine t_c3 (j2 @hfy (j2 @hft (j2 @hfx (j2 @hcdt @hcdx)))) wc wt ws ?_
  have hS2 := hcb hS
  have hus : ∀ u ∈ [t, x], u.tys ∧ u.count ≤ 1000000 := by
    intro u hu
    rcases List.mem_cons.1 hu with rfl | hu
    · exact ⟨ct2, by omega⟩
    · rw [List.mem_singleton.1 hu]
      exact ⟨shape_tys _ f2, by omega⟩
  have hlist : [t.cells, x.cells] = [t, x].map Tm.cells := rfl
  have hlen2 : [t, x].length = 2 := rfl
  rw [hct, hcx] at hlist
  rw [hlist]
  generalize [t, x] = ts at *
  refine t_a ?_
  refine t_sub [] trivial (W_rounds (fun i : Nat => i ≤ ts.length) (fun i : Nat => [(.slot 2, .one (.v (.sl (rowsI c)))), (.slot 7, .one (.v (ptr b0))), (.heap b0, .row ([.v (.sl (ints l)), .v (dint p3)])), (.slot 51, .one (.v (.sl (ts.map Tm.cells)))), (.slot 52, .one (.v (dint 2))), (.slot 53, .one (.v (dint i)))]) (fun i : Nat => ts.length - i) 0 (Nat.zero_le _) ?_)
  rintro i i1 ihr
  rcases Nat.lt_or_ge i ts.length with hlt | hge
  · obtain ⟨u, hu⟩ : ∃ u, ts[i]? = some u := ⟨_, List.getElem?_eq_getElem hlt⟩
    obtain ⟨u1, u2⟩ := hus u (List.mem_of_getElem? hu)
    have hlt2 : (i : Int) < 2 := by omega
    have hfu := Tm.fold u
    have hcu := Tm.cells_eq u
    have hgu : (ts.map Tm.cells)[i]? = some u.cells := by rw [List.getElem?_map, hu]; rfl
    rw [hcu] at hgu
    have w1 := compile_ok (gl := gl) har hop u u1 u2
    have w2 := refcompile_ok (gl := gl) u u1 u2
    have hul : u.compN.1.length ≤ 4096 := by
      unfold Tm.compN
      split
      · split
        · exact Nat.zero_le _
        · simp only; omega
      · exact Nat.zero_le _
    have w3 := same37_ok (gl := gl) u.compN.1 u.compN.1 (by omega) (by omega)
    rw [decide_eq_true rfl] at w3
    have hcdu : cellsD u.dv = [dint u.kind, dint u.index, dint u.type.kind, .sl (u.type.args.map Ty.cells), .sl (u.args.map Tm.cells)] := by rw [← hfu]; rfl
    have hue : u.compN.2 ≠ 0 → u.compN.1 = [] := by
      unfold Tm.compN
      split
      · split
        · intro _; rfl
        · intro h; exact absurd rfl h
      · intro _; rfl
    refine t_g (j2 @hlt2 (j2 @hgu (j2 @hfu @hcdu))) ?_
    refine t_c1 (j2 @hfu @hcdu) w1 ?_
    apply W_cutM (fun _ : Unit => True) (fun _ => [(.slot 10, .one (.v (.sl (rowsI u.compN.1)))), (.slot 11, .one (.v (dint u.compN.2))), (.slot 12, .one (.v (.sl (rowsI u.compN.1)))), (.slot 13, .one (.v (dint u.compN.2))), (.slot 2, .one (.v (.sl (rowsI c)))), (.slot 7, .one (.v (ptr b0))), (.heap b0, .row [.v (.sl (ints l)), .v (dint (p3 : Nat))]), (.slot 51, .one (.v (.sl (ts.map Tm.cells)))), (.slot 52, .one (.v (dint 2))), (.slot 53, .one (.v (dint (i : Nat))))])
    · intro hrest
      refine t_a ?_
      refine W_reg [] fun K hK => ?_
      simp [go_sem, hP, hgl, hn, hfu, hcdu]
      refine vcK_callR hP hgl w2 (by simp [go_sem]) rfl (by intro b cs hm; cases hm) (by simp) (by rw [hn]; exact Nat.le_of_ble_eq_true rfl) ?_
      rintro r φ hrel hnew
      rcases hrel with ⟨e0, rfl, rfl⟩ | ⟨e0, C, hC, hnd, rfl, rfl⟩
      · rw [hue e0] at hrest ⊢
        simp [go_sem, hP, hgl, hn]
        refine hK _ ?_
        clear hK K
        refine t_a ?_
        refine W_sub [] (by simp [go_sem]) ?_ (by simp [go_sem]) (hrest () trivial)
        simp [go_sem, rowsI]
      · rw [e0] at hrest ⊢
        by_cases hne : rowsI u.compN.1 = []
        · exfalso
          have hcn : u.compN.1 = u.codeN := by
            unfold Tm.compN at e0 ⊢
            split at e0
            · rename_i h
              rw [if_pos h]
              split at e0
              · exact absurd e0 (by decide)
              · rename_i h4; rw [if_neg h4]
            · rename_i h
              exact absurd e0 h
          rw [hcn] at hne
          exact code_ne u (by simpa [rowsI] using hne)
        · obtain ⟨a, ha⟩ := hC.there hne
          have hob : C.objs = [(a, C.full.flatten)] := by unfold RS.objs; rw [ha]
          have hCv : C.v = rawS a C.n C.cap := by unfold RS.v rawQ; rw [ha]; rfl
          have hCn : C.n = u.compN.1.length := by rw [hC.n_eq]; simp [rowsI]
          obtain ⟨-, clen, cwid, cle, cels⟩ := hC
          obtain ⟨Cq, n, cap, full⟩ := C
          simp only at hob hCv hCn clen cwid cle cels ha
          rw [hob] at hnew hnd ⊢
          rw [hCv]
          subst hCn
          simp [newB] at hnew
          have hnew' : ¬ a = b0 := fun e => hnew e.symm
          simp [go_sem, hP, hgl, hn, hnew, hnew']
          refine hK _ ?_
          clear hK K
          have hfl : (List.map (List.map SV.v) full).flatten = arrRow full := by simp [arrRow]
          refine t_a ?_
          refine W_sub [] (s' := [(.slot 10, .one (.v (.sl (rowsI u.compN.1)))), (.slot 11, .one (.v (dint 0))), (.slot 12, .one (.v (rawS a u.compN.1.length cap))), (.slot 13, .one (.v (dint 0))), (.slot 2, .one (.v (.sl (rowsI c)))), (.slot 7, .one (.v (ptr b0))), (.heap b0, .row [.v (.sl (ints l)), .v (dint (p3 : Nat))]), (.slot 51, .one (.v (.sl (ts.map Tm.cells)))), (.slot 52, .one (.v (dint 2))), (.slot 53, .one (.v (dint (i : Nat)))), (.heap a, .row (arrRow full))]) (by simp [go_sem]) (by simp [go_sem, hnew, hnew', hfl, rowLe_arrZ]) (by simp [go_sem]) ?_
          refine W_freezeN (b := a) (E := 2) (full := full) u.compN.1.length (by simp [go_sem, hnew, hnew']) cwid (by omega) (by unfold BIG; omega) (by rw [hids]; rfl) ?_
          have hvv : frzSV a (rowsI u.compN.1) (.v (rawS a u.compN.1.length cap)) = .v (.sl (rowsI u.compN.1)) := by
            rw [← cels]
            unfold frzSV rawS
            simp only [List.length_take, clen]
            rw [if_pos ⟨trivial, by omega, cle⟩]
          rw [cels]
          have hfz : frzRow a (rowsI u.compN.1) [.v (.sl (ints l)), .v (dint (p3 : Nat))] = [.v (.sl (ints l)), .v (dint (p3 : Nat))] := rfl
          simp [go_sem, frz, frzLV, hvv, hnew, hnew', hfz, frz_sl, frz_int, frz_ptr]
          exact hrest () trivial
    · rintro - -
      refine t_g0 ?_
      refine t_c1 trivial w3 ?_
      refine t_gt (wr []) trivial trivial (ihr (i + 1) hlt (by omega))
  · have hie : i = ts.length := by omega
    rw [hlen2] at hie
    subst hie
    refine t_rg0 ?_
    refine t_no ?_
    clear ihr
    refine t_g0 ?_
    have hq := f1
    refine t_a ?_
    refine W_reg [] fun K hK => ?_
    simp [go_sem, hP, hgl, hn]
    refine vcK_callR hP hgl (play_code_ok b0 l p3 hl f1) (by simp [go_sem]) rfl (by simp [go_sem, objsIn]) (by simp) (by rw [hn]; exact Nat.le_of_ble_eq_true rfl) ?_
    rintro r φ ⟨c4, p4, c5, p5, rfl, rfl⟩ -
    simp [go_sem, hP, hgl, hn]
    refine vcK_callR hP hgl (play_code_ok b0 l p4 hl p5) (by simp [go_sem]) rfl (by simp [go_sem, objsIn]) (by simp) (by rw [hn]; exact Nat.le_of_ble_eq_true rfl) ?_
    rintro r φ ⟨c6, p6, c7, p7, rfl, rfl⟩ -
    simp [go_sem, hP, hgl, hn]
    refine hK _ ?_
    clear hK K
    refine t_a ?_
    refine W_sub [] (s' := [(.slot 88, .one (.v (.sl ([c, c4, c6, [(13, 0), (14, 0), (2, 2), (14, 0)], []].map fun c => [DV.sl (rowsI c)])))), (.slot 89, .one (.v (dint 5))), (.slot 90, .one (.v (dint 0)))]) (by simp [go_sem]) (by simp [go_sem, rowsI, Ins.row, dint]) (by simp [go_sem]) ?_
    have hxs : ∀ d ∈ [c, c4, c6, [((13 : Int), (0 : Int)), (14, 0), (2, 2), (14, 0)], []], d.length ≤ 1000000000 := by
      intro d hd
      simp only [List.mem_cons, List.not_mem_nil, or_false] at hd
      rcases hd with rfl | rfl | rfl | rfl | rfl
      · omega
      · omega
      · omega
      · decide
      · decide
    have hxl : [c, c4, c6, [((13 : Int), (0 : Int)), (14, 0), (2, 2), (14, 0)], []].length = 5 := rfl
    generalize [c, c4, c6, [((13 : Int), (0 : Int)), (14, 0), (2, 2), (14, 0)], []] = xs at *
    refine t_a ?_
    refine t_sub [] trivial (W_rounds (fun i : Nat => i ≤ xs.length) (fun i : Nat => [(.slot 88, .one (.v (.sl (xs.map fun c => [DV.sl (rowsI c)])))), (.slot 89, .one (.v (dint 5))), (.slot 90, .one (.v (dint i)))]) (fun i : Nat => xs.length - i) 0 (Nat.zero_le _) ?_)
    rintro i i1 ihr
    rcases Nat.lt_or_ge i xs.length with hlt | hge
    · obtain ⟨u, hu⟩ : ∃ u, xs[i]? = some u := ⟨_, List.getElem?_eq_getElem hlt⟩
      have hul := hxs u (List.mem_of_getElem? hu)
      have hlt2 : (i : Int) < 5 := by omega
      have hgu : (xs.map fun c => [DV.sl (rowsI c)])[i]? = some [DV.sl (rowsI u)] := by rw [List.getElem?_map, hu]; rfl
      have w1 := codeterm_ok (gl := gl) hop u hul
      have w2 := term37_ok (gl := gl) u hul
      have w3 := codecheck_ok (gl := gl) hop u hul
      have w4 := check37_ok (gl := gl) u hul
      have w5 := ref02_same_ok (gl := gl) (termC u).1 (termC u).1
      rw [(Tm.same_iff _ _).2 rfl] at w5
      generalize (if (startsN u).2 = true then (0 : Int) else 43) = ck at *
      generalize termC u = tu at *
      obtain ⟨tu, eu⟩ := tu
      simp only at w1 w2 w5
      have hfu := Tm.fold tu
      have hcu := Tm.cells_eq tu
      have hcdu : cellsD tu.dv = [dint tu.kind, dint tu.index, dint tu.type.kind, .sl (tu.type.args.map Ty.cells), .sl (tu.args.map Tm.cells)] := by rw [← hfu]; rfl
      refine t_g (j2 @hlt2 @hgu) ?_
      refine t_c1 (j2 @hfu @hcdu) w1 ?_
      refine t_c1 (j2 @hfu @hcdu) w2 ?_
      refine t_g0 ?_
      refine t_c3 (j2 @hfu @hcdu) w3 w4 w5 ?_
      refine t_gt (wr []) trivial trivial (ihr (i + 1) hlt (by omega))
    · have hie : i = xs.length := by omega
      rw [hxl] at hie
      subst hie
      refine t_rg0 ?_
      refine t_no ?_
      refine t_g0 ?_
      refine t_r ?_
      simp [go_sem, hP, hgl, hn] <;> (try omega)
end Go.Proofs.YtmdjiajbnifjpaaDoor.Lift

