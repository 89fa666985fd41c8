import Derived.Test.YtoamlfmdkbmmpaaGreatDoorQj3
/-
 Part X of the small logic: a drawn region whose last operations wait for all others; slices whose cells are written again (raw): a literal, an append in place or to a new block.
-/
namespace Go.Proofs.YtoamlfmdkbmmpaaGreatDoor.Lift
set_option linter.unusedSimpArgs false
set_option linter.unusedVariables false
set_option linter.unnecessarySimpa false
open Go
section
section
variable {X : Ctx} {s s0 : St} {k : List Item}

/-- from place m on, each operation waits for all before it -/
def tailB (T : List Nat) (m n : Nat) : Bool := (List.range n).all fun j => decide (j < m) || (List.range j).all fun i => (T.getD j 0).testBit i
theorem tailB_spec {T : List Nat} {m n : Nat} (h : tailB T m n = true) : ∀ j, m ≤ j → j < n → ∀ i, i < j → (T.getD j 0).testBit i = true := by
 intro j hj hn i hi
 have := List.all_eq_true.1 h j (List.mem_range.2 hn)
 rw [Bool.or_eq_true] at this
 rcases this with h1 | h1
 ·exact absurd (of_decide_eq_true h1) (by omega)
 ·exact List.all_eq_true.1 h1 i (List.mem_range.2 hi)

theorem seq_any {ops : Array Oper} {m : Nat} {T : List Nat} (hback : backB 0 ops.toList = true) (hfix : fixB T T ops.toList = true) (htail : ∀ j, m ≤ j → j < ops.size → ∀ i, i < j → (T.getD j 0).testBit i = true) {Q : Exit → Act → World → Prop} :
  ∀ (k j fuel : Nat) (listed : Array Bool) (a : Act) (w : World), j + k = ops.size → m ≤ j → listed.size = ops.size → (∀ i, i < ops.size → Lof listed i = decide (i < j)) → k ≤ fuel → wpOpsIn X.F 0 X.P ops Q (List.range' j k) a w → wpAnyIn X.F 0 X.P .any ops Q fuel listed a w
 | 0, j, fuel, listed, a, w, hjk, hm, hsz, hL, hf, hw => by
  have hall : ∀ i, i < ops.size → Lof listed i = true := fun i hi => by rw [hL i hi]; exact decide_eq_true (by omega)
  have hr : ∀ i, ¬ i ∈ Region.ready .any ops listed := by
   intro i hi
   obtain ⟨h1, o, h2, -⟩ := mem_ready.1 hi
   have hj : i < ops.size := (Array.getElem?_eq_some_iff.1 h2).1
   rw [getD_tf (by omega), hall i hj] at h1
   cases h1
  have hQ : Q .normal a w := hw
  cases fuel with
  | zero =>
   refine ⟨?_, hQ⟩
   cases hq : Region.ready .any ops listed with
   | nil => rfl
   | cons i r => exact absurd (by rw [hq]; simp) (hr i)
  | succ fuel => exact ⟨fun _ => hQ, fun i hi => absurd hi (hr i)⟩
 | k + 1, j, fuel, listed, a, w, hjk, hm, hsz, hL, hf, hw => by
  obtain ⟨fuel, rfl⟩ : ∃ f, fuel = f + 1 := ⟨fuel - 1, by omega⟩
  have hjo : j < ops.size := by omega
  have hcl : Closed ops (Lof listed) := by
   intro i o hi ho e he hb
   have hio : i < ops.size := (Array.getElem?_eq_some_iff.1 ho).1
   have hlt := backB_spec hback i o (by simpa using ho) e he hb
   rw [hL i hio] at hi
   have := of_decide_eq_true hi
   rw [hL e.on (by omega)]
   exact decide_eq_true (by omega)
  have hj : j ∈ Region.ready .any ops listed := by
   rw [mem_ready]
   refine ⟨by rw [getD_tf (by omega), hL j hjo]; exact decide_eq_false (by omega), ops[j], Array.getElem?_eq_getElem hjo, fun e he hb => ?_⟩
   have hlt := backB_spec hback j ops[j] (by simp [hjo]) e he hb
   show Lof listed e.on = true
   rw [hL e.on (by omega)]
   exact decide_eq_true (by omega)
  refine ⟨fun hr => absurd hj (by rw [hr]; simp), fun i hi => ?_⟩
  obtain ⟨h1, o, ho, hall⟩ := mem_ready.1 hi
  have hio : i < ops.size := (Array.getElem?_eq_some_iff.1 ho).1
  rw [getD_tf (by omega), hL i hio] at h1
  have hij : j ≤ i := by have := of_decide_eq_false h1; omega
  have hall' : ∀ e ∈ o.after, Region.binds .any e = true → Lof listed e.on = true := hall
  have heq : i = j := by
   rcases Nat.lt_or_ge j i with h | h
   ·have := anc_spec hback hfix hcl i o ho hall' (htail i (by omega) hio j h)
    rw [hL j hjo] at this
    exact absurd (of_decide_eq_true this) (by omega)
   ·omega
  subst heq
  rw [List.range'_succ, wpOpsIn_cons] at hw
  refine wpOpIn_mono (fun a' w' h' => ?_) hw
  refine seq_any hback hfix htail k (i + 1) fuel _ a' w' (by omega) (by omega) (by simpa using hsz) (fun x hx => ?_) (by omega) h'
  rw [Lof_set (by omega)]
  show (x == i || Lof listed x) = _
  rw [hL x hx]
  by_cases hxi : x = i
  ·subst hxi; simp
  ·have : (x == i) = false := by simpa using hxi
   rw [this, Bool.false_or]
   congr 1
   exact propext ⟨fun h => by omega, fun h => by omega⟩

theorem draw_anyT {ops ops' : Array Oper} {m : Nat} {T0 : List Nat} (hops : ops.toList.take m = ops'.toList) (hmn : m ≤ ops.size) {evs : List Ev} {K : St → Prop} (hrun : RunL X ops' ops'.toList s0 evs) (hg : ∀ o ∈ ops'.toList, o.guard = none) (hchk : chkB ops'.toList s0 evs = true)
  (hback0 : backB 0 ops.toList = true) (hfix0 : fixB T0 T0 ops.toList = true) (htail : ∀ j, m ≤ j → j < ops.size → ∀ i, i < j → (T0.getD j 0).testBit i = true) (hK : VL X ops (ops.toList.drop m) (appAll s0 evs) K) :
  ∀ (fuel : Nat) (listed : Array Bool) (G : Gh) (a : Act) (w : World), listed.size = ops.size → Closed ops (Lof listed) → (∀ j, m ≤ j → Lof listed j = false) → (left m listed).length + (ops.size - m) ≤ fuel → Rel X G (sel (Lof listed) 0 evs s0) a w →
   wpAnyIn X.F 0 X.P .any ops (Nrm X K) fuel listed a w := by
 simp only [chkB, Bool.and_eq_true] at hchk
 obtain ⟨⟨⟨hback, hfix⟩, hfr⟩, hp⟩ := hchk
 generalize tabGo ops'.toList [] = T at *
 have hsz' : ops'.size = m := by
  have := congrArg List.length hops
  simp at this
  omega
 have hlen : evs.length = m := by have := RunL_length hrun; simp at this; omega
 have hget : ∀ i, i < m → ops'[i]? = ops[i]? := by
  intro i hi
  have h1 : ops'.toList[i]? = ops.toList[i]? := by rw [← hops, List.getElem?_take_of_lt hi]
  simpa using h1
 intro fuel
 induction fuel with
 | zero =>
  intro listed G a w hsz hcl htl hle R
  have hm0 : m = ops.size := by omega
  have hall : ∀ j, j < m → Lof listed j = true := by
   intro j hj
   cases hq : Lof listed j with
   | true => rfl
   | false =>
    have hm : j ∈ left m listed := by simp [left, hj, hq]
    have := List.length_pos_of_mem hm
    omega
  refine seq_any hback0 hfix0 htail 0 m 0 listed a w (by omega) (Nat.le_refl _) hsz (fun i hi => by rw [hall i (by omega)]; exact (decide_eq_true (by omega)).symm) (Nat.le_refl _) ?_
  have R' : Rel X G (appAll s0 evs) a w := R.congr fun l => by
   rw [← sel_all 0]
   refine sel_diff evs 0 _ _ rfl fun j ev hj hne => ?_
   have hj' : j < m := by rw [← hlen]; exact (List.getElem?_eq_some_iff.1 hj).1
   exact absurd (hall j hj').symm (by simpa using hne)
  have := hK m rfl G a w R'
  have hd : (ops.toList.drop m).length = 0 := by simp; omega
  rw [hd] at this
  exact this
 | succ fuel ih =>
  intro listed G a w hsz hcl htl hle R
  by_cases hall : ∀ j, j < m → Lof listed j = true
  ·have R' : Rel X G (appAll s0 evs) a w := R.congr fun l => by
    rw [← sel_all 0]
    refine sel_diff evs 0 _ _ rfl fun j ev hj hne => ?_
    have hj' : j < m := by rw [← hlen]; exact (List.getElem?_eq_some_iff.1 hj).1
    exact absurd (hall j hj').symm (by simpa using hne)
   have hw := hK m rfl G a w R'
   have hd : (ops.toList.drop m).length = ops.size - m := by simp
   rw [hd] at hw
   refine seq_any hback0 hfix0 htail (ops.size - m) m (fuel + 1) listed a w (by omega) (Nat.le_refl _) hsz (fun i hi => ?_) (by omega) hw
   by_cases him : i < m
   ·rw [hall i him]; exact (decide_eq_true him).symm
   ·rw [htl i (by omega)]; exact (decide_eq_false him).symm
  have hex : ∃ j, j < m ∧ Lof listed j = false := by
   by_cases h : ∃ j, j < m ∧ Lof listed j = false
   ·exact h
   ·exact absurd (fun j hj => by
     cases hq : Lof listed j with
     | true => rfl
     | false => exact absurd ⟨j, hj, hq⟩ h) hall
  have hstuck : Region.ready .any ops listed = [] → ∀ j, j < m → Lof listed j = true := by
   intro hr j
   induction j using Nat.strongRecOn with
   | _ j ihj =>
    intro hj
    cases hq : Lof listed j with
    | true => rfl
    | false =>
     have hjo : j < ops.size := by omega
     have : j ∈ Region.ready .any ops listed := by
      rw [mem_ready]
      refine ⟨by rw [getD_tf (by omega)]; exact hq, ops[j], Array.getElem?_eq_getElem hjo, fun e he hb => ?_⟩
      have hlt := backB_spec hback0 j ops[j] (by simp [hjo]) e he hb
      exact ihj e.on (by omega) (by omega)
     rw [hr] at this
     cases this
  refine ⟨fun hr => absurd (hstuck hr) hall, fun i hi => ?_⟩
  obtain ⟨h1, o, ho, hall1⟩ := mem_ready.1 hi
  have hio : i < ops.size := (Array.getElem?_eq_some_iff.1 ho).1
  have hil : i < listed.size := by omega
  rw [getD_tf hil] at h1
  have hall' : ∀ e ∈ o.after, Region.binds .any e = true → Lof listed e.on = true := hall1
  have him : i < m := by
   rcases Nat.lt_or_ge i m with h | h
   ·exact h
   ·exact absurd (fun j hj => anc_spec hback0 hfix0 hcl i o ho hall' (htail i h hio j (by omega))) hall
  have hcl' : Closed ops' (Lof listed) := by
   intro j o' hL ho' e he hb
   have hj : j < m := by have := (Array.getElem?_eq_some_iff.1 ho').1; omega
   exact hcl j o' hL (by rw [← hget j hj]; exact ho') e he hb
  have ho' : ops'[i]? = some o := by rw [hget i him]; exact ho
  have hie : i < evs.length := by omega
  have hev : evs[i]? = some evs[i] := List.getElem?_eq_getElem hie
  have hstep := RunL_at 0 hrun i o evs[i] (by simpa using ho') hev
  have hind1 : ∀ (j : Nat) (ev : Ev), evs[j]? = some ev → i < j → Lof listed j = true → apart evs[i] ev = true := by
   intro j ev hj hij hL
   have hjm : j < m := by rw [← hlen]; exact (List.getElem?_eq_some_iff.1 hj).1
   have hjo : j < ops'.size := by omega
   rcases (chkP_spec hp i j _ ev hij hev hj).2 with h | h
   ·have := anc_spec hback hfix hcl' j ops'[j] (Array.getElem?_eq_getElem hjo) (fun e he hb => hcl' j _ hL (Array.getElem?_eq_getElem hjo) e he hb) (by simpa using h)
    rw [h1] at this; cases this
   ·exact h
  have hind2 : ∀ (j : Nat) (ev : Ev), evs[j]? = some ev → j < i → Lof listed j = false → apart ev evs[i] = true := by
   intro j ev hj hij hL
   rcases (chkP_spec hp j i ev _ hij hj hev).2 with h | h
   ·have := anc_spec hback hfix hcl' i o ho' hall' (by simpa using h)
    rw [hL] at this; cases this
   ·exact h
  have hop : OpOK X ops' o (sel (Lof listed) 0 evs s0) (apply (sel (Lof listed) 0 evs s0) evs[i].e) := by
   refine hstep _ (fun l v hl => ?_) (fun d hd => ?_)
   ·obtain ⟨hfp, hg⟩ := get_restr hl
    rw [← hg]
    refine sel_diff evs 0 _ _ rfl fun j ev hj hne hw => ?_
    simp only [Nat.zero_add] at hne
    by_cases hij : j < i
    ·cases hq : Lof listed j with
     | true => rw [hq] at hne; simp [hij] at hne
     | false =>
      have := hind2 j ev hj hij hq
      simp only [apart, Bool.and_eq_true, disL_iff] at this
      exact this.1.1.1 l hw hfp
    ·cases hq : Lof listed j with
     | false => rw [hq] at hne; simp [hij] at hne
     | true =>
      have hne' : j ≠ i := fun e => by rw [e, h1] at hq; cases hq
      have := hind1 j ev hj (by omega) hq
      simp only [apart, Bool.and_eq_true, disL_iff] at this
      exact this.1.1.2 l hw hfp
   ·refine sel_fresh evs 0 s0 (chkF_spec hfr i _ hev d hd) fun j ev hj hL => ?_
    simp only [Nat.zero_add] at hL
    have hne' : j ≠ i := fun e => by rw [e, h1] at hL; cases hL
    by_cases hij : j < i
    ·exact (chkP_spec hp j i ev _ hij hj hev).1 d hd
    ·have := hind1 j ev hj (by omega) hL
     simp only [apart, Bool.and_eq_true, allN_iff] at this
     simpa using this.2 d hd
  have hnext : ∀ G' a' w', Rel X G' (apply (sel (Lof listed) 0 evs s0) evs[i].e) a' w' → wpAnyIn X.F 0 X.P .any ops (Nrm X K) fuel (listed.setIfInBounds i true) a' w' := by
   intro G' a' w' R'
   refine ih _ G' a' w' (by simpa using hsz) ?_ ?_ ?_ ?_
   ·rw [Lof_set hil]
    intro j o' hL hoj e he hb
    simp only [Bool.or_eq_true, beq_iff_eq] at hL ⊢
    rcases hL with rfl | hL
    ·rw [ho] at hoj; cases hoj
     exact .inr (hall' e he hb)
    ·exact .inr (hcl j o' hL hoj e he hb)
   ·intro j hj
    rw [Lof_set hil]
    show (j == i || Lof listed j) = false
    rw [htl j hj, Bool.or_false]
    simp; omega
   ·have := left_set (n := m) hil him h1
    omega
   ·rw [Lof_set hil]
    refine R'.congr fun l => sel_add h1 evs 0 s0 (Nat.zero_le _) hev fun j ev hj hlt hL hw => ?_
    simp only [Nat.zero_add] at hlt hL
    have := hind1 j ev hj hlt hL
    simp only [apart, Bool.and_eq_true, disL_iff] at this
    exact this.1.2 l hw
  have hgn : o.guard = none := hg o (List.mem_of_getElem? (i := i) (by simpa using ho'))
  have := hop G a w R _ (Nrm X K) hnext
  unfold wpOpIn
  simp only [ho]
  have hw : ∀ y, Region.wanted o y = true := fun y => by simp [Region.wanted, hgn]
  simp only [hw, if_true] at this ⊢
  exact this

def tailOK (ops : List Oper) (m : Nat) : Bool :=
 let T := tabGo ops []
 backB 0 ops && fixB T T ops && tailB T m ops.length && (ops.take m).all fun o => o.guard.isNone

/-- A DRAWN REGION WHOSE LAST OPERATIONS WAIT FOR ALL OTHERS: these are walked one by one -/
theorem W_regT {id : Nat} {ops : Array Oper} {s : St} (hm : X.P.follows .mixedOrders = true) (m : Nat) (hmn : m ≤ ops.size) (hfull : tailOK ops.toList m = true) (esc esc' : List Nat)
  (h : ∀ K : St → Prop, (∀ s', W X k s' → K s') → vcd X esc (ops.toList.take m).toArray s (fun s' => vc X esc' ops (ops.toList.drop m) s' K) (ops.toList.take m) s []) : W X (.code (.region id ops true) :: k) s := by
 intro G a w b cs hf hk hr R
 simp only [tailOK, Bool.and_eq_true, List.all_eq_true] at hfull
 obtain ⟨⟨⟨t1, t2⟩, t3⟩, t4⟩ := hfull
 obtain ⟨evs, h1, h2, h3⟩ := vcd_sound (h (fun s' => W X k s') (fun _ h => h))
 have ht : (ops.toList.take m).toArray.toList = ops.toList.take m := rfl
 have h3' : VL X ops (ops.toList.drop m) (appAll s evs) (fun s' => W X k s') := vc_sound h3
 have hany := draw_anyT (ops' := (ops.toList.take m).toArray) (s0 := s) rfl hmn (by rw [ht]; exact h1) (fun o ho => by have := t4 o (by simpa using ho); cases hq : o.guard with | none => rfl | some _ => rw [hq] at this; cases this) (by simpa using h2) t1 t2 (tailB_spec (by simpa using t3)) h3' ops.size (Array.replicate ops.size false) G a { w with drawn := w.drawn + 1 } (by simp) (fun j o hL => by simp [Lof, Array.getElem?_replicate] at hL; split at hL <;> simp at hL) (fun j _ => by simp only [Lof, Array.getD_eq_getD_getElem?, Array.getElem?_replicate]; split <;> rfl) (by
   have : (left m (Array.replicate ops.size false)).length ≤ m := Nat.le_trans (List.length_filter_le _ _) (by simp)
   omega) (by
   rw [sel_none _ _ _ (fun j _ => by simp only [Lof, Array.getD_eq_getD_getElem?, Array.getElem?_replicate]; split <;> rfl)]
   exact R.drawn _)
 obtain ⟨e', a', w', ⟨rfl, G', s', hK, R'⟩, harr⟩ := wpIn_region_any (F := X.F) (n := 0) hm hany b k cs hr trivial (roomF _)
 obtain ⟨w'', fr, q1, q2⟩ := hK G' a' w' b cs hf hk hr R'
 exact ⟨w'', fr, q1, Steps.trans (StepsIn.steps harr) q2⟩

/-! raw slices: the slice's value is a datum of its own, its block an object -/
abbrev rawS (b n cap : Nat) : DV := .prim (.slice (some ⟨b, 0, none⟩) n cap)

theorem put_mid (A M D xs : List SV) (h : xs.length = M.length) : put (A ++ (M ++ D)) A.length xs = A ++ (xs ++ D) := by
 apply List.ext_getElem?
 intro i
 rw [get_put _ _ _ _ (by simp; omega)]
 split
 ·rename_i hi
  rw [List.getElem?_append_right hi.1, List.getElem?_append_left (by omega)]
 ·rename_i hi
  by_cases h1 : i < A.length
  ·rw [List.getElem?_append_left h1, List.getElem?_append_left h1]
  ·have h2 : A.length + xs.length ≤ i := by omega
   rw [List.getElem?_append_right (by omega), List.getElem?_append_right (by omega), List.getElem?_append_right (by omega), List.getElem?_append_right (by omega), h]
theorem arrRow_append (l r : List (List DV)) : arrRow (l ++ r) = arrRow l ++ arrRow r := by simp [arrRow]
theorem arrRow_len {E : Nat} {l : List (List DV)} (h : ∀ e ∈ l, e.length = E) : (arrRow l).length = l.length * E := by simp only [arrRow, List.length_map]; exact flatten_len h
theorem arrRow_put {E : Nat} {full zs : List (List DV)} {n : Nat} (hE1 : ∀ e ∈ full, e.length = E) (hE2 : ∀ e ∈ zs, e.length = E) (hle : n + zs.length ≤ full.length) :
  put (arrRow full) (n * E) (arrRow zs) = arrRow (full.take n ++ zs ++ full.drop (n + zs.length)) := by
 have h1 : full = full.take n ++ ((full.drop n).take zs.length ++ full.drop (n + zs.length)) := by
  have := List.take_append_drop zs.length (full.drop n)
  rw [List.drop_drop] at this
  rw [this, List.take_append_drop]
 have m1 : ∀ e ∈ full.take n, e.length = E := fun e he => hE1 e (List.mem_of_mem_take he)
 have m2 : ∀ e ∈ (full.drop n).take zs.length, e.length = E := fun e he => hE1 e (List.mem_of_mem_drop (List.mem_of_mem_take he))
 have e1 : (arrRow (full.take n)).length = n * E := by rw [arrRow_len m1, List.length_take, Nat.min_eq_left (by omega)]
 have e2 : (arrRow zs).length = (arrRow ((full.drop n).take zs.length)).length := by rw [arrRow_len hE2, arrRow_len m2, List.length_take, List.length_drop, Nat.min_eq_left (by omega)]
 have h2 : arrRow full = arrRow (full.take n) ++ (arrRow ((full.drop n).take zs.length) ++ arrRow (full.drop (n + zs.length))) := by rw [← arrRow_append, ← arrRow_append, ← h1]
 rw [h2, ← e1, put_mid _ _ _ _ e2, arrRow_append, arrRow_append, List.append_assoc]

/-- the cells of elements that are laid -/
theorem rowOf_laid {G : Gh} {w : World} {E : Nat} {zs : List (List DV)} {g : Nat → Value} (hE : ∀ e ∈ zs, e.length = E) (h : Laid G.D w E zs g) : RowOf G w (arrRow zs) (arr g (zs.length * E)) := by
 have hl := flatten_len hE
 refine ⟨by rw [arr_size, arrRow_len hE], fun i x v hx hv => ?_⟩
 simp only [arrRow, List.getElem?_map] at hx
 cases hd0 : zs.flatten[i]? with
 | none => rw [hd0] at hx; cases hx
 | some dd =>
  rw [hd0] at hx
  cases hx
  obtain ⟨i1, j1, e1, k1, k2, rfl⟩ := flatten_get hE hd0
  have hj : j1 < E := by rw [← hE e1 (List.mem_of_getElem? k1)]; exact (List.getElem?_eq_some_iff.1 k2).1
  have hi : i1 < zs.length := (List.getElem?_eq_some_iff.1 k1).1
  rw [arr_get _ _ _ (lt_mul hi hj)] at hv
  cases hv
  exact h i1 j1 e1 dd k1 k2
theorem cellBS_arrRow {zs : List (List DV)} (h : ∀ e ∈ zs, ∀ c ∈ e, DV.isCell c = true) : cellBS (arrRow zs) = true := by
 rw [cellBS_iff]
 intro x hx
 simp only [arrRow, List.mem_map, List.mem_flatten] at hx
 obtain ⟨d, ⟨e, he, hd⟩, rfl⟩ := hx
 exact h e he d hd

/-- append in place -/
theorem step_appendF {o : Oper} {x y : Operand} {T T2 : TypeId} (ho : o.op = .call { callee := .builtin .append, args := #[x, y], argTypes := #[T, T2] }) {d : Nat} (hd : o.dst = some d) (hn : d < X.n)
  {E B : Nat} (he : elemZ X.P T = some (E, B)) (h2 : (elemT X.P T2).isSome = true) {b n cap : Nat} {full zs : List (List DV)} (hx : evl X (get s) x = some (.v (rawS b n cap))) (hy : (evl X (get s) y).bind slOf = some zs)
  (hrow : get s (.heap b) = some (.row (arrRow full))) (hfl : full.length = cap) (hle : n + zs.length ≤ cap) (hE1 : ∀ e ∈ full, e.length = E) (hE2 : ∀ e ∈ zs, e.length = E) :
  StepOK X s o (upd (upd s (.heap b) (.row (arrRow (full.take n ++ zs ++ full.drop (n + zs.length))))) (.slot d) (.one (.v (rawS b (n + zs.length) cap)))) := by
 intro G a w R next Q hK
 have hv := (prim_of (evl_sound R hx)).1
 obtain ⟨q, hq, hq'⟩ := Option.bind_eq_some_iff.1 hy
 obtain ⟨yb, ycap, hyv, hyr, -⟩ := slOf_sound hq' (evl_sound R hq)
 obtain ⟨c2, g, g1, g2, g3⟩ := sl_laid hyr hE2
 have hle2 : n * E + (arrRow zs).length ≤ (arrRow full).length := by
  rw [arrRow_len hE1, arrRow_len hE2, ← Nat.add_mul, hfl]; exact Nat.mul_le_mul_right _ hle
 obtain ⟨w', h1, h2'⟩ := R.storeRow hrow rfl (b := b) rfl (rowOf_laid hE2 g1) (cellBS_arrRow c2) hle2
 have hrun := run_append_fits (P := X.P) (t := T) (ty := o.type) (t2 := T2) (w := w) he h2 (base := some ⟨b, 0, none⟩) (len := n) (cap := cap) (lenOf_sl (P := X.P) hyr w) (run_firstCells (P := X.P) g3) hle (w' := w') (by simp only [addr_add, Nat.zero_add]; exact h1)
 rw [← hv] at hrun
 refine opIn (by intro c e; rw [ho] at e; cases e) ?_
 have hexec : (execOp a.eval o).run X.P w = .ok (.value (.slice (some ⟨b, 0, none⟩) (n + zs.length) cap)) w' := by
  simp [execOp, ho, resolve, invoke, builtin, hrun]
 rw [hexec, upn_value, hd]
 rw [arrRow_put hE1 hE2 (by omega)] at h2'
 exact hK G _ w' (h2'.setSlot (Trans.refl X G a w' R.nil) rfl rfl (fun _ h => h) hn (.prim _ trivial))

/-- a new block whose first cells are told -/
theorem Rel.newArr {G : Gh} {a : Act} {w : World} (R : Rel X G s a w) {d : Nat} (hn : d < X.n) {w1 : World} (hw1 : w1.heap = w.heap) {c : Array Value} {e : TypeId} {E : Nat} {full : List (List DV)} {n cap : Nat}
  (T' : Trans X G a w G (a.put (some d) (.slice (some ⟨w.heap.size, 0, none⟩) n cap)) (w1.alloc (.cells c e)) (fun _ => False))
  (hE : ∀ e ∈ full, e.length = E) (hcell : ∀ e ∈ full, ∀ c ∈ e, DV.isCell c = true) (hc : full.length * E ≤ c.size) (hget : ∀ (i j : Nat) (e : List DV) (dd : DV), full[i]? = some e → e[j]? = some dd → ∃ v, c[i * E + j]? = some v ∧ RV G.D w dd v) :
  Rel X G (upd (upd s (.slot d) (.one (.v (rawS w.heap.size n cap)))) (.heap w.heap.size) (.row (arrRow full))) (a.put (some d) (.slice (some ⟨w.heap.size, 0, none⟩) n cap)) (w1.alloc (.cells c e)) := by
 have hp := put_tmps a (some d) (.slice (some ⟨w.heap.size, 0, none⟩) n cap)
 refine R.step T' (fun l u => (l = .slot d ∧ u = .one (.v (rawS w.heap.size n cap))) ∨ (l = .heap w.heap.size ∧ u = .row (arrRow full))) (fun l u h => ?_) (fun l u h => ?_) (fun l u l' u' b h h' hb hb' => ?_)
 ·rw [get_upd, get_upd] at h
  by_cases h1 : Loc.heap w.heap.size = l
  ·rw [if_pos h1] at h; cases h; exact .inl (.inr ⟨h1.symm, rfl⟩)
  ·rw [if_neg h1] at h
   by_cases h3 : Loc.slot d = l
   ·rw [if_pos h3] at h; cases h; exact .inl (.inl ⟨h3.symm, rfl⟩)
   ·rw [if_neg h3] at h
    exact .inr ⟨h, fun n hn => put_get_ne _ _ _ _ (fun e => h3 (by rw [hn, e])), fun b hb hBb => hBb.elim, fun _ _ => rfl, fun _ _ => rfl⟩
 ·rcases h with ⟨rfl, rfl⟩ | ⟨rfl, rfl⟩
  ·refine ⟨?_, fun b hb => by cases hb⟩
   show RSV G _ (.v _) _
   rw [put_get_same _ _ _ (by rw [R.size]; exact hn)]
   exact .prim _ trivial
  ·refine ⟨⟨c, e, ?_, ?_, fun i x hx => ?_⟩, fun b hb => ?_⟩
   ·have := alloc_new w1 (.cells c e)
    rw [hw1] at this
    exact this
   ·rw [arrRow_len hE]; exact hc
   ·simp only [arrRow, List.getElem?_map] at hx
    cases hd0 : full.flatten[i]? with
    | none => rw [hd0] at hx; cases hx
    | some dd =>
     rw [hd0] at hx
     cases hx
     obtain ⟨i1, j1, e1, k1, k2, rfl⟩ := flatten_get hE hd0
     obtain ⟨v, hv, hr⟩ := hget i1 j1 e1 dd k1 k2
     exact ⟨hcell e1 (List.mem_of_getElem? k1) dd (List.mem_of_getElem? k2), v, hv, hr.mono T'.grow⟩
   ·cases hb
    exact ⟨.inl (Nat.le_refl _), .inl R.ext.size, fun _ o hD => absurd (R.wf.lt hD) (Nat.lt_irrefl _)⟩
 ·rcases h with ⟨rfl, rfl⟩ | ⟨rfl, rfl⟩
  ·cases hb
  ·rcases h' with ⟨rfl, rfl⟩ | ⟨rfl, rfl⟩
   ·cases hb'
   ·rfl
theorem newB_size {G : Gh} {a : Act} {w : World} (R : Rel X G s a w) : newB w.heap.size s := newB_of fun v hv => by
 have hh := R.holds _ _ hv
 cases v with
 | row cs => exact absurd (blk_lt hh rfl) (Nat.lt_irrefl _)
 | ob r => exact absurd (blk_lt hh rfl) (Nat.lt_irrefl _)
 | mp l => exact absurd (blk_lt hh rfl) (Nat.lt_irrefl _)
 | one x => exact hh.elim
 | tk E n => exact hh.elim

/-- the zero of a slice's elements -/
def zeroE (P : Program) (T : TypeId) : Option (List DV) :=
 match P.underlying T with
 | some (.slice e) => (zeroT P e).bind toDs
 | _ => none

theorem mod_mul_add {E i j : Nat} (hj : j < E) : (i * E + j) % E = j := by
 rw [Nat.mul_comm, Nat.mul_add_mod]; exact Nat.mod_eq_of_lt hj

theorem run_append_newZ {P : Program} {w : World} {t ty t2 E B : Nat} (he : elemZ P t = some (E, B)) (hB : 0 < B ∧ B ≤ 1024) (h2 : (elemT P t2).isSome = true) {base : Option Addr} {len cap : Nat} {x : Value} {n : Nat} {old new : Array Value}
  (hx : ∀ w', w'.heap = w.heap → (Builtin.lenOf x).run P w' = .ok n w') (hn : ∀ w', w'.heap = w.heap → (Builtin.firstCells E n x).run P w' = .ok new w') (ho : ∀ w', w'.heap = w.heap → (Builtin.firstCells E len (.slice base len cap)).run P w' = .ok old w')
  (hle : ¬ len + n ≤ cap) (hbig : len + n ≤ BIG) (h1 : old.size = len * E) (h3 : new.size = n * E) {zd : List DV} (hz : zeroE P t = some zd) :
  zd.length = E ∧ ∃ c e nc, (Builtin.append_ #[t, t2] ty #[.slice base len cap, x]).run P w = .ok (.slice (some ⟨w.heap.size, 0, none⟩) (len + n) nc) (w.drew.alloc (.cells c e)) ∧ len + n ≤ nc ∧ c.size = nc * E ∧ (∀ k, k < len * E → c[k]? = old[k]?) ∧ (∀ k, k < n * E → c[len * E + k]? = new[k]?) ∧
   ∀ (G : Gh) (w' : World), G.τ 0 = (none, 0) → ∀ (i j : Nat) (dd : DV), i < nc - (len + n) → zd[j]? = some dd → ∃ v, c[(len + n + i) * E + j]? = some v ∧ RV G.D w' dd v := by
 obtain ⟨e, i, z, hu, hi, hzv, hzs, his, hib⟩ := elemZ_run he
 obtain ⟨E2, hE2⟩ := Option.isSome_iff_exists.1 h2
 obtain ⟨e2, i2, hu2, -, -⟩ := elem_run hE2
 have hzz : ∃ cs, zeroS z.cells.toList = some cs ∧ toDs cs = some zd := by
  simp only [zeroE, hu, zeroT, hi, hzv] at hz
  exact Option.bind_eq_some_iff.1 hz
 obtain ⟨zcs, hz1, hz2⟩ := hzz
 have hzl : zd.length = E := by
  have h0 : RowOf { D := fun _ _ => False, ν := fun _ => 0, τ := fun _ => (none, 0) } w zcs z.cells.toList.toArray := zeroS_sound rfl hz1
  have := (toDs_row h0 hz2).1
  rw [← this]
  simpa using hzs
 refine ⟨hzl, ?_⟩
 unfold BIG at hbig
 have hcap : ¬ (Builtin.nextslicecap (len + n) cap * B > 2 ^ 48) := by
  have := nextslicecap_le (need := len + n) (cap := cap) (by omega)
  have : Builtin.nextslicecap (len + n) cap * B ≤ (2 * (len + n) + 600) * 1024 := Nat.mul_le_mul this hB.2
  omega
 let q : Question := .appendCap (len + n) cap e
 let nc := q.cut (w.tape w.drawn q)
 have hnc : len + n ≤ nc := by show len + n ≤ _; simp [nc, q, Question.cut]
 have hzc : (Builtin.zeroCells z.cells (nc - (len + n))).size = (nc - (len + n)) * E := by simp [Builtin.zeroCells, hzs]
 refine ⟨old ++ new ++ Builtin.zeroCells z.cells (nc - (len + n)), e, nc, ?_, hnc, ?_, fun k hk => ?_, fun k hk => ?_, fun G w' hG i j dd hi' hj => ?_⟩
 ·unfold Builtin.append_
  have hc' : ¬ (2 ^ 48 < Builtin.nextslicecap (len + n) cap * B) := hcap
  simp [run_underlying hu, run_underlying hu2, sizeOf, typeInfo, hi, his, hx w rfl, hle, hib, hc', Question.forced, ho (w.drew) rfl, hn (w.drew) rfl, zeroValue, hzv, newRow, nc, q]
  intro h
  omega
 ·simp [h1, h3, Builtin.zeroCells, hzs]
  rw [← Nat.add_mul, ← Nat.add_mul]
  congr 1; omega
 ·rw [Array.getElem?_append_left (by simp [h1, h3]; omega), Array.getElem?_append_left (by omega)]
 ·rw [Array.getElem?_append_left (by simp [h1, h3]; omega), Array.getElem?_append_right (by omega), h1]
  congr 1; omega
 ·have hjE : j < E := by rw [← hzl]; exact (List.getElem?_eq_some_iff.1 hj).1
  have hlt : i * E + j < (nc - (len + n)) * E := lt_mul hi' hjE
  have hrow : RowOf G w' zcs z.cells.toList.toArray := zeroS_sound hG hz1
  have hr := (toDs_row hrow hz2).2 j dd
  simp only [Array.toArray_toList] at hr
  have hjz : j < z.cells.size := by omega
  refine ⟨z.cells[j], ?_, hr _ hj (Array.getElem?_eq_getElem hjz)⟩
  have hsz : (old ++ new).size = (len + n) * E := by simp [h1, h3, Nat.add_mul]
  have e1 : (len + n + i) * E + j = (old ++ new).size + (i * E + j) := by rw [hsz, Nat.add_mul (len + n) i E]; omega
  rw [e1, Array.getElem?_append_right (Nat.le_add_right _ _), Nat.add_sub_cancel_left]
  have hs2 : i * E + j < (nc - (len + n)) * z.cells.size := by rw [hzs]; exact hlt
  simp only [Builtin.zeroCells]
  rw [Array.getElem?_map, Array.getElem?_range, if_pos hs2]
  simp only [Option.map_some, hzs, mod_mul_add hjE]
  rw [getElem!_pos z.cells j hjz]

theorem flatten_at {E : Nat} : ∀ {ys : List (List DV)}, (∀ e ∈ ys, e.length = E) → ∀ {i j : Nat} {e : List DV} {d : DV}, ys[i]? = some e → e[j]? = some d → ys.flatten[i * E + j]? = some d
 | [], _, i, j, e, d, h, _ => by simp at h
 | y :: r, hE, 0, j, e, d, h, hd => by
  simp at h
  subst h
  rw [List.flatten_cons, Nat.zero_mul, Nat.zero_add, List.getElem?_append_left (List.getElem?_eq_some_iff.1 hd).1]
  exact hd
 | y :: r, hE, i + 1, j, e, d, h, hd => by
  have hy := hE y (by simp)
  have ih := flatten_at (ys := r) (fun e he => hE e (List.mem_cons_of_mem _ he)) (by simpa using h) hd
  rw [List.flatten_cons, List.getElem?_append_right (by rw [hy, Nat.add_mul]; omega), hy]
  rw [show (i + 1) * E + j - E = i * E + j from by rw [Nat.add_mul]; omega]
  exact ih

/-- append to a new block -/
theorem step_appendN {o : Oper} {x y : Operand} {T T2 : TypeId} (ho : o.op = .call { callee := .builtin .append, args := #[x, y], argTypes := #[T, T2] }) {d : Nat} (hd : o.dst = some d) (hn : d < X.n)
  {E B : Nat} (he : elemZ X.P T = some (E, B)) (hB : 0 < B ∧ B ≤ 1024) (h2 : (elemT X.P T2).isSome = true) {b n cap : Nat} {full zs : List (List DV)} {zd : List DV} (hx : evl X (get s) x = some (.v (rawS b n cap))) (hy : (evl X (get s) y).bind slOf = some zs)
  (hrow : get s (.heap b) = some (.row (arrRow full))) (hfl : full.length = cap) (hnc : n ≤ cap) (hnf : cap < n + zs.length) (hbig : n + zs.length ≤ BIG) (hE1 : ∀ e ∈ full, e.length = E) (hE2 : ∀ e ∈ zs, e.length = E) (hz : zeroE X.P T = some zd) (hzc : cellB zd = true)
  {G : Gh} {a : Act} {w : World} (R : Rel X G s a w) (next : Act → World → Prop) (Q : Exit → Act → World → Prop)
  (hK : ∀ b' cap', n + zs.length ≤ cap' → newB b' s → X.w0.heap.size ≤ b' → ∀ G' a' w', Rel X G' (upd (upd s (.slot d) (.one (.v (rawS b' (n + zs.length) cap')))) (.heap b') (.row (arrRow (full.take n ++ zs ++ List.replicate (cap' - (n + zs.length)) zd)))) a' w' → next a' w') :
  o.wpIn X.F 0 X.P a w next Q := by
 have hv := (prim_of (evl_sound R hx)).1
 obtain ⟨q, hq, hq'⟩ := Option.bind_eq_some_iff.1 hy
 obtain ⟨yb, ycap, hyv, hyr, -⟩ := slOf_sound hq' (evl_sound R hq)
 obtain ⟨c2, g, g1, g2, g3⟩ := sl_laid hyr hE2
 obtain ⟨c0, e0, k1, k2, k3⟩ : BlkAt G w b (arrRow full) := R.holds _ _ hrow
 rw [arrRow_len hE1] at k2
 have hnE : n * E ≤ full.length * E := Nat.mul_le_mul_right _ (by omega)
 have hdr : ∀ w' : World, w'.heap = w.heap → (Builtin.firstCells E zs.length (a.eval y)).run X.P w' = .ok (arr g (zs.length * E)) w' := fun w' hw => by
  refine run_firstCells (D := G.D) ?_
  rcases g3 with h | ⟨b, o', cap, h, hc⟩
  ·exact .inl h
  ·exact .inr ⟨b, o', cap, h, fun k hk => by rw [cell_of_heap hw]; exact hc k hk⟩
 have hdo : ∀ w' : World, w'.heap = w.heap → (Builtin.firstCells E n (.slice (some ⟨b, 0, none⟩) n cap)).run X.P w' = .ok (arr (fun k => (c0[k]?).getD undef) (n * E)) w' := fun w' hw => by
  simp only [Builtin.firstCells]
  refine run_loadCells_f b 0 (n * E) _ (fun k hk => ?_)
  have hlt : k < c0.size := by omega
  rw [cell_of_heap hw, Nat.zero_add]
  simp [World.cell?, k1, hlt]
 obtain ⟨hzl, c, e, nc, r1, r2, r3, r4, r5, r6⟩ := run_append_newZ (P := X.P) (t := T) (ty := o.type) (t2 := T2) (w := w) he hB h2 (base := some ⟨b, 0, none⟩) (len := n) (cap := cap) (fun w' _ => lenOf_sl (P := X.P) hyr w') hdr hdo (by omega) hbig (arr_size _ _) (arr_size _ _) hz
 rw [← hv] at r1
 have hexec : (execOp a.eval o).run X.P w = .ok (.value (.slice (some ⟨w.heap.size, 0, none⟩) (n + zs.length) nc)) (w.drew.alloc (.cells c e)) := by
  simp [execOp, ho, resolve, invoke, builtin, r1]
 refine opIn (by intro c e; rw [ho] at e; cases e) ?_
 rw [hexec, upn_value, hd]
 have hp := put_tmps a (some d) (.slice (some ⟨w.heap.size, 0, none⟩) (n + zs.length) nc)
 have T' : Trans X G a w G (a.put (some d) (.slice (some ⟨w.heap.size, 0, none⟩) (n + zs.length) nc)) (w.drew.alloc (.cells c e)) (fun _ => False) := by
  refine ⟨hp.1, fun h => (h.heap fun b hb => alloc_old w.drew _ b hb).put hp.2, rfl, rfl, rfl, by simp, fun b hb _ => alloc_old w.drew _ b hb, fun _ h => h.elim, fun b k hD => ⟨hD, World.cell?_alloc_lt w.drew _ _ (R.wf.lt hD)⟩, fun b k hD hnD => absurd hD hnD, R.nil⟩
 refine hK w.heap.size nc r2 (newB_size R) R.ext.size G _ _ (R.newArr hn (w1 := w.drew) rfl T' (E := E) ?_ ?_ ?_ ?_)
 ·intro e he
  rcases List.mem_append.1 he with he | he
  ·rcases List.mem_append.1 he with he | he
   ·exact hE1 e (List.mem_of_mem_take he)
   ·exact hE2 e he
  ·rw [(List.mem_replicate.1 he).2]; exact hzl
 ·intro e he d hd
  rcases List.mem_append.1 he with he | he
  ·rcases List.mem_append.1 he with he | he
   ·have he := List.mem_of_mem_take he
    obtain ⟨i, hi⟩ := List.mem_iff_getElem?.1 he
    obtain ⟨j, hj⟩ := List.mem_iff_getElem?.1 hd
    exact (k3 (i * E + j) (.v d) (by simp only [arrRow, List.getElem?_map, flatten_at hE1 hi hj, Option.map_some])).1
   ·exact c2 e he d hd
  ·rw [(List.mem_replicate.1 he).2] at hd
   exact (cellB_iff zd).1 hzc d hd
 ·rw [r3]
  simp only [List.length_append, List.length_take, List.length_replicate]
  exact Nat.mul_le_mul_right _ (by omega)
 ·intro i j e dd hi hj
  have hl1 : (full.take n).length = n := by rw [List.length_take, Nat.min_eq_left (by omega)]
  rw [List.append_assoc] at hi
  rcases Nat.lt_or_ge i n with h | h
  ·rw [List.getElem?_append_left (by omega), List.getElem?_take_of_lt h] at hi
   have hjE : j < E := by rw [← hE1 e (List.mem_of_getElem? hi)]; exact (List.getElem?_eq_some_iff.1 hj).1
   have hlt := lt_mul h hjE
   obtain ⟨-, v, q1, q2⟩ := k3 (i * E + j) (.v dd) (by simp only [arrRow, List.getElem?_map, flatten_at hE1 hi hj, Option.map_some])
   refine ⟨v, ?_, q2⟩
   rw [r4 _ hlt, arr_get _ _ _ hlt, q1]
   rfl
  ·rw [List.getElem?_append_right (by omega), hl1] at hi
   rcases Nat.lt_or_ge (i - n) zs.length with h' | h'
   ·rw [List.getElem?_append_left h'] at hi
    have hjE : j < E := by rw [← hE2 e (List.mem_of_getElem? hi)]; exact (List.getElem?_eq_some_iff.1 hj).1
    have hlt := lt_mul h' hjE
    refine ⟨_, ?_, g1 _ _ _ _ hi hj⟩
    have e1 : i * E + j = n * E + ((i - n) * E + j) := by rw [← Nat.add_assoc, ← Nat.add_mul]; congr 2; omega
    rw [e1, r5 _ hlt, arr_get _ _ _ hlt]
   ·rw [List.getElem?_append_right h'] at hi
    obtain ⟨hi1, hi2⟩ : e = zd ∧ i - n - zs.length < nc - (n + zs.length) := by
     have hm := List.mem_of_getElem? hi
     have hlt := (List.getElem?_eq_some_iff.1 hi).1
     simp only [List.length_replicate] at hlt
     exact ⟨(List.mem_replicate.1 hm).2, hlt⟩
    subst hi1
    obtain ⟨v, q1, q2⟩ := r6 G w R.nil (i - n - zs.length) j dd hi2 hj
    refine ⟨v, ?_, q2⟩
    rw [show n + zs.length + (i - n - zs.length) = i from by omega] at q1
    exact q1

theorem vcK_appendR {esc : List Nat} {ops : Array Oper} {l : List Oper} {K : St → Prop} {d : Tmp} {x y : Operand} {T T2 ty : TypeId} {pos : String} {af : Array Edge} {q : Option (Prop × St)}
  {E B b n cap : Nat} {full zs : List (List DV)} {zd : List DV} (hx : evl X (get s) x = some (.v (rawS b n cap))) (hy : (evl X (get s) y).bind slOf = some zs) (hrow : get s (.heap b) = some (.row (arrRow full)))
  (he : elemZ X.P T = some (E, B)) (hz : zeroE X.P T = some zd) (hzc : cellB zd = true) (hB : 0 < B ∧ B ≤ 1024) (h2 : (elemT X.P T2).isSome = true) (hn : d < X.n)
  (hfl : full.length = cap) (hnc : n ≤ cap) (hbig : n + zs.length ≤ BIG) (hE1 : ∀ e ∈ full, e.length = E) (hE2 : ∀ e ∈ zs, e.length = E) (hq : q = none)
  (h1 : n + zs.length ≤ cap → vc X esc ops l (upd (upd s (.heap b) (.row (arrRow (full.take n ++ zs ++ full.drop (n + zs.length))))) (.slot d) (.one (.v (rawS b (n + zs.length) cap)))) K)
  (h3 : cap < n + zs.length → ∀ b' cap', n + zs.length ≤ cap' → newB b' s → X.w0.heap.size ≤ b' → vc X esc ops l (upd (upd s (.slot d) (.one (.v (rawS b' (n + zs.length) cap')))) (.heap b') (.row (arrRow (full.take n ++ zs ++ List.replicate (cap' - (n + zs.length)) zd)))) K) :
  vcK X esc ops l K ⟨some d, .call { callee := .builtin .append, args := #[x, y], argTypes := #[T, T2] }, ty, pos, af, none⟩ s q := by
 subst hq
 rcases Nat.lt_or_ge cap (n + zs.length) with h | h
 ·intro m hm G a w R0
  obtain ⟨p1, p3⟩ := drop_cons hm
  simp only [List.length_cons, List.range'_succ, wpOpsIn, p1, Region.wanted, if_true]
  refine step_appendN (o := ⟨some d, .call { callee := .builtin .append, args := #[x, y], argTypes := #[T, T2] }, ty, pos, af, none⟩) rfl rfl hn he hB h2 hx hy hrow hfl hnc h hbig hE1 hE2 hz hzc R0 _ _ fun b' cap' hc hb hw G' a' w' R' => ?_
  exact vc_sound (h3 h b' cap' hc hb hw) (m + 1) p3 G' a' w' R'
 ·exact VL_step rfl (step_appendF (o := ⟨some d, .call { callee := .builtin .append, args := #[x, y], argTypes := #[T, T2] }, ty, pos, af, none⟩) rfl rfl hn he h2 hx hy hrow hfl h hE1 hE2) (vc_sound (h1 h))

/-- a literal as a raw slice -/
theorem step_litX {o : Oper} {t len E B : Nat} {parts : Array (Nat × Operand)} (ho : o.op = .buildSlice t len parts) {d : Nat} (hd : o.dst = some d) (hn : d < X.n) (he : elemZ X.P t = some (E, B)) {els : List (List DV)}
  (h : litEls X (get s) E 0 parts.toList = some els) (hlen : els.length = len) (hb : len * E ≤ 16777216)
  {G : Gh} {a : Act} {w : World} (R : Rel X G s a w) (next : Act → World → Prop) (Q : Exit → Act → World → Prop)
  (hK : ∀ b, newB b s → X.w0.heap.size ≤ b → ∀ G' a' w', Rel X G' (upd (upd s (.slot d) (.one (.v (rawS b len len)))) (.heap b) (.row (arrRow els))) a' w' → next a' w') :
  o.wpIn X.F 0 X.P a w next Q := by
 obtain ⟨e, i, z, hu, hi, hz, hzs, his, hib⟩ := elemZ_run he
 subst hlen
 have hsz0 : ((Array.range (els.length * E)).map fun k => (if els.length * E = 0 then #[] else z.cells)[k % (if els.length * E = 0 then #[] else z.cells).size]!).size = els.length * E := by simp
 obtain ⟨q1, q2, q3, c', f1, f2, f3, f4⟩ := litEls_sound R E parts.toList 0 els ((Array.range (els.length * E)).map fun k => (if els.length * E = 0 then #[] else z.cells)[k % (if els.length * E = 0 then #[] else z.cells).size]!) h (by rw [hsz0, Nat.zero_add]; exact Nat.le_refl _)
 rw [hsz0] at f2
 have hrun : (Instr.buildSlice t els.length (parts.map fun (i, x) => (i, a.eval x))).run X.P w = .ok (.slice (some ⟨w.heap.size, 0, none⟩) els.length els.length) (w.alloc (.cells c' e)) := by
  have hne : ¬ (els.length * E > 2 ^ 24) := by omega
  have hf : Instr.fill (fun k => some (k * E, E)) ((Array.range (els.length * E)).map fun k => (if els.length * E = 0 then #[] else z.cells)[k % (if els.length * E = 0 then #[] else z.cells).size]!) ((parts.map fun (q : Nat × Operand) => (q.1, a.eval q.2)).toList) = some c' := by
   rw [Array.toList_map]; exact f1
  unfold Instr.buildSlice
  simp only [run_underlying hu, sizeOf, typeInfo, hi, his, Sem.run_bind, Sem.run_pure, run_program, Result.andThen_ok, hne, if_false]
  by_cases h0 : els.length * E = 0
  ·simp only [if_pos h0] at hf ⊢
   simp only [Sem.run_bind, Sem.run_pure, Result.andThen_ok, hf, newRow, run_newObj]
   rfl
  ·simp only [if_neg h0] at hf ⊢
   simp only [zeroValue, typeInfo, run_program, hi, hz, Sem.run_bind, Sem.run_pure, Result.andThen_ok, hf, newRow, run_newObj]
   rfl
 refine opIn (by intro c e; rw [ho] at e; cases e) ?_
 have hexec : (execOp a.eval o).run X.P w = .ok (.value (.slice (some ⟨w.heap.size, 0, none⟩) els.length els.length)) (w.alloc (.cells c' e)) := by
  simp only [execOp, ho, Sem.run_bind, hrun, Result.andThen_ok, Sem.run_pure]
 rw [hexec, upn_value, hd]
 have hp := put_tmps a (some d) (.slice (some ⟨w.heap.size, 0, none⟩) els.length els.length)
 have T' : Trans X G a w G (a.put (some d) (.slice (some ⟨w.heap.size, 0, none⟩) els.length els.length)) (w.alloc (.cells c' e)) (fun _ => False) := by
  refine ⟨hp.1, fun h => (h.heap fun b hb => alloc_old w _ b hb).put hp.2, rfl, rfl, rfl, by simp, fun b hb _ => alloc_old w _ b hb, fun _ h => h.elim, fun b k hD => ⟨hD, World.cell?_alloc_lt w _ _ (R.wf.lt hD)⟩, fun b k hD hnD => absurd hD hnD, R.nil⟩
 refine hK w.heap.size (newB_size R) R.ext.size G _ _ (R.newArr hn (w1 := w) rfl T' (E := E) q1 q2 (by rw [f2]; exact Nat.le_refl _) fun i j e dd hi hj => ?_)
 obtain ⟨v, hv, hr⟩ := f4 i j e dd hi hj
 rw [Nat.zero_add] at hv
 exact ⟨v, hv, hr⟩

theorem vcK_litX {esc : List Nat} {ops : Array Oper} {l : List Oper} {K : St → Prop} {d : Tmp} {t len : Nat} {parts : Array (Nat × Operand)} {ty : TypeId} {pos : String} {af : Array Edge} {q : Option (Prop × St)} {E B : Nat} {els : List (List DV)}
  (he : elemZ X.P t = some (E, B)) (h : litEls X (get s) E 0 parts.toList = some els) (hc : els.length = len ∧ len * E ≤ 16777216) (hn : d < X.n) (hq : q = none)
  (k : ∀ b, newB b s → X.w0.heap.size ≤ b → vc X esc ops l (upd (upd s (.slot d) (.one (.v (rawS b len len)))) (.heap b) (.row (arrRow els))) K) :
  vcK X esc ops l K ⟨some d, .buildSlice t len parts, ty, pos, af, none⟩ s q := by
 subst hq
 intro m hm G a w R0
 obtain ⟨p1, p3⟩ := drop_cons hm
 simp only [List.length_cons, List.range'_succ, wpOpsIn, p1, Region.wanted, if_true]
 refine step_litX (o := ⟨some d, .buildSlice t len parts, ty, pos, af, none⟩) rfl rfl hn he h hc.1 hc.2 R0 _ _ fun b hb hw G' a' w' R' => ?_
 exact vc_sound (k b hb hw) (m + 1) p3 G' a' w' R'
end
end
section
variable {gl : Globs}

theorem frzSV_prim (b : Nat) (ys : List (List DV)) (k : IntKind) (n : Int) : frzSV b ys (.v (.prim (.int k n))) = .v (.prim (.int k n)) := rfl
theorem frzSV_dint (b : Nat) (ys : List (List DV)) (n : Int) : frzSV b ys (.v (dint n)) = .v (dint n) := rfl
theorem frzSV_bool (b : Nat) (ys : List (List DV)) (n : Bool) : frzSV b ys (.v (.prim (.bool n))) = .v (.prim (.bool n)) := rfl
theorem frzSV_dbool (b : Nat) (ys : List (List DV)) (n : Bool) : frzSV b ys (.v (dbool n)) = .v (dbool n) := rfl
theorem frzSV_sl (b : Nat) (ys els : List (List DV)) : frzSV b ys (.v (.sl els)) = .v (.sl els) := rfl
theorem frzSV_agg (b : Nat) (ys : List (List DV)) (cs : List DV) : frzSV b ys (.v (.agg cs)) = .v (.agg cs) := rfl
theorem frzSV_tup (b : Nat) (ys : List (List DV)) (cs : List DV) : frzSV b ys (.v (.tup cs)) = .v (.tup cs) := rfl
theorem frzSV_tm (b : Nat) (ys : List (List DV)) (t : Tm) : frzSV b ys (.v t.dv) = .v t.dv := rfl
theorem frzSV_loc (b : Nat) (ys : List (List DV)) (k o : Nat) : frzSV b ys (.loc k o) = .loc k o := rfl
theorem frzSV_dp (b : Nat) (ys els : List (List DV)) (k o : Nat) : frzSV b ys (.dp els k o) = .dp els k o := rfl
theorem frzSV_own (b : Nat) (ys els : List (List DV)) (k : Nat) : frzSV b ys (.own k els) = .own k els := rfl
theorem frzSV_ptr (b : Nat) (ys : List (List DV)) (p : Option Addr) : frzSV b ys (.v (.prim (.pointer p))) = .v (.prim (.pointer p)) := rfl
theorem frzSV_it {b : Nat} {ys : List (List DV)} {n cap : Nat} (h1 : n = ys.length) (h2 : n ≤ cap) : frzSV b ys (.v (.prim (.slice (some ⟨b, 0, none⟩) n cap))) = .v (.sl ys) := by
 show (if b = b ∧ n = ys.length ∧ n ≤ cap then _ else _) = _
 rw [if_pos ⟨rfl, h1, h2⟩]
end
section
variable {gl : Globs}

theorem Tm.idx_of (t : Tm) (m : Int) (h : t.shape = true) (hm : t.leastN m = true) : t.idx m := by
 induction t using Tm.ind with
 | h t ih =>
 have hs := Tm.shape_node h
 rw [leastN_eq, Bool.and_eq_true] at hm
 have key : ∀ l : List Tm, leastN.leasts l m = true → ∀ a ∈ l, a.leastN m = true := by
  intro l
  induction l with
  | nil => simp
  | cons a r ihr =>
   intro hl x hx
   simp only [leastN.leasts, Bool.and_eq_true] at hl
   rcases List.mem_cons.1 hx with rfl | hx
   ·exact hl.1
   ·exact ihr hl.2 x hx
 rw [idx_eq]
 refine ⟨⟨hs.2.1, ?_⟩, fun a ha => ih a ha (hs.2.2.2.2 a ha) (key _ hm.2 a ha)⟩
 have := hm.1
 simp at this
 exact this
end
section
/-
 Plain law: reducing keeps what a term denotes; normal closed terms of plain types are the terms of values.
-/
/-- types without functions -/
def T.plain : T → Prop
 | .nat => True
 | .list => True
 | .unit => True
 | .pair a b => a.plain ∧ b.plain
 | .fn _ _ => False
/-- the plain value of a value -/
def valOf : (a : T) → a.V → Val
 | .nat, n => Val.mk 1 (Int.ofNat n) [] []
 | .list, l => Val.mk 2 0 (List.map Int.ofNat l) []
 | .unit, _ => Val.mk 4 0 [] []
 | .pair a b, p => Val.mk 3 0 [] [valOf a p.1, valOf b p.2]
 | .fn _ _, _ => Val.mk 4 0 [] []
end
section
/-
 Plain facts: what is drawn out of a deck of numbers: types, contexts, terms; their forms.
-/
/-- a small type -/
def typeD (l : List Int) : Nat → Nat → Ty × Nat
 | 0, p =>
  if (nextD l p 7).1 = 3 then (Ty.mk 2 [], (nextD l p 7).2) else if (nextD l p 7).1 = 4 then (Ty.mk 5 [], (nextD l p 7).2) else (Ty.mk 1 [], (nextD l p 7).2)
 | n + 1, p =>
  if (nextD l p 7).1 = 3 then (Ty.mk 2 [], (nextD l p 7).2) else if (nextD l p 7).1 = 4 then (Ty.mk 5 [], (nextD l p 7).2)
  else if (nextD l p 7).1 = 5 then (Ty.mk 3 [(typeD l n (nextD l p 7).2).1, (typeD l n (typeD l n (nextD l p 7).2).2).1], (typeD l n (typeD l n (nextD l p 7).2).2).2)
  else if (nextD l p 7).1 = 6 then (Ty.mk 4 [(typeD l n (nextD l p 7).2).1, (typeD l n (typeD l n (nextD l p 7).2).2).1], (typeD l n (typeD l n (nextD l p 7).2).2).2)
  else (Ty.mk 1 [], (nextD l p 7).2)

/-- n small types -/
def typesD (l : List Int) : Nat → Nat → List Ty × Nat
 | 0, p => ([], p)
 | n + 1, p => ((typeD l 1 p).1 :: (typesD l n (typeD l 1 p).2).1, (typesD l n (typeD l 1 p).2).2)
def ctxD (l : List Int) (p : Nat) : List Ty × Nat := typesD l (nextD l p 4).1.toNat (nextD l p 4).2

/-- the variable i's type -/
def varTy (g : List Ty) (i : Nat) : Ty := g.getD (g.length - 1 - i) zeroTy
/-- the variables of a type -/
def varsN (g : List Ty) (t : Ty) : List Nat := (List.range g.length).filter fun i => (varTy g i).same t
/-- the first variable that is a function into a type -/
def funN (g : List Ty) (t : Ty) : Option Nat := (List.range g.length).find? fun i => decide ((varTy g i).kind = 4) && ((varTy g i).arg 1).same t

/-- a variable, if one is chosen -/
def pickD (l : List Int) (t : Ty) (g : List Ty) (p : Nat) : Option Tm × Nat :=
 if (varsN g t).length = 0 then (none, p)
 else if (nextD l p 3).1 = 0 then (none, (nextD l p 3).2)
 else (some (vT ((varsN g t).getD (nextD l (nextD l p 3).2 (varsN g t).length).1.toNat 0 : Nat)), (nextD l (nextD l p 3).2 (varsN g t).length).2)

def numD (l : List Int) (p : Nat) : Tm × Nat := (numTm (nextD l p 3).1.toNat, (nextD l p 3).2)

/-- a term of a type, without depth -/
def leafD (l : List Int) (t : Ty) (g : List Ty) (p : Nat) : Tm × Nat :=
 match pickD l t g p with
 | (some x, q) => (x, q)
 | (none, q) =>
  match t with
  | .mk k ts =>
   if k = 1 then numD l q
   else if k = 2 then (nT 7 [], q)
   else match ts with
    | [a, b] =>
     if k = 3 then (nT 10 [(leafD l a g q).1, (leafD l b g (leafD l a g q).2).1], (leafD l b g (leafD l a g q).2).2)
     else if k = 4 then (Tm.mk 2 0 a [(leafD l b (g ++ [a]) q).1], (leafD l b (g ++ [a]) q).2)
     else (nT 13 [], q)
    | _ => (nT 13 [], q)
termination_by SizeOf.sizeOf t

/-- the end of a draw: by the type -/
def endD (l : List Int) (F : Ty → List Ty → Nat → Tm × Nat) (t : Ty) (g : List Ty) (q : Nat) : Tm × Nat :=
 if t.kind = 1 then
  if (nextD l q 5).1 = 0 then (nT 5 [(F t g (nextD l q 5).2).1], (F t g (nextD l q 5).2).2)
  else if (nextD l q 5).1 = 1 then (appsT plusT [(F t g (nextD l q 5).2).1, (F t g (F t g (nextD l q 5).2).2).1], (F t g (F t g (nextD l q 5).2).2).2)
  else if (nextD l q 5).1 = 2 then (appsT subT [(F t g (nextD l q 5).2).1, (F t g (F t g (nextD l q 5).2).2).1], (F t g (F t g (nextD l q 5).2).2).2)
  else numD l (nextD l q 5).2
 else if t.kind = 2 then
  if (nextD l q 2).1 = 0 then (nT 8 [(F (Ty.mk 1 []) g (nextD l q 2).2).1, (F t g (F (Ty.mk 1 []) g (nextD l q 2).2).2).1], (F t g (F (Ty.mk 1 []) g (nextD l q 2).2).2).2)
  else (nT 7 [], (nextD l q 2).2)
 else if t.kind = 3 then (nT 10 [(F (t.arg 0) g q).1, (F (t.arg 1) g (F (t.arg 0) g q).2).1], (F (t.arg 1) g (F (t.arg 0) g q).2).2)
 else if t.kind = 4 then (Tm.mk 2 0 (t.arg 0) [(F (t.arg 1) (g ++ [t.arg 0]) q).1], (F (t.arg 1) (g ++ [t.arg 0]) q).2)
 else (nT 13 [], q)

/-- a draw with depth, without a variable: by the choice k -/
def stepD (l : List Int) (F : Ty → List Ty → Nat → Tm × Nat) (t : Ty) (g : List Ty) (k : Int) (q : Nat) : Tm × Nat :=
 if k = 0 then
  let s := typeD l 0 q
  let x := F t (g ++ [s.1]) s.2
  let y := F s.1 g x.2
  (nT 3 [Tm.mk 2 0 s.1 [x.1], y.1], y.2)
 else if k = 1 then
  let s := typeD l 0 q
  let x := F t g s.2
  let y := F s.1 g x.2
  (nT 11 [nT 10 [x.1, y.1]], y.2)
 else if k = 2 then
  let x := F t (g ++ [Ty.mk 1 [], t]) q
  let y := F t g x.2
  let z := numD l y.2
  (Tm.mk 6 0 t [y.1, Tm.mk 2 0 (Ty.mk 1 []) [Tm.mk 2 0 t [x.1]], z.1], z.2)
 else if k = 3 then
  let x := F t (g ++ [Ty.mk 1 [], Ty.mk 2 [], t]) q
  let y := F t g x.2
  let z := F (Ty.mk 2 []) g y.2
  (Tm.mk 9 0 t [y.1, Tm.mk 2 0 (Ty.mk 1 []) [Tm.mk 2 0 (Ty.mk 2 []) [Tm.mk 2 0 t [x.1]]], z.1], z.2)
 else if k = 4 then
  let s := typeD l 0 q
  let x := F s.1 g s.2
  let y := F t g x.2
  (nT 12 [nT 10 [x.1, y.1]], y.2)
 else if k = 5 then
  match funN g t with
  | some i => (nT 3 [vT i, (F ((varTy g i).arg 0) g q).1], (F ((varTy g i).arg 0) g q).2)
  | none => endD l F t g q
 else endD l F t g q

/-- a term of a type in a context -/
def termD (l : List Int) : Nat → Ty → List Ty → Nat → Tm × Nat
 | 0, t, g, p => leafD l t g p
 | n + 1, t, g, p =>
  match pickD l t g p with
  | (some x, q) => (x, q)
  | (none, q) => stepD l (termD l n) t g (nextD l q 8).1 (nextD l q 8).2

theorem leafD_eq (l : List Int) (t : Ty) (g : List Ty) (p : Nat) (ht : t.ok) : leafD l t g p =
  match pickD l t g p with
  | (some x, q) => (x, q)
  | (none, q) =>
   if t.kind = 1 then numD l q
   else if t.kind = 2 then (nT 7 [], q)
   else if t.kind = 3 then (nT 10 [(leafD l (t.arg 0) g q).1, (leafD l (t.arg 1) g (leafD l (t.arg 0) g q).2).1], (leafD l (t.arg 1) g (leafD l (t.arg 0) g q).2).2)
   else if t.kind = 4 then (Tm.mk 2 0 (t.arg 0) [(leafD l (t.arg 1) (g ++ [t.arg 0]) q).1], (leafD l (t.arg 1) (g ++ [t.arg 0]) q).2)
   else (nT 13 [], q) := by
 rw [leafD.eq_def]
 rcases pickD l t g p with ⟨_ | x, q⟩
 ·cases t with
  | mk k ts =>
   simp only [Ty.kind]
   by_cases h1 : k = 1
   ·simp [h1]
   by_cases h2 : k = 2
   ·simp [h2]
   simp only [h1, h2, if_false]
   by_cases h34 : k = 3 ∨ k = 4
   ·obtain ⟨a, b, e, -, -, e0, e1⟩ := Ty.ok_args ht h34
    simp only [Ty.args] at e
    subst e
    rw [e0, e1]
    rfl
   ·have h3 : k ≠ 3 := fun e => h34 (.inl e)
    have h4 : k ≠ 4 := fun e => h34 (.inr e)
    simp only [h3, h4, if_false]
    match ts with
    | [a, b] => rfl
    | [] => rfl
    | [_] => rfl
    | _ :: _ :: _ :: _ => rfl
 ·rfl

theorem ty_two {k : Int} {a b : Ty} (hk : k = 3 ∨ k = 4) (ha : a.shape = true) (hb : b.shape = true) : (Ty.mk k [a, b]).shape = true := by
 rcases hk with rfl | rfl <;> simp [Ty.shape, Ty.shape.shapes, tyKind, ha, hb]

theorem typeD_facts (l : List Int) : ∀ (n p : Nat), p ≤ l.length → (typeD l n p).2 ≤ l.length ∧ (typeD l n p).1.shape = true ∧ (typeD l n p).1.count + 1 ≤ 2 ^ (n + 1)
 | 0, p, hp => by
  have hq := nextD_le (n := 7) hp
  unfold typeD
  split
  ·exact ⟨hq, rfl, Nat.le_refl 2⟩
  ·split
   ·exact ⟨hq, rfl, Nat.le_refl 2⟩
   ·exact ⟨hq, rfl, Nat.le_refl 2⟩
 | n + 1, p, hp => by
  have hq := nextD_le (n := 7) hp
  obtain ⟨a1, a2, a3⟩ := typeD_facts l n _ hq
  obtain ⟨b1, b2, b3⟩ := typeD_facts l n _ a1
  have h2 : 2 ≤ 2 ^ (n + 1) := Nat.pow_le_pow_right (n := 2) (by decide) (show 1 ≤ n + 1 by omega)
  have h3 : 2 ^ (n + 1 + 1) = 2 ^ (n + 1) * 2 := Nat.pow_succ ..
  have hc : ∀ (k : Int) (a b : Ty), (Ty.mk k [a, b]).count = 1 + (a.count + (b.count + 0)) := fun _ _ _ => rfl
  unfold typeD
  split
  ·exact ⟨hq, rfl, by show 1 + 0 + 1 ≤ _; omega⟩
  split
  ·exact ⟨hq, rfl, by show 1 + 0 + 1 ≤ _; omega⟩
  split
  ·exact ⟨b1, ty_two (.inl rfl) a2 b2, by rw [hc]; omega⟩
  split
  ·exact ⟨b1, ty_two (.inr rfl) a2 b2, by rw [hc]; omega⟩
  ·exact ⟨hq, rfl, by show 1 + 0 + 1 ≤ _; omega⟩

/-- a small type -/
def Ty.small (t : Ty) : Prop := t.shape = true ∧ t.count ≤ 15
theorem Ty.small.ok {t : Ty} (h : t.small) : t.ok := ⟨h.1, by have := h.2; omega⟩
theorem Ty.small.arg {t : Ty} (h : t.small) (hk : t.kind = 3 ∨ t.kind = 4) : (t.arg 0).small ∧ (t.arg 1).small ∧ (t.arg 0).count + (t.arg 1).count < t.count := by
 obtain ⟨a, b, e, oa, ob, e0, e1⟩ := Ty.ok_args h.ok hk
 have hc : t.count = 1 + (a.count + (b.count + 0)) := by rw [Ty.count_eq, e]; rfl
 have := h.2
 rw [e0, e1]
 exact ⟨⟨oa.1, by omega⟩, ⟨ob.1, by omega⟩, by omega⟩
theorem typeD_small (l : List Int) {n p : Nat} (hp : p ≤ l.length) (hn : n ≤ 3) : (typeD l n p).2 ≤ l.length ∧ (typeD l n p).1.small := by
 obtain ⟨h1, h2, h3⟩ := typeD_facts l n p hp
 have : 2 ^ (n + 1) ≤ 2 ^ 4 := Nat.pow_le_pow_right (by decide) (by omega)
 exact ⟨h1, h2, by omega⟩
theorem small_nat : (Ty.mk 1 []).small := ⟨rfl, by decide⟩
theorem small_list : (Ty.mk 2 []).small := ⟨rfl, by decide⟩
theorem typesD_facts (l : List Int) : ∀ (n p : Nat), p ≤ l.length → (typesD l n p).2 ≤ l.length ∧ (∀ t ∈ (typesD l n p).1, t.small) ∧ (typesD l n p).1.length = n
 | 0, p, hp => ⟨hp, by simp [typesD], rfl⟩
 | n + 1, p, hp => by
  obtain ⟨a1, a2⟩ := typeD_small l (n := 1) hp (by decide)
  obtain ⟨b1, b2, b3⟩ := typesD_facts l n _ a1
  refine ⟨b1, fun t ht => ?_, by simp [typesD, b3]⟩
  simp only [typesD, List.mem_cons] at ht
  rcases ht with rfl | ht
  ·exact a2
  ·exact b2 t ht
theorem ctxD_facts (l : List Int) {p : Nat} (hp : p ≤ l.length) : (ctxD l p).2 ≤ l.length ∧ (∀ t ∈ (ctxD l p).1, t.small) ∧ (ctxD l p).1.length ≤ 3 := by
 obtain ⟨h1, h2, h3⟩ := typesD_facts l (nextD l p 4).1.toNat _ (nextD_le (n := 4) hp)
 have := nextD_bd (l := l) (p := p) (n := 4) (by decide)
 exact ⟨h1, h2, by show (typesD _ _ _).1.length ≤ 3; omega⟩

theorem varTy_mem {g : List Ty} {i : Nat} (h : i < g.length) : varTy g i ∈ g ∧ g[g.length - 1 - i]? = some (varTy g i) := by
 have hl : g.length - 1 - i < g.length := by omega
 unfold varTy
 rw [List.getD_eq_getElem?_getD, List.getElem?_eq_getElem hl]
 exact ⟨List.getElem_mem _, rfl⟩
theorem varsN_mem {g : List Ty} {t : Ty} {i : Nat} (h : i ∈ varsN g t) : i < g.length ∧ varTy g i = t := by
 simp only [varsN, List.mem_filter, List.mem_range, Ty.same_iff] at h
 exact h
theorem funN_some {g : List Ty} {t : Ty} {i : Nat} (h : funN g t = some i) : i < g.length ∧ (varTy g i).kind = 4 ∧ (varTy g i).arg 1 = t := by
 have h1 := List.find?_some h
 have h2 := List.mem_of_find?_eq_some h
 simp only [Bool.and_eq_true, decide_eq_true_eq, Ty.same_iff] at h1
 exact ⟨List.mem_range.1 h2, h1.1, h1.2⟩

theorem pickD_le {l : List Int} {t : Ty} {g : List Ty} {p : Nat} (hp : p ≤ l.length) : (pickD l t g p).2 ≤ l.length := by
 unfold pickD
 split
 ·exact hp
 ·split
  ·exact nextD_le hp
  ·exact nextD_le (nextD_le hp)
theorem pickD_some {l : List Int} {t : Ty} {g : List Ty} {p q : Nat} {x : Tm} (h : pickD l t g p = (some x, q)) : ∃ i : Nat, x = vT i ∧ i < g.length ∧ varTy g i = t := by
 unfold pickD at h
 split at h
 ·cases h
 ·rename_i hne
  split at h
  ·cases h
  ·simp only [Prod.mk.injEq, Option.some.injEq] at h
   generalize hk : (nextD l (nextD l p 3).2 (varsN g t).length).1.toNat = k at h
   have hb := nextD_bd (l := l) (p := (nextD l p 3).2) (n := (varsN g t).length) (by omega)
   have hlt : k < (varsN g t).length := by omega
   refine ⟨(varsN g t)[k], ?_, varsN_mem (List.getElem_mem hlt)⟩
   rw [← h.1, List.getD_eq_getElem?_getD, List.getElem?_eq_getElem hlt, Option.getD_some]

theorem shape_v {i : Nat} : (vT i).shape = true := by
 unfold vT
 rw [Tm.shape_eq]
 simp [Tm.kind, Tm.index, Tm.type, Tm.args, Tm.shape.shapes, tmKind, tyOfKind, arityI, Ty.zero, Ty.kind, Ty.args]
theorem shape_n {k : Int} {a : List Tm} (h : (a.length : Int) = arityI k) (hk : ¬ (k = 2 ∨ k = 6 ∨ k = 9)) (ha : ∀ x ∈ a, x.shape = true) : (nT k a).shape = true := by
 unfold nT
 rw [Tm.shape_eq]
 have hz : tyOfKind k (Ty.mk 0 []) = true := by unfold tyOfKind; rw [if_neg hk]; rfl
 simp only [Tm.kind, Tm.index, Tm.type, Tm.args, (Tm.shapes_iff a).2 ha, tmKind, hz, h]
 simp
theorem shape_t {k : Int} {s : Ty} {a : List Tm} (h : (a.length : Int) = arityI k) (hk : k = 2 ∨ k = 6 ∨ k = 9) (hs : s.ok) (ha : ∀ x ∈ a, x.shape = true) : (Tm.mk k 0 s a).shape = true := by
 rw [Tm.shape_eq]
 simp only [Tm.kind, Tm.index, Tm.type, Tm.args, (Tm.shapes_iff a).2 ha, tmKind, tyOfKind, if_pos hk, h, (Ty.checkN_iff s).2 hs]
 simp

/-- what holds of all that F draws -/
def Draws (l : List Int) (F : Ty → List Ty → Nat → Tm × Nat) (Q : Ty → List Ty → Tm → Prop) : Prop :=
 ∀ t g p, t.small → (∀ x ∈ g, x.small) → p ≤ l.length → (F t g p).2 ≤ l.length ∧ Q t g (F t g p).1

/-- what a property of drawn terms must obey -/
structure DrawOK (Q : Ty → List Ty → Tm → Prop) : Prop where
 var : ∀ g i, i < g.length → Q (varTy g i) g (vT (i : Nat))
 num : ∀ g n, n < 3 → Q (Ty.mk 1 []) g (numTm n)
 app : ∀ g s t f x, s.small → t.small → Q (Ty.mk 4 [s, t]) g f → Q s g x → Q t g (nT 3 [f, x])
 lam : ∀ g s t x, s.small → t.small → Q t (g ++ [s]) x → Q (Ty.mk 4 [s, t]) g (Tm.mk 2 0 s [x])
 lam2 : ∀ g s t r x, s.small → t.small → r.small → Q r (g ++ [s, t]) x → Q (Ty.mk 4 [s, Ty.mk 4 [t, r]]) g (Tm.mk 2 0 s [Tm.mk 2 0 t [x]])
 lam3 : ∀ g s t u r x, s.small → t.small → u.small → r.small → Q r (g ++ [s, t, u]) x → Q (Ty.mk 4 [s, Ty.mk 4 [t, Ty.mk 4 [u, r]]]) g (Tm.mk 2 0 s [Tm.mk 2 0 t [Tm.mk 2 0 u [x]]])
 pair : ∀ g s t x y, s.small → t.small → Q s g x → Q t g y → Q (Ty.mk 3 [s, t]) g (nT 10 [x, y])
 fst : ∀ g s t x, s.small → t.small → Q (Ty.mk 3 [s, t]) g x → Q s g (nT 11 [x])
 snd : ∀ g s t x, s.small → t.small → Q (Ty.mk 3 [s, t]) g x → Q t g (nT 12 [x])
 rc : ∀ g t x f n, t.small → Q t g x → Q (Ty.mk 4 [Ty.mk 1 [], Ty.mk 4 [t, t]]) g f → Q (Ty.mk 1 []) g n → Q t g (Tm.mk 6 0 t [x, f, n])
 fold : ∀ g t x f n, t.small → Q t g x → Q (Ty.mk 4 [Ty.mk 1 [], Ty.mk 4 [Ty.mk 2 [], Ty.mk 4 [t, t]]]) g f → Q (Ty.mk 2 []) g n → Q t g (Tm.mk 9 0 t [x, f, n])
 succ : ∀ g x, Q (Ty.mk 1 []) g x → Q (Ty.mk 1 []) g (nT 5 [x])
 plus : ∀ g x y, Q (Ty.mk 1 []) g x → Q (Ty.mk 1 []) g y → Q (Ty.mk 1 []) g (appsT plusT [x, y])
 sub : ∀ g x y, Q (Ty.mk 1 []) g x → Q (Ty.mk 1 []) g y → Q (Ty.mk 1 []) g (appsT subT [x, y])
 nil : ∀ g, Q (Ty.mk 2 []) g (nT 7 [])
 cons : ∀ g x y, Q (Ty.mk 1 []) g x → Q (Ty.mk 2 []) g y → Q (Ty.mk 2 []) g (nT 8 [x, y])
 unit : ∀ g, Q (Ty.mk 5 []) g (nT 13 [])

theorem numD_facts {l : List Int} {Q : Ty → List Ty → Tm → Prop} (hQ : DrawOK Q) {p : Nat} (hp : p ≤ l.length) (g : List Ty) : (numD l p).2 ≤ l.length ∧ Q (Ty.mk 1 []) g (numD l p).1 := by
 have := nextD_bd (l := l) (p := p) (n := 3) (by decide)
 exact ⟨nextD_le hp, hQ.num g _ (by omega)⟩

theorem small_kinds {t : Ty} (h : t.small) : (t.kind = 1 ∧ t = Ty.mk 1 []) ∨ (t.kind = 2 ∧ t = Ty.mk 2 []) ∨ (t.kind = 5 ∧ t = Ty.mk 5 []) ∨ (t.kind = 3 ∧ t = Ty.mk 3 [t.arg 0, t.arg 1]) ∨ (t.kind = 4 ∧ t = Ty.mk 4 [t.arg 0, t.arg 1]) := by
 cases t with
 | mk k ts =>
  have h1 := h.1
  rw [Ty.shape_eq, Bool.and_eq_true] at h1
  have hk := h1.1
  unfold tyKind at hk
  simp [Ty.kind, Ty.args] at hk
  rcases hk with ⟨h2, rfl⟩ | ⟨h2, h3⟩
  ·rcases of_decide_eq_true h2 with rfl | rfl | rfl <;> simp [Ty.kind]
  ·match ts, h3 with
   | [a, b], _ => rcases of_decide_eq_true h2 with rfl | rfl <;> simp [Ty.kind, Ty.arg, Ty.args]

theorem endD_facts {l : List Int} {F : Ty → List Ty → Nat → Tm × Nat} {Q : Ty → List Ty → Tm → Prop} (hQ : DrawOK Q) (hF : Draws l F Q) : Draws l (endD l F) Q := by
 intro t g p ht hg hp
 unfold endD
 have h5 := nextD_le (n := 5) hp
 have h2 := nextD_le (n := 2) hp
 rcases small_kinds ht with ⟨h, e⟩ | ⟨h, e⟩ | ⟨h, e⟩ | ⟨h, e⟩ | ⟨h, e⟩
 ·rw [if_pos h]
  obtain ⟨a1, a2⟩ := hF t g _ ht hg h5
  obtain ⟨b1, b2⟩ := hF t g _ ht hg a1
  rw [e] at a1 a2 b1 b2 ⊢
  split
  ·exact ⟨a1, hQ.succ g _ a2⟩
  split
  ·exact ⟨b1, hQ.plus g _ _ a2 b2⟩
  split
  ·exact ⟨b1, hQ.sub g _ _ a2 b2⟩
  ·exact numD_facts hQ h5 g
 ·rw [if_neg (by omega), if_pos h]
  obtain ⟨a1, a2⟩ := hF _ g _ small_nat hg h2
  obtain ⟨b1, b2⟩ := hF t g _ ht hg a1
  rw [e] at b1 b2 ⊢
  split
  ·exact ⟨b1, hQ.cons g _ _ a2 b2⟩
  ·exact ⟨h2, hQ.nil g⟩
 ·rw [if_neg (by omega), if_neg (by omega), if_neg (by omega), if_neg (by omega)]
  rw [e]
  exact ⟨hp, hQ.unit g⟩
 ·rw [if_neg (by omega), if_neg (by omega), if_pos h]
  obtain ⟨s0, s1, _⟩ := ht.arg (.inl h)
  obtain ⟨a1, a2⟩ := hF _ g _ s0 hg hp
  obtain ⟨b1, b2⟩ := hF _ g _ s1 hg a1
  refine ⟨b1, ?_⟩
  rw [e]
  exact hQ.pair g _ _ _ _ s0 s1 a2 b2
 ·rw [if_neg (by omega), if_neg (by omega), if_neg (by omega), if_pos h]
  obtain ⟨s0, s1, _⟩ := ht.arg (.inr h)
  obtain ⟨a1, a2⟩ := hF (t.arg 1) (g ++ [t.arg 0]) _ s1 (by intro x hx; rcases List.mem_append.1 hx with hx | hx; exact hg x hx; rw [List.mem_singleton.1 hx]; exact s0) hp
  refine ⟨a1, ?_⟩
  rw [e]
  exact hQ.lam g _ _ _ s0 s1 a2

theorem stepD_facts {l : List Int} {F : Ty → List Ty → Nat → Tm × Nat} {Q : Ty → List Ty → Tm → Prop} (hQ : DrawOK Q) (hF : Draws l F Q) (k : Int) : Draws l (fun t g p => stepD l F t g k p) Q := by
 intro t g p ht hg hp
 have hg1 : ∀ a : List Ty, (∀ x ∈ a, x.small) → ∀ x ∈ g ++ a, x.small := by
  intro a ha x hx
  rcases List.mem_append.1 hx with hx | hx
  ·exact hg x hx
  ·exact ha x hx
 have hg2 : ∀ s : Ty, s.small → ∀ x ∈ g ++ [s], x.small := fun s hs => hg1 [s] (by simpa using hs)
 obtain ⟨s1, s2⟩ := typeD_small l (n := 0) hp (by decide)
 show (stepD l F t g k p).2 ≤ l.length ∧ Q t g (stepD l F t g k p).1
 unfold stepD
 split
 ·obtain ⟨a1, a2⟩ := hF t _ _ ht (hg2 _ s2) s1
  obtain ⟨b1, b2⟩ := hF _ g _ s2 hg a1
  exact ⟨b1, hQ.app g _ _ _ _ s2 ht (hQ.lam g _ _ _ s2 ht a2) b2⟩
 split
 ·obtain ⟨a1, a2⟩ := hF t g _ ht hg s1
  obtain ⟨b1, b2⟩ := hF _ g _ s2 hg a1
  exact ⟨b1, hQ.fst g _ _ _ ht s2 (hQ.pair g _ _ _ _ ht s2 a2 b2)⟩
 split
 ·obtain ⟨a1, a2⟩ := hF t _ _ ht (hg1 [Ty.mk 1 [], t] (by intro x hx; simp at hx; rcases hx with rfl | rfl; exact small_nat; exact ht)) hp
  obtain ⟨b1, b2⟩ := hF t g _ ht hg a1
  obtain ⟨c1, c2⟩ := numD_facts hQ b1 g
  exact ⟨c1, hQ.rc g _ _ _ _ ht b2 (hQ.lam2 g _ _ _ _ small_nat ht ht a2) c2⟩
 split
 ·obtain ⟨a1, a2⟩ := hF t _ _ ht (hg1 [Ty.mk 1 [], Ty.mk 2 [], t] (by intro x hx; simp at hx; rcases hx with rfl | rfl | rfl; exact small_nat; exact small_list; exact ht)) hp
  obtain ⟨b1, b2⟩ := hF t g _ ht hg a1
  obtain ⟨c1, c2⟩ := hF _ g _ small_list hg b1
  exact ⟨c1, hQ.fold g _ _ _ _ ht b2 (hQ.lam3 g _ _ _ _ _ small_nat small_list ht ht a2) c2⟩
 split
 ·obtain ⟨a1, a2⟩ := hF _ g _ s2 hg s1
  obtain ⟨b1, b2⟩ := hF t g _ ht hg a1
  exact ⟨b1, hQ.snd g _ _ _ s2 ht (hQ.pair g _ _ _ _ s2 ht a2 b2)⟩
 split
 ·split
  ·rename_i i hi
   obtain ⟨f1, f2, f3⟩ := funN_some hi
   have hfs := hg _ (varTy_mem f1).1
   obtain ⟨c0, c1, -⟩ := hfs.arg (.inr f2)
   obtain ⟨a1, a2⟩ := hF _ g _ c0 hg hp
   have hv := hQ.var g i f1
   rcases small_kinds hfs with ⟨h, e⟩ | ⟨h, e⟩ | ⟨h, e⟩ | ⟨h, e⟩ | ⟨h, e⟩
   ·omega
   ·omega
   ·omega
   ·omega
   ·rw [e, f3] at hv
    exact ⟨a1, hQ.app g _ _ _ _ c0 ht hv a2⟩
  ·exact endD_facts hQ hF t g p ht hg hp
 ·exact endD_facts hQ hF t g p ht hg hp

theorem leafD_facts {l : List Int} {Q : Ty → List Ty → Tm → Prop} (hQ : DrawOK Q) : Draws l (leafD l) Q := by
 intro t
 generalize hn : t.count = n
 induction n using Nat.strongRecOn generalizing t with
 | _ n ih =>
 intro g p ht hg hp
 rw [leafD_eq l t g p ht.ok]
 have hq := pickD_le (t := t) (g := g) hp
 split
 ·rename_i x q hx
  obtain ⟨i, rfl, h1, h2⟩ := pickD_some hx
  rw [hx] at hq
  have := hQ.var g i h1
  rw [h2] at this
  exact ⟨hq, this⟩
 ·rename_i q hx
  rw [hx] at hq
  rcases small_kinds ht with ⟨h, e⟩ | ⟨h, e⟩ | ⟨h, e⟩ | ⟨h, e⟩ | ⟨h, e⟩
  ·rw [if_pos h, e]; exact numD_facts hQ hq g
  ·rw [if_neg (by omega), if_pos h, e]; exact ⟨hq, hQ.nil g⟩
  ·rw [if_neg (by omega), if_neg (by omega), if_neg (by omega), if_neg (by omega), e]; exact ⟨hq, hQ.unit g⟩
  ·rw [if_neg (by omega), if_neg (by omega), if_pos h]
   obtain ⟨s0, s1, hc⟩ := ht.arg (.inl h)
   have p0 := Ty.count_eq (t.arg 0)
   have p1 := Ty.count_eq (t.arg 1)
   obtain ⟨a1, a2⟩ := ih _ (by omega) (t.arg 0) rfl g _ s0 hg hq
   obtain ⟨b1, b2⟩ := ih _ (by omega) (t.arg 1) rfl g _ s1 hg a1
   refine ⟨b1, ?_⟩
   have := hQ.pair g _ _ _ _ s0 s1 a2 b2
   rw [← e] at this
   exact this
  ·rw [if_neg (by omega), if_neg (by omega), if_neg (by omega), if_pos h]
   obtain ⟨s0, s1, hc⟩ := ht.arg (.inr h)
   have p0 := Ty.count_eq (t.arg 0)
   have p1 := Ty.count_eq (t.arg 1)
   obtain ⟨a1, a2⟩ := ih _ (by omega) (t.arg 1) rfl (g ++ [t.arg 0]) _ s1 (by intro x hx; rcases List.mem_append.1 hx with hx | hx; exact hg x hx; rw [List.mem_singleton.1 hx]; exact s0) hq
   refine ⟨a1, ?_⟩
   have := hQ.lam g _ _ _ s0 s1 a2
   rw [← e] at this
   exact this

theorem termD_facts {l : List Int} {Q : Ty → List Ty → Tm → Prop} (hQ : DrawOK Q) : ∀ n, Draws l (termD l n) Q
 | 0 => leafD_facts hQ
 | n + 1 => by
  intro t g p ht hg hp
  have hq := pickD_le (t := t) (g := g) hp
  unfold termD
  split
  ·rename_i x q hx
   obtain ⟨i, rfl, h1, h2⟩ := pickD_some hx
   rw [hx] at hq
   have := hQ.var g i h1
   rw [h2] at this
   exact ⟨hq, this⟩
  ·rename_i q hx
   rw [hx] at hq
   exact stepD_facts hQ (termD_facts hQ n) _ t g _ ht hg (nextD_le hq)

theorem app2_shape {f x y : Tm} (hf : f.shape = true) (hx : x.shape = true) (hy : y.shape = true) : (appsT f [x, y]).shape = true := by
 show (nT 3 [nT 3 [f, x], y]).shape = true
 exact shape_n rfl (by decide) (by intro z hz; simp at hz; rcases hz with rfl | rfl; exact shape_n rfl (by decide) (by intro z hz; simp at hz; rcases hz with rfl | rfl; exact hf; exact hx); exact hy)

theorem closed_shape : DrawOK (fun _ _ x => x.shape = true) where
 var _ _ _ := shape_v
 num _ n _ := num_shape n
 app _ _ _ _ _ _ _ hf hx := shape_n rfl (by decide) (by intro z hz; simp at hz; rcases hz with rfl | rfl; exact hf; exact hx)
 lam _ _ _ _ hs _ hx := shape_t rfl (.inl rfl) hs.ok (by intro z hz; simp at hz; rw [hz]; exact hx)
 lam2 _ _ _ _ _ hs ht _ hx := shape_t rfl (.inl rfl) hs.ok (by intro z hz; simp at hz; rw [hz]; exact shape_t rfl (.inl rfl) ht.ok (by intro z hz; simp at hz; rw [hz]; exact hx))
 lam3 _ _ _ _ _ _ hs ht hu _ hx := shape_t rfl (.inl rfl) hs.ok (by intro z hz; simp at hz; rw [hz]; exact shape_t rfl (.inl rfl) ht.ok (by intro z hz; simp at hz; rw [hz]; exact shape_t rfl (.inl rfl) hu.ok (by intro z hz; simp at hz; rw [hz]; exact hx)))
 pair _ _ _ _ _ _ _ hf hx := shape_n rfl (by decide) (by intro z hz; simp at hz; rcases hz with rfl | rfl; exact hf; exact hx)
 fst _ _ _ _ _ _ hx := shape_n rfl (by decide) (by intro z hz; simp at hz; rw [hz]; exact hx)
 snd _ _ _ _ _ _ hx := shape_n rfl (by decide) (by intro z hz; simp at hz; rw [hz]; exact hx)
 rc _ _ _ _ _ ht hx hf hn := shape_t rfl (.inr (.inl rfl)) ht.ok (by intro z hz; simp at hz; rcases hz with rfl | rfl | rfl; exact hx; exact hf; exact hn)
 fold _ _ _ _ _ ht hx hf hn := shape_t rfl (.inr (.inr rfl)) ht.ok (by intro z hz; simp at hz; rcases hz with rfl | rfl | rfl; exact hx; exact hf; exact hn)
 succ _ _ hx := shape_n rfl (by decide) (by intro z hz; simp at hz; rw [hz]; exact hx)
 plus _ _ _ hx hy := app2_shape (by decide) hx hy
 sub _ _ _ hx hy := app2_shape (by decide) hx hy
 nil _ := rfl
 cons _ _ _ hf hx := shape_n rfl (by decide) (by intro z hz; simp at hz; rcases hz with rfl | rfl; exact hf; exact hx)
 unit _ := rfl
end
section
variable {gl : Globs}

/-- whether all nodes have a form -/
theorem Val.nodes_flat {v : Val} (h : v.args = []) : v.nodesN.2 = v.okB := by rw [nodesN_eq, h]; rfl
theorem Val.nodes_pair {v a b : Val} (h : v.args = [a, b]) : v.nodesN.2 = (v.okB && (a.nodesN.2 && b.nodesN.2)) := by
 rw [nodesN_eq, h]
 cases ho : v.okB <;> simp [nodesN.nodesL]
 cases ha : a.nodesN.2 <;> simp
theorem Val.nodes_count (v : Val) (h : v.nodesN.2 = true) : v.nodesN.1 = v.count := by
 induction v using Val.ind with
 | h v ih =>
 have key : ∀ l : List Val, (∀ a ∈ l, a.nodesN.2 = true → a.nodesN.1 = a.count) → ∀ (n : Int) (ok : Bool), (nodesN.nodesL l (n, ok)).2 = true → (nodesN.nodesL l (n, ok)).1 = n + count.counts l := by
  intro l
  induction l with
  | nil => intro _ n ok _; simp [nodesN.nodesL, count.counts]
  | cons a r ihr =>
   intro hl n ok hok
   cases ok with
   | false => rw [nodesL_no] at hok; cases hok
   | true =>
    simp only [nodesN.nodesL, if_true] at hok ⊢
    have ha : a.nodesN.2 = true := (nodesL_ok hok).1
    rw [ihr (fun b hb => hl b (List.mem_cons_of_mem _ hb)) _ _ hok, hl a (by simp) ha]
    simp only [count.counts]
    omega
 rw [nodesN_eq] at h ⊢
 rw [key v.args ih _ _ h, count_eq]
 omega
end
section
/-
 Plain law: the rounds of reduction on closed typed terms.
-/
theorem dn_shape {Γ : List T} {t : Tm} {a : T} {F : Env Γ → a.V} (h : Dn Γ t a F) : t.shape = true := by
 have one : ∀ {x : Tm}, x.shape = true → ∀ z ∈ [x], z.shape = true := by intro x hx z hz; rw [List.mem_singleton.1 hz]; exact hx
 have two : ∀ {x y : Tm}, x.shape = true → y.shape = true → ∀ z ∈ [x, y], z.shape = true := by
  intro x y hx hy z hz; simp at hz; rcases hz with rfl | rfl; exact hx; exact hy
 have three : ∀ {x y w : Tm}, x.shape = true → y.shape = true → w.shape = true → ∀ z ∈ [x, y, w], z.shape = true := by
  intro x y w hx hy hw z hz; simp at hz; rcases hz with rfl | rfl | rfl; exact hx; exact hy; exact hw
 induction h with
 | var h => exact shape_v
 | lam ha hb ih => exact shape_t rfl (.inl rfl) (T.ok_ty ha) (one ih)
 | app hf hx ihf ihx => exact shape_n rfl (by decide) (two ihf ihx)
 | zero => rfl
 | succ hx ih => exact shape_n rfl (by decide) (one ih)
 | rc ha hb hf hn ihb ihf ihn => exact shape_t rfl (.inr (.inl rfl)) (T.ok_ty ha) (three ihb ihf ihn)
 | nil => rfl
 | cons hx hl ihx ihl => exact shape_n rfl (by decide) (two ihx ihl)
 | fold ha hb hf hn ihb ihf ihn => exact shape_t rfl (.inr (.inr rfl)) (T.ok_ty ha) (three ihb ihf ihn)
 | pair hx hy ihx ihy => exact shape_n rfl (by decide) (two ihx ihy)
 | fst hx ih => exact shape_n rfl (by decide) (one ih)
 | snd hx ih => exact shape_n rfl (by decide) (one ih)
 | unit => rfl

theorem At.lt {Γ : List T} {i : Nat} {a : T} {p : Env Γ → a.V} (h : At Γ i a p) : i < Γ.length := by
 have := h.get
 exact (List.getElem?_eq_some_iff.1 this).1

theorem dn_least {Γ : List T} {t : Tm} {a : T} {F : Env Γ → a.V} (h : Dn Γ t a F) : ∀ m : Int, (Γ.length : Int) + t.count ≤ m → t.leastN m = true := by
 have node0 : ∀ (k : Int) (y : Ty) (m : Int), 0 ≤ m → (Tm.mk k 0 y []).leastN m = true := by
  intro k y m hm; rw [Tm.leastN_eq]; have h9 : decide (m < (0 : Int)) = false := decide_eq_false (by omega); simp [Tm.index, Tm.args, Tm.leastN.leasts, h9] <;> exact decide_eq_false (by omega)
 have node1 : ∀ (k : Int) (y : Ty) (x : Tm) (m : Int), 0 ≤ m → x.leastN m = true → (Tm.mk k 0 y [x]).leastN m = true := by
  intro k y x m hm h1; rw [Tm.leastN_eq]; have h9 : decide (m < (0 : Int)) = false := decide_eq_false (by omega); simp [Tm.index, Tm.args, Tm.leastN.leasts, h9, h1] <;> exact decide_eq_false (by omega)
 have node2 : ∀ (k : Int) (y : Ty) (x z : Tm) (m : Int), 0 ≤ m → x.leastN m = true → z.leastN m = true → (Tm.mk k 0 y [x, z]).leastN m = true := by
  intro k y x z m hm h1 h2; rw [Tm.leastN_eq]; have h9 : decide (m < (0 : Int)) = false := decide_eq_false (by omega); simp [Tm.index, Tm.args, Tm.leastN.leasts, h9, h1, h2] <;> exact decide_eq_false (by omega)
 have node3 : ∀ (k : Int) (y : Ty) (x z w : Tm) (m : Int), 0 ≤ m → x.leastN m = true → z.leastN m = true → w.leastN m = true → (Tm.mk k 0 y [x, z, w]).leastN m = true := by
  intro k y x z w m hm h1 h2 h3; rw [Tm.leastN_eq]; have h9 : decide (m < (0 : Int)) = false := decide_eq_false (by omega); simp [Tm.index, Tm.args, Tm.leastN.leasts, h9, h1, h2, h3] <;> exact decide_eq_false (by omega)
 induction h with
 | var h =>
  intro m hm
  have := h.lt
  rename_i Γ i a p
  have h9 : decide (m < ((i : Nat) : Int)) = false := decide_eq_false (by omega)
  rw [vT, Tm.leastN_eq]
  simp [Tm.index, Tm.args, Tm.leastN.leasts, h9] <;> exact decide_eq_false (by omega)
 | lam ha hb ih =>
  intro m hm
  rename_i Γ a r b f
  have hc : (lamT a b).count = 1 + (b.count + 0) := rfl
  rw [hc] at hm
  exact node1 _ _ _ _ (by omega) (ih m (by simp only [List.length_cons]; omega))
 | app hf hx ihf ihx =>
  intro m hm
  rename_i Γ a b f x F X
  have hc : (nT 3 [f, x]).count = 1 + (f.count + (x.count + 0)) := rfl
  rw [hc] at hm
  exact node2 _ _ _ _ _ (by omega) (ihf m (by omega)) (ihx m (by omega))
 | zero => intro m hm; exact node0 _ _ _ (by omega)
 | succ hx ih =>
  intro m hm
  rename_i Γ x X
  have hc : (nT 5 [x]).count = 1 + (x.count + 0) := rfl
  rw [hc] at hm
  exact node1 _ _ _ _ (by omega) (ih m (by omega))
 | rc ha hb hf hn ihb ihf ihn =>
  intro m hm
  rename_i Γ a b f n B F N
  have hc : (Tm.mk 6 0 a.ty [b, f, n]).count = 1 + (b.count + (f.count + (n.count + 0))) := rfl
  rw [hc] at hm
  exact node3 _ _ _ _ _ _ (by omega) (ihb m (by omega)) (ihf m (by omega)) (ihn m (by omega))
 | nil => intro m hm; exact node0 _ _ _ (by omega)
 | cons hx hl ihx ihl =>
  intro m hm
  rename_i Γ x l X L
  have hc : (nT 8 [x, l]).count = 1 + (x.count + (l.count + 0)) := rfl
  rw [hc] at hm
  exact node2 _ _ _ _ _ (by omega) (ihx m (by omega)) (ihl m (by omega))
 | fold ha hb hf hn ihb ihf ihn =>
  intro m hm
  rename_i Γ a b f n B F N
  have hc : (Tm.mk 9 0 a.ty [b, f, n]).count = 1 + (b.count + (f.count + (n.count + 0))) := rfl
  rw [hc] at hm
  exact node3 _ _ _ _ _ _ (by omega) (ihb m (by omega)) (ihf m (by omega)) (ihn m (by omega))
 | pair hx hy ihx ihy =>
  intro m hm
  rename_i Γ a b x y X Y
  have hc : (nT 10 [x, y]).count = 1 + (x.count + (y.count + 0)) := rfl
  rw [hc] at hm
  exact node2 _ _ _ _ _ (by omega) (ihx m (by omega)) (ihy m (by omega))
 | fst hx ih =>
  intro m hm
  rename_i Γ a b x X
  have hc : (nT 11 [x]).count = 1 + (x.count + 0) := rfl
  rw [hc] at hm
  exact node1 _ _ _ _ (by omega) (ih m (by omega))
 | snd hx ih =>
  intro m hm
  rename_i Γ a b x X
  have hc : (nT 12 [x]).count = 1 + (x.count + 0) := rfl
  rw [hc] at hm
  exact node1 _ _ _ _ (by omega) (ih m (by omega))
 | unit => intro m hm; exact node0 _ _ _ (by omega)

theorem up_count (t : Tm) (f b : Int) : (t.upN f b).count = t.count := by
 induction t using Tm.ind generalizing f with
 | h t ih =>
 rw [Tm.upN_eq, Tm.count_eq, Tm.count_eq t, Tm.args_mk]
 have key : ∀ l : List Tm, (∀ a ∈ l, a ∈ t.args) → Tm.count.counts (l.map fun x => x.upN (f + bindI t.kind) b) = Tm.count.counts l := by
  intro l
  induction l with
  | nil => intro _; rfl
  | cons a r ihr => intro h; simp only [List.map_cons, Tm.count.counts, ih a (h a (by simp)), ihr fun b hb => h b (by simp [hb])]
 rw [key t.args fun _ h => h]

/-- plain values have a form, and as many nodes as their types at most -/
theorem valOf_nodes : ∀ (a : T) (v : a.V), a.plain → (valOf a v).nodesN.2 = true ∧ (valOf a v).count ≤ a.size
 | .nat, n, _ => ⟨by rw [Val.nodes_flat rfl]; simp [valOf, Val.okB, Val.kind, Val.num, Val.list, Val.args]; exact decide_eq_true (Int.natCast_nonneg _), Nat.le_refl _⟩
 | .list, l, _ => ⟨by rw [Val.nodes_flat rfl]; simp [valOf, Val.okB, Val.kind, Val.num, Val.list, Val.args]; intro x hx; obtain ⟨n, _, rfl⟩ := List.mem_map.1 hx; exact Int.natCast_nonneg _, Nat.le_refl _⟩
 | .unit, _, _ => ⟨rfl, Nat.le_refl _⟩
 | .pair a b, p, h => by
  obtain ⟨a1, a2⟩ := valOf_nodes a p.1 h.1
  obtain ⟨b1, b2⟩ := valOf_nodes b p.2 h.2
  refine ⟨?_, ?_⟩
  ·rw [Val.nodes_pair (v := valOf (.pair a b) p) rfl, a1, b1]; rfl
  ·show 1 + ((valOf a p.1).count + ((valOf b p.2).count + 0)) ≤ 1 + a.size + b.size
   omega
 | .fn _ _, _, h => h.elim
end
section
/-
 Plain facts: majorants as the program makes them: with an error where a node is too large.
-/
abbrev natY : Ty := Ty.mk 1 []
abbrev zY : Ty := Ty.mk 0 []
/-- a node, or none if it is too large -/
def buildN (k : Int) (s : Ty) (l : List Tm) : Tm × Int := if 4096 < (Tm.mk k 0 s l).count then (zeroTm, 4) else (Tm.mk k 0 s l, 0)
def nodeE (e k : Int) (s : Ty) (l : List Tm) : Tm × Int := if e = 0 then buildN k s l else (zeroTm, e)
theorem build_ok {k : Int} {s : Ty} {l : List Tm} (h : (buildN k s l).2 = 0) : (buildN k s l).1 = Tm.mk k 0 s l ∧ (Tm.mk k 0 s l).count ≤ 4096 := by
 unfold buildN at h ⊢
 split at h
 ·cases h
 ·rename_i hc; rw [if_neg hc]; exact ⟨rfl, by omega⟩
theorem node_ok {e k : Int} {s : Ty} {l : List Tm} (h : (nodeE e k s l).2 = 0) : e = 0 ∧ (nodeE e k s l).1 = Tm.mk k 0 s l ∧ (Tm.mk k 0 s l).count ≤ 4096 := by
 unfold nodeE at h ⊢
 by_cases he : e = 0
 ·rw [if_pos he] at h ⊢; exact ⟨he, build_ok h⟩
 ·rw [if_neg he] at h; exact absurd h he
theorem node_err (e k : Int) (s : Ty) (l : List Tm) (he : e = 0 ∨ e = 4) : (nodeE e k s l).2 = 0 ∨ (nodeE e k s l).2 = 4 := by
 unfold nodeE buildN
 split
 ·split
  ·exact .inr rfl
  ·exact .inl rfl
 ·exact he
end
section
/-- the type is found, or something is too large -/
def Fits (t : Tm) (g : List Ty) (a : T) : Prop := t.inferN g = (a.ty, 0) ∨ (t.inferN g).2 = 4
def AllFit (g : List Ty) : List Tm → List T → Prop
 | [], [] => True
 | t :: r, a :: s => Fits t g a ∧ AllFit g r s
 | _, _ => False

theorem infers_fit {g : List Ty} : ∀ {l : List Tm} {ts : List T}, AllFit g l ts → (Tm.inferN.infers l g = (ts.map T.ty, 0)) ∨ (Tm.inferN.infers l g).2 = 4
 | [], [], _ => .inl rfl
 | [], _ :: _, h => h.elim
 | _ :: _, [], h => h.elim
 | t :: r, a :: s, ⟨h, hr⟩ => by
  simp only [Tm.inferN.infers]
  rcases h with h | h
  ·rw [h]
   rcases infers_fit hr with h2 | h2
   ·rw [h2]; exact .inl rfl
   ·right; rw [if_pos rfl, if_neg (by rw [h2]; decide)]; exact h2
  ·right; rw [if_neg (by rw [h]; decide)]; exact h

theorem fits_node {k : Int} {y : Ty} {l : List Tm} {g : List Ty} {ts : List T} {a : T} (hk : ¬ k = 1) (h : AllFit (if k = 2 then g ++ [y] else g) l ts)
  (hr : ruleN k y (ts.map T.ty) = (a.ty, 0) ∨ (ruleN k y (ts.map T.ty)).2 = 4) : Fits (Tm.mk k 0 y l) g a := by
 have e0 : (Tm.mk k 0 y l).inferN g = if (Tm.inferN.infers l (if k = 2 then g ++ [y] else g)).2 = 0 then ruleN k y (Tm.inferN.infers l (if k = 2 then g ++ [y] else g)).1 else (zeroTy, (Tm.inferN.infers l (if k = 2 then g ++ [y] else g)).2) := by
  rw [Tm.inferN_eq, if_neg (show ¬ (Tm.mk k 0 y l).kind = 1 from hk)]
  rfl
 unfold Fits
 rw [e0]
 rcases infers_fit h with e | e
 ·rw [e, if_pos rfl]
  exact hr
 ·right
  rw [if_neg (by rw [e]; decide)]
  exact e
theorem okN_fit (y : Ty) : okN y = (y, 0) ∨ (okN y).2 = 4 := by
 unfold okN
 split
 ·exact .inl rfl
 ·exact .inr rfl

/-- a term that means something of a type has that type, or is too large -/
theorem infer_of_dn {Γ : List T} {t : Tm} {a : T} {F : Env Γ → a.V} (h : Dn Γ t a F) : Fits t (Γ.reverse.map T.ty) a := by
 induction h with
 | @var Γ i a p h =>
  left
  have hg := At.get h
  have hlt : i < Γ.length := (List.getElem?_eq_some_iff.1 hg).1
  rw [Tm.inferN_eq, if_pos (show (vT i).kind = 1 from rfl)]
  rw [if_neg (by show ¬ (((Γ.reverse.map T.ty).length : Int) ≤ (i : Int)); simp; omega)]
  have hi : (vT i).index.toNat = i := rfl
  rw [hi, List.getD_eq_getElem?_getD, List.getElem?_map]
  have : Γ.reverse[(Γ.reverse.map T.ty).length - 1 - i]? = some a := by
   rw [List.getElem?_reverse (by simp; omega)]
   simp only [List.length_map, List.length_reverse]
   rw [show Γ.length - 1 - (Γ.length - 1 - i) = i by omega]
   exact hg
  rw [this]
  rfl
 | @lam Γ a r b f ha h ih =>
  refine fits_node (ts := [r]) (by decide) ⟨?_, trivial⟩ (okN_fit _)
  rw [if_pos rfl]
  simpa using ih
 | @app Γ a b f x F X hf hx ih1 ih2 =>
  refine fits_node (ts := [.fn a b, a]) (by decide) ⟨ih1, ih2, trivial⟩ (.inl ?_)
  show (if (4 : Int) = 4 ∧ a.ty.same a.ty = true then (b.ty, (0 : Int)) else (zeroTy, 7)) = (b.ty, 0)
  rw [if_pos ⟨rfl, (Ty.same_iff _ _).2 rfl⟩]
 | zero => exact fits_node (ts := []) (by decide) trivial (.inl rfl)
 | succ hx ih => exact fits_node (ts := [.nat]) (by decide) ⟨ih, trivial⟩ (.inl rfl)
 | @rc Γ a b f n B F N ha hb hf hn ih1 ih2 ih3 =>
  refine fits_node (ts := [a, .fn .nat (.fn a a), .nat]) (by decide) ⟨ih1, ih2, ih3, trivial⟩ (.inl ?_)
  show (if a.ty.same a.ty = true ∧ (T.fn .nat (.fn a a)).ty.same (Ty.mk 4 [Ty.mk 1 [], Ty.mk 4 [a.ty, a.ty]]) = true ∧ (T.ty .nat).same (Ty.mk 1 []) = true then (a.ty, (0 : Int)) else (zeroTy, 7)) = (a.ty, 0)
  rw [if_pos ⟨(Ty.same_iff _ _).2 rfl, (Ty.same_iff _ _).2 rfl, (Ty.same_iff _ _).2 rfl⟩]
 | nil => exact fits_node (ts := []) (by decide) trivial (.inl rfl)
 | cons hx hl ih1 ih2 => exact fits_node (ts := [.nat, .list]) (by decide) ⟨ih1, ih2, trivial⟩ (.inl rfl)
 | @fold Γ a b f n B F N ha hb hf hn ih1 ih2 ih3 =>
  refine fits_node (ts := [a, .fn .nat (.fn .list (.fn a a)), .list]) (by decide) ⟨ih1, ih2, ih3, trivial⟩ (.inl ?_)
  show (if a.ty.same a.ty = true ∧ (T.fn .nat (.fn .list (.fn a a))).ty.same (Ty.mk 4 [Ty.mk 1 [], Ty.mk 4 [Ty.mk 2 [], Ty.mk 4 [a.ty, a.ty]]]) = true ∧ (T.ty .list).same (Ty.mk 2 []) = true then (a.ty, (0 : Int)) else (zeroTy, 7)) = (a.ty, 0)
  rw [if_pos ⟨(Ty.same_iff _ _).2 rfl, (Ty.same_iff _ _).2 rfl, (Ty.same_iff _ _).2 rfl⟩]
 | @pair Γ a b x y X Y hx hy ih1 ih2 => exact fits_node (ts := [a, b]) (by decide) ⟨ih1, ih2, trivial⟩ (okN_fit _)
 | @fst Γ a b x X hx ih => exact fits_node (ts := [.pair a b]) (by decide) ⟨ih, trivial⟩ (.inl rfl)
 | @snd Γ a b x X hx ih => exact fits_node (ts := [.pair a b]) (by decide) ⟨ih, trivial⟩ (.inl rfl)
 | unit => exact fits_node (ts := []) (by decide) trivial (.inl rfl)
end
section
/-
 Plain law of ticks: the term that counts, as the program makes it, with the error of what is too large.
-/
/-- a valid type, read -/
def toT : Ty → T
 | .mk k ts => if k = 1 then .nat else if k = 2 then .list else if k = 3 then .pair ((toTs ts).getD 0 .unit) ((toTs ts).getD 1 .unit) else if k = 4 then .fn ((toTs ts).getD 0 .unit) ((toTs ts).getD 1 .unit) else .unit
where
 toTs : List Ty → List T
  | [] => []
  | x :: r => toT x :: toTs r
theorem toT_ty (a : T) : toT a.ty = a := by
 induction a with
 | nat => rfl
 | list => rfl
 | unit => rfl
 | pair a b iha ihb =>
  show toT (Ty.mk 3 [a.ty, b.ty]) = _
  rw [toT]
  simp only [toT.toTs, iha, ihb]
  rfl
 | fn a b iha ihb =>
  show toT (Ty.mk 4 [a.ty, b.ty]) = _
  rw [toT]
  simp only [toT.toTs, iha, ihb]
  rfl
/-- the type of a node -/
def tyR (k : Int) (y : Ty) (l : List T) : T :=
 if k = 3 then (match l.getD 0 .unit with | .fn _ b => b | _ => .unit)
 else if k = 4 ∨ k = 5 then .nat
 else if k = 6 ∨ k = 9 then toT y
 else if k = 7 ∨ k = 8 then .list
 else if k = 10 then .pair (l.getD 0 .unit) (l.getD 1 .unit)
 else if k = 11 then (match l.getD 0 .unit with | .pair a _ => a | _ => .unit)
 else if k = 12 then (match l.getD 0 .unit with | .pair _ b => b | _ => .unit)
 else .unit
/-- the type of a term that has one -/
def tyT : List T → Tm → T
 | g, .mk k i y a =>
  if k = 1 then g.getD (g.length - 1 - i.toNat) .unit
  else if k = 2 then .fn (toT y) ((tysT (g ++ [toT y]) a).getD 0 .unit)
  else tyR k y (tysT g a)
where
 tysT : List T → List Tm → List T
  | _, [] => []
  | g, x :: r => tyT g x :: tysT g r
theorem tyT_eq (g : List T) (t : Tm) : tyT g t = if t.kind = 1 then g.getD (g.length - 1 - t.index.toNat) .unit else if t.kind = 2 then .fn (toT t.type) ((tyT.tysT (g ++ [toT t.type]) t.args).getD 0 .unit) else tyR t.kind t.type (tyT.tysT g t.args) := by
 cases t; rw [tyT]; rfl
theorem at_rev {Γ : List T} {i : Nat} {a : T} {p : Env Γ → a.V} (h : At Γ i a p) : Γ.reverse.getD (Γ.reverse.length - 1 - i) .unit = a := by
 have hg := At.get h
 have hlt : i < Γ.length := (List.getElem?_eq_some_iff.1 hg).1
 rw [List.getD_eq_getElem?_getD, List.getElem?_reverse (by simp; omega)]
 simp only [List.length_reverse]
 rw [show Γ.length - 1 - (Γ.length - 1 - i) = i by omega, hg]
 rfl
theorem tyT_dn {Γ : List T} {t : Tm} {a : T} {F : Env Γ → a.V} (h : Dn Γ t a F) : tyT Γ.reverse t = a := by
 induction h with
 | @var Γ i a p h => rw [tyT_eq, if_pos (show (vT i).kind = 1 from rfl)]; exact at_rev h
 | @lam Γ a r b f ha h ih =>
  rw [tyT_eq]
  show T.fn (toT a.ty) (tyT (Γ.reverse ++ [toT a.ty]) b) = _
  rw [toT_ty]
  have := ih
  simp only [List.reverse_cons] at this
  rw [this]
 | @app Γ a b f x F X hf hx ih1 ih2 => rw [tyT_eq]; show (match tyT Γ.reverse f with | .fn _ b => b | _ => .unit) = _; rw [ih1]
 | zero => rw [tyT_eq]; rfl
 | succ hx ih => rw [tyT_eq]; rfl
 | @rc Γ a b f n B F N ha hb hf hn ih1 ih2 ih3 => rw [tyT_eq]; exact toT_ty a
 | nil => rw [tyT_eq]; rfl
 | cons hx hl ih1 ih2 => rw [tyT_eq]; rfl
 | @fold Γ a b f n B F N ha hb hf hn ih1 ih2 ih3 => rw [tyT_eq]; exact toT_ty a
 | @pair Γ a b x y X Y hx hy ih1 ih2 => rw [tyT_eq]; show T.pair (tyT Γ.reverse x) (tyT Γ.reverse y) = _; rw [ih1, ih2]
 | @fst Γ a b x X hx ih => rw [tyT_eq]; show (match tyT Γ.reverse x with | .pair a _ => a | _ => .unit) = _; rw [ih]
 | @snd Γ a b x X hx ih => rw [tyT_eq]; show (match tyT Γ.reverse x with | .pair _ b => b | _ => .unit) = _; rw [ih]
 | unit => rw [tyT_eq]; rfl

/-! the maker -/
def failE (e f : Int) : Int := if e = 0 then f else e
/-- the type of the values of terms that count -/
def cntY (a : T) : Ty := if a.tk.size ≤ 64 then a.tk.ty else zeroTy
def cntErr (a : T) : Int := if a.tk.size ≤ 64 then 0 else 4
def pairY (y : Ty) : Ty := if y.count + 2 ≤ 64 then Ty.mk 3 [natY, y] else zeroTy
def pairErr (y : Ty) : Int := if y.count + 2 ≤ 64 then 0 else 4
def withE (e : Int) (a : T) : Ty × Int := (pairY (cntY a), failE (failE e (cntErr a)) (pairErr (cntY a)))
def fstE (e i : Int) : Tm × Int := nodeE e 11 zY [vT i]
def sndE (e i : Int) : Tm × Int := nodeE e 12 zY [vT i]
def plusE (e : Int) (o x : Tm) : Tm × Int := nodeE (nodeE e 3 zY [plusT, o]).2 3 zY [(nodeE e 3 zY [plusT, o]).1, x]
def sumE : Int → Tm → List Tm → Tm × Int
 | e, o, [] => (o, e)
 | e, o, x :: r => sumE (plusE e o x).2 (plusE e o x).1 r
def letE (e : Int) (s : Ty) (is inn : Tm) : Tm × Int := nodeE (nodeE e 2 s [inn]).2 3 zY [(nodeE e 2 s [inn]).1, is]

/-! the same without errors -/
def fstT (i : Int) : Tm := nT 11 [vT i]
def sndT (i : Int) : Tm := nT 12 [vT i]
def sumT : Tm → List Tm → Tm
 | o, [] => o
 | o, x :: r => sumT (nT 3 [nT 3 [plusT, o], x]) r
def letT (a : T) (is inn : Tm) : Tm := nT 3 [lamT a.wt inn, is]
def unT (k : Int) (a : T) (x : Tm) : Tm := letT a x (nT 10 [fstT 0, nT k [sndT 0]])
def binT (k : Int) (a b : T) (x y : Tm) : Tm := letT a x (letT b (y.upN 0 1) (nT 10 [sumT (fstT 1) [fstT 0], nT k [sndT 1, sndT 0]]))
def appT2 (a b : T) (x y : Tm) : Tm := letT (.fn a b) x (letT a (y.upN 0 1) (letT b (nT 3 [sndT 1, sndT 0]) (nT 10 [nT 5 [sumT (fstT 2) [fstT 1, fstT 0]], sndT 0])))
def stepRT (a : T) : Tm := letT (.fn a a) (nT 3 [sndT 3, vT 1]) (letT a (nT 3 [sndT 0, sndT 1]) (nT 10 [nT 5 [sumT (fstT 2) [fstT 1, fstT 0]], sndT 0]))
def stepFT (a : T) : Tm := letT (.fn .list (.fn a a)) (nT 3 [sndT 4, vT 2]) (letT (.fn a a) (nT 3 [sndT 0, vT 2]) (letT a (nT 3 [sndT 0, sndT 2]) (nT 10 [nT 5 [sumT (fstT 3) [fstT 2, fstT 1, fstT 0]], sndT 0])))
def stepLT (k : Int) (a : T) : Tm := if k = 6 then lamT .nat (lamT a.wt (stepRT a)) else lamT .nat (lamT .list (lamT a.wt (stepFT a)))
def roundsT (k : Int) (a b0 b1 b2 : T) (x y z : Tm) : Tm :=
 letT b0 x (letT b1 (y.upN 0 1) (letT b2 (z.upN 0 2) (letT a (Tm.mk k 0 a.wt.ty [nT 10 [nT 4 [], sndT 2], stepLT k a, sndT 0]) (nT 10 [sumT (fstT 3) [fstT 2, fstT 1, fstT 0], sndT 0]))))

def Er (e : Int) : Prop := e = 0 ∨ e = 4
theorem er_node {e : Int} (h : Er e) (k : Int) (s : Ty) (l : List Tm) : Er (nodeE e k s l).2 := node_err _ _ _ _ h
theorem er_fail {e f : Int} (h : Er e) (h' : Er f) : Er (failE e f) := by unfold failE; split; exact h'; exact h
theorem er_cnt (a : T) : Er (cntErr a) := by unfold cntErr; split; exact .inl rfl; exact .inr rfl
theorem er_pair (y : Ty) : Er (pairErr y) := by unfold pairErr; split; exact .inl rfl; exact .inr rfl
theorem er_with {e : Int} (h : Er e) (a : T) : Er (withE e a).2 := er_fail (er_fail h (er_cnt a)) (er_pair _)
theorem er_sum : ∀ (l : List Tm) {e : Int} (_ : Er e) (o : Tm), Er (sumE e o l).2
 | [], _, h, _ => h
 | _ :: r, _, h, _ => er_sum r (er_node (er_node h _ _ _) _ _ _) _
theorem er_let {e : Int} (h : Er e) (s : Ty) (x y : Tm) : Er (letE e s x y).2 := er_node (er_node h _ _ _) _ _ _
theorem fail_ok {e f : Int} (h : failE e f = 0) : e = 0 ∧ f = 0 := by
 unfold failE at h
 split at h
 ·rename_i h1; exact ⟨h1, h⟩
 ·rename_i h1; exact absurd h h1
theorem cnt_ok {a : T} (h : cntErr a = 0) : a.tk.ok ∧ cntY a = a.tk.ty := by
 unfold cntErr at h
 unfold cntY T.ok
 split at h
 ·rename_i h1; exact ⟨h1, if_pos h1⟩
 ·cases h
theorem with_ok {e : Int} {a : T} (h : (withE e a).2 = 0) : e = 0 ∧ a.wt.ok ∧ (withE e a).1 = a.wt.ty := by
 obtain ⟨h1, h2⟩ := fail_ok h
 obtain ⟨h3, h4⟩ := fail_ok h1
 obtain ⟨h5, h6⟩ := cnt_ok h4
 unfold pairErr at h2
 rw [h6, T.ty_count] at h2
 split at h2
 ·rename_i h7
  refine ⟨h3, by show 1 + 1 + a.tk.size ≤ 64; omega, ?_⟩
  show pairY (cntY a) = _
  rw [h6]
  unfold pairY
  rw [T.ty_count, if_pos h7]
  rfl
 ·cases h2
theorem fst_ok {e i : Int} (h : (fstE e i).2 = 0) : e = 0 ∧ (fstE e i).1 = fstT i := ⟨(node_ok h).1, (node_ok h).2.1⟩
theorem snd_ok {e i : Int} (h : (sndE e i).2 = 0) : e = 0 ∧ (sndE e i).1 = sndT i := ⟨(node_ok h).1, (node_ok h).2.1⟩
theorem sum_ok : ∀ {l : List Tm} {e : Int} {o : Tm}, (sumE e o l).2 = 0 → e = 0 ∧ (sumE e o l).1 = sumT o l
 | [], _, _, h => ⟨h, rfl⟩
 | x :: r, e, o, h => by
  rw [sumE] at h ⊢
  obtain ⟨h1, h2⟩ := sum_ok h
  unfold plusE at h1
  obtain ⟨h3, h4, -⟩ := node_ok h1
  obtain ⟨h5, h6, -⟩ := node_ok h3
  refine ⟨h5, h2.trans ?_⟩
  show sumT (plusE e o x).1 r = sumT _ r
  unfold plusE
  rw [h4, h6]
  rfl
theorem let_ok {e : Int} {s : Ty} {x y : Tm} (h : (letE e s x y).2 = 0) : e = 0 ∧ (letE e s x y).1 = nT 3 [Tm.mk 2 0 s [y], x] := by
 unfold letE at h ⊢
 obtain ⟨h3, h4, -⟩ := node_ok h
 obtain ⟨h5, h6, -⟩ := node_ok h3
 refine ⟨h5, h4.trans ?_⟩
 rw [h6]
 rfl
theorem list_ok0 : T.list.ok := by unfold T.ok; decide
theorem node_q {e k : Int} {s : Ty} {l : List Tm} {r : Tm × Int} (q : r = nodeE e k s l) (h : r.2 = 0) : e = 0 ∧ r.1 = Tm.mk k 0 s l := by subst q; exact ⟨(node_ok h).1, (node_ok h).2.1⟩
theorem fst_q {e i : Int} {r : Tm × Int} (q : r = fstE e i) (h : r.2 = 0) : e = 0 ∧ r.1 = fstT i := by subst q; exact fst_ok h
theorem snd_q {e i : Int} {r : Tm × Int} (q : r = sndE e i) (h : r.2 = 0) : e = 0 ∧ r.1 = sndT i := by subst q; exact snd_ok h
theorem sum_q {e : Int} {o : Tm} {l : List Tm} {r : Tm × Int} (q : r = sumE e o l) (h : r.2 = 0) : e = 0 ∧ r.1 = sumT o l := by subst q; exact sum_ok h
theorem let_q {e : Int} {s : Ty} {x y : Tm} {r : Tm × Int} (q : r = letE e s x y) (h : r.2 = 0) : e = 0 ∧ r.1 = nT 3 [Tm.mk 2 0 s [y], x] := by subst q; exact let_ok h
theorem with_q {e : Int} {a : T} {r : Ty × Int} (q : r = withE e a) (h : r.2 = 0) : e = 0 ∧ a.wt.ok ∧ r.1 = a.wt.ty := by subst q; exact with_ok h
/-! gen D -/
def unE (k : Int) (a : T) (x : Tm) : Tm × Int :=
 let w := withE 0 a
 let f := fstE w.2 0
 let s := sndE f.2 0
 let n := nodeE s.2 k zY [s.1]
 let c := nodeE n.2 10 zY [f.1, n.1]
 letE c.2 w.1 x c.1
theorem un_def (k : Int) (a : T) (x : Tm) : ∃ (w : Ty × Int) (f : Tm × Int) (s : Tm × Int) (n : Tm × Int) (c : Tm × Int), w = withE 0 a ∧ f = fstE w.2 0 ∧ s = sndE f.2 0 ∧ n = nodeE s.2 k zY [s.1] ∧ c = nodeE n.2 10 zY [f.1, n.1] ∧ unE k a x = letE c.2 w.1 x c.1 := ⟨_, _, _, _, _, rfl, rfl, rfl, rfl, rfl, rfl⟩
theorem un_er (k : Int) (a : T) (x : Tm) : Er (unE k a x).2 := by
 obtain ⟨w, f, s, n, c, z0, z1, z2, z3, z4, z5⟩ := un_def k a x
 have y0 : Er w.2 := by rw [z0]; exact er_with (.inl rfl : Er 0) _
 have y1 : Er f.2 := by rw [z1]; exact er_node y0 _ _ _
 have y2 : Er s.2 := by rw [z2]; exact er_node y1 _ _ _
 have y3 : Er n.2 := by rw [z3]; exact er_node y2 _ _ _
 have y4 : Er c.2 := by rw [z4]; exact er_node y3 _ _ _
 rw [z5]; exact er_let y4 _ _ _
def binE (k : Int) (a b : T) (x y : Tm) : Tm × Int :=
 let g1 := fstE 0 1
 let g0 := fstE g1.2 0
 let s := sumE g0.2 g1.1 [g0.1]
 let s1 := sndE s.2 1
 let s0 := sndE s1.2 0
 let n := nodeE s0.2 k zY [s1.1, s0.1]
 let c := nodeE n.2 10 zY [s.1, n.1]
 let w0 := withE c.2 a
 let w1 := withE w0.2 b
 let m := letE w1.2 w1.1 (y.upN 0 1) c.1
 letE m.2 w0.1 x m.1
theorem bin_def (k : Int) (a b : T) (x y : Tm) : ∃ (g1 : Tm × Int) (g0 : Tm × Int) (s : Tm × Int) (s1 : Tm × Int) (s0 : Tm × Int) (n : Tm × Int) (c : Tm × Int) (w0 : Ty × Int) (w1 : Ty × Int) (m : Tm × Int), g1 = fstE 0 1 ∧ g0 = fstE g1.2 0 ∧ s = sumE g0.2 g1.1 [g0.1] ∧ s1 = sndE s.2 1 ∧ s0 = sndE s1.2 0 ∧ n = nodeE s0.2 k zY [s1.1, s0.1] ∧ c = nodeE n.2 10 zY [s.1, n.1] ∧ w0 = withE c.2 a ∧ w1 = withE w0.2 b ∧ m = letE w1.2 w1.1 (y.upN 0 1) c.1 ∧ binE k a b x y = letE m.2 w0.1 x m.1 := ⟨_, _, _, _, _, _, _, _, _, _, rfl, rfl, rfl, rfl, rfl, rfl, rfl, rfl, rfl, rfl, rfl⟩
theorem bin_er (k : Int) (a b : T) (x y : Tm) : Er (binE k a b x y).2 := by
 obtain ⟨g1, g0, s, s1, s0, n, c, w0, w1, m, z0, z1, z2, z3, z4, z5, z6, z7, z8, z9, z10⟩ := bin_def k a b x y
 have y0 : Er g1.2 := by rw [z0]; exact er_node (.inl rfl : Er 0) _ _ _
 have y1 : Er g0.2 := by rw [z1]; exact er_node y0 _ _ _
 have y2 : Er s.2 := by rw [z2]; exact er_sum _ y1 _
 have y3 : Er s1.2 := by rw [z3]; exact er_node y2 _ _ _
 have y4 : Er s0.2 := by rw [z4]; exact er_node y3 _ _ _
 have y5 : Er n.2 := by rw [z5]; exact er_node y4 _ _ _
 have y6 : Er c.2 := by rw [z6]; exact er_node y5 _ _ _
 have y7 : Er w0.2 := by rw [z7]; exact er_with y6 _
 have y8 : Er w1.2 := by rw [z8]; exact er_with y7 _
 have y9 : Er m.2 := by rw [z9]; exact er_let y8 _ _ _
 rw [z10]; exact er_let y9 _ _ _
def appE (a b : T) (x y : Tm) : Tm × Int :=
 let s1 := sndE 0 1
 let s0 := sndE s1.2 0
 let c := nodeE s0.2 3 zY [s1.1, s0.1]
 let g2 := fstE c.2 2
 let g1 := fstE g2.2 1
 let g0 := fstE g1.2 0
 let s := sumE g0.2 g2.1 [g1.1, g0.1]
 let u := nodeE s.2 5 zY [s.1]
 let z := sndE u.2 0
 let o := nodeE z.2 10 zY [u.1, z.1]
 let w1 := withE o.2 a
 let w2 := withE w1.2 b
 let m2 := letE w2.2 w2.1 c.1 o.1
 let m1 := letE m2.2 w1.1 (y.upN 0 1) m2.1
 let w0 := withE m1.2 (.fn a b)
 letE w0.2 w0.1 x m1.1
theorem app_def (a b : T) (x y : Tm) : ∃ (s1 : Tm × Int) (s0 : Tm × Int) (c : Tm × Int) (g2 : Tm × Int) (g1 : Tm × Int) (g0 : Tm × Int) (s : Tm × Int) (u : Tm × Int) (z : Tm × Int) (o : Tm × Int) (w1 : Ty × Int) (w2 : Ty × Int) (m2 : Tm × Int) (m1 : Tm × Int) (w0 : Ty × Int), s1 = sndE 0 1 ∧ s0 = sndE s1.2 0 ∧ c = nodeE s0.2 3 zY [s1.1, s0.1] ∧ g2 = fstE c.2 2 ∧ g1 = fstE g2.2 1 ∧ g0 = fstE g1.2 0 ∧ s = sumE g0.2 g2.1 [g1.1, g0.1] ∧ u = nodeE s.2 5 zY [s.1] ∧ z = sndE u.2 0 ∧ o = nodeE z.2 10 zY [u.1, z.1] ∧ w1 = withE o.2 a ∧ w2 = withE w1.2 b ∧ m2 = letE w2.2 w2.1 c.1 o.1 ∧ m1 = letE m2.2 w1.1 (y.upN 0 1) m2.1 ∧ w0 = withE m1.2 (.fn a b) ∧ appE a b x y = letE w0.2 w0.1 x m1.1 := ⟨_, _, _, _, _, _, _, _, _, _, _, _, _, _, _, rfl, rfl, rfl, rfl, rfl, rfl, rfl, rfl, rfl, rfl, rfl, rfl, rfl, rfl, rfl, rfl⟩
theorem app_er (a b : T) (x y : Tm) : Er (appE a b x y).2 := by
 obtain ⟨s1, s0, c, g2, g1, g0, s, u, z, o, w1, w2, m2, m1, w0, z0, z1, z2, z3, z4, z5, z6, z7, z8, z9, z10, z11, z12, z13, z14, z15⟩ := app_def a b x y
 have y0 : Er s1.2 := by rw [z0]; exact er_node (.inl rfl : Er 0) _ _ _
 have y1 : Er s0.2 := by rw [z1]; exact er_node y0 _ _ _
 have y2 : Er c.2 := by rw [z2]; exact er_node y1 _ _ _
 have y3 : Er g2.2 := by rw [z3]; exact er_node y2 _ _ _
 have y4 : Er g1.2 := by rw [z4]; exact er_node y3 _ _ _
 have y5 : Er g0.2 := by rw [z5]; exact er_node y4 _ _ _
 have y6 : Er s.2 := by rw [z6]; exact er_sum _ y5 _
 have y7 : Er u.2 := by rw [z7]; exact er_node y6 _ _ _
 have y8 : Er z.2 := by rw [z8]; exact er_node y7 _ _ _
 have y9 : Er o.2 := by rw [z9]; exact er_node y8 _ _ _
 have y10 : Er w1.2 := by rw [z10]; exact er_with y9 _
 have y11 : Er w2.2 := by rw [z11]; exact er_with y10 _
 have y12 : Er m2.2 := by rw [z12]; exact er_let y11 _ _ _
 have y13 : Er m1.2 := by rw [z13]; exact er_let y12 _ _ _
 have y14 : Er w0.2 := by rw [z14]; exact er_with y13 _
 rw [z15]; exact er_let y14 _ _ _
def stepRE (e : Int) (a : T) : Tm × Int :=
 let p0 := sndE e 3
 let c0 := nodeE p0.2 3 zY [p0.1, vT 1]
 let p1 := sndE c0.2 3
 let q1 := sndE p1.2 0
 let a1 := sndE q1.2 1
 let c1 := nodeE a1.2 3 zY [q1.1, a1.1]
 let g2 := fstE c1.2 2
 let g1 := fstE g2.2 1
 let g0 := fstE g1.2 0
 let s := sumE g0.2 g2.1 [g1.1, g0.1]
 let u := nodeE s.2 5 zY [s.1]
 let z := sndE u.2 0
 let o := nodeE z.2 10 zY [u.1, z.1]
 let w1 := withE o.2 a
 let m1 := letE w1.2 w1.1 c1.1 o.1
 let w0 := withE m1.2 (.fn a a)
 letE w0.2 w0.1 c0.1 m1.1
theorem stepR_def (e : Int) (a : T) : ∃ (p0 : Tm × Int) (c0 : Tm × Int) (p1 : Tm × Int) (q1 : Tm × Int) (a1 : Tm × Int) (c1 : Tm × Int) (g2 : Tm × Int) (g1 : Tm × Int) (g0 : Tm × Int) (s : Tm × Int) (u : Tm × Int) (z : Tm × Int) (o : Tm × Int) (w1 : Ty × Int) (m1 : Tm × Int) (w0 : Ty × Int), p0 = sndE e 3 ∧ c0 = nodeE p0.2 3 zY [p0.1, vT 1] ∧ p1 = sndE c0.2 3 ∧ q1 = sndE p1.2 0 ∧ a1 = sndE q1.2 1 ∧ c1 = nodeE a1.2 3 zY [q1.1, a1.1] ∧ g2 = fstE c1.2 2 ∧ g1 = fstE g2.2 1 ∧ g0 = fstE g1.2 0 ∧ s = sumE g0.2 g2.1 [g1.1, g0.1] ∧ u = nodeE s.2 5 zY [s.1] ∧ z = sndE u.2 0 ∧ o = nodeE z.2 10 zY [u.1, z.1] ∧ w1 = withE o.2 a ∧ m1 = letE w1.2 w1.1 c1.1 o.1 ∧ w0 = withE m1.2 (.fn a a) ∧ stepRE e a = letE w0.2 w0.1 c0.1 m1.1 := ⟨_, _, _, _, _, _, _, _, _, _, _, _, _, _, _, _, rfl, rfl, rfl, rfl, rfl, rfl, rfl, rfl, rfl, rfl, rfl, rfl, rfl, rfl, rfl, rfl, rfl⟩
theorem stepR_er (e : Int) (a : T) (he : Er e) : Er (stepRE e a).2 := by
 obtain ⟨p0, c0, p1, q1, a1, c1, g2, g1, g0, s, u, z, o, w1, m1, w0, z0, z1, z2, z3, z4, z5, z6, z7, z8, z9, z10, z11, z12, z13, z14, z15, z16⟩ := stepR_def e a
 have y0 : Er p0.2 := by rw [z0]; exact er_node he _ _ _
 have y1 : Er c0.2 := by rw [z1]; exact er_node y0 _ _ _
 have y2 : Er p1.2 := by rw [z2]; exact er_node y1 _ _ _
 have y3 : Er q1.2 := by rw [z3]; exact er_node y2 _ _ _
 have y4 : Er a1.2 := by rw [z4]; exact er_node y3 _ _ _
 have y5 : Er c1.2 := by rw [z5]; exact er_node y4 _ _ _
 have y6 : Er g2.2 := by rw [z6]; exact er_node y5 _ _ _
 have y7 : Er g1.2 := by rw [z7]; exact er_node y6 _ _ _
 have y8 : Er g0.2 := by rw [z8]; exact er_node y7 _ _ _
 have y9 : Er s.2 := by rw [z9]; exact er_sum _ y8 _
 have y10 : Er u.2 := by rw [z10]; exact er_node y9 _ _ _
 have y11 : Er z.2 := by rw [z11]; exact er_node y10 _ _ _
 have y12 : Er o.2 := by rw [z12]; exact er_node y11 _ _ _
 have y13 : Er w1.2 := by rw [z13]; exact er_with y12 _
 have y14 : Er m1.2 := by rw [z14]; exact er_let y13 _ _ _
 have y15 : Er w0.2 := by rw [z15]; exact er_with y14 _
 rw [z16]; exact er_let y15 _ _ _
def stepFE (e : Int) (a : T) : Tm × Int :=
 let p0 := sndE e 4
 let c0 := nodeE p0.2 3 zY [p0.1, vT 2]
 let p1 := sndE c0.2 4
 let q1 := sndE p1.2 0
 let c1 := nodeE q1.2 3 zY [q1.1, vT 2]
 let p2 := sndE c1.2 4
 let q2 := sndE p2.2 0
 let a2 := sndE q2.2 2
 let c2 := nodeE a2.2 3 zY [q2.1, a2.1]
 let g3 := fstE c2.2 3
 let g2 := fstE g3.2 2
 let g1 := fstE g2.2 1
 let g0 := fstE g1.2 0
 let s := sumE g0.2 g3.1 [g2.1, g1.1, g0.1]
 let u := nodeE s.2 5 zY [s.1]
 let z := sndE u.2 0
 let o := nodeE z.2 10 zY [u.1, z.1]
 let w2 := withE o.2 a
 let m2 := letE w2.2 w2.1 c2.1 o.1
 let w1 := withE m2.2 (.fn a a)
 let m1 := letE w1.2 w1.1 c1.1 m2.1
 let w0 := withE m1.2 (.fn .list (.fn a a))
 letE w0.2 w0.1 c0.1 m1.1
theorem stepF_def (e : Int) (a : T) : ∃ (p0 : Tm × Int) (c0 : Tm × Int) (p1 : Tm × Int) (q1 : Tm × Int) (c1 : Tm × Int) (p2 : Tm × Int) (q2 : Tm × Int) (a2 : Tm × Int) (c2 : Tm × Int) (g3 : Tm × Int) (g2 : Tm × Int) (g1 : Tm × Int) (g0 : Tm × Int) (s : Tm × Int) (u : Tm × Int) (z : Tm × Int) (o : Tm × Int) (w2 : Ty × Int) (m2 : Tm × Int) (w1 : Ty × Int) (m1 : Tm × Int) (w0 : Ty × Int), p0 = sndE e 4 ∧ c0 = nodeE p0.2 3 zY [p0.1, vT 2] ∧ p1 = sndE c0.2 4 ∧ q1 = sndE p1.2 0 ∧ c1 = nodeE q1.2 3 zY [q1.1, vT 2] ∧ p2 = sndE c1.2 4 ∧ q2 = sndE p2.2 0 ∧ a2 = sndE q2.2 2 ∧ c2 = nodeE a2.2 3 zY [q2.1, a2.1] ∧ g3 = fstE c2.2 3 ∧ g2 = fstE g3.2 2 ∧ g1 = fstE g2.2 1 ∧ g0 = fstE g1.2 0 ∧ s = sumE g0.2 g3.1 [g2.1, g1.1, g0.1] ∧ u = nodeE s.2 5 zY [s.1] ∧ z = sndE u.2 0 ∧ o = nodeE z.2 10 zY [u.1, z.1] ∧ w2 = withE o.2 a ∧ m2 = letE w2.2 w2.1 c2.1 o.1 ∧ w1 = withE m2.2 (.fn a a) ∧ m1 = letE w1.2 w1.1 c1.1 m2.1 ∧ w0 = withE m1.2 (.fn .list (.fn a a)) ∧ stepFE e a = letE w0.2 w0.1 c0.1 m1.1 := ⟨_, _, _, _, _, _, _, _, _, _, _, _, _, _, _, _, _, _, _, _, _, _, rfl, rfl, rfl, rfl, rfl, rfl, rfl, rfl, rfl, rfl, rfl, rfl, rfl, rfl, rfl, rfl, rfl, rfl, rfl, rfl, rfl, rfl, rfl⟩
theorem stepF_er (e : Int) (a : T) (he : Er e) : Er (stepFE e a).2 := by
 obtain ⟨p0, c0, p1, q1, c1, p2, q2, a2, c2, g3, g2, g1, g0, s, u, z, o, w2, m2, w1, m1, w0, z0, z1, z2, z3, z4, z5, z6, z7, z8, z9, z10, z11, z12, z13, z14, z15, z16, z17, z18, z19, z20, z21, z22⟩ := stepF_def e a
 have y0 : Er p0.2 := by rw [z0]; exact er_node he _ _ _
 have y1 : Er c0.2 := by rw [z1]; exact er_node y0 _ _ _
 have y2 : Er p1.2 := by rw [z2]; exact er_node y1 _ _ _
 have y3 : Er q1.2 := by rw [z3]; exact er_node y2 _ _ _
 have y4 : Er c1.2 := by rw [z4]; exact er_node y3 _ _ _
 have y5 : Er p2.2 := by rw [z5]; exact er_node y4 _ _ _
 have y6 : Er q2.2 := by rw [z6]; exact er_node y5 _ _ _
 have y7 : Er a2.2 := by rw [z7]; exact er_node y6 _ _ _
 have y8 : Er c2.2 := by rw [z8]; exact er_node y7 _ _ _
 have y9 : Er g3.2 := by rw [z9]; exact er_node y8 _ _ _
 have y10 : Er g2.2 := by rw [z10]; exact er_node y9 _ _ _
 have y11 : Er g1.2 := by rw [z11]; exact er_node y10 _ _ _
 have y12 : Er g0.2 := by rw [z12]; exact er_node y11 _ _ _
 have y13 : Er s.2 := by rw [z13]; exact er_sum _ y12 _
 have y14 : Er u.2 := by rw [z14]; exact er_node y13 _ _ _
 have y15 : Er z.2 := by rw [z15]; exact er_node y14 _ _ _
 have y16 : Er o.2 := by rw [z16]; exact er_node y15 _ _ _
 have y17 : Er w2.2 := by rw [z17]; exact er_with y16 _
 have y18 : Er m2.2 := by rw [z18]; exact er_let y17 _ _ _
 have y19 : Er w1.2 := by rw [z19]; exact er_with y18 _
 have y20 : Er m1.2 := by rw [z20]; exact er_let y19 _ _ _
 have y21 : Er w0.2 := by rw [z21]; exact er_with y20 _
 rw [z22]; exact er_let y21 _ _ _
def lamRE (e : Int) (a : T) (t : Ty) : Tm × Int :=
 let s := stepRE e a
 let m := nodeE s.2 2 t [s.1]
 nodeE m.2 2 natY [m.1]
theorem lamR_def (e : Int) (a : T) (t : Ty) : ∃ (s : Tm × Int) (m : Tm × Int), s = stepRE e a ∧ m = nodeE s.2 2 t [s.1] ∧ lamRE e a t = nodeE m.2 2 natY [m.1] := ⟨_, _, rfl, rfl, rfl⟩
theorem lamR_er (e : Int) (a : T) (t : Ty) (he : Er e) : Er (lamRE e a t).2 := by
 obtain ⟨s, m, z0, z1, z2⟩ := lamR_def e a t
 have y0 : Er s.2 := by rw [z0]; exact stepR_er _ _ he
 have y1 : Er m.2 := by rw [z1]; exact er_node y0 _ _ _
 rw [z2]; exact er_node y1 _ _ _
def lamFE (e : Int) (a : T) (t : Ty) : Tm × Int :=
 let s := stepFE e a
 let m := nodeE s.2 2 t [s.1]
 let n := nodeE m.2 2 (T.ty .list) [m.1]
 nodeE n.2 2 natY [n.1]
theorem lamF_def (e : Int) (a : T) (t : Ty) : ∃ (s : Tm × Int) (m : Tm × Int) (n : Tm × Int), s = stepFE e a ∧ m = nodeE s.2 2 t [s.1] ∧ n = nodeE m.2 2 (T.ty .list) [m.1] ∧ lamFE e a t = nodeE n.2 2 natY [n.1] := ⟨_, _, _, rfl, rfl, rfl, rfl⟩
theorem lamF_er (e : Int) (a : T) (t : Ty) (he : Er e) : Er (lamFE e a t).2 := by
 obtain ⟨s, m, n, z0, z1, z2, z3⟩ := lamF_def e a t
 have y0 : Er s.2 := by rw [z0]; exact stepF_er _ _ he
 have y1 : Er m.2 := by rw [z1]; exact er_node y0 _ _ _
 have y2 : Er n.2 := by rw [z2]; exact er_node y1 _ _ _
 rw [z3]; exact er_node y2 _ _ _
def stepLE (k e : Int) (a : T) (r : Ty) : Tm × Int := if k = 6 then lamRE e a r else lamFE e a r
theorem stepL_er (k e : Int) (a : T) (r : Ty) (he : Er e) : Er (stepLE k e a r).2 := by
 unfold stepLE
 split
 ·exact lamR_er _ _ _ he
 ·exact lamF_er _ _ _ he
def roundsE (k : Int) (a b0 b1 b2 : T) (x y z : Tm) : Tm × Int :=
 let w := withE 0 a
 let t := stepLE k w.2 a w.1
 let p := sndE t.2 2
 let c := nodeE p.2 10 zY [nT 4 [], p.1]
 let q := sndE c.2 0
 let d := nodeE q.2 k w.1 [c.1, t.1, q.1]
 let g3 := fstE d.2 3
 let g2 := fstE g3.2 2
 let g1 := fstE g2.2 1
 let g0 := fstE g1.2 0
 let s := sumE g0.2 g3.1 [g2.1, g1.1, g0.1]
 let v := sndE s.2 0
 let o := nodeE v.2 10 zY [s.1, v.1]
 let m3 := letE o.2 w.1 d.1 o.1
 let w2 := withE m3.2 b2
 let m2 := letE w2.2 w2.1 (z.upN 0 2) m3.1
 let w1 := withE m2.2 b1
 let m1 := letE w1.2 w1.1 (y.upN 0 1) m2.1
 let w0 := withE m1.2 b0
 letE w0.2 w0.1 x m1.1
theorem rounds_def (k : Int) (a b0 b1 b2 : T) (x y z : Tm) : ∃ (w : Ty × Int) (t : Tm × Int) (p : Tm × Int) (c : Tm × Int) (q : Tm × Int) (d : Tm × Int) (g3 : Tm × Int) (g2 : Tm × Int) (g1 : Tm × Int) (g0 : Tm × Int) (s : Tm × Int) (v : Tm × Int) (o : Tm × Int) (m3 : Tm × Int) (w2 : Ty × Int) (m2 : Tm × Int) (w1 : Ty × Int) (m1 : Tm × Int) (w0 : Ty × Int), w = withE 0 a ∧ t = stepLE k w.2 a w.1 ∧ p = sndE t.2 2 ∧ c = nodeE p.2 10 zY [nT 4 [], p.1] ∧ q = sndE c.2 0 ∧ d = nodeE q.2 k w.1 [c.1, t.1, q.1] ∧ g3 = fstE d.2 3 ∧ g2 = fstE g3.2 2 ∧ g1 = fstE g2.2 1 ∧ g0 = fstE g1.2 0 ∧ s = sumE g0.2 g3.1 [g2.1, g1.1, g0.1] ∧ v = sndE s.2 0 ∧ o = nodeE v.2 10 zY [s.1, v.1] ∧ m3 = letE o.2 w.1 d.1 o.1 ∧ w2 = withE m3.2 b2 ∧ m2 = letE w2.2 w2.1 (z.upN 0 2) m3.1 ∧ w1 = withE m2.2 b1 ∧ m1 = letE w1.2 w1.1 (y.upN 0 1) m2.1 ∧ w0 = withE m1.2 b0 ∧ roundsE k a b0 b1 b2 x y z = letE w0.2 w0.1 x m1.1 := ⟨_, _, _, _, _, _, _, _, _, _, _, _, _, _, _, _, _, _, _, rfl, rfl, rfl, rfl, rfl, rfl, rfl, rfl, rfl, rfl, rfl, rfl, rfl, rfl, rfl, rfl, rfl, rfl, rfl, rfl⟩
theorem rounds_er (k : Int) (a b0 b1 b2 : T) (x y z : Tm) : Er (roundsE k a b0 b1 b2 x y z).2 := by
 obtain ⟨w, t, p, c, q, d, g3, g2, g1, g0, s, v, o, m3, w2, m2, w1, m1, w0, z0, z1, z2, z3, z4, z5, z6, z7, z8, z9, z10, z11, z12, z13, z14, z15, z16, z17, z18, z19⟩ := rounds_def k a b0 b1 b2 x y z
 have y0 : Er w.2 := by rw [z0]; exact er_with (.inl rfl : Er 0) _
 have y1 : Er t.2 := by rw [z1]; exact stepL_er _ _ _ _ y0
 have y2 : Er p.2 := by rw [z2]; exact er_node y1 _ _ _
 have y3 : Er c.2 := by rw [z3]; exact er_node y2 _ _ _
 have y4 : Er q.2 := by rw [z4]; exact er_node y3 _ _ _
 have y5 : Er d.2 := by rw [z5]; exact er_node y4 _ _ _
 have y6 : Er g3.2 := by rw [z6]; exact er_node y5 _ _ _
 have y7 : Er g2.2 := by rw [z7]; exact er_node y6 _ _ _
 have y8 : Er g1.2 := by rw [z8]; exact er_node y7 _ _ _
 have y9 : Er g0.2 := by rw [z9]; exact er_node y8 _ _ _
 have y10 : Er s.2 := by rw [z10]; exact er_sum _ y9 _
 have y11 : Er v.2 := by rw [z11]; exact er_node y10 _ _ _
 have y12 : Er o.2 := by rw [z12]; exact er_node y11 _ _ _
 have y13 : Er m3.2 := by rw [z13]; exact er_let y12 _ _ _
 have y14 : Er w2.2 := by rw [z14]; exact er_with y13 _
 have y15 : Er m2.2 := by rw [z15]; exact er_let y14 _ _ _
 have y16 : Er w1.2 := by rw [z16]; exact er_with y15 _
 have y17 : Er m1.2 := by rw [z17]; exact er_let y16 _ _ _
 have y18 : Er w0.2 := by rw [z18]; exact er_with y17 _
 rw [z19]; exact er_let y18 _ _ _
/-! end D -/
def T.cod : T → T
 | .fn _ b => b
 | _ => .unit
def tkNodeE (k i : Int) (y : Ty) (a l : List Tm) (ts : List T) : Tm × Int :=
 if k = 2 then
  let n := nodeE (cntErr (toT y)) 2 (cntY (toT y)) [l.getD 0 zeroTm]
  nodeE n.2 10 zY [nT 4 [], n.1]
 else if k = 3 then appE (ts.getD 1 .unit) (ts.getD 0 .unit).cod (l.getD 0 zeroTm) (l.getD 1 zeroTm)
 else if k = 5 ∨ k = 11 ∨ k = 12 then unE k (ts.getD 0 .unit) (l.getD 0 zeroTm)
 else if k = 8 ∨ k = 10 then binE k (ts.getD 0 .unit) (ts.getD 1 .unit) (l.getD 0 zeroTm) (l.getD 1 zeroTm)
 else if k = 6 ∨ k = 9 then roundsE k (toT y) (ts.getD 0 .unit) (ts.getD 1 .unit) (ts.getD 2 .unit) (l.getD 0 zeroTm) (l.getD 1 zeroTm) (l.getD 2 zeroTm)
 else nodeE 0 10 zY [nT 4 [], Tm.mk k i y a]
def tickE : List T → Tm → Tm × Int
 | g, .mk k i y a => if (ticksE (if k = 2 then g ++ [toT y] else g) a).2 = 0 then tkNodeE k i y a (ticksE (if k = 2 then g ++ [toT y] else g) a).1 (tyT.tysT (if k = 2 then g ++ [toT y] else g) a) else (zeroTm, (ticksE (if k = 2 then g ++ [toT y] else g) a).2)
where
 ticksE : List T → List Tm → List Tm × Int
  | _, [] => ([], 0)
  | g, x :: r => if (tickE g x).2 = 0 then if (ticksE g r).2 = 0 then ((tickE g x).1 :: (ticksE g r).1, 0) else ([], (ticksE g r).2) else ([], (tickE g x).2)
theorem tickE_eq (g : List T) (t : Tm) : tickE g t = if (tickE.ticksE (if t.kind = 2 then g ++ [toT t.type] else g) t.args).2 = 0 then tkNodeE t.kind t.index t.type t.args (tickE.ticksE (if t.kind = 2 then g ++ [toT t.type] else g) t.args).1 (tyT.tysT (if t.kind = 2 then g ++ [toT t.type] else g) t.args) else (zeroTm, (tickE.ticksE (if t.kind = 2 then g ++ [toT t.type] else g) t.args).2) := by
 cases t; rw [tickE]; rfl

/-! gen O -/
theorem un_ok {k : Int} {a : T} {x : Tm} (h : (unE k a x).2 = 0) : a.wt.ok ∧ (unE k a x).1 = unT k a x := by
 obtain ⟨w, f, s, n, c, z0, z1, z2, z3, z4, z5⟩ := un_def k a x
 rw [z5] at h ⊢
 obtain ⟨h5, r5⟩ := let_q rfl h
 obtain ⟨h4, r4⟩ := node_q z4 h5
 obtain ⟨h3, r3⟩ := node_q z3 h4
 obtain ⟨h2, r2⟩ := snd_q z2 h3
 obtain ⟨h1, r1⟩ := fst_q z1 h2
 obtain ⟨-, o0_0, r0⟩ := with_q z0 h1
 refine ⟨o0_0, r5.trans ?_⟩
 rw [r4, r3, r2, r1, r0]
 rfl
theorem bin_ok {k : Int} {a b : T} {x y : Tm} (h : (binE k a b x y).2 = 0) : b.wt.ok ∧ a.wt.ok ∧ (binE k a b x y).1 = binT k a b x y := by
 obtain ⟨g1, g0, s, s1, s0, n, c, w0, w1, m, z0, z1, z2, z3, z4, z5, z6, z7, z8, z9, z10⟩ := bin_def k a b x y
 rw [z10] at h ⊢
 obtain ⟨h10, r10⟩ := let_q rfl h
 obtain ⟨h9, r9⟩ := let_q z9 h10
 obtain ⟨h8, o8_0, r8⟩ := with_q z8 h9
 obtain ⟨h7, o7_0, r7⟩ := with_q z7 h8
 obtain ⟨h6, r6⟩ := node_q z6 h7
 obtain ⟨h5, r5⟩ := node_q z5 h6
 obtain ⟨h4, r4⟩ := snd_q z4 h5
 obtain ⟨h3, r3⟩ := snd_q z3 h4
 obtain ⟨h2, r2⟩ := sum_q z2 h3
 obtain ⟨h1, r1⟩ := fst_q z1 h2
 obtain ⟨-, r0⟩ := fst_q z0 h1
 refine ⟨o8_0, o7_0, r10.trans ?_⟩
 rw [r9, r8, r7, r6, r5, r4, r3, r2, r1, r0]
 rfl
theorem app_ok {a b : T} {x y : Tm} (h : (appE a b x y).2 = 0) : (T.fn a b).wt.ok ∧ b.wt.ok ∧ a.wt.ok ∧ (appE a b x y).1 = appT2 a b x y := by
 obtain ⟨s1, s0, c, g2, g1, g0, s, u, z, o, w1, w2, m2, m1, w0, z0, z1, z2, z3, z4, z5, z6, z7, z8, z9, z10, z11, z12, z13, z14, z15⟩ := app_def a b x y
 rw [z15] at h ⊢
 obtain ⟨h15, r15⟩ := let_q rfl h
 obtain ⟨h14, o14_0, r14⟩ := with_q z14 h15
 obtain ⟨h13, r13⟩ := let_q z13 h14
 obtain ⟨h12, r12⟩ := let_q z12 h13
 obtain ⟨h11, o11_0, r11⟩ := with_q z11 h12
 obtain ⟨h10, o10_0, r10⟩ := with_q z10 h11
 obtain ⟨h9, r9⟩ := node_q z9 h10
 obtain ⟨h8, r8⟩ := snd_q z8 h9
 obtain ⟨h7, r7⟩ := node_q z7 h8
 obtain ⟨h6, r6⟩ := sum_q z6 h7
 obtain ⟨h5, r5⟩ := fst_q z5 h6
 obtain ⟨h4, r4⟩ := fst_q z4 h5
 obtain ⟨h3, r3⟩ := fst_q z3 h4
 obtain ⟨h2, r2⟩ := node_q z2 h3
 obtain ⟨h1, r1⟩ := snd_q z1 h2
 obtain ⟨-, r0⟩ := snd_q z0 h1
 refine ⟨o14_0, o11_0, o10_0, r15.trans ?_⟩
 rw [r14, r13, r12, r11, r10, r9, r8, r7, r6, r5, r4, r3, r2, r1, r0]
 rfl
theorem stepR_ok {e : Int} {a : T} (h : (stepRE e a).2 = 0) : e = 0 ∧ (T.fn a a).wt.ok ∧ a.wt.ok ∧ (stepRE e a).1 = stepRT a := by
 obtain ⟨p0, c0, p1, q1, a1, c1, g2, g1, g0, s, u, z, o, w1, m1, w0, z0, z1, z2, z3, z4, z5, z6, z7, z8, z9, z10, z11, z12, z13, z14, z15, z16⟩ := stepR_def e a
 rw [z16] at h ⊢
 obtain ⟨h16, r16⟩ := let_q rfl h
 obtain ⟨h15, o15_0, r15⟩ := with_q z15 h16
 obtain ⟨h14, r14⟩ := let_q z14 h15
 obtain ⟨h13, o13_0, r13⟩ := with_q z13 h14
 obtain ⟨h12, r12⟩ := node_q z12 h13
 obtain ⟨h11, r11⟩ := snd_q z11 h12
 obtain ⟨h10, r10⟩ := node_q z10 h11
 obtain ⟨h9, r9⟩ := sum_q z9 h10
 obtain ⟨h8, r8⟩ := fst_q z8 h9
 obtain ⟨h7, r7⟩ := fst_q z7 h8
 obtain ⟨h6, r6⟩ := fst_q z6 h7
 obtain ⟨h5, r5⟩ := node_q z5 h6
 obtain ⟨h4, r4⟩ := snd_q z4 h5
 obtain ⟨h3, r3⟩ := snd_q z3 h4
 obtain ⟨h2, r2⟩ := snd_q z2 h3
 obtain ⟨h1, r1⟩ := node_q z1 h2
 obtain ⟨h0, r0⟩ := snd_q z0 h1
 refine ⟨h0, o15_0, o13_0, r16.trans ?_⟩
 rw [r15, r14, r13, r12, r11, r10, r9, r8, r7, r6, r5, r4, r3, r1, r0]
 rfl
theorem stepR_q {e : Int} {a : T} {r : Tm × Int} (q : r = stepRE e a) (h : r.2 = 0) : e = 0 ∧ (T.fn a a).wt.ok ∧ a.wt.ok ∧ r.1 = stepRT a := by subst q; exact stepR_ok h
theorem stepF_ok {e : Int} {a : T} (h : (stepFE e a).2 = 0) : e = 0 ∧ (T.fn .list (T.fn a a)).wt.ok ∧ (T.fn a a).wt.ok ∧ a.wt.ok ∧ (stepFE e a).1 = stepFT a := by
 obtain ⟨p0, c0, p1, q1, c1, p2, q2, a2, c2, g3, g2, g1, g0, s, u, z, o, w2, m2, w1, m1, w0, z0, z1, z2, z3, z4, z5, z6, z7, z8, z9, z10, z11, z12, z13, z14, z15, z16, z17, z18, z19, z20, z21, z22⟩ := stepF_def e a
 rw [z22] at h ⊢
 obtain ⟨h22, r22⟩ := let_q rfl h
 obtain ⟨h21, o21_0, r21⟩ := with_q z21 h22
 obtain ⟨h20, r20⟩ := let_q z20 h21
 obtain ⟨h19, o19_0, r19⟩ := with_q z19 h20
 obtain ⟨h18, r18⟩ := let_q z18 h19
 obtain ⟨h17, o17_0, r17⟩ := with_q z17 h18
 obtain ⟨h16, r16⟩ := node_q z16 h17
 obtain ⟨h15, r15⟩ := snd_q z15 h16
 obtain ⟨h14, r14⟩ := node_q z14 h15
 obtain ⟨h13, r13⟩ := sum_q z13 h14
 obtain ⟨h12, r12⟩ := fst_q z12 h13
 obtain ⟨h11, r11⟩ := fst_q z11 h12
 obtain ⟨h10, r10⟩ := fst_q z10 h11
 obtain ⟨h9, r9⟩ := fst_q z9 h10
 obtain ⟨h8, r8⟩ := node_q z8 h9
 obtain ⟨h7, r7⟩ := snd_q z7 h8
 obtain ⟨h6, r6⟩ := snd_q z6 h7
 obtain ⟨h5, r5⟩ := snd_q z5 h6
 obtain ⟨h4, r4⟩ := node_q z4 h5
 obtain ⟨h3, r3⟩ := snd_q z3 h4
 obtain ⟨h2, r2⟩ := snd_q z2 h3
 obtain ⟨h1, r1⟩ := node_q z1 h2
 obtain ⟨h0, r0⟩ := snd_q z0 h1
 refine ⟨h0, o21_0, o19_0, o17_0, r22.trans ?_⟩
 rw [r21, r20, r19, r18, r17, r16, r15, r14, r13, r12, r11, r10, r9, r8, r7, r6, r4, r3, r1, r0]
 rfl
theorem stepF_q {e : Int} {a : T} {r : Tm × Int} (q : r = stepFE e a) (h : r.2 = 0) : e = 0 ∧ (T.fn .list (.fn a a)).wt.ok ∧ (T.fn a a).wt.ok ∧ a.wt.ok ∧ r.1 = stepFT a := by subst q; exact stepF_ok h
theorem lamR_ok {e : Int} {a : T} {t : Ty} (ht : t = a.wt.ty) (h : (lamRE e a t).2 = 0) : e = 0 ∧ (T.fn a a).wt.ok ∧ a.wt.ok ∧ (lamRE e a t).1 = lamT .nat (lamT a.wt (stepRT a)) := by
 obtain ⟨s, m, z0, z1, z2⟩ := lamR_def e a t
 rw [z2] at h ⊢
 obtain ⟨h2, r2⟩ := node_q rfl h
 obtain ⟨h1, r1⟩ := node_q z1 h2
 obtain ⟨h0, o0_0, o0_1, r0⟩ := stepR_q z0 h1
 refine ⟨h0, o0_0, o0_1, r2.trans ?_⟩
 rw [r1, r0, ht]
 rfl
theorem lamF_ok {e : Int} {a : T} {t : Ty} (ht : t = a.wt.ty) (h : (lamFE e a t).2 = 0) : e = 0 ∧ (T.fn .list (.fn a a)).wt.ok ∧ (T.fn a a).wt.ok ∧ a.wt.ok ∧ (lamFE e a t).1 = lamT .nat (lamT .list (lamT a.wt (stepFT a))) := by
 obtain ⟨s, m, n, z0, z1, z2, z3⟩ := lamF_def e a t
 rw [z3] at h ⊢
 obtain ⟨h3, r3⟩ := node_q rfl h
 obtain ⟨h2, r2⟩ := node_q z2 h3
 obtain ⟨h1, r1⟩ := node_q z1 h2
 obtain ⟨h0, o0_0, o0_1, o0_2, r0⟩ := stepF_q z0 h1
 refine ⟨h0, o0_0, o0_1, o0_2, r3.trans ?_⟩
 rw [r2, r1, r0, ht]
 rfl
theorem stepL_q {k e : Int} {a : T} {y : Ty} {r : Tm × Int} (q : r = stepLE k e a y) (h : r.2 = 0) : e = 0 ∧ (y = a.wt.ty → (T.fn a a).wt.ok ∧ a.wt.ok ∧ (k ≠ 6 → (T.fn .list (.fn a a)).wt.ok) ∧ r.1 = stepLT k a) := by
 subst q
 unfold stepLE at h ⊢
 by_cases hk : k = 6
 ·rw [if_pos hk] at h ⊢
  refine ⟨?_, fun hy => ?_⟩
  ·obtain ⟨s, m, q1, q2, q3⟩ := lamR_def e a y
   rw [q3] at h
   exact (stepR_q q1 (node_q q2 (node_q rfl h).1).1).1
  ·obtain ⟨o1, o2, o3, o4⟩ := lamR_ok hy h
   exact ⟨o2, o3, fun h => absurd hk h, by rw [o4, stepLT, if_pos hk]⟩
 ·rw [if_neg hk] at h ⊢
  refine ⟨?_, fun hy => ?_⟩
  ·obtain ⟨s, m, n, q1, q2, q3, q4⟩ := lamF_def e a y
   rw [q4] at h
   exact (stepF_q q1 (node_q q2 (node_q q3 (node_q rfl h).1).1).1).1
  ·obtain ⟨o1, o2, o3, o4, o5⟩ := lamF_ok hy h
   exact ⟨o3, o4, fun _ => o2, by rw [o5, stepLT, if_neg hk]⟩
theorem rounds_ok {k : Int} {a b0 b1 b2 : T} {x y z : Tm} (h : (roundsE k a b0 b1 b2 x y z).2 = 0) : b0.wt.ok ∧ b1.wt.ok ∧ b2.wt.ok ∧ a.wt.ok ∧ (T.fn a a).wt.ok ∧ a.wt.ok ∧ (k ≠ 6 → (T.fn .list (.fn a a)).wt.ok) ∧ (roundsE k a b0 b1 b2 x y z).1 = roundsT k a b0 b1 b2 x y z := by
 obtain ⟨w, t, p, c, q, d, g3, g2, g1, g0, s, v, o, m3, w2, m2, w1, m1, w0, z0, z1, z2, z3, z4, z5, z6, z7, z8, z9, z10, z11, z12, z13, z14, z15, z16, z17, z18, z19⟩ := rounds_def k a b0 b1 b2 x y z
 rw [z19] at h ⊢
 obtain ⟨h19, r19⟩ := let_q rfl h
 obtain ⟨h18, o18_0, r18⟩ := with_q z18 h19
 obtain ⟨h17, r17⟩ := let_q z17 h18
 obtain ⟨h16, o16_0, r16⟩ := with_q z16 h17
 obtain ⟨h15, r15⟩ := let_q z15 h16
 obtain ⟨h14, o14_0, r14⟩ := with_q z14 h15
 obtain ⟨h13, r13⟩ := let_q z13 h14
 obtain ⟨h12, r12⟩ := node_q z12 h13
 obtain ⟨h11, r11⟩ := snd_q z11 h12
 obtain ⟨h10, r10⟩ := sum_q z10 h11
 obtain ⟨h9, r9⟩ := fst_q z9 h10
 obtain ⟨h8, r8⟩ := fst_q z8 h9
 obtain ⟨h7, r7⟩ := fst_q z7 h8
 obtain ⟨h6, r6⟩ := fst_q z6 h7
 obtain ⟨h5, r5⟩ := node_q z5 h6
 obtain ⟨h4, r4⟩ := snd_q z4 h5
 obtain ⟨h3, r3⟩ := node_q z3 h4
 obtain ⟨h2, r2⟩ := snd_q z2 h3
 obtain ⟨h1, r1⟩ := stepL_q z1 h2
 obtain ⟨-, o0_0, r0⟩ := with_q z0 h1
 obtain ⟨p1, p2, p3, p4⟩ := r1 r0
 refine ⟨o18_0, o16_0, o14_0, o0_0, p1, p2, p3, r19.trans ?_⟩
 rw [r18, r17, r16, r15, r14, r13, r12, r11, r10, r9, r8, r7, r6, r5, r4, r3, r2, p4, r0]
 rfl
/-! end O -/
end
section
/-
 Plain law of ticks: the term that counts has the type of a number and of what is counted, returns the value, and the ticks of the run.
-/
theorem er4 {e : Int} (h : Er e) (h0 : ¬ e = 0) : e = 4 := by rcases h with h | h; exact absurd h h0; exact h
theorem tkNode_er (k i : Int) (y : Ty) (a l : List Tm) (ts : List T) : Er (tkNodeE k i y a l ts).2 := by
 unfold tkNodeE
 split
 ·exact er_node (er_node (er_cnt _) _ _ _) _ _ _
 split
 ·exact app_er _ _ _ _
 split
 ·exact un_er _ _ _
 split
 ·exact bin_er _ _ _ _ _
 split
 ·exact rounds_er _ _ _ _ _ _ _ _
 ·exact er_node (.inl rfl) _ _ _
theorem ticks_er {g : List T} : ∀ {l : List Tm}, (∀ x ∈ l, Er (tickE g x).2) → Er (tickE.ticksE g l).2
 | [], _ => .inl rfl
 | x :: r, h => by
  simp only [tickE.ticksE]
  split
  ·split
   ·exact .inl rfl
   ·exact ticks_er fun y hy => h y (List.mem_cons_of_mem _ hy)
  ·exact h x (List.mem_cons_self ..)
theorem tick_er (t : Tm) : ∀ g, Er (tickE g t).2 := by
 induction t using Tm.ind with
 | h t ih =>
 intro g
 rw [tickE_eq]
 generalize (if t.kind = 2 then g ++ [toT t.type] else g) = g'
 split
 ·exact tkNode_er _ _ _ _ _ _
 ·exact ticks_er fun x hx => ih x hx _
theorem tick1 {g : List T} {k i : Int} {y : Ty} {x : Tm} (hk : ¬ k = 2) (h : (tickE g (Tm.mk k i y [x])).2 = 0) : (tickE g x).2 = 0 ∧ tickE g (Tm.mk k i y [x]) = tkNodeE k i y [x] [(tickE g x).1] [tyT g x] := by
 have e : tickE g (Tm.mk k i y [x]) = if (tickE.ticksE g [x]).2 = 0 then tkNodeE k i y [x] (tickE.ticksE g [x]).1 [tyT g x] else (zeroTm, (tickE.ticksE g [x]).2) := by rw [tickE, if_neg hk]; rfl
 rw [e] at h ⊢
 simp only [tickE.ticksE] at h ⊢
 by_cases h1 : (tickE g x).2 = 0
 ·simp only [h1, if_true]; exact ⟨trivial, trivial⟩
 ·simp only [h1, if_false] at h
theorem tick2 {g : List T} {k i : Int} {y : Ty} {x z : Tm} (hk : ¬ k = 2) (h : (tickE g (Tm.mk k i y [x, z])).2 = 0) : (tickE g x).2 = 0 ∧ (tickE g z).2 = 0 ∧ tickE g (Tm.mk k i y [x, z]) = tkNodeE k i y [x, z] [(tickE g x).1, (tickE g z).1] [tyT g x, tyT g z] := by
 have e : tickE g (Tm.mk k i y [x, z]) = if (tickE.ticksE g [x, z]).2 = 0 then tkNodeE k i y [x, z] (tickE.ticksE g [x, z]).1 [tyT g x, tyT g z] else (zeroTm, (tickE.ticksE g [x, z]).2) := by rw [tickE, if_neg hk]; rfl
 rw [e] at h ⊢
 simp only [tickE.ticksE] at h ⊢
 by_cases h1 : (tickE g x).2 = 0
 ·by_cases h2 : (tickE g z).2 = 0
  ·simp only [h1, h2, if_true]; exact ⟨trivial, trivial, trivial⟩
  ·simp only [h1, h2, if_true, if_false] at h
 ·simp only [h1, if_false] at h
theorem tick3 {g : List T} {k i : Int} {y : Ty} {x z w : Tm} (hk : ¬ k = 2) (h : (tickE g (Tm.mk k i y [x, z, w])).2 = 0) : (tickE g x).2 = 0 ∧ (tickE g z).2 = 0 ∧ (tickE g w).2 = 0 ∧ tickE g (Tm.mk k i y [x, z, w]) = tkNodeE k i y [x, z, w] [(tickE g x).1, (tickE g z).1, (tickE g w).1] [tyT g x, tyT g z, tyT g w] := by
 have e : tickE g (Tm.mk k i y [x, z, w]) = if (tickE.ticksE g [x, z, w]).2 = 0 then tkNodeE k i y [x, z, w] (tickE.ticksE g [x, z, w]).1 [tyT g x, tyT g z, tyT g w] else (zeroTm, (tickE.ticksE g [x, z, w]).2) := by rw [tickE, if_neg hk]; rfl
 rw [e] at h ⊢
 simp only [tickE.ticksE] at h ⊢
 by_cases h1 : (tickE g x).2 = 0
 ·by_cases h2 : (tickE g z).2 = 0
  ·by_cases h3 : (tickE g w).2 = 0
   ·simp only [h1, h2, h3, if_true]; exact ⟨trivial, trivial, trivial, trivial⟩
   ·simp only [h1, h2, h3, if_true, if_false] at h
  ·simp only [h1, h2, if_true, if_false] at h
 ·simp only [h1, if_false] at h
theorem tickL {g : List T} {a : T} {b : Tm} (h : (tickE g (lamT a b)).2 = 0) : (tickE (g ++ [a]) b).2 = 0 ∧ tickE g (lamT a b) = nodeE (nodeE (cntErr a) 2 (cntY a) [(tickE (g ++ [a]) b).1]).2 10 zY [nT 4 [], (nodeE (cntErr a) 2 (cntY a) [(tickE (g ++ [a]) b).1]).1] := by
 have e : tickE g (lamT a b) = if (tickE.ticksE (g ++ [a]) [b]).2 = 0 then tkNodeE 2 0 a.ty [b] (tickE.ticksE (g ++ [a]) [b]).1 [tyT (g ++ [a]) b] else (zeroTm, (tickE.ticksE (g ++ [a]) [b]).2) := by
  rw [lamT, tickE, if_pos rfl, toT_ty]; rfl
 rw [e] at h ⊢
 simp only [tickE.ticksE] at h ⊢
 by_cases h1 : (tickE (g ++ [a]) b).2 = 0
 ·simp only [h1, if_true]
  refine ⟨trivial, ?_⟩
  unfold tkNodeE
  rw [if_pos rfl, toT_ty]
  rfl
 ·simp only [h1, if_false] at h

variable {Γ : List T} {a b : T}
theorem dn_letT {r : T} {x i : Tm} {X : Env Γ → a.wt.V} {I : Env (a.wt :: Γ) → r.V} (ha : a.wt.ok) (hx : Dn Γ x a.wt X) (hi : Dn (a.wt :: Γ) i r I) : Dn Γ (letT a x i) r (fun e => I (X e, e)) := .app (.lam ha hi) hx
theorem dn_sum2 {Δ : List T} {x y : Tm} {X Y : Env Δ → T.nat.V} (hx : Dn Δ x .nat X) (hy : Dn Δ y .nat Y) : Dn Δ (sumT x [y]) .nat (fun e => Nat.add (X e) (Y e)) := .app (.app (dn_plus _) hx) hy
theorem dn_sum3 {Δ : List T} {x y z : Tm} {X Y Z : Env Δ → T.nat.V} (hx : Dn Δ x .nat X) (hy : Dn Δ y .nat Y) (hz : Dn Δ z .nat Z) : Dn Δ (sumT x [y, z]) .nat (fun e => Nat.add (Nat.add (X e) (Y e)) (Z e)) := .app (.app (dn_plus _) (.app (.app (dn_plus _) hx) hy)) hz
theorem dn_sum4 {Δ : List T} {x y z w : Tm} {X Y Z W : Env Δ → T.nat.V} (hx : Dn Δ x .nat X) (hy : Dn Δ y .nat Y) (hz : Dn Δ z .nat Z) (hw : Dn Δ w .nat W) : Dn Δ (sumT x [y, z, w]) .nat (fun e => Nat.add (Nat.add (Nat.add (X e) (Y e)) (Z e)) (W e)) := .app (.app (dn_plus _) (.app (.app (dn_plus _) (.app (.app (dn_plus _) hx) hy)) hz)) hw
theorem dn_f0 {Δ : List T} {a0 : T} : Dn (a0.wt :: Δ) (fstT 0) .nat (fun e => Prod.fst e.1) := .fst (.var .zero)
theorem dn_f1 {Δ : List T} {a0 a1 : T} : Dn (a0 :: a1.wt :: Δ) (fstT 1) .nat (fun e => Prod.fst e.2.1) := .fst (.var (.succ .zero))
theorem dn_f2 {Δ : List T} {a0 a1 a2 : T} : Dn (a0 :: a1 :: a2.wt :: Δ) (fstT 2) .nat (fun e => Prod.fst e.2.2.1) := .fst (.var (.succ (.succ .zero)))
theorem dn_f3 {Δ : List T} {a0 a1 a2 a3 : T} : Dn (a0 :: a1 :: a2 :: a3.wt :: Δ) (fstT 3) .nat (fun e => Prod.fst e.2.2.2.1) := .fst (.var (.succ (.succ (.succ .zero))))
theorem dn_s0 {Δ : List T} {a0 : T} : Dn (a0.wt :: Δ) (sndT 0) a0.tk (fun e => Prod.snd e.1) := .snd (.var .zero)
theorem dn_s1 {Δ : List T} {a0 a1 : T} : Dn (a0 :: a1.wt :: Δ) (sndT 1) a1.tk (fun e => Prod.snd e.2.1) := .snd (.var (.succ .zero))
theorem dn_s2 {Δ : List T} {a0 a1 a2 : T} : Dn (a0 :: a1 :: a2.wt :: Δ) (sndT 2) a2.tk (fun e => Prod.snd e.2.2.1) := .snd (.var (.succ (.succ .zero)))
theorem dn_s3 {Δ : List T} {a0 a1 a2 a3 : T} : Dn (a0 :: a1 :: a2 :: a3.wt :: Δ) (sndT 3) a3.tk (fun e => Prod.snd e.2.2.2.1) := .snd (.var (.succ (.succ (.succ .zero))))
theorem dn_s4 {Δ : List T} {a0 a1 a2 a3 a4 : T} : Dn (a0 :: a1 :: a2 :: a3 :: a4.wt :: Δ) (sndT 4) a4.tk (fun e => Prod.snd e.2.2.2.2.1) := .snd (.var (.succ (.succ (.succ (.succ .zero)))))

theorem dn_succT {x : Tm} {X : Env Γ → T.nat.wt.V} (ho : T.nat.wt.ok) (hx : Dn Γ x T.nat.wt X) : Dn Γ (unT 5 .nat x) T.nat.wt (fun e => gSucc (X e)) := dn_letT ho hx (.pair dn_f0 (.succ (dn_s0 (a0 := .nat))))
theorem dn_fstU {x : Tm} {X : Env Γ → (T.pair a b).wt.V} (ho : (T.pair a b).wt.ok) (hx : Dn Γ x (T.pair a b).wt X) : Dn Γ (unT 11 (.pair a b) x) a.wt (fun e => gFst (X e)) := dn_letT ho hx (.pair dn_f0 (.fst (b := b.tk) (dn_s0 (a0 := .pair a b))))
theorem dn_sndU {x : Tm} {X : Env Γ → (T.pair a b).wt.V} (ho : (T.pair a b).wt.ok) (hx : Dn Γ x (T.pair a b).wt X) : Dn Γ (unT 12 (.pair a b) x) b.wt (fun e => gSnd (X e)) := dn_letT ho hx (.pair dn_f0 (.snd (a := a.tk) (dn_s0 (a0 := .pair a b))))
theorem dn_consB {x y : Tm} {X : Env Γ → T.nat.wt.V} {Y : Env Γ → T.list.wt.V} (ho : T.nat.wt.ok) (ho' : T.list.wt.ok) (hx : Dn Γ x T.nat.wt X) (hy : Dn Γ y T.list.wt Y) : Dn Γ (binT 8 .nat .list x y) T.list.wt (fun e => gCons (X e) (Y e)) :=
 dn_letT ho hx (dn_letT ho' (dn_up hy [T.nat.wt]) (.pair (dn_sum2 dn_f1 dn_f0) (.cons (dn_s1 (a1 := .nat)) (dn_s0 (a0 := .list)))))
theorem dn_pairB {x y : Tm} {X : Env Γ → a.wt.V} {Y : Env Γ → b.wt.V} (ho : a.wt.ok) (ho' : b.wt.ok) (hx : Dn Γ x a.wt X) (hy : Dn Γ y b.wt Y) : Dn Γ (binT 10 a b x y) (T.pair a b).wt (fun e => gPair (X e) (Y e)) :=
 dn_letT ho hx (dn_letT ho' (dn_up hy [a.wt]) (.pair (dn_sum2 dn_f1 dn_f0) (.pair dn_s1 dn_s0)))
theorem dn_appB {x y : Tm} {X : Env Γ → (T.fn a b).wt.V} {Y : Env Γ → a.wt.V} (h1 : (T.fn a b).wt.ok) (h2 : a.wt.ok) (h3 : b.wt.ok) (hx : Dn Γ x (T.fn a b).wt X) (hy : Dn Γ y a.wt Y) : Dn Γ (appT2 a b x y) b.wt (fun e => gApp (X e) (Y e)) :=
 dn_letT h1 hx (dn_letT h2 (dn_up hy [(T.fn a b).wt]) (dn_letT h3 (.app (dn_s1 (a1 := .fn a b)) dn_s0) (.pair (.succ (dn_sum3 dn_f2 dn_f1 dn_f0)) dn_s0)))
theorem dn_stepR {Δ : List T} {a1 : T} (h1 : (T.fn a a).wt.ok) (h2 : a.wt.ok) :
  Dn (a1.wt :: (T.fn .nat (.fn a a)).wt :: Δ) (lamT .nat (lamT a.wt (stepRT a))) (.fn .nat (.fn a.wt a.wt)) (fun e k c => gStep (Prod.snd e.2.1) k c) :=
 .lam nat_ok0 (.lam h2 (dn_letT h1 (.app (dn_s3 (a3 := .fn .nat (.fn a a))) (.var (.succ .zero))) (dn_letT h2 (.app (dn_s0 (a0 := .fn a a)) dn_s1) (.pair (.succ (dn_sum3 dn_f2 dn_f1 dn_f0)) dn_s0))))
theorem dn_stepF {Δ : List T} {a1 : T} (h0 : (T.fn .list (.fn a a)).wt.ok) (h1 : (T.fn a a).wt.ok) (h2 : a.wt.ok) :
  Dn (a1.wt :: (T.fn .nat (.fn .list (.fn a a))).wt :: Δ) (lamT .nat (lamT .list (lamT a.wt (stepFT a)))) (.fn .nat (.fn .list (.fn a.wt a.wt))) (fun e x l c => gStepL (Prod.snd e.2.1) x l c) :=
 .lam nat_ok0 (.lam list_ok0 (.lam h2 (dn_letT h0 (.app (dn_s4 (a4 := .fn .nat (.fn .list (.fn a a)))) (.var (.succ (.succ .zero)))) (dn_letT h1 (.app (dn_s0 (a0 := .fn .list (.fn a a))) (.var (.succ (.succ .zero)))) (dn_letT h2 (.app (dn_s0 (a0 := .fn a a)) dn_s2) (.pair (.succ (dn_sum4 dn_f3 dn_f2 dn_f1 dn_f0)) dn_s0))))))
theorem dn_recB {x y z : Tm} {P : Env Γ → a.wt.V} {Q : Env Γ → (T.fn .nat (.fn a a)).wt.V} {N : Env Γ → T.nat.wt.V} (h0 : (T.fn .nat (.fn a a)).wt.ok) (h1 : T.nat.wt.ok) (h2 : (T.fn a a).wt.ok) (h3 : a.wt.ok) (hx : Dn Γ x a.wt P) (hy : Dn Γ y (T.fn .nat (.fn a a)).wt Q) (hz : Dn Γ z T.nat.wt N) :
  Dn Γ (roundsT 6 a a (.fn .nat (.fn a a)) .nat x y z) a.wt (fun e => gRec (P e) (Q e) (N e)) := by
 have hst : stepLT 6 a = lamT .nat (lamT a.wt (stepRT a)) := if_pos rfl
 unfold roundsT
 rw [hst]
 exact dn_letT h3 hx (dn_letT h0 (dn_up hy [a.wt]) (dn_letT h1 (dn_up hz [(T.fn .nat (.fn a a)).wt, a.wt]) (dn_letT h3 (.rc (a := a.wt) h3 (.pair .zero dn_s2) (dn_stepR h2 h3) (dn_s0 (a0 := .nat))) (.pair (dn_sum4 dn_f3 dn_f2 dn_f1 dn_f0) dn_s0))))
theorem dn_foldB {x y z : Tm} {P : Env Γ → a.wt.V} {Q : Env Γ → (T.fn .nat (.fn .list (.fn a a))).wt.V} {N : Env Γ → T.list.wt.V} (h0 : (T.fn .nat (.fn .list (.fn a a))).wt.ok) (h1 : T.list.wt.ok) (h2 : (T.fn .list (.fn a a)).wt.ok) (h2' : (T.fn a a).wt.ok) (h3 : a.wt.ok) (hx : Dn Γ x a.wt P) (hy : Dn Γ y (T.fn .nat (.fn .list (.fn a a))).wt Q) (hz : Dn Γ z T.list.wt N) :
  Dn Γ (roundsT 9 a a (.fn .nat (.fn .list (.fn a a))) .list x y z) a.wt (fun e => gFold (P e) (Q e) (N e)) := by
 have hst : stepLT 9 a = lamT .nat (lamT .list (lamT a.wt (stepFT a))) := if_neg (by decide)
 unfold roundsT
 rw [hst]
 exact dn_letT h3 hx (dn_letT h0 (dn_up hy [a.wt]) (dn_letT h1 (dn_up hz [(T.fn .nat (.fn .list (.fn a a))).wt, a.wt]) (dn_letT h3 (.fold (a := a.wt) h3 (.pair .zero dn_s2) (dn_stepF h2 h2' h3) (dn_s0 (a0 := .list))) (.pair (dn_sum4 dn_f3 dn_f2 dn_f1 dn_f0) dn_s0))))

theorem semD_rec {P : Env Γ → a.V} {P' : Env (Γ.map T.tk) → a.wt.V} {Q : Env Γ → (T.fn .nat (.fn a a)).V} {Q' : Env (Γ.map T.tk) → (T.fn .nat (.fn a a)).wt.V} {N : Env Γ → T.nat.V} {N' : Env (Γ.map T.tk) → T.nat.wt.V} (hP : SemD Γ a P P') (hQ : SemD Γ (.fn .nat (.fn a a)) Q Q') (hN : SemD Γ .nat N N') :
  SemD Γ a (fun e => natRec (P e) (Q e) (N e)) (fun e => gRec (P' e) (Q' e) (N' e)) := by
 intro e ρ h
 have key : ∀ n : Nat, Rq a (natRec (P e) (Q e) n) (natRec (α := WT a) (0, Prod.snd (P' ρ)) (gStep (Prod.snd (Q' ρ))) n).2 := by
  intro n
  induction n with
  | zero => exact hP e ρ h
  | succ n ih => exact hQ e ρ h n n rfl _ _ ih
 have hn : N e = Prod.snd (N' ρ) := hN e ρ h
 show Rq a (natRec (P e) (Q e) (N e)) (natRec (α := WT a) (0, Prod.snd (P' ρ)) (gStep (Prod.snd (Q' ρ))) (Prod.snd (N' ρ))).2
 rw [hn]
 exact key _
theorem semD_fold {P : Env Γ → a.V} {P' : Env (Γ.map T.tk) → a.wt.V} {Q : Env Γ → (T.fn .nat (.fn .list (.fn a a))).V} {Q' : Env (Γ.map T.tk) → (T.fn .nat (.fn .list (.fn a a))).wt.V} {N : Env Γ → T.list.V} {N' : Env (Γ.map T.tk) → T.list.wt.V} (hP : SemD Γ a P P') (hQ : SemD Γ (.fn .nat (.fn .list (.fn a a))) Q Q') (hN : SemD Γ .list N N') :
  SemD Γ a (fun e => listRec (P e) (Q e) (N e)) (fun e => gFold (P' e) (Q' e) (N' e)) := by
 intro e ρ h
 have key : ∀ l : List Nat, Rq a (listRec (P e) (Q e) l) (listRec (α := WT a) (0, Prod.snd (P' ρ)) (gStepL (Prod.snd (Q' ρ))) l).2 := by
  intro l
  induction l with
  | nil => exact hP e ρ h
  | cons x l ih => exact hQ e ρ h x x rfl l l rfl _ _ ih
 have hn : N e = Prod.snd (N' ρ) := hN e ρ h
 show Rq a (listRec (P e) (Q e) (N e)) (listRec (α := WT a) (0, Prod.snd (P' ρ)) (gStepL (Prod.snd (Q' ρ))) (Prod.snd (N' ρ))).2
 rw [hn]
 exact key _

/-- a leaf -/
theorem dn_leafT {Δ : List T} {x : Tm} {c : T} {X : Env Δ → c.V} (hx : Dn Δ x c X) : Dn Δ (nT 10 [nT 4 [], x]) (.pair .nat c) (fun e => ((0 : Nat), X e)) := .pair .zero hx
theorem tick_leaf {g : List T} {k i : Int} {y : Ty} (h2 : ¬ k = 2) (hk : k = 1 ∨ k = 4 ∨ k = 7 ∨ k = 13) (h : (tickE g (Tm.mk k i y [])).2 = 0) : (tickE g (Tm.mk k i y [])).1 = nT 10 [nT 4 [], Tm.mk k i y []] := by
 have e : tickE g (Tm.mk k i y []) = nodeE 0 10 zY [nT 4 [], Tm.mk k i y []] := by
  rw [tickE, if_neg h2]
  show tkNodeE k i y [] [] _ = _
  unfold tkNodeE
  rcases hk with rfl | rfl | rfl | rfl <;> rfl
 rw [e] at h ⊢
 exact (node_ok h).2.1

/-- THE THEOREM OF TICKS: the run's value and ticks, and the value that is denoted, are what the term that counts means -/
theorem tick_dn {t : Tm} {F : Env Γ → a.V} (h : Dn Γ t a F) : ∃ G : Env (Γ.map T.tk) → a.wt.V, SemK Γ t a G ∧ SemD Γ a F G ∧ ((tickE Γ.reverse t).2 = 0 → Dn (Γ.map T.tk) (tickE Γ.reverse t).1 a.wt G) := by
 induction h with
 | @var Γ i a p h =>
  obtain ⟨q, h1, h2, h3⟩ := at_tk h
  refine ⟨fun ρ => ((0 : Nat), q ρ), fun e ρ he => ?_, fun e ρ he => h3 e ρ he, fun h0 => ?_⟩
  ·obtain ⟨v, h4, h5⟩ := h2 e ρ he
   refine ⟨1, v, 0, ?_, h5, rfl⟩
   show (e[((i : Nat) : Int).toNat]?).map (fun v => (v, 0)) = some (v, 0)
   rw [Int.toNat_natCast, h4]
   rfl
  ·have e := tick_leaf (by decide) (.inl rfl) h0
   unfold vT
   rw [e]
   exact dn_leafT (.var h1)
 | @lam Γ a r b f ha h ih =>
  obtain ⟨G, h1, h2, h3⟩ := ih
  refine ⟨_, semK_lam h1, fun e ρ he x X hx => h2 (x, e) (X, ρ) ⟨hx, he⟩, fun h0 => ?_⟩
  obtain ⟨e1, e2⟩ := tickL h0
  rw [e2] at h0 ⊢
  obtain ⟨e3, e4, -⟩ := node_ok h0
  obtain ⟨e5, e6, -⟩ := node_ok e3
  obtain ⟨e7, e8⟩ := cnt_ok e5
  rw [e4, e6, e8]
  rw [List.reverse_cons] at h3
  exact dn_leafT (.lam (a := a.tk) e7 (h3 e1))
 | @app Γ a b f x F X hf hx ih1 ih2 =>
  obtain ⟨G1, k1, d1, t1⟩ := ih1
  obtain ⟨G2, k2, d2, t2⟩ := ih2
  refine ⟨_, semK_app k1 k2, fun e ρ he => d1 e ρ he _ _ (d2 e ρ he), fun h0 => ?_⟩
  obtain ⟨e1, e2, e3⟩ := tick2 (by decide) h0
  have e4 : tickE Γ.reverse (nT 3 [f, x]) = appE a b (tickE Γ.reverse f).1 (tickE Γ.reverse x).1 := by
   rw [nT, e3, tyT_dn hf, tyT_dn hx]; rfl
  rw [e4] at h0 ⊢
  obtain ⟨o1, o2, o3, r⟩ := app_ok h0
  rw [r]
  exact dn_appB o1 o3 o2 (t1 e1) (t2 e2)
 | @zero Γ =>
  refine ⟨_, semK_leaf (v := .num 0) (by decide) (fun _ => rfl) (show Rk .nat (.num 0) (0 : Nat) from rfl), fun e ρ he => rfl, fun h0 => ?_⟩
  have e := tick_leaf (by decide) (.inr (.inl rfl)) h0
  unfold nT
  rw [e]
  exact dn_leafT .zero
 | @succ Γ x X hx ih =>
  obtain ⟨G1, k1, d1, t1⟩ := ih
  refine ⟨_, semK_succ k1, fun e ρ he => congrArg Nat.succ (d1 e ρ he), fun h0 => ?_⟩
  obtain ⟨e1, e3⟩ := tick1 (by decide) h0
  have e4 : tickE Γ.reverse (nT 5 [x]) = unE 5 .nat (tickE Γ.reverse x).1 := by rw [nT, e3, tyT_dn hx]; rfl
  rw [e4] at h0 ⊢
  obtain ⟨o1, r⟩ := un_ok h0
  rw [r]
  exact dn_succT o1 (t1 e1)
 | @rc Γ a b f n B F N ha hb hf hn ih1 ih2 ih3 =>
  obtain ⟨G1, k1, d1, t1⟩ := ih1
  obtain ⟨G2, k2, d2, t2⟩ := ih2
  obtain ⟨G3, k3, d3, t3⟩ := ih3
  refine ⟨_, semK_rec k1 k2 k3, semD_rec d1 d2 d3, fun h0 => ?_⟩
  obtain ⟨e1, e2, e3, e5⟩ := tick3 (by decide) h0
  have e4 : tickE Γ.reverse (Tm.mk 6 0 a.ty [b, f, n]) = roundsE 6 a a (.fn .nat (.fn a a)) .nat (tickE Γ.reverse b).1 (tickE Γ.reverse f).1 (tickE Γ.reverse n).1 := by
   rw [e5, tyT_dn hb, tyT_dn hf, tyT_dn hn]
   unfold tkNodeE
   rw [if_neg (by decide), if_neg (by decide), if_neg (by decide), if_neg (by decide), if_pos (by decide), toT_ty]; rfl
  rw [e4] at h0 ⊢
  obtain ⟨o1, o2, o3, o4, o5, o6, o7, r⟩ := rounds_ok h0
  rw [r]
  exact dn_recB o2 o3 o5 o6 (t1 e1) (t2 e2) (t3 e3)
 | @nil Γ =>
  refine ⟨_, semK_leaf (v := .list []) (by decide) (fun _ => rfl) (show Rk .list (.list []) ([] : List Nat) from rfl), fun e ρ he => rfl, fun h0 => ?_⟩
  have e := tick_leaf (by decide) (.inr (.inr (.inl rfl))) h0
  unfold nT
  rw [e]
  exact dn_leafT .nil
 | @cons Γ x l X L hx hl ih1 ih2 =>
  obtain ⟨G1, k1, d1, t1⟩ := ih1
  obtain ⟨G2, k2, d2, t2⟩ := ih2
  refine ⟨_, semK_cons k1 k2, fun e ρ he => congr (congrArg List.cons (d1 e ρ he)) (d2 e ρ he), fun h0 => ?_⟩
  obtain ⟨e1, e2, e3⟩ := tick2 (by decide) h0
  have e4 : tickE Γ.reverse (nT 8 [x, l]) = binE 8 .nat .list (tickE Γ.reverse x).1 (tickE Γ.reverse l).1 := by
   rw [nT, e3, tyT_dn hx, tyT_dn hl]; rfl
  rw [e4] at h0 ⊢
  obtain ⟨o1, o2, r⟩ := bin_ok h0
  rw [r]
  exact dn_consB (by assumption) (by assumption) (t1 e1) (t2 e2)
 | @fold Γ a b f n B F N ha hb hf hn ih1 ih2 ih3 =>
  obtain ⟨G1, k1, d1, t1⟩ := ih1
  obtain ⟨G2, k2, d2, t2⟩ := ih2
  obtain ⟨G3, k3, d3, t3⟩ := ih3
  refine ⟨_, semK_fold k1 k2 k3, semD_fold d1 d2 d3, fun h0 => ?_⟩
  obtain ⟨e1, e2, e3, e5⟩ := tick3 (by decide) h0
  have e4 : tickE Γ.reverse (Tm.mk 9 0 a.ty [b, f, n]) = roundsE 9 a a (.fn .nat (.fn .list (.fn a a))) .list (tickE Γ.reverse b).1 (tickE Γ.reverse f).1 (tickE Γ.reverse n).1 := by
   rw [e5, tyT_dn hb, tyT_dn hf, tyT_dn hn]
   unfold tkNodeE
   rw [if_neg (by decide), if_neg (by decide), if_neg (by decide), if_neg (by decide), if_pos (by decide), toT_ty]; rfl
  rw [e4] at h0 ⊢
  obtain ⟨o1, o2, o3, o4, o5, o6, o7, r⟩ := rounds_ok h0
  rw [r]
  exact dn_foldB o2 o3 (o7 (by decide)) o5 o6 (t1 e1) (t2 e2) (t3 e3)
 | @pair Γ a b x y X Y hx hy ih1 ih2 =>
  obtain ⟨G1, k1, d1, t1⟩ := ih1
  obtain ⟨G2, k2, d2, t2⟩ := ih2
  refine ⟨_, semK_pair k1 k2, fun e ρ he => ⟨d1 e ρ he, d2 e ρ he⟩, fun h0 => ?_⟩
  obtain ⟨e1, e2, e3⟩ := tick2 (by decide) h0
  have e4 : tickE Γ.reverse (nT 10 [x, y]) = binE 10 a b (tickE Γ.reverse x).1 (tickE Γ.reverse y).1 := by
   rw [nT, e3, tyT_dn hx, tyT_dn hy]; rfl
  rw [e4] at h0 ⊢
  obtain ⟨o1, o2, r⟩ := bin_ok h0
  rw [r]
  exact dn_pairB (by assumption) (by assumption) (t1 e1) (t2 e2)
 | @fst Γ a b x X hx ih =>
  obtain ⟨G1, k1, d1, t1⟩ := ih
  refine ⟨_, semK_fst k1, fun e ρ he => (d1 e ρ he).1, fun h0 => ?_⟩
  obtain ⟨e1, e3⟩ := tick1 (by decide) h0
  have e4 : tickE Γ.reverse (nT 11 [x]) = unE 11 (.pair a b) (tickE Γ.reverse x).1 := by rw [nT, e3, tyT_dn hx]; rfl
  rw [e4] at h0 ⊢
  obtain ⟨o1, r⟩ := un_ok h0
  rw [r]
  exact dn_fstU o1 (t1 e1)
 | @snd Γ a b x X hx ih =>
  obtain ⟨G1, k1, d1, t1⟩ := ih
  refine ⟨_, semK_snd k1, fun e ρ he => (d1 e ρ he).2, fun h0 => ?_⟩
  obtain ⟨e1, e3⟩ := tick1 (by decide) h0
  have e4 : tickE Γ.reverse (nT 12 [x]) = unE 12 (.pair a b) (tickE Γ.reverse x).1 := by rw [nT, e3, tyT_dn hx]; rfl
  rw [e4] at h0 ⊢
  obtain ⟨o1, r⟩ := un_ok h0
  rw [r]
  exact dn_sndU o1 (t1 e1)
 | @unit Γ =>
  refine ⟨_, semK_leaf (v := .unit) (by decide) (fun _ => rfl) (show Rk .unit .unit () from rfl), fun e ρ he => trivial, fun h0 => ?_⟩
  have e := tick_leaf (by decide) (.inr (.inr (.inr rfl))) h0
  unfold nT
  rw [e]
  exact dn_leafT .unit
end
section
/-
 Part Y of the small logic: a drawn region one of whose operations has several outcomes; appends to slices that are raw, or nil.
-/
section
variable {X : Ctx} {s s0 : St} {k : List Item}

/-! a drawn region with one free operation -/
def vcdE (X : Ctx) (esc : List Nat) (ops : Array Oper) (s0 : St) (K : St → List Ev → Prop) : List Oper → St → List Ev → Prop
 | [], s, ev => chkB ops.toList s0 ev.reverse = true ∧ K s ev.reverse
 | o :: l, s, ev => o.guard = none ∧ vcdA X esc ops s0 l (fun _ => False) (vcdE X esc ops s0 K l) o ev s (fpOf X (get s) o.op)
theorem vcdE_nil {esc : List Nat} {ops : Array Oper} {K : St → List Ev → Prop} {ev : List Ev} : vcdE X esc ops s0 K [] s ev = (chkB ops.toList s0 ev.reverse = true ∧ K s ev.reverse) := by rw [vcdE]
theorem vcdE_op {esc : List Nat} {ops : Array Oper} {K : St → List Ev → Prop} {ev : List Ev} {l : List Oper} (d : Option Tmp) (op : Op) (ty : TypeId) (pos : String) (af : Array Edge) :
  vcdE X esc ops s0 K (⟨d, op, ty, pos, af, none⟩ :: l) s ev = vcdA X esc ops s0 l (fun _ => False) (vcdE X esc ops s0 K l) ⟨d, op, ty, pos, af, none⟩ ev s (fpOf X (get s) op) := by rw [vcdE]; simp
attribute [go_sem] vcdE_nil vcdE_op
/-- what the free operation does: a slot, an object that goes, an object that comes -/
def delO (a : Option Nat) (s : St) : St := match a with | none => s | some b => del s (.heap b)
def effO (d : Nat) (a : Option Nat) (y : SV) (b : Nat) (cs : List SV) (s : St) : St := upd (upd (delO a s) (.slot d) (.one y)) (.heap b) (.row cs)
/-- a new object's block: no other object's -/
def newA (b : Nat) (a : Option Nat) (s : St) : Prop := ∀ h, a ≠ some h → get s (.heap h) ≠ none → b ≠ h

/-- the step of the free operation, wherever its places are as told -/
def FreeStep (X : Ctx) (o : Oper) (s1 : St) (d : Nat) (a : Option Nat) (P : SV → Nat → List SV → Prop) : Prop :=
 ∀ s, leS s1 s → ∀ (G : Gh) (ac : Act) (w : World), Rel X G s ac w → ∀ (next : Act → World → Prop) (Q : Exit → Act → World → Prop),
  (∀ y b cs, P y b cs → newA b a s → ∀ G' a' w', Rel X G' (effO d a y b cs s) a' w' → next a' w') → o.wpIn X.F 0 X.P ac w next Q

section
variable {ops ops' : Array Oper} {m q : Nat} {T0 : List Nat} {evs : List Ev} {K : St → Prop} {d : Nat} {a0 : Option Nat}

end

def dumE (d : Nat) : Eff := [(.slot d, some (.one (.v (.prim (.bool false)))))]
def vcdF (X : Ctx) (esc : List Nat) (ops : Array Oper) (s0 : St) (oq : Oper) (d : Nat) (a0 : Option Nat) (P : SV → Nat → List SV → Prop) (K : St → List Ev → Prop) : List (Option Oper) → St → List Ev → Prop
 | [], s, ev => chkB ops.toList s0 ev.reverse = true ∧ K s ev.reverse
 | some o :: l, s, ev => o.guard = none ∧ vcdA X esc ops s0 [] (fun _ => False) (vcdF X esc ops s0 oq d a0 P K l) o ev s (fpOf X (get s) o.op)
 | none :: l, s, ev => ∃ fp, FreeStep X oq (restr s fp) d a0 P ∧ vcdF X esc ops s0 oq d a0 P K l (upd s (.slot d) (.one (.v (.prim (.bool false))))) (⟨fp, dumE d, []⟩ :: ev)
theorem vcdF_nil {esc : List Nat} {ops : Array Oper} {oq : Oper} {d : Nat} {a0 : Option Nat} {P : SV → Nat → List SV → Prop} {K : St → List Ev → Prop} {ev : List Ev} : vcdF X esc ops s0 oq d a0 P K [] s ev = (chkB ops.toList s0 ev.reverse = true ∧ K s ev.reverse) := by rw [vcdF]
theorem vcdF_op {esc : List Nat} {ops : Array Oper} {oq : Oper} {d0 : Nat} {a0 : Option Nat} {P : SV → Nat → List SV → Prop} {K : St → List Ev → Prop} {ev : List Ev} {l : List (Option Oper)} (d : Option Tmp) (op : Op) (ty : TypeId) (pos : String) (af : Array Edge) :
  vcdF X esc ops s0 oq d0 a0 P K (some ⟨d, op, ty, pos, af, none⟩ :: l) s ev = vcdA X esc ops s0 [] (fun _ => False) (vcdF X esc ops s0 oq d0 a0 P K l) ⟨d, op, ty, pos, af, none⟩ ev s (fpOf X (get s) op) := by rw [vcdF]; simp
attribute [go_sem] vcdF_nil vcdF_op
end
end
section
/-
 Part Z of the small logic: appends to slices that are raw or nil, told in one way; pieces of raw slices copied into data; maps from numbers.
-/
section
variable {X : Ctx} {s s0 : St} {k : List Item}

/-! nil, told as a raw slice -/
/-! a slice that may be nil, raw -/
abbrev rawQ (q : Option Nat) (n cap : Nat) : DV := .prim (.slice (q.map fun b => ⟨b, 0, none⟩) n cap)

/-- what append makes of it -/
def AppP (X : Ctx) (q : Option Nat) (E n : Nat) (old zs : List (List DV)) : SV → Nat → List SV → Prop := fun y b cs =>
 ∃ cap full, y = .v (rawS b (n + zs.length) cap) ∧ cs = arrRow full ∧ full.length = cap ∧ (∀ e ∈ full, e.length = E) ∧ n + zs.length ≤ cap ∧ full.take (n + zs.length) = old.take n ++ zs ∧ (q = some b ∨ (X.w0.heap.size ≤ b ∧ ∀ b', q = some b' → b ≠ b'))

/-- append to a new block -/
theorem step_appendQv {o : Oper} {x y : Operand} {T T2 : TypeId} (ho : o.op = .call { callee := .builtin .append, args := #[x, y], argTypes := #[T, T2] }) {d : Nat} (hd : o.dst = some d) (hn : d < X.n)
  {E B : Nat} (he : elemZ X.P T = some (E, B)) (hB : 0 < B ∧ B ≤ 1024) (h2 : (elemT X.P T2).isSome = true) {q : Option Nat} {n cap : Nat} {full zs : List (List DV)} {zd : List DV} (hy : (evl X (get s) y).bind slOf = some zs)
  (hrow : ∀ b, q = some b → get s (.heap b) = some (.row (arrRow full))) (hq0 : q = none → n = 0) (hfl : full.length = cap) (hnc : n ≤ cap) (hnf : cap < n + zs.length) (hbig : n + zs.length ≤ BIG) (hE1 : ∀ e ∈ full, e.length = E) (hE2 : ∀ e ∈ zs, e.length = E) (hz : zeroE X.P T = some zd) (hzc : cellB zd = true)
  {G : Gh} {a : Act} {w : World} (R : Rel X G s a w) (hv : a.eval x = .slice (q.map fun b => ⟨b, 0, none⟩) n cap) (next : Act → World → Prop) (Q : Exit → Act → World → Prop)
  (hK : ∀ b' cap', n + zs.length ≤ cap' → newB b' s → X.w0.heap.size ≤ b' → zd.length = E → ∀ G' a' w', Rel X G' (upd (upd s (.slot d) (.one (.v (rawS b' (n + zs.length) cap')))) (.heap b') (.row (arrRow (full.take n ++ zs ++ List.replicate (cap' - (n + zs.length)) zd)))) a' w' → next a' w') :
  o.wpIn X.F 0 X.P a w next Q := by
 obtain ⟨qq, hqq, hq'⟩ := Option.bind_eq_some_iff.1 hy
 obtain ⟨yb, ycap, hyv, hyr, -⟩ := slOf_sound hq' (evl_sound R hqq)
 obtain ⟨c2, g, g1, g2, g3⟩ := sl_laid hyr hE2
 have hnE : n * E ≤ full.length * E := Nat.mul_le_mul_right _ (by omega)
 have hdr : ∀ w' : World, w'.heap = w.heap → (Builtin.firstCells E zs.length (a.eval y)).run X.P w' = .ok (arr g (zs.length * E)) w' := fun w' hw => by
  refine run_firstCells (D := G.D) ?_
  rcases g3 with h | ⟨b, o', cap, h, hc⟩
  ·exact .inl h
  ·exact .inr ⟨b, o', cap, h, fun k hk => by rw [cell_of_heap hw]; exact hc k hk⟩
 obtain ⟨g0, hdo, hold⟩ : ∃ g0 : Nat → Value, (∀ w' : World, w'.heap = w.heap → (Builtin.firstCells E n (.slice (q.map fun b => ⟨b, 0, none⟩) n cap)).run X.P w' = .ok (arr g0 (n * E)) w') ∧
   ∀ i j e dd, i < n → full[i]? = some e → e[j]? = some dd → dd.isCell = true ∧ RV G.D w dd (g0 (i * E + j)) := by
  cases q with
  | none =>
   have h0 := hq0 rfl
   subst h0
   refine ⟨fun _ => undef, fun w' _ => ?_, fun i j e dd hi => absurd hi (Nat.not_lt_zero _)⟩
   simp [Builtin.firstCells, arr]
  | some b =>
   obtain ⟨c0, e0, k1, k2, k3⟩ : BlkAt G w b (arrRow full) := R.holds _ _ (hrow b rfl)
   rw [arrRow_len hE1] at k2
   refine ⟨fun k => (c0[k]?).getD undef, fun w' hw => ?_, fun i j e dd hi h1 h2 => ?_⟩
   ·simp only [Builtin.firstCells, Option.map_some]
    refine run_loadCells_f b 0 (n * E) _ (fun k hk => ?_)
    have hlt : k < c0.size := by omega
    rw [cell_of_heap hw, Nat.zero_add]
    simp [World.cell?, k1, hlt]
   ·obtain ⟨q0, v, q1, q2⟩ := k3 (i * E + j) (.v dd) (by simp only [arrRow, List.getElem?_map, flatten_at hE1 h1 h2, Option.map_some])
    exact ⟨q0, by show RV G.D w dd ((c0[i * E + j]?).getD undef); rw [q1]; exact q2⟩
 obtain ⟨hzl, c, e, nc, r1, r2, r3, r4, r5, r6⟩ := run_append_newZ (P := X.P) (t := T) (ty := o.type) (t2 := T2) (w := w) he hB h2 (base := q.map fun b => ⟨b, 0, none⟩) (len := n) (cap := cap) (fun w' _ => lenOf_sl (P := X.P) hyr w') hdr hdo (by omega) hbig (arr_size _ _) (arr_size _ _) hz
 rw [← hv] at r1
 have hexec : (execOp a.eval o).run X.P w = .ok (.value (.slice (some ⟨w.heap.size, 0, none⟩) (n + zs.length) nc)) (w.drew.alloc (.cells c e)) := by
  simp [execOp, ho, resolve, invoke, builtin, r1]
 refine opIn (by intro c e; rw [ho] at e; cases e) ?_
 rw [hexec, upn_value, hd]
 have hp := put_tmps a (some d) (.slice (some ⟨w.heap.size, 0, none⟩) (n + zs.length) nc)
 have T' : Trans X G a w G (a.put (some d) (.slice (some ⟨w.heap.size, 0, none⟩) (n + zs.length) nc)) (w.drew.alloc (.cells c e)) (fun _ => False) := by
  refine ⟨hp.1, fun h => (h.heap fun b hb => alloc_old w.drew _ b hb).put hp.2, rfl, rfl, rfl, by simp, fun b hb _ => alloc_old w.drew _ b hb, fun _ h => h.elim, fun b k hD => ⟨hD, World.cell?_alloc_lt w.drew _ _ (R.wf.lt hD)⟩, fun b k hD hnD => absurd hD hnD, R.nil⟩
 refine hK w.heap.size nc r2 (newB_size R) R.ext.size hzl G _ _ (R.newArr hn (w1 := w.drew) rfl T' (E := E) ?_ ?_ ?_ ?_)
 ·intro e he
  rcases List.mem_append.1 he with he | he
  ·rcases List.mem_append.1 he with he | he
   ·exact hE1 e (List.mem_of_mem_take he)
   ·exact hE2 e he
  ·rw [(List.mem_replicate.1 he).2]; exact hzl
 ·intro e he d hd
  rcases List.mem_append.1 he with he | he
  ·rcases List.mem_append.1 he with he | he
   ·obtain ⟨i, hi⟩ := List.mem_iff_getElem?.1 he
    obtain ⟨j, hj⟩ := List.mem_iff_getElem?.1 hd
    have hin : i < n := by
     have := (List.getElem?_eq_some_iff.1 hi).1
     rw [List.length_take] at this; omega
    rw [List.getElem?_take_of_lt hin] at hi
    exact (hold i j e d hin hi hj).1
   ·exact c2 e he d hd
  ·rw [(List.mem_replicate.1 he).2] at hd
   exact (cellB_iff zd).1 hzc d hd
 ·rw [r3]
  simp only [List.length_append, List.length_take, List.length_replicate]
  exact Nat.mul_le_mul_right _ (by omega)
 ·intro i j e dd hi hj
  have hl1 : (full.take n).length = n := by rw [List.length_take, Nat.min_eq_left (by omega)]
  rw [List.append_assoc] at hi
  rcases Nat.lt_or_ge i n with h | h
  ·rw [List.getElem?_append_left (by omega), List.getElem?_take_of_lt h] at hi
   have hjE : j < E := by rw [← hE1 e (List.mem_of_getElem? hi)]; exact (List.getElem?_eq_some_iff.1 hj).1
   have hlt := lt_mul h hjE
   refine ⟨_, ?_, (hold i j e dd h hi hj).2⟩
   rw [r4 _ hlt, arr_get _ _ _ hlt]
  ·rw [List.getElem?_append_right (by omega), hl1] at hi
   rcases Nat.lt_or_ge (i - n) zs.length with h' | h'
   ·rw [List.getElem?_append_left h'] at hi
    have hjE : j < E := by rw [← hE2 e (List.mem_of_getElem? hi)]; exact (List.getElem?_eq_some_iff.1 hj).1
    have hlt := lt_mul h' hjE
    refine ⟨_, ?_, g1 _ _ _ _ hi hj⟩
    have e1 : i * E + j = n * E + ((i - n) * E + j) := by rw [← Nat.add_assoc, ← Nat.add_mul]; congr 2; omega
    rw [e1, r5 _ hlt, arr_get _ _ _ hlt]
   ·rw [List.getElem?_append_right h'] at hi
    obtain ⟨hi1, hi2⟩ : e = zd ∧ i - n - zs.length < nc - (n + zs.length) := by
     have hm := List.mem_of_getElem? hi
     have hlt := (List.getElem?_eq_some_iff.1 hi).1
     simp only [List.length_replicate] at hlt
     exact ⟨(List.mem_replicate.1 hm).2, hlt⟩
    subst hi1
    obtain ⟨v, q1, q2⟩ := r6 G w R.nil (i - n - zs.length) j dd hi2 hj
    refine ⟨v, ?_, q2⟩
    rw [show n + zs.length + (i - n - zs.length) = i from by omega] at q1
    exact q1

theorem step_appendQ {o : Oper} {x y : Operand} {T T2 : TypeId} (ho : o.op = .call { callee := .builtin .append, args := #[x, y], argTypes := #[T, T2] }) {d : Nat} (hd : o.dst = some d) (hn : d < X.n)
  {E B : Nat} (he : elemZ X.P T = some (E, B)) (hB : 0 < B ∧ B ≤ 1024) (h2 : (elemT X.P T2).isSome = true) {q : Option Nat} {n cap : Nat} {full zs : List (List DV)} {zd : List DV} (hx : evl X (get s) x = some (.v (rawQ q n cap))) (hy : (evl X (get s) y).bind slOf = some zs)
  (hrow : ∀ b, q = some b → get s (.heap b) = some (.row (arrRow full))) (hq0 : q = none → n = 0) (hfl : full.length = cap) (hnc : n ≤ cap) (hnf : cap < n + zs.length) (hbig : n + zs.length ≤ BIG) (hE1 : ∀ e ∈ full, e.length = E) (hE2 : ∀ e ∈ zs, e.length = E) (hz : zeroE X.P T = some zd) (hzc : cellB zd = true)
  {G : Gh} {a : Act} {w : World} (R : Rel X G s a w) (next : Act → World → Prop) (Q : Exit → Act → World → Prop)
  (hK : ∀ b' cap', n + zs.length ≤ cap' → newB b' s → X.w0.heap.size ≤ b' → zd.length = E → ∀ G' a' w', Rel X G' (upd (upd s (.slot d) (.one (.v (rawS b' (n + zs.length) cap')))) (.heap b') (.row (arrRow (full.take n ++ zs ++ List.replicate (cap' - (n + zs.length)) zd)))) a' w' → next a' w') :
  o.wpIn X.F 0 X.P a w next Q :=
 step_appendQv ho hd hn he hB h2 hy hrow hq0 hfl hnc hnf hbig hE1 hE2 hz hzc R (prim_of (evl_sound R hx)).1 next Q hK

/-- append to nil, as a raw slice with the whole of its array -/
theorem vcK_append0 {esc : List Nat} {ops : Array Oper} {l : List Oper} {K : St → Prop} {d : Tmp} {x y : Operand} {T T2 ty : TypeId} {pos : String} {af : Array Edge} {q : Option (Prop × St)}
  {E B : Nat} {zs : List (List DV)} {zd : List DV} (hx : evl X (get s) x = some (.own 0 [])) (hy : (evl X (get s) y).bind slOf = some zs)
  (he : elemZ X.P T = some (E, B)) (hz : zeroE X.P T = some zd) (hzc : cellB zd = true) (hB : 0 < B ∧ B ≤ 1024) (h2 : (elemT X.P T2).isSome = true) (hn : d < X.n)
  (hpos : 0 < zs.length) (hbig : zs.length ≤ BIG) (hE2 : ∀ e ∈ zs, e.length = E) (hq : q = none)
  (h : ∀ b cap, zs.length ≤ cap → newB b s → X.w0.heap.size ≤ b → vc X esc ops l (upd (upd s (.slot d) (.one (.v (rawS b zs.length cap)))) (.heap b) (.row (arrRow (zs ++ List.replicate (cap - zs.length) zd)))) K) :
  vcK X esc ops l K ⟨some d, .call { callee := .builtin .append, args := #[x, y], argTypes := #[T, T2] }, ty, pos, af, none⟩ s q := by
 subst hq
 intro m hm G a w R0
 obtain ⟨p1, p3⟩ := drop_cons hm
 simp only [List.length_cons, List.range'_succ, wpOpsIn, p1, Region.wanted, if_true]
 have hv : a.eval x = .slice none 0 0 := by
  obtain ⟨h1, -⟩ := (evl_sound R0 hx : RSV G w (.own 0 []) _)
  rw [R0.nil] at h1
  exact h1
 refine step_appendQv (o := ⟨some d, .call { callee := .builtin .append, args := #[x, y], argTypes := #[T, T2] }, ty, pos, af, none⟩) (q := none) (n := 0) (cap := 0) (full := []) rfl rfl hn he hB h2 hy (fun b hb => by cases hb) (fun _ => rfl) rfl (Nat.le_refl 0) (by omega) (by omega) (fun e h => by cases h) hE2 hz hzc R0 hv _ _ fun b' cap' hc hb hw hzl G' a' w' R' => ?_
 simp only [Nat.zero_add, List.take_nil, List.nil_append] at R' hc
 exact vc_sound (h b' cap' hc hb hw) (m + 1) p3 G' a' w' R'

theorem newB_ne {b : Nat} : ∀ {s : St}, newB b s → ∀ h v, get s (.heap h) = some v → h ≠ b
 | [], _, h, v, hg => by cases hg
 | (.heap b', u) :: r, hn, h, v, hg => by
  simp only [get] at hg
  split at hg
  ·rename_i e
   cases e
   exact hn.1
  ·exact newB_ne hn.2 h v hg
 | (.slot n, u) :: r, hn, h, v, hg => by
  simp only [get] at hg
  rw [if_neg (by intro e; cases e)] at hg
  exact newB_ne (s := r) hn h v hg
 | (.loc n, u) :: r, hn, h, v, hg => by
  simp only [get] at hg
  rw [if_neg (by intro e; cases e)] at hg
  exact newB_ne (s := r) hn h v hg
 | (.tok n, u) :: r, hn, h, v, hg => by
  simp only [get] at hg
  rw [if_neg (by intro e; cases e)] at hg
  exact newB_ne (s := r) hn h v hg

/-- APPEND TO A SLICE THAT IS RAW OR NIL -/
theorem free_append {o : Oper} {x y : Operand} {T T2 : TypeId} (ho : o.op = .call { callee := .builtin .append, args := #[x, y], argTypes := #[T, T2] }) {d : Nat} (hd : o.dst = some d) (hn : d < X.n)
  {E B : Nat} (he : elemZ X.P T = some (E, B)) (hB : 0 < B ∧ B ≤ 1024) (h2 : (elemT X.P T2).isSome = true) {q : Option Nat} {n cap : Nat} {full zs : List (List DV)} {zd : List DV} (hx : evl X (get s) x = some (.v (rawQ q n cap))) (hy : (evl X (get s) y).bind slOf = some zs)
  (hrow : ∀ b, q = some b → get s (.heap b) = some (.row (arrRow full))) (hq0 : q = none → n = 0 ∧ cap = 0) (hfl : full.length = cap) (hnc : n ≤ cap) (hpos : 0 < zs.length) (hbig : n + zs.length ≤ BIG) (hE1 : ∀ e ∈ full, e.length = E) (hE2 : ∀ e ∈ zs, e.length = E) (hz : zeroE X.P T = some zd) (hzc : cellB zd = true) :
  FreeStep X o s d q (AppP X q E n full zs) := by
 intro s' hs G a w R next Q hK
 have hx' := evl_mono hs hx
 have hy' := bind_mono hs hy
 have hrow' : ∀ b, q = some b → get s' (.heap b) = some (.row (arrRow full)) := fun b hb => hs _ _ (hrow b hb)
 rcases Nat.lt_or_ge cap (n + zs.length) with h | h
 ·refine step_appendQ ho hd hn he hB h2 hx' hy' hrow' (fun hq => (hq0 hq).1) hfl hnc h hbig hE1 hE2 hz hzc R next Q fun b' cap' hc hb hw hzl G' a' w' R' => ?_
  have hl : (full.take n).length = n := by rw [List.length_take]; omega
  have hnb : newB b' s' := hb
  refine hK _ b' _ ⟨cap', full.take n ++ zs ++ List.replicate (cap' - (n + zs.length)) zd, rfl, rfl, ?_, ?_, hc, ?_, .inr ⟨hw, fun b'' hq => (newB_ne hnb b'' _ (hrow' b'' hq)).symm⟩⟩ ?_ G' a' w' ?_
  ·simp only [List.length_append, List.length_replicate, hl]; omega
  ·intro e he
   rcases List.mem_append.1 he with he | he
   ·rcases List.mem_append.1 he with he | he
    ·exact hE1 e (List.mem_of_mem_take he)
    ·exact hE2 e he
   ·rw [(List.mem_replicate.1 he).2]; exact hzl
  ·rw [List.take_append_of_le_length (by rw [List.length_append, hl]; exact Nat.le_refl _), List.take_of_length_le (by rw [List.length_append, hl]; exact Nat.le_refl _)]
  ·intro h1 _ hg e
   subst e
   cases hg' : get s' (.heap b') with
   | none => exact hg hg'
   | some v => exact newB_ne hnb b' v hg' rfl
  ·refine R'.weaken fun l v hl => ?_
   unfold effO at hl
   rw [get_upd] at hl ⊢
   by_cases h1 : Loc.heap b' = l
   ·rw [if_pos h1] at hl ⊢; exact hl
   ·rw [if_neg h1] at hl ⊢
    rw [get_upd] at hl ⊢
    by_cases h3 : Loc.slot d = l
    ·rw [if_pos h3] at hl ⊢; exact hl
    ·rw [if_neg h3] at hl ⊢
     cases q with
     | none => exact hl
     | some b0 =>
      simp only [delO] at hl
      rw [get_del] at hl
      split at hl
      ·cases hl
      ·exact hl
 ·cases q with
  | none => have := (hq0 rfl); omega
  | some b =>
   have hstep := step_appendF (s := s') ho hd hn he h2 (b := b) hx' hy' (hrow' b rfl) hfl h hE1 hE2
   refine hstep G a w R next Q fun G' a' w' R' => ?_
   have hl : (full.take n).length = n := by rw [List.length_take]; omega
   refine hK _ b _ ⟨cap, full.take n ++ zs ++ full.drop (n + zs.length), rfl, rfl, ?_, ?_, h, ?_, .inl rfl⟩ (fun h' hne hg e => hne (by rw [e])) G' a' w' (R'.congr fun l => ?_)
   ·simp only [List.length_append, List.length_drop, hl]; omega
   ·intro e he
    rcases List.mem_append.1 he with he | he
    ·rcases List.mem_append.1 he with he | he
     ·exact hE1 e (List.mem_of_mem_take he)
     ·exact hE2 e he
    ·exact hE1 e (List.mem_of_mem_drop he)
   ·rw [List.take_append_of_le_length (by rw [List.length_append, hl]; exact Nat.le_refl _), List.take_of_length_le (by rw [List.length_append, hl]; exact Nat.le_refl _)]
   ·unfold effO delO
    rw [get_upd, get_upd, get_upd, get_upd, get_del]
    by_cases h1 : Loc.slot d = l
    ·subst h1
     rw [if_neg (by intro e; cases e), if_pos rfl, if_pos rfl]
    ·by_cases h3 : Loc.heap b = l
     ·rw [if_pos h3, if_neg h1, if_pos h3]
     ·rw [if_neg h3, if_neg h1, if_neg h1, if_neg h3, if_neg h3]
theorem vcK_free {esc : List Nat} {ops : Array Oper} {l : List Oper} {K : St → Prop} {o : Oper} {q : Option (Prop × St)} {d : Nat} {a0 : Option Nat} {P : SV → Nat → List SV → Prop} (hg : o.guard = none) (hf : FreeStep X o s d a0 P) (hq : q = none)
  (h : ∀ y b cs, P y b cs → newA b a0 s → vc X esc ops l (effO d a0 y b cs s) K) : vcK X esc ops l K o s q := by
 subst hq
 intro m hm G a w R0
 obtain ⟨p1, p3⟩ := drop_cons hm
 have hw : ∀ y, Region.wanted o y = true := fun y => by simp [Region.wanted, hg]
 simp only [List.length_cons, List.range'_succ, wpOpsIn, p1, hw, if_true]
 exact hf s (fun _ _ h => h) G a w R0 _ _ fun y b cs hp hn G' a' w' R' => vc_sound (h y b cs hp hn) (m + 1) p3 G' a' w' R'
/-! a state that ends in objects -/
theorem subLe_hs_slot (σ : Nat → Nat) (n : Nat) (v : LV) (s : St) (ψ : Objs) : subLe σ ((.slot n, v) :: s) (heapSt ψ) = subLe σ s (heapSt ψ) := by
 induction ψ with
 | nil => rfl
 | cons p r ih => obtain ⟨b, cs⟩ := p; simp only [heapSt, subLe, ih, factLe, get, reduceCtorEq, if_false]
theorem subLe_hs_loc (σ : Nat → Nat) (n : Nat) (v : LV) (s : St) (ψ : Objs) : subLe σ ((.loc n, v) :: s) (heapSt ψ) = subLe σ s (heapSt ψ) := by
 induction ψ with
 | nil => rfl
 | cons p r ih => obtain ⟨b, cs⟩ := p; simp only [heapSt, subLe, ih, factLe, get, reduceCtorEq, if_false]
theorem subLe_hs_tok (σ : Nat → Nat) (n : Nat) (v : LV) (s : St) (ψ : Objs) : subLe σ ((.tok n, v) :: s) (heapSt ψ) = subLe σ s (heapSt ψ) := by
 induction ψ with
 | nil => rfl
 | cons p r ih => obtain ⟨b, cs⟩ := p; simp only [heapSt, subLe, ih, factLe, get, reduceCtorEq, if_false]
theorem rowLe_dv (σ : Nat → Nat) (l : List DV) : rowLe σ (l.map SV.v) (l.map SV.v) := by
 induction l with
 | nil => simp [rowLe]
 | cons x r ih => simp [rowLe, svLe, ih]
attribute [go_sem] subLe_hs_slot subLe_hs_loc subLe_hs_tok

/-- a raw slice, or nil, with its block -/
structure RS where
 q : Option Nat
 n : Nat
 cap : Nat
 full : List (List DV)
abbrev RS.v (x : RS) : DV := rawQ x.q x.n x.cap
/-- it holds these elements -/
structure RS.is (x : RS) (E : Nat) (ys : List (List DV)) : Prop where
 nil : x.q = none → x.n = 0 ∧ x.cap = 0
 len : x.full.length = x.cap
 wid : ∀ e ∈ x.full, e.length = E
 le : x.n ≤ x.cap
 els : x.full.take x.n = ys
theorem RS.is.n_eq {x : RS} {E : Nat} {ys : List (List DV)} (h : x.is E ys) : x.n = ys.length := by
 rw [← h.els, List.length_take, h.len, Nat.min_eq_left h.le]
theorem RS.is.app {x : RS} {E : Nat} {ys zs : List (List DV)} (h : x.is E ys) {y : SV} {b : Nat} {cs : List SV} (ha : AppP X x.q E x.n x.full zs y b cs) : ∃ x' : RS, x'.q = some b ∧ y = .v x'.v ∧ cs = arrRow x'.full ∧ x'.is E (ys ++ zs) := by
 obtain ⟨cap, full, rfl, rfl, h3, h4, h5, h6, -⟩ := ha
 refine ⟨⟨some b, x.n + zs.length, cap, full⟩, rfl, rfl, rfl, ⟨(fun h => by cases h), h3, h4, h5, ?_⟩⟩
 show full.take (x.n + zs.length) = _
 rw [h6, h.els]
theorem anyLoc_arrZ (d : Nat) (ys : List (List DV)) : anyLoc d (arrRow ys) = false := anyLoc_vs d _
theorem anyTok_arrZ (d : Nat) (ys : List (List DV)) : anyTok d (arrRow ys) = false := anyTok_vs d _
theorem rowLe_arrZ (σ : Nat → Nat) (ys : List (List DV)) : rowLe σ (arrRow ys) (arrRow ys) := rowLe_dv σ _
theorem exRow_arrZ (k b : Nat) (ys : List (List DV)) : exRow k b (arrRow ys) = arrRow ys := by
 unfold arrRow
 generalize ys.flatten = l
 induction l with
 | nil => rfl
 | cons x r ih => simp only [List.map_cons, exRow, ih]; rfl
attribute [go_sem] anyLoc_arrZ anyTok_arrZ exRow_arrZ
theorem arrRow_rd {E : Nat} {full : List (List DV)} (hE : ∀ e ∈ full, e.length = E) {i : Nat} {e : List DV} (h : full[i]? = some e) : toDs (((arrRow full).drop (i * E)).take E) = some e := by
 have he := hE e (List.mem_of_getElem? h)
 have h1 : ((arrRow full).drop (i * E)).take E = e.map SV.v := by
  apply List.ext_getElem?
  intro j
  by_cases hj : j < E
  ·rw [List.getElem?_take_of_lt hj, List.getElem?_drop]
   have hje : e[j]? = some (e[j]'(by omega)) := List.getElem?_eq_getElem (by omega)
   simp only [arrRow, List.getElem?_map, flatten_at hE h hje, hje]
  ·rw [List.getElem?_eq_none (by simp; omega), List.getElem?_eq_none (by simp; omega)]
 rw [h1]
 exact toDs_map e
theorem RS.is.at {x : RS} {E : Nat} {ys : List (List DV)} (h : x.is E ys) {i : Nat} {e : List DV} (he : ys[i]? = some e) : x.full[i]? = some e := by
 have hi := (List.getElem?_eq_some_iff.1 he).1
 have hn := h.n_eq
 rw [← h.els, List.getElem?_take_of_lt (by omega)] at he
 exact he
theorem RS.is.there {x : RS} {E : Nat} {ys : List (List DV)} (h : x.is E ys) (hy : ys ≠ []) : ∃ b, x.q = some b := by
 cases hq : x.q with
 | some b => exact ⟨b, rfl⟩
 | none =>
  have h1 := (h.nil hq).1
  rw [h.n_eq] at h1
  exact absurd (List.length_eq_zero_iff.1 h1) hy
/-- an element is written -/
theorem RS.is.set {x : RS} {E : Nat} {ys : List (List DV)} (h : x.is E ys) {i : Nat} {e : List DV} (hi : i < ys.length) (he : e.length = E) : RS.is ⟨x.q, x.n, x.cap, x.full.set i e⟩ E (ys.set i e) := by
 have hn := h.n_eq
 refine ⟨h.nil, by simpa using h.len, fun z hz => ?_, h.le, ?_⟩
 ·rcases List.mem_or_eq_of_mem_set hz with hz | rfl
  ·exact h.wid z hz
  ·exact he
 ·show (x.full.set i e).take x.n = _
  rw [List.take_set, h.els]
end
end
section
variable {gl : Globs}

theorem numeral_ok (n : Nat) : Con1 Tryz.prog gl 107 [dint n] [] (numTm n).dv [] := by
 refine t_in Tryz.func107 ?_
 intro X hP hgl hf hfn hn hR hids hfit
 have hn1 : intOK .i64 n := hfit (dint n) (by simp)
 rw [intOK_i64] at hn1
 refine t_g0 ?_
 refine t_c1 trivial (ref02_n_ok 4 []) ?_
 refine t_a ?_
 refine W_sub [] (by simp [go_sem]) (by simp [go_sem, numTm] <;> omega) (by simp [go_sem]) (W_rounds (fun x : Nat => x ≤ n) (fun x : Nat => [(.slot 0, .one (.v (dint x))), (.loc 3, .row ((numTm (n - x)).cells.map .v)), (.slot 3, .one (.loc 3 0)), (.loc 2, .row ([.v (dint 0), .v (dint 0), .v (dint 0), .own 0 [], .own 0 []])), (.slot 2, .one (.loc 2 0))]) (fun x : Nat => x) n (Nat.le_refl n) ?_)
 intro x hx ih
 cases x with
 | zero =>
  refine t_rg0 ?_
  refine t_no ?_
  refine t_g0 ?_
  refine t_r ?_
  simp [go_sem, hP, hgl, hn] <;> (try omega)
 | succ x =>
  have hs : n - x = (n - (x + 1)) + 1 := by omega
  refine t_rg0 ?_
  refine t_yes ?_
  refine t_rg0 ?_
  refine t_rg0 ?_
  repeat (first | refine W_inBlock ?_ | refine W_skip ?_ | refine W_label ?_ | refine W_exit rfl ?_)
  refine W_sub [] (by simp [go_sem]) (by simp [go_sem, hs, numTm] <;> omega) (by simp [go_sem]) (ih x (by omega) (by omega))

theorem ref05_number_ok (n : Nat) (hn4 : n < 4096) : Con1 Tryz.prog gl 62 [dint n] [] (.tup [(numTm n).dv, dint 0]) [] := by
 refine t_in Tryz.func62 ?_
 intro X hP hgl hf hfn hn hR hids hfit
 have h1 : ¬ (n : Int) < 0 := by omega
 have h2 : ¬ (4096 : Int) ≤ n := by omega
 refine t_g (j2 @h1 @h2) ?_
 refine t_c1 trivial (numeral_ok n) ?_
 refine t_r ?_
 simp [go_sem, hP, hgl, hn] <;> (try omega)

theorem mk_num_ok (n : Nat) (hn4 : n < 4096) : Con1 Tryz.prog gl 28 [dint n] [] (numTm n).dv [] := by
 refine t_in Tryz.func28 ?_
 intro X hP hgl hf hfn hn hR hids hfit
 refine t_g0 ?_
 refine t_c1 trivial (ref05_number_ok n hn4) ?_
 refine t_g0 ?_
 refine t_r ?_
 simp [go_sem, hP, hgl, hn] <;> (try omega)
 all_goals exact t_f

theorem lam5_ok (t : Tm) : Con1 Tryz.prog gl 91 [t.dv] [] (Tm.mk 2 0 (Ty.mk 1 []) [t]).dv [] := by
 refine t_in Tryz.func91 ?_
 intro X hP hgl hf hfn hn hR hids hfit
 refine t_g0 ?_
 refine t_c2 @nat_v ref01_nat_ok (ref02_t_ok 2 (Ty.mk 1 []) [t]) ?_
 refine t_r ?_
 simp [go_sem, hP, hgl, hn] <;> (try omega)
 all_goals exact t_f
theorem rec5_ok (a b c : Tm) : Con1 Tryz.prog gl 92 [a.dv, b.dv, c.dv] [] (Tm.mk 6 0 (Ty.mk 1 []) [a, b, c]).dv [] := by
 refine t_in Tryz.func92 ?_
 intro X hP hgl hf hfn hn hR hids hfit
 refine t_g0 ?_
 refine t_c2 @nat_v ref01_nat_ok (ref02_t_ok 6 (Ty.mk 1 []) [a, b, c]) ?_
 refine t_r ?_
 simp [go_sem, hP, hgl, hn] <;> (try omega)
 all_goals exact t_f
def lamN (t : Tm) : Tm := Tm.mk 2 0 (Ty.mk 1 []) [t]
def recN (a b c : Tm) : Tm := Tm.mk 6 0 (Ty.mk 1 []) [a, b, c]
theorem lam5' (t : Tm) : Con1 Tryz.prog gl 91 [t.dv] [] (lamN t).dv [] := lam5_ok t
theorem rec5' (a b c : Tm) : Con1 Tryz.prog gl 92 [a.dv, b.dv, c.dv] [] (recN a b c).dv [] := rec5_ok a b c
theorem var5 (i : Int) : Con1 Tryz.prog gl 43 [dint i] [] (vT i).dv [] := ref02_var_ok i
theorem n5 (k : Int) (l : List Tm) : Con1 Tryz.prog gl 44 [dint k, .sl (l.map Tm.cells)] [] (nT k l).dv [] := ref02_n_ok k l

theorem pred_eq : lamN (recN (nT 4 []) (lamN (lamN (vT 1))) (vT 0)) = predT := rfl
theorem plus_eq : lamN (lamN (recN (vT 1) (lamN (lamN (nT 5 [vT 0]))) (vT 0))) = plusT := rfl
theorem sub_eq : lamN (lamN (recN (vT 1) (lamN (lamN (nT 3 [predT, vT 0]))) (vT 0))) = subT := rfl
theorem ref05_pred_ok : Con1 Tryz.prog gl 93 [] [] predT.dv [] := by
 refine t_in Tryz.func93 ?_
 intro X hP hgl hf hfn hn hR hids hfit
 refine t_g0 ?_
 refine t_c7 trivial (n5 4 []) (var5 1) (lam5' (vT 1)) (lam5' (lamN (vT 1))) (var5 0) (rec5' (nT 4 []) (lamN (lamN (vT 1))) (vT 0)) (lam5' (recN (nT 4 []) (lamN (lamN (vT 1))) (vT 0))) ?_
 refine t_r ?_
 simp [go_sem, hP, hgl, hn, pred_eq] <;> (try omega)
theorem ref05_plus_ok : Con1 Tryz.prog gl 48 [] [] plusT.dv [] := by
 refine t_in Tryz.func48 ?_
 intro X hP hgl hf hfn hn hR hids hfit
 refine t_g0 ?_
 refine t_c9 trivial (var5 1) (var5 0) (n5 5 [vT 0]) (lam5' (nT 5 [vT 0])) (lam5' (lamN (nT 5 [vT 0]))) (var5 0) (rec5' (vT 1) (lamN (lamN (nT 5 [vT 0]))) (vT 0)) (lam5' (recN (vT 1) (lamN (lamN (nT 5 [vT 0]))) (vT 0))) (lam5' (lamN (recN (vT 1) (lamN (lamN (nT 5 [vT 0]))) (vT 0)))) ?_
 refine t_r ?_
 simp [go_sem, hP, hgl, hn, plus_eq] <;> (try omega)
theorem ref05_sub_ok : Con1 Tryz.prog gl 49 [] [] subT.dv [] := by
 refine t_in Tryz.func49 ?_
 intro X hP hgl hf hfn hn hR hids hfit
 refine t_g0 ?_
 refine t_c10 trivial (var5 1) ref05_pred_ok (var5 0) (n5 3 [predT, vT 0]) (lam5' (nT 3 [predT, vT 0])) (lam5' (lamN (nT 3 [predT, vT 0]))) (var5 0) (rec5' (vT 1) (lamN (lamN (nT 3 [predT, vT 0]))) (vT 0)) (lam5' (recN (vT 1) (lamN (lamN (nT 3 [predT, vT 0]))) (vT 0))) (lam5' (lamN (recN (vT 1) (lamN (lamN (nT 3 [predT, vT 0]))) (vT 0)))) ?_
 refine t_r ?_
 simp [go_sem, hP, hgl, hn, sub_eq] <;> (try omega)
end
section
variable {gl : Globs}

theorem mk_type_ok (n : Nat) (b : Nat) (l : List Int) (p : Nat) (hl : l.length ≤ 500) (hp : p ≤ l.length) (hn3 : n ≤ 3) :
  Con1 Tryz.prog gl 11 [ptr b, dint n] [(b, deck l p)] (typeD l n p).1.dv [(b, deck l (typeD l n p).2)] := by
 induction n generalizing p with
 | zero =>
  refine t_in Tryz.func11 ?_
  intro X hP hgl hf hfn hn hR hids hfit
  rw [typeD] at hR
  have hkb := nextD_bd (l := l) (p := p) (n := 7) (by decide)
  refine t_g0 ?_
  refine t_c1 trivial (next_ok b l p 7 (by decide) (by omega)) ?_
  generalize hd : nextD l p 7 = d at *
  obtain ⟨k, q⟩ := d
  simp only at hkb hR
  by_cases h3 : k = 3
  ·refine t_g @h3 ?_
   refine t_c1 trivial ref01_list_ok ?_
   refine t_ro [(b, deck l q)] @h3 ?_
   try simp [h3]
   try all_goals exact t_f
  by_cases h4 : k = 4
  ·refine t_g @h4 ?_
   refine t_c1 trivial ref01_unit_ok ?_
   refine t_ro [(b, deck l q)] @h4 ?_
   try simp [h4]
   try all_goals exact t_f
  by_cases h0 : k = 0
  ·refine t_g @h0 ?_
   refine t_c1 trivial ref01_nat_ok ?_
   refine t_ro [(b, deck l q)] @h0 ?_
   try simp [h0]
   try all_goals exact t_f
  by_cases h1 : k = 1
  ·refine t_g @h1 ?_
   refine t_c1 trivial ref01_nat_ok ?_
   refine t_ro [(b, deck l q)] @h1 ?_
   try simp [h1]
   try all_goals exact t_f
  by_cases h2 : k = 2
  ·refine t_g @h2 ?_
   refine t_c1 trivial ref01_nat_ok ?_
   refine t_ro [(b, deck l q)] @h2 ?_
   try simp [h2]
   try all_goals exact t_f
  by_cases h5 : k = 5
  ·refine t_g @h5 ?_
   refine t_c1 trivial ref01_nat_ok ?_
   refine t_ro [(b, deck l q)] @h5 ?_
   try simp [h5]
   try all_goals exact t_f
  have h6 : k = 6 := by omega
  refine t_g @h6 ?_
  refine t_c1 trivial ref01_nat_ok ?_
  refine t_ro [(b, deck l q)] @h6 ?_
  try simp [h6]
  try all_goals exact t_f
 | succ n ih =>
  refine t_in Tryz.func11 ?_
  intro X hP hgl hf hfn hn hR hids hfit
  rw [typeD] at hR
  have hkb := nextD_bd (l := l) (p := p) (n := 7) (by decide)
  have hq := nextD_le (n := 7) hp
  refine t_g0 ?_
  refine t_c1 trivial (next_ok b l p 7 (by decide) (by omega)) ?_
  generalize hd : nextD l p 7 = d at *
  obtain ⟨k, q⟩ := d
  simp only at hkb hR hq
  have hpos : (0 : Int) < ((n + 1 : Nat) : Int) := by omega
  have hsub : ((n + 1 : Nat) : Int) - 1 = (n : Int) := by omega
  obtain ⟨a1, -⟩ := typeD_facts l n q hq
  by_cases h3 : k = 3
  ·refine t_g @h3 ?_
   refine t_c1 trivial ref01_list_ok ?_
   refine t_ro [(b, deck l q)] @h3 ?_
   try simp [h3]
   try all_goals exact t_f
  by_cases h4 : k = 4
  ·refine t_g @h4 ?_
   refine t_c1 trivial ref01_unit_ok ?_
   refine t_ro [(b, deck l q)] @h4 ?_
   try simp [h4]
   try all_goals exact t_f
  by_cases h0 : k = 0
  ·refine t_g @h0 ?_
   refine t_c1 trivial ref01_nat_ok ?_
   refine t_ro [(b, deck l q)] @h0 ?_
   try simp [h0]
   try all_goals exact t_f
  by_cases h1 : k = 1
  ·refine t_g @h1 ?_
   refine t_c1 trivial ref01_nat_ok ?_
   refine t_ro [(b, deck l q)] @h1 ?_
   try simp [h1]
   try all_goals exact t_f
  by_cases h2 : k = 2
  ·refine t_g @h2 ?_
   refine t_c1 trivial ref01_nat_ok ?_
   refine t_ro [(b, deck l q)] @h2 ?_
   try simp [h2]
   try all_goals exact t_f
  by_cases h5 : k = 5
  ·refine t_g (j2 @h5 @hpos) ?_
   refine t_c3 @hsub (ih q hq (by omega)) (ih _ a1 (by omega)) (ref01_two_ok (typeD l n q).1 (typeD l n (typeD l n q).2).1) ?_
   refine t_ro [(b, deck l (typeD l n (typeD l n q).2).2)] @h5 ?_
   try simp [h5]
   try all_goals exact t_f
  have h6 : k = 6 := by omega
  refine t_g (j2 @h6 @hpos) ?_
  refine t_c3 @hsub (ih q hq (by omega)) (ih _ a1 (by omega)) (ref01_fun_ok (typeD l n q).1 (typeD l n (typeD l n q).2).1) ?_
  refine t_ro [(b, deck l (typeD l n (typeD l n q).2).2)] @h6 ?_
  try simp [h6]
  try all_goals exact t_f

theorem mk_context_ok (b : Nat) (l : List Int) (p : Nat) (hl : l.length ≤ 500) (hp : p ≤ l.length) :
  Con1 Tryz.prog gl 10 [ptr b] [(b, deck l p)] (.sl ((ctxD l p).1.map Ty.cells)) [(b, deck l (ctxD l p).2)] := by
 refine t_in Tryz.func10 ?_
 intro X hP hgl hf hfn hn hR hids hfit
 have hq := nextD_le (n := 4) hp
 have hkb := nextD_bd (l := l) (p := p) (n := 4) (by decide)
 obtain ⟨k0, hk0⟩ : ∃ k0 : Nat, (nextD l p 4).1 = k0 := ⟨(nextD l p 4).1.toNat, by omega⟩
 unfold ctxD at hR
 rw [hk0, Int.toNat_natCast] at hR
 rw [hk0] at hkb
 refine t_g0 ?_
 refine t_c1 trivial (next_ok b l p 4 (by decide) (by omega)) ?_
 refine t_a ?_
 refine t_sub [(1003, 0)] @hk0 (W_rounds (fun x : List Ty × Nat × Nat => x.2.1 ≤ l.length ∧ (x.1 ++ (typesD l x.2.2 x.2.1).1, (typesD l x.2.2 x.2.1).2) = typesD l k0 (nextD l p 4).2 ∧ x.1.length + x.2.2 ≤ 3) (fun x : List Ty × Nat × Nat => [(.slot 4, .one (.v (dint x.2.2))), (.heap  b, .row ([.v (.sl (ints l)), .v (dint x.2.1)])), (.slot 3, .one (.own 1003 (x.1.map Ty.cells))), (.tok 1003, .tk 2 x.1.length), (.slot 0, .one (.v (ptr b))), (.slot 2, .one (.own 0 []))]) (fun x : List Ty × Nat × Nat => x.2.2) (([] : List Ty), (nextD l p 4).2, k0) (⟨hq, by simp, by simp; omega⟩) ?_)
 rintro ⟨acc, q, r⟩ ⟨i1, i2, i3⟩ ihr
 simp only at i1 i2 i3
 cases r with
 | zero =>
  simp only [typesD, List.append_nil] at i2
  refine t_rg0 ?_
  refine t_a ?_
  refine W_cond rfl ?_ ?_
  ·intro h; simp at h
  intro _
  refine t_g0 ?_
  refine t_ro [(b, deck l q)] (i2).symm ?_
  try simp [← i2]
  try all_goals exact t_f
 | succ r =>
  obtain ⟨a1, -⟩ := typeD_facts l 1 q i1
  refine t_rg0 ?_
  refine t_yes ?_
  refine t_g0 ?_
  refine t_c1 (Ty.cells_eq (typeD l 1 q).1) (mk_type_ok 1 b l q hl i1 (by decide)) ?_
  refine t_gt (wr [(1003, 15)]) (Ty.cells_eq (typeD l 1 q).1) trivial (ihr (acc ++ [(typeD l 1 q).1], (typeD l 1 q).2, r) ⟨a1, by rw [← i2]; simp [typesD], by simp; omega⟩ (by simp))

def varsP (g : List Ty) (t : Ty) (n : Nat) : List Nat := (List.range n).filter fun i => (varTy g i).same t
theorem varsP_succ (g : List Ty) (t : Ty) (n : Nat) : varsP g t (n + 1) = if (varTy g n).same t = true then varsP g t n ++ [n] else varsP g t n := by
 unfold varsP
 rw [List.range_succ, List.filter_append]
 split <;> simp_all
theorem varsP_le (g : List Ty) (t : Ty) (n : Nat) : (varsP g t n).length ≤ n := by
 have := List.length_filter_le (fun i => (varTy g i).same t) (List.range n)
 simpa [varsP] using this
def natI (l : List Nat) : List Int := l.map Int.ofNat
theorem natI_len (l : List Nat) : (natI l).length = l.length := by simp [natI]
theorem natI_snoc (l : List Nat) (n : Nat) : natI (l ++ [n]) = natI l ++ [(n : Int)] := by simp [natI]

theorem mk_vars_ok (g : List Ty) (t : Ty) (hlg : g.length ≤ 1000000) :
  Con1 Tryz.prog gl 42 [.sl (g.map Ty.cells), t.dv] [] (.sl (ints (natI (varsN g t)))) [] := by
 refine t_in Tryz.func42 ?_
 intro X hP hgl hf hfn hn hR hids hfit
 refine t_g0 ?_
 refine t_a ?_
 refine W_sub [(1005, 0)] (by simp [go_sem]) (by simp [go_sem, natI, varsP, ints_nil] <;> omega) (by simp [go_sem]) (W_upto (g.length) (fun i => True) (fun i => [(.slot 9, .one (.v (dint i))), (.slot 8, .one (.v (dint g.length))), (.slot 5, .one (.own 1005 (ints (natI (varsP g t i))))), (.tok 1005, .tk 1 (varsP g t i).length), (.slot 0, .one (.v (.sl (g.map Ty.cells)))), (.loc 3, .row ([.v (dint t.kind), .v (.sl (t.args.map Ty.cells))])), (.slot 3, .one (.loc 3 0)), (.slot 4, .one (.own 0 []))]) (trivial) ?_ ?_)
 ·intro i hi _ hnext
  have hli := varsP_le g t i
  have hvt := (varTy_mem hi).2
  have hix : (g.length : Int) - 1 - i = ((g.length - 1 - i : Nat) : Int) := by omega
  refine t_rg0 ?_
  refine t_yes ?_
  refine t_g0 ?_
  refine t_c1 (j2 @hix @hvt) (ref01_same_ok (varTy g i) t) ?_
  have hsu := varsP_succ g t i
  by_cases hs : (varTy g i).same t = true
  ·rw [if_pos hs] at hsu
   rw [hsu] at hnext
   refine t_gt (wr [(1005, 25)]) (j2 @natI_len (j2 @natI_snoc (j2 @ints_cons @ints_nil))) (j2 @hs @natI_len) (hnext trivial)
  ·rw [if_neg hs] at hsu
   rw [hsu] at hnext
   refine t_gt (wr []) trivial @hs (hnext trivial)
 ·intro _
  refine t_rg0 ?_
  refine t_no ?_
  refine t_g0 ?_
  refine t_r ?_
  simp [go_sem, hP, hgl, hn, varsN, varsP] <;> (try omega)

theorem mk_longer_ok (g h : List Ty) (hlg : g.length + h.length ≤ 1000000) :
  Con1 Tryz.prog gl 46 [.sl (g.map Ty.cells), .sl (h.map Ty.cells)] [] (.sl ((g ++ h).map Ty.cells)) [] := by
 refine t_in Tryz.func46 ?_
 intro X hP hgl hf hfn hn hR hids hfit
 have hl1 : g.length ≤ 1000000 := by omega
 refine t_g0 ?_
 refine t_r ?_
 simp [go_sem, hP, hgl, hn] <;> (try omega)
end
section
variable {gl : Globs}

theorem pickD_none {l : List Int} {t : Ty} {g : List Ty} {p q : Nat} (h : pickD l t g p = (none, q)) : ((varsN g t).length = 0 ∧ q = p) ∨ ((varsN g t).length ≠ 0 ∧ (nextD l p 3).1 = 0 ∧ q = (nextD l p 3).2) := by
 unfold pickD at h
 split at h
 ·rename_i h0; cases h; exact .inl ⟨h0, rfl⟩
 ·rename_i h0
  split at h
  ·rename_i h1; cases h; exact .inr ⟨h0, h1, rfl⟩
  ·cases h
theorem pickD_some' {l : List Int} {t : Ty} {g : List Ty} {p q : Nat} {x : Tm} (h : pickD l t g p = (some x, q)) : (varsN g t).length ≠ 0 ∧ (nextD l p 3).1 ≠ 0 ∧ ∃ k i : Nat, (nextD l (nextD l p 3).2 (varsN g t).length).1 = k ∧ (varsN g t)[k]? = some i ∧ x = vT i ∧ q = (nextD l (nextD l p 3).2 (varsN g t).length).2 := by
 unfold pickD at h
 split at h
 ·cases h
 ·rename_i h0
  split at h
  ·cases h
  ·rename_i h1
   have hb := nextD_bd (l := l) (p := (nextD l p 3).2) (n := (varsN g t).length) (by omega)
   cases h
   obtain ⟨k, hk⟩ : ∃ k : Nat, (nextD l (nextD l p 3).2 (varsN g t).length).1 = k := ⟨_, (Int.toNat_of_nonneg hb.1).symm⟩
   rw [hk] at hb
   have hlt : k < (varsN g t).length := by omega
   refine ⟨h0, h1, k, (varsN g t)[k], hk, List.getElem?_eq_getElem hlt, ?_, rfl⟩
   rw [hk, Int.toNat_natCast, List.getD_eq_getElem?_getD, List.getElem?_eq_getElem hlt, Option.getD_some]

set_option maxHeartbeats 1000000 in
theorem mk_term_leaf (b : Nat) (l : List Int) (hl : l.length ≤ 500) (t : Ty) : ∀ (z : Int) (g : List Ty) (p : Nat), z ≤ 0 → t.count ≤ z + 1000 → t.small → (∀ x ∈ g, x.small) → g.length + t.count ≤ 1000000 → p ≤ l.length →
  Con1 Tryz.prog gl 13 [ptr b, .sl (g.map Ty.cells), t.dv, dint z] [(b, deck l p)] (leafD l t g p).1.dv [(b, deck l (leafD l t g p).2)] := by
 induction t using Ty.ind with
 | h t ih =>
 intro z g p hz hz1 ht hg hgl1 hp
 refine t_in Tryz.func13 ?_
 intro X hP hgl hf hfn hn hR hids hfit
 rw [leafD_eq l t g p ht.ok] at hR
 have hvl : (varsN g t).length ≤ g.length := varsP_le g t g.length
 have hq3 := nextD_le (n := 3) hp
 have hb3 := nextD_bd (l := l) (p := p) (n := 3) (by decide)
 rcases hpk : pickD l t g p with ⟨_ | x, q⟩
 ·rw [hpk] at hR
  simp only at hR
  have hq : q ≤ l.length := by have := pickD_le (t := t) (g := g) hp; rw [hpk] at this; exact this
  apply W_cutX [(.slot 215, .one (.v (dbool (decide (t.kind = 1))))), (.slot 214, .one (.v (dint t.kind))), (.slot 0, .one (.v (ptr b))), (.slot 1, .one (.v (.sl (g.map Ty.cells)))), (.slot 3, .one (.v (dint z))), (.slot 6, .one (.loc 6 0)), (.loc 6, .row ([.v (dint t.kind), .v (.sl (t.args.map Ty.cells))])), (.slot 8, .one (.loc 8 0)), (.loc 8, .row ([.v (dint 0), .v (dint 0), .v (dint 0), .own 0 [], .own 0 []])), (.heap  b, .row ([.v (.sl (ints l)), .v (dint q)]))]
  ·intro hrest
   refine t_g0 ?_
   refine t_c1 trivial (mk_vars_ok g t (by omega)) ?_
   rcases pickD_none hpk with ⟨h0, rfl⟩ | ⟨h0, h1, rfl⟩
   ·refine t_g (j2 @natI_len @h0) ?_
    refine t_b ?_
    refine t_sub [] trivial hrest
   ·have hpos : 0 < (varsN g t).length := by omega
    refine t_g0 ?_
    refine t_c1 (j2 @natI_len (j2 @hpos @h1)) (next_ok b l p 3 (by decide) (by omega)) ?_
    refine t_g @h1 ?_
    refine t_b ?_
    refine t_sub [] trivial hrest
  ·have hz2 : ¬ 0 < z := by omega
   rcases small_kinds ht with ⟨h, e⟩ | ⟨h, e⟩ | ⟨h, e⟩ | ⟨h, e⟩ | ⟨h, e⟩
   ·rw [if_pos h] at hR
    have hb := nextD_bd (l := l) (p := q) (n := 3) (by decide)
    obtain ⟨k, hk⟩ : ∃ k : Nat, (nextD l q 3).1 = k := ⟨_, (Int.toNat_of_nonneg hb.1).symm⟩
    rw [hk] at hb
    refine t_g (j2 @hz2 @h) ?_
    refine t_c2 @hk (next_ok b l q 3 (by decide) (by omega)) (mk_num_ok k (by omega)) ?_
    repeat (first | refine W_seq ?_ | refine W_skip ?_ | refine W_block ?_ | refine W_inBlock ?_ | refine W_label ?_ | refine W_exit rfl ?_)
    first | refine W_retR hP hf hfn _ ([(b, deck l (nextD l q 3).2)]) (by first | (simp [go_sem, hP, hgl, hn, numD, hk]; done) | (simp [go_sem, hP, hgl, hn, numD, hk]; rfl)) (by simp [go_sem, hP, hgl, hn, numD, hk]) (by simp) ?_ hR.2 | refine W_endR hP hf hfn _ ([(b, deck l (nextD l q 3).2)]) (by first | (simp [go_sem, hP, hgl, hn, numD, hk]; done) | (simp [go_sem, hP, hgl, hn, numD, hk]; rfl)) (by simp [go_sem, hP, hgl, hn, numD, hk]) (by simp) ?_ hR.2
    rw [hR.1]
    refine ⟨?_, by simp [numD, hk]⟩
    try simp [numD, hk]
    try all_goals (simp [Ty.dv, Ty.cells_eq, Ty.kind_mk, Ty.args_mk, Tm.dv, Tm.cells_eq, Tm.kind_mk, Tm.index_mk, Tm.type_mk, Tm.args_mk, Val.dv, Val.cells_eq, Val.kind_mk, Val.num_mk, Val.list_mk, Val.args_mk, ints])
   ·rw [if_neg (by omega), if_pos h] at hR
    refine t_g (j2 @hz2 @h) ?_
    refine t_c1 trivial (ref02_n_ok 7 []) ?_
    repeat (first | refine W_seq ?_ | refine W_skip ?_ | refine W_block ?_ | refine W_inBlock ?_ | refine W_label ?_ | refine W_exit rfl ?_)
    first | refine W_retR hP hf hfn _ ([(b, deck l q)]) (by first | (simp [go_sem, hP, hgl, hn, nT]; done) | (simp [go_sem, hP, hgl, hn, nT]; rfl)) (by simp [go_sem, hP, hgl, hn, nT]) (by simp) ?_ hR.2 | refine W_endR hP hf hfn _ ([(b, deck l q)]) (by first | (simp [go_sem, hP, hgl, hn, nT]; done) | (simp [go_sem, hP, hgl, hn, nT]; rfl)) (by simp [go_sem, hP, hgl, hn, nT]) (by simp) ?_ hR.2
    rw [hR.1]
    refine ⟨?_, by simp [nT]⟩
    try simp [nT]
    try all_goals (simp [Ty.dv, Ty.cells_eq, Ty.kind_mk, Ty.args_mk, Tm.dv, Tm.cells_eq, Tm.kind_mk, Tm.index_mk, Tm.type_mk, Tm.args_mk, Val.dv, Val.cells_eq, Val.kind_mk, Val.num_mk, Val.list_mk, Val.args_mk, ints])
   ·rw [if_neg (by omega), if_neg (by omega), if_neg (by omega), if_neg (by omega)] at hR
    refine t_g (j2 @hz2 @h) ?_
    refine t_c1 trivial (ref02_n_ok 13 []) ?_
    repeat (first | refine W_seq ?_ | refine W_skip ?_ | refine W_block ?_ | refine W_inBlock ?_ | refine W_label ?_ | refine W_exit rfl ?_)
    first | refine W_retR hP hf hfn _ ([(b, deck l q)]) (by first | (simp [go_sem, hP, hgl, hn, nT]; done) | (simp [go_sem, hP, hgl, hn, nT]; rfl)) (by simp [go_sem, hP, hgl, hn, nT]) (by simp) ?_ hR.2 | refine W_endR hP hf hfn _ ([(b, deck l q)]) (by first | (simp [go_sem, hP, hgl, hn, nT]; done) | (simp [go_sem, hP, hgl, hn, nT]; rfl)) (by simp [go_sem, hP, hgl, hn, nT]) (by simp) ?_ hR.2
    rw [hR.1]
    refine ⟨?_, by simp [nT]⟩
    try simp [nT]
    try all_goals (simp [Ty.dv, Ty.cells_eq, Ty.kind_mk, Ty.args_mk, Tm.dv, Tm.cells_eq, Tm.kind_mk, Tm.index_mk, Tm.type_mk, Tm.args_mk, Val.dv, Val.cells_eq, Val.kind_mk, Val.num_mk, Val.list_mk, Val.args_mk, ints])
   ·rw [if_neg (by omega), if_neg (by omega), if_pos h] at hR
    obtain ⟨s0, s1, hc⟩ := ht.arg (.inl h)
    have p0 := Ty.count_eq (t.arg 0)
    have p1 := Ty.count_eq (t.arg 1)
    have ha : t.args = [t.arg 0, t.arg 1] := by rw [e]; rfl
    obtain ⟨a1, -⟩ := leafD_facts closed_shape (t.arg 0) g q s0 hg hq
    refine t_g (j2 @hz2 @h) ?_
    refine t_c3 @ha (ih (t.arg 0) (by rw [ha]; simp) (z - 1) g q (by omega) (by omega) s0 hg (by omega) hq) (ih (t.arg 1) (by rw [ha]; simp) (z - 1) g (leafD l (t.arg 0) g q).2 (by omega) (by omega) s1 hg (by omega) a1) (ref02_n_ok 10 [(leafD l (t.arg 0) g q).1, (leafD l (t.arg 1) g (leafD l (t.arg 0) g q).2).1]) ?_
    repeat (first | refine W_seq ?_ | refine W_skip ?_ | refine W_block ?_ | refine W_inBlock ?_ | refine W_label ?_ | refine W_exit rfl ?_)
    first | refine W_retR hP hf hfn _ ([(b, deck l (leafD l (t.arg 1) g (leafD l (t.arg 0) g q).2).2)]) (by first | (simp [go_sem, hP, hgl, hn, nT]; done) | (simp [go_sem, hP, hgl, hn, nT]; rfl)) (by simp [go_sem, hP, hgl, hn, nT]) (by simp) ?_ hR.2 | refine W_endR hP hf hfn _ ([(b, deck l (leafD l (t.arg 1) g (leafD l (t.arg 0) g q).2).2)]) (by first | (simp [go_sem, hP, hgl, hn, nT]; done) | (simp [go_sem, hP, hgl, hn, nT]; rfl)) (by simp [go_sem, hP, hgl, hn, nT]) (by simp) ?_ hR.2
    rw [hR.1]
    refine ⟨?_, by simp [nT]⟩
    try simp [nT]
    try all_goals (simp [Ty.dv, Ty.cells_eq, Ty.kind_mk, Ty.args_mk, Tm.dv, Tm.cells_eq, Tm.kind_mk, Tm.index_mk, Tm.type_mk, Tm.args_mk, Val.dv, Val.cells_eq, Val.kind_mk, Val.num_mk, Val.list_mk, Val.args_mk, ints])
   ·rw [if_neg (by omega), if_neg (by omega), if_neg (by omega), if_pos h] at hR
    obtain ⟨s0, s1, hc⟩ := ht.arg (.inr h)
    have p0 := Ty.count_eq (t.arg 0)
    have p1 := Ty.count_eq (t.arg 1)
    have ha : t.args = [t.arg 0, t.arg 1] := by rw [e]; rfl
    have hgs : ∀ x ∈ g ++ [t.arg 0], x.small := by intro x hx; rcases List.mem_append.1 hx with hx | hx; exact hg x hx; rw [List.mem_singleton.1 hx]; exact s0
    refine t_g (j2 @hz2 @h) ?_
    refine t_c3 @ha (mk_longer_ok g [t.arg 0] (by simp; omega)) (ih (t.arg 1) (by rw [ha]; simp) (z - 1) (g ++ [t.arg 0]) q (by omega) (by omega) s1 hgs (by simp; omega) hq) (ref02_t_ok 2 (t.arg 0) [(leafD l (t.arg 1) (g ++ [t.arg 0]) q).1]) ?_
    refine t_ro [(b, deck l (leafD l (t.arg 1) (g ++ [t.arg 0]) q).2)] trivial ?_
    try simp
    try all_goals exact t_f
 ·rw [hpk] at hR
  simp only at hR
  obtain ⟨h0, h1, k, i, hk, hi, rfl, rfl⟩ := pickD_some' hpk
  have hpos : 0 < (varsN g t).length := by omega
  have hpos3 : 0 < (nextD l p 3).1 := by omega
  have hgi := ints_get (l := natI (varsN g t)) (i := k) (n := i) (by simp [natI, hi])
  have hkl := (List.getElem?_eq_some_iff.1 hi).1
  refine t_g0 ?_
  refine t_c1 trivial (mk_vars_ok g t (by omega)) ?_
  refine t_g0 ?_
  refine t_c1 (j2 @natI_len (j2 @hpos @hpos3)) (next_ok b l p 3 (by decide) (by omega)) ?_
  refine t_g @hpos3 ?_
  refine t_c2 (j2 @natI_len (j2 @hk @hgi)) (next_ok b l (nextD l p 3).2 (varsN g t).length (by omega) (by omega)) (ref02_var_ok i) ?_
  repeat (first | refine W_seq ?_ | refine W_skip ?_ | refine W_block ?_ | refine W_inBlock ?_ | refine W_label ?_ | refine W_exit rfl ?_)
  first | refine W_retR hP hf hfn _ ([(b, deck l (nextD l (nextD l p 3).2 (varsN g t).length).2)]) (by first | (simp [go_sem, hP, hgl, hn, vT]; done) | (simp [go_sem, hP, hgl, hn, vT]; rfl)) (by simp [go_sem, hP, hgl, hn, vT]) (by simp) ?_ hR.2 | refine W_endR hP hf hfn _ ([(b, deck l (nextD l (nextD l p 3).2 (varsN g t).length).2)]) (by first | (simp [go_sem, hP, hgl, hn, vT]; done) | (simp [go_sem, hP, hgl, hn, vT]; rfl)) (by simp [go_sem, hP, hgl, hn, vT]) (by simp) ?_ hR.2
  rw [hR.1]
  refine ⟨?_, by simp [vT]⟩
  try simp [vT]
  try all_goals (simp [Ty.dv, Ty.cells_eq, Ty.kind_mk, Ty.args_mk, Tm.dv, Tm.cells_eq, Tm.kind_mk, Tm.index_mk, Tm.type_mk, Tm.args_mk, Val.dv, Val.cells_eq, Val.kind_mk, Val.num_mk, Val.list_mk, Val.args_mk, ints])
end
section
variable {gl : Globs}

def funP (g : List Ty) (t : Ty) (i : Nat) : Bool := decide ((varTy g i).kind = 4) && ((varTy g i).arg 1).same t
theorem upto_snoc {Q : Nat → Prop} {i : Nat} (h : ∀ j, j < i → Q j) (hi : Q i) : ∀ j, j < i + 1 → Q j := by
 intro j hj
 by_cases e : j = i
 ·rw [e]; exact hi
 ·exact h j (by omega)
theorem funN_found {g : List Ty} {t : Ty} {i : Nat} (hi : i < g.length) (h : ∀ j, j < i → funP g t j = false) (hp : funP g t i = true) : funN g t = some i := by
 unfold funN
 rw [List.find?_range_eq_some]
 exact ⟨hp, List.mem_range.2 hi, fun j hj => by show (!funP g t j) = true; rw [h j hj]; rfl⟩
theorem funN_none {g : List Ty} {t : Ty} (h : ∀ j, j < g.length → funP g t j = false) : funN g t = none := by
 unfold funN
 rw [List.find?_eq_none]
 intro j hj
 show ¬ funP g t j = true
 rw [h j (List.mem_range.1 hj)]
 decide

theorem W_cutXP {X : Ctx} {k kk : List Item} {s : St} (E : Prop) (S : St) (h1 : (E → W X kk S) → W X k s) (h2 : E → W X kk S) : W X k s := h1 h2

set_option maxHeartbeats 4000000 in
theorem mk_term_ok (b : Nat) (l : List Int) (hl : l.length ≤ 500) (n : Nat) (hn9 : n ≤ 9) : ∀ (t : Ty) (g : List Ty) (p : Nat), t.small → (∀ x ∈ g, x.small) → g.length + 3 * n + 15 ≤ 1000000 → p ≤ l.length →
  Con1 Tryz.prog gl 13 [ptr b, .sl (g.map Ty.cells), t.dv, dint n] [(b, deck l p)] (termD l n t g p).1.dv [(b, deck l (termD l n t g p).2)] := by
 induction n with
 | zero =>
  intro t g p ht hg hgl1 hp
  exact mk_term_leaf b l hl t 0 g p (by omega) (by have := ht.2; omega) ht hg (by have := ht.2; omega) hp
 | succ n ihn0 =>
 intro t g p ht hg hgl1 hp
 have ihn := ihn0 (by omega)
 have hD := termD_facts (l := l) closed_shape n
 have hg1 : ∀ a : List Ty, (∀ x ∈ a, x.small) → ∀ x ∈ g ++ a, x.small := by
  intro a ha x hx
  rcases List.mem_append.1 hx with hx | hx
  ·exact hg x hx
  ·exact ha x hx
 have hz2 : (0 : Int) < ((n + 1 : Nat) : Int) := by omega
 have hsub : ((n + 1 : Nat) : Int) - 1 = (n : Int) := by omega
 refine t_in Tryz.func13 ?_
 intro X hP hgl hf hfn hn hR hids hfit
 rw [termD] at hR
 have hvl : (varsN g t).length ≤ g.length := varsP_le g t g.length
 have hq3 := nextD_le (n := 3) hp
 have hb3 := nextD_bd (l := l) (p := p) (n := 3) (by decide)
 rcases hpk : pickD l t g p with ⟨_ | x, q⟩
 ·rw [hpk] at hR
  simp only at hR
  have hq : q ≤ l.length := by have := pickD_le (t := t) (g := g) hp; rw [hpk] at this; exact this
  apply W_cutX [(.slot 0, .one (.v (ptr b))), (.slot 1, .one (.v (.sl (g.map Ty.cells)))), (.slot 3, .one (.v (dint ((n + 1 : Nat) : Int)))), (.slot 6, .one (.loc 6 0)), (.loc 6, .row ([.v (dint t.kind), .v (.sl (t.args.map Ty.cells))])), (.slot 8, .one (.loc 8 0)), (.loc 8, .row ([.v (dint 0), .v (dint 0), .v (dint 0), .own 0 [], .own 0 []])), (.heap  b, .row ([.v (.sl (ints l)), .v (dint q)]))]
  ·intro hrest
   refine t_g0 ?_
   refine t_c1 trivial (mk_vars_ok g t (by omega)) ?_
   rcases pickD_none hpk with ⟨h0, rfl⟩ | ⟨h0, h1, rfl⟩
   ·refine t_g (j2 @natI_len @h0) ?_
    refine t_b ?_
    refine t_sub [] trivial hrest
   ·have hpos : 0 < (varsN g t).length := by omega
    refine t_g0 ?_
    refine t_c1 (j2 @natI_len (j2 @hpos @h1)) (next_ok b l p 3 (by decide) (by omega)) ?_
    refine t_g @h1 ?_
    refine t_b ?_
    refine t_sub [] trivial hrest
  ·have hq8 := nextD_le (n := 8) hq
   have hb8 := nextD_bd (l := l) (p := q) (n := 8) (by decide)
   refine t_g @hz2 ?_
   refine t_c1 trivial (next_ok b l q 8 (by decide) (by omega)) ?_
   generalize hd : nextD l q 8 = d at *
   obtain ⟨k, r⟩ := d
   simp only at hR hb8 hq8
   have hr : r ≤ l.length := hq8
   by_cases h0 : k = 0
   ·rw [stepD, if_pos h0] at hR
    have cs := mk_type_ok (gl := gl) 0 b l r hl hr (by decide)
    obtain ⟨fs, ss⟩ := typeD_small l (n := 0) hr (by decide)
    generalize hes : typeD l 0 r = rs at cs fs ss hR
    obtain ⟨s, qs⟩ := rs
    simp only at cs fs ss hR
    have cx := ihn (t) (g ++ [s]) qs ht (hg1 [s] (by simpa using ss)) (by simp; omega) fs
    have fx := (hD (t) (g ++ [s]) qs ht (hg1 [s] (by simpa using ss)) fs).1
    generalize hex : termD l n (t) (g ++ [s]) qs = rx at cx fx hR
    obtain ⟨x, qx⟩ := rx
    simp only at cx fx hR
    have cy := ihn (s) (g) qx ss hg (by omega) fx
    have fy := (hD (s) (g) qx ss hg fx).1
    generalize hey : termD l n (s) (g) qx = ry at cy fy hR
    obtain ⟨y, qy⟩ := ry
    simp only at cy fy hR
    refine t_g @h0 ?_
    refine t_c1 trivial cs ?_
    refine t_c5 @hsub (mk_longer_ok g [s] (by simp; omega)) cx (ref02_t_ok 2 s [x]) cy (ref02_n_ok 3 [Tm.mk 2 0 s [x], y]) ?_
    repeat (first | refine W_seq ?_ | refine W_skip ?_ | refine W_block ?_ | refine W_inBlock ?_ | refine W_label ?_ | refine W_exit rfl ?_)
    first | refine W_retR hP hf hfn _ ([(b, deck l qy)]) (by first | (simp [go_sem, hP, hgl, hn, nT]; done) | (simp [go_sem, hP, hgl, hn, nT]; rfl)) (by simp [go_sem, hP, hgl, hn, nT]) (by simp) ?_ hR.2 | refine W_endR hP hf hfn _ ([(b, deck l qy)]) (by first | (simp [go_sem, hP, hgl, hn, nT]; done) | (simp [go_sem, hP, hgl, hn, nT]; rfl)) (by simp [go_sem, hP, hgl, hn, nT]) (by simp) ?_ hR.2
    rw [hR.1]
    refine ⟨?_, by simp [nT]⟩
    try simp [nT]
    try all_goals (simp [Ty.dv, Ty.cells_eq, Ty.kind_mk, Ty.args_mk, Tm.dv, Tm.cells_eq, Tm.kind_mk, Tm.index_mk, Tm.type_mk, Tm.args_mk, Val.dv, Val.cells_eq, Val.kind_mk, Val.num_mk, Val.list_mk, Val.args_mk, ints])
   by_cases h1 : k = 1
   ·rw [stepD, if_neg h0, if_pos h1] at hR
    have cs := mk_type_ok (gl := gl) 0 b l r hl hr (by decide)
    obtain ⟨fs, ss⟩ := typeD_small l (n := 0) hr (by decide)
    generalize hes : typeD l 0 r = rs at cs fs ss hR
    obtain ⟨s, qs⟩ := rs
    simp only at cs fs ss hR
    have cx := ihn (t) (g) qs ht hg (by omega) fs
    have fx := (hD (t) (g) qs ht hg fs).1
    generalize hex : termD l n (t) (g) qs = rx at cx fx hR
    obtain ⟨x, qx⟩ := rx
    simp only at cx fx hR
    have cy := ihn (s) (g) qx ss hg (by omega) fx
    have fy := (hD (s) (g) qx ss hg fx).1
    generalize hey : termD l n (s) (g) qx = ry at cy fy hR
    obtain ⟨y, qy⟩ := ry
    simp only at cy fy hR
    refine t_g @h1 ?_
    refine t_c1 trivial cs ?_
    refine t_c4 @hsub cx cy (ref02_n_ok 10 [x, y]) (ref02_n_ok 11 [Tm.mk 10 0 (Ty.mk 0 []) [x, y]]) ?_
    repeat (first | refine W_seq ?_ | refine W_skip ?_ | refine W_block ?_ | refine W_inBlock ?_ | refine W_label ?_ | refine W_exit rfl ?_)
    first | refine W_retR hP hf hfn _ ([(b, deck l qy)]) (by first | (simp [go_sem, hP, hgl, hn, nT]; done) | (simp [go_sem, hP, hgl, hn, nT]; rfl)) (by simp [go_sem, hP, hgl, hn, nT]) (by simp) ?_ hR.2 | refine W_endR hP hf hfn _ ([(b, deck l qy)]) (by first | (simp [go_sem, hP, hgl, hn, nT]; done) | (simp [go_sem, hP, hgl, hn, nT]; rfl)) (by simp [go_sem, hP, hgl, hn, nT]) (by simp) ?_ hR.2
    rw [hR.1]
    refine ⟨?_, by simp [nT]⟩
    try simp [nT]
    try all_goals (simp [Ty.dv, Ty.cells_eq, Ty.kind_mk, Ty.args_mk, Tm.dv, Tm.cells_eq, Tm.kind_mk, Tm.index_mk, Tm.type_mk, Tm.args_mk, Val.dv, Val.cells_eq, Val.kind_mk, Val.num_mk, Val.list_mk, Val.args_mk, ints])
   by_cases h2 : k = 2
   ·rw [stepD, if_neg h0, if_neg h1, if_pos h2] at hR
    have cx := ihn (t) (g ++ [Ty.mk 1 [], t]) r ht (hg1 [Ty.mk 1 [], t] (by intro x hx; simp at hx; rcases hx with rfl | rfl; exact small_nat; exact ht)) (by simp; omega) hr
    have fx := (hD (t) (g ++ [Ty.mk 1 [], t]) r ht (hg1 [Ty.mk 1 [], t] (by intro x hx; simp at hx; rcases hx with rfl | rfl; exact small_nat; exact ht)) hr).1
    generalize hex : termD l n (t) (g ++ [Ty.mk 1 [], t]) r = rx at cx fx hR
    obtain ⟨x, qx⟩ := rx
    simp only at cx fx hR
    have cy := ihn (t) (g) qx ht hg (by omega) fx
    have fy := (hD (t) (g) qx ht hg fx).1
    generalize hey : termD l n (t) (g) qx = ry at cy fy hR
    obtain ⟨y, qy⟩ := ry
    simp only at cy fy hR
    have hqy := nextD_le (n := 3) fy
    have hby := nextD_bd (l := l) (p := qy) (n := 3) (by decide)
    obtain ⟨m, hm⟩ : ∃ m : Nat, (nextD l qy 3).1 = m := ⟨_, (Int.toNat_of_nonneg hby.1).symm⟩
    rw [hm] at hby
    refine t_g @h2 ?_
    refine t_c6 (j2 @hsub @nat_v) ref01_nat_ok ref01_nat_ok (mk_longer_ok g [Ty.mk 1 [], t] (by simp; omega)) cx (ref02_t_ok 2 t [x]) (ref02_t_ok 2 (Ty.mk 1 []) [Tm.mk 2 0 t [x]]) ?_
    refine t_c4 (j2 @hsub @hm) cy (next_ok b l qy 3 (by decide) (by omega)) (mk_num_ok m (by omega)) (ref02_t_ok 6 t [y, Tm.mk 2 0 (Ty.mk 1 []) [Tm.mk 2 0 t [x]], numTm m]) ?_
    repeat (first | refine W_seq ?_ | refine W_skip ?_ | refine W_block ?_ | refine W_inBlock ?_ | refine W_label ?_ | refine W_exit rfl ?_)
    first | refine W_retR hP hf hfn _ ([(b, deck l (nextD l qy 3).2)]) (by first | (simp [go_sem, hP, hgl, hn, numD, hm]; done) | (simp [go_sem, hP, hgl, hn, numD, hm]; rfl)) (by simp [go_sem, hP, hgl, hn, numD, hm]) (by simp) ?_ hR.2 | refine W_endR hP hf hfn _ ([(b, deck l (nextD l qy 3).2)]) (by first | (simp [go_sem, hP, hgl, hn, numD, hm]; done) | (simp [go_sem, hP, hgl, hn, numD, hm]; rfl)) (by simp [go_sem, hP, hgl, hn, numD, hm]) (by simp) ?_ hR.2
    rw [hR.1]
    refine ⟨?_, by simp [numD, hm]⟩
    try simp [numD, hm]
    try all_goals (simp [Ty.dv, Ty.cells_eq, Ty.kind_mk, Ty.args_mk, Tm.dv, Tm.cells_eq, Tm.kind_mk, Tm.index_mk, Tm.type_mk, Tm.args_mk, Val.dv, Val.cells_eq, Val.kind_mk, Val.num_mk, Val.list_mk, Val.args_mk, ints])
   by_cases h3 : k = 3
   ·rw [stepD, if_neg h0, if_neg h1, if_neg h2, if_pos h3] at hR
    have cx := ihn (t) (g ++ [Ty.mk 1 [], Ty.mk 2 [], t]) r ht (hg1 [Ty.mk 1 [], Ty.mk 2 [], t] (by intro x hx; simp at hx; rcases hx with rfl | rfl | rfl; exact small_nat; exact small_list; exact ht)) (by simp; omega) hr
    have fx := (hD (t) (g ++ [Ty.mk 1 [], Ty.mk 2 [], t]) r ht (hg1 [Ty.mk 1 [], Ty.mk 2 [], t] (by intro x hx; simp at hx; rcases hx with rfl | rfl | rfl; exact small_nat; exact small_list; exact ht)) hr).1
    generalize hex : termD l n (t) (g ++ [Ty.mk 1 [], Ty.mk 2 [], t]) r = rx at cx fx hR
    obtain ⟨x, qx⟩ := rx
    simp only at cx fx hR
    have cy := ihn (t) (g) qx ht hg (by omega) fx
    have fy := (hD (t) (g) qx ht hg fx).1
    generalize hey : termD l n (t) (g) qx = ry at cy fy hR
    obtain ⟨y, qy⟩ := ry
    simp only at cy fy hR
    have cz := ihn (Ty.mk 2 []) (g) qy small_list hg (by omega) fy
    have fz := (hD (Ty.mk 2 []) (g) qy small_list hg fy).1
    generalize hez : termD l n (Ty.mk 2 []) (g) qy = rz at cz fz hR
    obtain ⟨z, qz⟩ := rz
    simp only at cz fz hR
    refine t_g @h3 ?_
    refine t_c9 (j2 @hsub (j2 @nat_v @list_v)) ref01_nat_ok ref01_list_ok ref01_nat_ok ref01_list_ok (mk_longer_ok g [Ty.mk 1 [], Ty.mk 2 [], t] (by simp; omega)) cx (ref02_t_ok 2 t [x]) (ref02_t_ok 2 (Ty.mk 2 []) [Tm.mk 2 0 t [x]]) (ref02_t_ok 2 (Ty.mk 1 []) [Tm.mk 2 0 (Ty.mk 2 []) [Tm.mk 2 0 t [x]]]) ?_
    refine t_c4 (j2 @hsub @list_v) cy ref01_list_ok cz (ref02_t_ok 9 t [y, Tm.mk 2 0 (Ty.mk 1 []) [Tm.mk 2 0 (Ty.mk 2 []) [Tm.mk 2 0 t [x]]], z]) ?_
    refine t_ro [(b, deck l qz)] trivial ?_
    try simp
    try all_goals exact t_f
   by_cases h4 : k = 4
   ·rw [stepD, if_neg h0, if_neg h1, if_neg h2, if_neg h3, if_pos h4] at hR
    have cs := mk_type_ok (gl := gl) 0 b l r hl hr (by decide)
    obtain ⟨fs, ss⟩ := typeD_small l (n := 0) hr (by decide)
    generalize hes : typeD l 0 r = rs at cs fs ss hR
    obtain ⟨s, qs⟩ := rs
    simp only at cs fs ss hR
    have cx := ihn (s) (g) qs ss hg (by omega) fs
    have fx := (hD (s) (g) qs ss hg fs).1
    generalize hex : termD l n (s) (g) qs = rx at cx fx hR
    obtain ⟨x, qx⟩ := rx
    simp only at cx fx hR
    have cy := ihn (t) (g) qx ht hg (by omega) fx
    have fy := (hD (t) (g) qx ht hg fx).1
    generalize hey : termD l n (t) (g) qx = ry at cy fy hR
    obtain ⟨y, qy⟩ := ry
    simp only at cy fy hR
    refine t_g @h4 ?_
    refine t_c1 trivial cs ?_
    refine t_c4 @hsub cx cy (ref02_n_ok 10 [x, y]) (ref02_n_ok 12 [Tm.mk 10 0 (Ty.mk 0 []) [x, y]]) ?_
    repeat (first | refine W_seq ?_ | refine W_skip ?_ | refine W_block ?_ | refine W_inBlock ?_ | refine W_label ?_ | refine W_exit rfl ?_)
    first | refine W_retR hP hf hfn _ ([(b, deck l qy)]) (by first | (simp [go_sem, hP, hgl, hn, nT]; done) | (simp [go_sem, hP, hgl, hn, nT]; rfl)) (by simp [go_sem, hP, hgl, hn, nT]) (by simp) ?_ hR.2 | refine W_endR hP hf hfn _ ([(b, deck l qy)]) (by first | (simp [go_sem, hP, hgl, hn, nT]; done) | (simp [go_sem, hP, hgl, hn, nT]; rfl)) (by simp [go_sem, hP, hgl, hn, nT]) (by simp) ?_ hR.2
    rw [hR.1]
    refine ⟨?_, by simp [nT]⟩
    try simp [nT]
    try all_goals (simp [Ty.dv, Ty.cells_eq, Ty.kind_mk, Ty.args_mk, Tm.dv, Tm.cells_eq, Tm.kind_mk, Tm.index_mk, Tm.type_mk, Tm.args_mk, Val.dv, Val.cells_eq, Val.kind_mk, Val.num_mk, Val.list_mk, Val.args_mk, ints])
   apply W_cutXP (stepD l (termD l n) t g k r = endD l (termD l n) t g r) [(.slot 215, .one (.v (dbool (decide (t.kind = 1))))), (.slot 214, .one (.v (dint t.kind))), (.slot 0, .one (.v (ptr b))), (.slot 1, .one (.v (.sl (g.map Ty.cells)))), (.slot 3, .one (.v (dint ((n + 1 : Nat) : Int)))), (.slot 6, .one (.loc 6 0)), (.loc 6, .row ([.v (dint t.kind), .v (.sl (t.args.map Ty.cells))])), (.slot 8, .one (.loc 8 0)), (.loc 8, .row ([.v (dint 0), .v (dint 0), .v (dint 0), .own 0 [], .own 0 []])), (.heap  b, .row ([.v (.sl (ints l)), .v (dint r)]))]
   ·intro hrest
    by_cases h5 : k = 5
    ·refine t_g @h5 ?_
     refine t_a ?_
     refine t_sub [] trivial (W_upto (g.length) (fun i => ∀ j, j < i → funP g t j = false) (fun i => [(.slot 177, .one (.v (dint i))), (.slot 176, .one (.v (dint g.length))), (.slot 0, .one (.v (ptr b))), (.slot 1, .one (.v (.sl (g.map Ty.cells)))), (.slot 3, .one (.v (dint ((n + 1 : Nat) : Int)))), (.slot 6, .one (.loc 6 0)), (.loc 6, .row ([.v (dint t.kind), .v (.sl (t.args.map Ty.cells))])), (.slot 8, .one (.loc 8 0)), (.loc 8, .row ([.v (dint 0), .v (dint 0), .v (dint 0), .own 0 [], .own 0 []])), (.heap  b, .row ([.v (.sl (ints l)), .v (dint r)]))]) (by intro j hj; omega) ?_ ?_)
     ·intro i hi hI hnext
      have hvt := (varTy_mem hi).2
      have hix : (g.length : Int) - 1 - i = ((g.length - 1 - i : Nat) : Int) := by omega
      refine t_rg0 ?_
      refine t_yes ?_
      refine t_g (j2 @hix @hvt) ?_
      by_cases hk4 : (varTy g i).kind = 4
      ·have hfs := hg _ (varTy_mem hi).1
       obtain ⟨c0, c1, -⟩ := hfs.arg (.inr hk4)
       obtain ⟨a0, a1, ha, -, -, e0, e1⟩ := Ty.ok_args hfs.ok (.inr hk4)
       rw [e0] at c0
       refine t_c1 (j2 @hix (j2 @hvt (j2 @hk4 @ha))) (ref01_same_ok a1 t) ?_
       by_cases hs : a1.same t = true
       ·have hfi : funN g t = some i := funN_found hi hI (by simp [funP, hk4, e1, hs])
        rw [stepD, if_neg h0, if_neg h1, if_neg h2, if_neg h3, if_neg h4, if_pos h5, hfi] at hR
        simp only at hR
        rw [e0] at hR
        have cx := ihn (a0) (g) r c0 hg (by omega) hr
        have fx := (hD (a0) (g) r c0 hg hr).1
        generalize hex : termD l n (a0) (g) r = rx at cx fx hR
        obtain ⟨x, qx⟩ := rx
        simp only at cx fx hR
        refine t_g @hs ?_
        refine t_a ?_
        first | refine W_reg [] fun K hK => ?_ | refine W_regd (by rw [hP]; exact mixed) [] fun K hK => ?_
        simp [go_sem, hP, hgl, hn, hsub, ha, vT]
        repeat (refine ⟨by omega, ?_⟩)
        first | refine vcK_call hP hgl (ref02_var_ok i) (by simp [go_sem, hP, hgl, hn, hsub, ha, vT]) rfl (by simp [go_sem]) (by simp) (by rw [hn]; exact Nat.le_of_ble_eq_true rfl) ?_ | refine vcdC_call (fun _ _ => vcd_sound) hP hgl (ref02_var_ok i) (by simp [go_sem, hP, hgl, hn, hsub, ha, vT]) rfl (by simp [go_sem]) (by simp) (by rw [hn]; exact Nat.le_of_ble_eq_true rfl) ?_ | refine vcK_callG hP hgl (ref02_var_ok i) (by simp [go_sem, hP, hgl, hn, hsub, ha, vT]) rfl (by simp [go_sem]) (by simp) (by rw [hn]; exact Nat.le_of_ble_eq_true rfl) (by simp [go_sem]; rfl) (by rw [hn]; exact Nat.le_of_ble_eq_true rfl) (by simp [go_sem]) ?_ | refine vcdC_callG (fun _ _ => vcd_sound) hP hgl (ref02_var_ok i) (by simp [go_sem, hP, hgl, hn, hsub, ha, vT]) rfl (by simp [go_sem]) (by simp) (by rw [hn]; exact Nat.le_of_ble_eq_true rfl) (by simp [go_sem]; rfl) (by rw [hn]; exact Nat.le_of_ble_eq_true rfl) (by simp [go_sem]) ?_
        simp [go_sem, hP, hgl, hn, hsub, ha, vT]
        repeat (refine ⟨by omega, ?_⟩)
        first | refine vcK_call hP hgl (cx) (by simp [go_sem, hP, hgl, hn, hsub, ha, vT]) rfl (by simp [go_sem]) (by simp) (by rw [hn]; exact Nat.le_of_ble_eq_true rfl) ?_ | refine vcdC_call (fun _ _ => vcd_sound) hP hgl (cx) (by simp [go_sem, hP, hgl, hn, hsub, ha, vT]) rfl (by simp [go_sem]) (by simp) (by rw [hn]; exact Nat.le_of_ble_eq_true rfl) ?_ | refine vcK_callG hP hgl (cx) (by simp [go_sem, hP, hgl, hn, hsub, ha, vT]) rfl (by simp [go_sem]) (by simp) (by rw [hn]; exact Nat.le_of_ble_eq_true rfl) (by simp [go_sem]; rfl) (by rw [hn]; exact Nat.le_of_ble_eq_true rfl) (by simp [go_sem]) ?_ | refine vcdC_callG (fun _ _ => vcd_sound) hP hgl (cx) (by simp [go_sem, hP, hgl, hn, hsub, ha, vT]) rfl (by simp [go_sem]) (by simp) (by rw [hn]; exact Nat.le_of_ble_eq_true rfl) (by simp [go_sem]; rfl) (by rw [hn]; exact Nat.le_of_ble_eq_true rfl) (by simp [go_sem]) ?_
        simp [go_sem, hP, hgl, hn, hsub, ha, vT]
        repeat (refine ⟨by omega, ?_⟩)
        first | refine vcK_call hP hgl (ref02_n_ok 3 [vT i, x]) (by simp [go_sem, hP, hgl, hn, hsub, ha, vT]) rfl (by simp [go_sem]) (by simp) (by rw [hn]; exact Nat.le_of_ble_eq_true rfl) ?_ | refine vcdC_call (fun _ _ => vcd_sound) hP hgl (ref02_n_ok 3 [vT i, x]) (by simp [go_sem, hP, hgl, hn, hsub, ha, vT]) rfl (by simp [go_sem]) (by simp) (by rw [hn]; exact Nat.le_of_ble_eq_true rfl) ?_ | refine vcK_callG hP hgl (ref02_n_ok 3 [vT i, x]) (by simp [go_sem, hP, hgl, hn, hsub, ha, vT]) rfl (by simp [go_sem]) (by simp) (by rw [hn]; exact Nat.le_of_ble_eq_true rfl) (by simp [go_sem]; rfl) (by rw [hn]; exact Nat.le_of_ble_eq_true rfl) (by simp [go_sem]) ?_ | refine vcdC_callG (fun _ _ => vcd_sound) hP hgl (ref02_n_ok 3 [vT i, x]) (by simp [go_sem, hP, hgl, hn, hsub, ha, vT]) rfl (by simp [go_sem]) (by simp) (by rw [hn]; exact Nat.le_of_ble_eq_true rfl) (by simp [go_sem]; rfl) (by rw [hn]; exact Nat.le_of_ble_eq_true rfl) (by simp [go_sem]) ?_
        simp [go_sem, hP, hgl, hn, hsub, ha, vT]
        refine t_e ?_
        clear hK K
        repeat (first | refine W_seq ?_ | refine W_skip ?_ | refine W_block ?_ | refine W_inBlock ?_ | refine W_label ?_ | refine W_exit rfl ?_)
        first | refine W_retR hP hf hfn _ ([(b, deck l qx)]) (by first | (simp [go_sem, hP, hgl, hn, nT, vT]; done) | (simp [go_sem, hP, hgl, hn, nT, vT]; rfl)) (by simp [go_sem, hP, hgl, hn, nT, vT]) (by simp) ?_ hR.2 | refine W_endR hP hf hfn _ ([(b, deck l qx)]) (by first | (simp [go_sem, hP, hgl, hn, nT, vT]; done) | (simp [go_sem, hP, hgl, hn, nT, vT]; rfl)) (by simp [go_sem, hP, hgl, hn, nT, vT]) (by simp) ?_ hR.2
        rw [hR.1]
        refine ⟨?_, by simp [nT, vT]⟩
        try simp [nT, vT]
        try all_goals (simp [Ty.dv, Ty.cells_eq, Ty.kind_mk, Ty.args_mk, Tm.dv, Tm.cells_eq, Tm.kind_mk, Tm.index_mk, Tm.type_mk, Tm.args_mk, Val.dv, Val.cells_eq, Val.kind_mk, Val.num_mk, Val.list_mk, Val.args_mk, ints])
       ·refine t_gt (wr []) trivial @hs (hnext (upto_snoc hI (by simp [funP, hk4, e1, hs])))
      ·refine t_gt (wr []) trivial @hk4 (hnext (upto_snoc hI (by simp [funP, hk4])))
     ·intro hI
      refine t_rg0 ?_
      refine t_no ?_
      refine t_g0 ?_
      refine t_b ?_
      refine t_sub [] trivial (hrest (by rw [stepD, if_neg h0, if_neg h1, if_neg h2, if_neg h3, if_neg h4, if_pos h5, funN_none hI]))
    ·have hE : stepD l (termD l n) t g k r = endD l (termD l n) t g r := by rw [stepD, if_neg h0, if_neg h1, if_neg h2, if_neg h3, if_neg h4, if_neg h5]
     by_cases h6 : k = 6
     ·refine t_g @h6 ?_
      refine t_b ?_
      refine t_sub [] trivial (hrest hE)
     ·have h7 : k = 7 := by omega
      refine t_g @h7 ?_
      refine t_b ?_
      refine t_sub [] trivial (hrest hE)
   ·intro hE
    rw [hE, endD] at hR
    have h5q := nextD_le (n := 5) hr
    have h2q := nextD_le (n := 2) hr
    have hfd := Ty.fold t
    rcases small_kinds ht with ⟨h, e⟩ | ⟨h, e⟩ | ⟨h, e⟩ | ⟨h, e⟩ | ⟨h, e⟩
    ·rw [if_pos h] at hR
     rw [h] at hfd
     have hb5 := nextD_bd (l := l) (p := r) (n := 5) (by decide)
     refine t_g (j2 @h @hz2) ?_
     refine t_c1 trivial (next_ok b l r 5 (by decide) (by omega)) ?_
     generalize hd5 : nextD l r 5 = d at *
     obtain ⟨c, q5⟩ := d
     simp only at hR hb5 h5q
     by_cases c0 : c = 0
     ·rw [if_pos c0] at hR
      have cx := ihn (t) (g) q5 ht hg (by omega) h5q
      have fx := (hD (t) (g) q5 ht hg h5q).1
      generalize hex : termD l n (t) (g) q5 = rx at cx fx hR
      obtain ⟨x, qx⟩ := rx
      simp only at cx fx hR
      refine t_g @c0 ?_
      refine t_c2 (j2 @hsub @hfd) cx (ref02_n_ok 5 [x]) ?_
      repeat (first | refine W_seq ?_ | refine W_skip ?_ | refine W_block ?_ | refine W_inBlock ?_ | refine W_label ?_ | refine W_exit rfl ?_)
      first | refine W_retR hP hf hfn _ ([(b, deck l qx)]) (by first | (simp [go_sem, hP, hgl, hn, nT]; done) | (simp [go_sem, hP, hgl, hn, nT]; rfl)) (by simp [go_sem, hP, hgl, hn, nT]) (by simp) ?_ hR.2 | refine W_endR hP hf hfn _ ([(b, deck l qx)]) (by first | (simp [go_sem, hP, hgl, hn, nT]; done) | (simp [go_sem, hP, hgl, hn, nT]; rfl)) (by simp [go_sem, hP, hgl, hn, nT]) (by simp) ?_ hR.2
      rw [hR.1]
      refine ⟨?_, by simp [nT]⟩
      try simp [nT]
      try all_goals (simp [Ty.dv, Ty.cells_eq, Ty.kind_mk, Ty.args_mk, Tm.dv, Tm.cells_eq, Tm.kind_mk, Tm.index_mk, Tm.type_mk, Tm.args_mk, Val.dv, Val.cells_eq, Val.kind_mk, Val.num_mk, Val.list_mk, Val.args_mk, ints])
     rw [if_neg c0] at hR
     by_cases c1 : c = 1
     ·rw [if_pos c1] at hR
      have cx := ihn (t) (g) q5 ht hg (by omega) h5q
      have fx := (hD (t) (g) q5 ht hg h5q).1
      generalize hex : termD l n (t) (g) q5 = rx at cx fx hR
      obtain ⟨x, qx⟩ := rx
      simp only at cx fx hR
      have cy := ihn (t) (g) qx ht hg (by omega) fx
      have fy := (hD (t) (g) qx ht hg fx).1
      generalize hey : termD l n (t) (g) qx = ry at cy fy hR
      obtain ⟨y, qy⟩ := ry
      simp only at cy fy hR
      refine t_g @c1 ?_
      refine t_c4 (j2 @hsub @hfd) ref05_plus_ok cx cy (mk_app_ok plusT [x, y]) ?_
      refine t_ro [(b, deck l qy)] trivial ?_
      try simp
      try all_goals exact t_f
     rw [if_neg c1] at hR
     by_cases c2 : c = 2
     ·rw [if_pos c2] at hR
      have cx := ihn (t) (g) q5 ht hg (by omega) h5q
      have fx := (hD (t) (g) q5 ht hg h5q).1
      generalize hex : termD l n (t) (g) q5 = rx at cx fx hR
      obtain ⟨x, qx⟩ := rx
      simp only at cx fx hR
      have cy := ihn (t) (g) qx ht hg (by omega) fx
      have fy := (hD (t) (g) qx ht hg fx).1
      generalize hey : termD l n (t) (g) qx = ry at cy fy hR
      obtain ⟨y, qy⟩ := ry
      simp only at cy fy hR
      refine t_g @c2 ?_
      refine t_c4 (j2 @hsub @hfd) ref05_sub_ok cx cy (mk_app_ok subT [x, y]) ?_
      refine t_ro [(b, deck l qy)] trivial ?_
      try simp
      try all_goals exact t_f
     rw [if_neg c2] at hR
     have hb3 := nextD_bd (l := l) (p := q5) (n := 3) (by decide)
     obtain ⟨m, hm⟩ : ∃ m : Nat, (nextD l q5 3).1 = m := ⟨_, (Int.toNat_of_nonneg hb3.1).symm⟩
     rw [hm] at hb3
     by_cases c3 : c = 3
     ·refine t_g @c3 ?_
      refine t_c2 @hm (next_ok b l q5 3 (by decide) (by omega)) (mk_num_ok m (by omega)) ?_
      repeat (first | refine W_seq ?_ | refine W_skip ?_ | refine W_block ?_ | refine W_inBlock ?_ | refine W_label ?_ | refine W_exit rfl ?_)
      first | refine W_retR hP hf hfn _ ([(b, deck l (nextD l q5 3).2)]) (by first | (simp [go_sem, hP, hgl, hn, numD, hm]; done) | (simp [go_sem, hP, hgl, hn, numD, hm]; rfl)) (by simp [go_sem, hP, hgl, hn, numD, hm]) (by simp) ?_ hR.2 | refine W_endR hP hf hfn _ ([(b, deck l (nextD l q5 3).2)]) (by first | (simp [go_sem, hP, hgl, hn, numD, hm]; done) | (simp [go_sem, hP, hgl, hn, numD, hm]; rfl)) (by simp [go_sem, hP, hgl, hn, numD, hm]) (by simp) ?_ hR.2
      rw [hR.1]
      refine ⟨?_, by simp [numD, hm]⟩
      try simp [numD, hm]
      try all_goals (simp [Ty.dv, Ty.cells_eq, Ty.kind_mk, Ty.args_mk, Tm.dv, Tm.cells_eq, Tm.kind_mk, Tm.index_mk, Tm.type_mk, Tm.args_mk, Val.dv, Val.cells_eq, Val.kind_mk, Val.num_mk, Val.list_mk, Val.args_mk, ints])
     ·have c4 : c = 4 := by omega
      refine t_g @c4 ?_
      refine t_c2 @hm (next_ok b l q5 3 (by decide) (by omega)) (mk_num_ok m (by omega)) ?_
      repeat (first | refine W_seq ?_ | refine W_skip ?_ | refine W_block ?_ | refine W_inBlock ?_ | refine W_label ?_ | refine W_exit rfl ?_)
      first | refine W_retR hP hf hfn _ ([(b, deck l (nextD l q5 3).2)]) (by first | (simp [go_sem, hP, hgl, hn, numD, hm]; done) | (simp [go_sem, hP, hgl, hn, numD, hm]; rfl)) (by simp [go_sem, hP, hgl, hn, numD, hm]) (by simp) ?_ hR.2 | refine W_endR hP hf hfn _ ([(b, deck l (nextD l q5 3).2)]) (by first | (simp [go_sem, hP, hgl, hn, numD, hm]; done) | (simp [go_sem, hP, hgl, hn, numD, hm]; rfl)) (by simp [go_sem, hP, hgl, hn, numD, hm]) (by simp) ?_ hR.2
      rw [hR.1]
      refine ⟨?_, by simp [numD, hm]⟩
      try simp [numD, hm]
      try all_goals (simp [Ty.dv, Ty.cells_eq, Ty.kind_mk, Ty.args_mk, Tm.dv, Tm.cells_eq, Tm.kind_mk, Tm.index_mk, Tm.type_mk, Tm.args_mk, Val.dv, Val.cells_eq, Val.kind_mk, Val.num_mk, Val.list_mk, Val.args_mk, ints])
    ·rw [if_neg (by omega), if_pos h] at hR
     rw [h] at hfd
     have hb2 := nextD_bd (l := l) (p := r) (n := 2) (by decide)
     refine t_g @h ?_
     generalize hd2 : nextD l r 2 = d at *
     obtain ⟨c, q2⟩ := d
     have cn := next_ok (gl := gl) b l r 2 (by decide) (by omega)
     rw [hd2] at cn
     simp only at hR hb2 h2q cn
     by_cases c0 : c = 0
     ·rw [if_pos c0] at hR
      have cx := ihn (Ty.mk 1 []) (g) q2 small_nat hg (by omega) h2q
      have fx := (hD (Ty.mk 1 []) (g) q2 small_nat hg h2q).1
      generalize hex : termD l n (Ty.mk 1 []) (g) q2 = rx at cx fx hR
      obtain ⟨x, qx⟩ := rx
      simp only at cx fx hR
      have cy := ihn (t) (g) qx ht hg (by omega) fx
      have fy := (hD (t) (g) qx ht hg fx).1
      generalize hey : termD l n (t) (g) qx = ry at cy fy hR
      obtain ⟨y, qy⟩ := ry
      simp only at cy fy hR
      refine t_c1 (j2 @hz2 @c0) cn ?_
      refine t_g @c0 ?_
      refine t_c4 (j2 @hsub (j2 @nat_v @hfd)) ref01_nat_ok cx cy (ref02_n_ok 8 [x, y]) ?_
      repeat (first | refine W_seq ?_ | refine W_skip ?_ | refine W_block ?_ | refine W_inBlock ?_ | refine W_label ?_ | refine W_exit rfl ?_)
      first | refine W_retR hP hf hfn _ ([(b, deck l qy)]) (by first | (simp [go_sem, hP, hgl, hn, nT]; done) | (simp [go_sem, hP, hgl, hn, nT]; rfl)) (by simp [go_sem, hP, hgl, hn, nT]) (by simp) ?_ hR.2 | refine W_endR hP hf hfn _ ([(b, deck l qy)]) (by first | (simp [go_sem, hP, hgl, hn, nT]; done) | (simp [go_sem, hP, hgl, hn, nT]; rfl)) (by simp [go_sem, hP, hgl, hn, nT]) (by simp) ?_ hR.2
      rw [hR.1]
      refine ⟨?_, by simp [nT]⟩
      try simp [nT]
      try all_goals (simp [Ty.dv, Ty.cells_eq, Ty.kind_mk, Ty.args_mk, Tm.dv, Tm.cells_eq, Tm.kind_mk, Tm.index_mk, Tm.type_mk, Tm.args_mk, Val.dv, Val.cells_eq, Val.kind_mk, Val.num_mk, Val.list_mk, Val.args_mk, ints])
     ·rw [if_neg c0] at hR
      refine t_c1 (j2 @hz2 @c0) cn ?_
      refine t_g @c0 ?_
      refine t_c1 trivial (ref02_n_ok 7 []) ?_
      repeat (first | refine W_seq ?_ | refine W_skip ?_ | refine W_block ?_ | refine W_inBlock ?_ | refine W_label ?_ | refine W_exit rfl ?_)
      first | refine W_retR hP hf hfn _ ([(b, deck l q2)]) (by first | (simp [go_sem, hP, hgl, hn, nT]; done) | (simp [go_sem, hP, hgl, hn, nT]; rfl)) (by simp [go_sem, hP, hgl, hn, nT]) (by simp) ?_ hR.2 | refine W_endR hP hf hfn _ ([(b, deck l q2)]) (by first | (simp [go_sem, hP, hgl, hn, nT]; done) | (simp [go_sem, hP, hgl, hn, nT]; rfl)) (by simp [go_sem, hP, hgl, hn, nT]) (by simp) ?_ hR.2
      rw [hR.1]
      refine ⟨?_, by simp [nT]⟩
      try simp [nT]
      try all_goals (simp [Ty.dv, Ty.cells_eq, Ty.kind_mk, Ty.args_mk, Tm.dv, Tm.cells_eq, Tm.kind_mk, Tm.index_mk, Tm.type_mk, Tm.args_mk, Val.dv, Val.cells_eq, Val.kind_mk, Val.num_mk, Val.list_mk, Val.args_mk, ints])
    ·rw [if_neg (by omega), if_neg (by omega), if_neg (by omega), if_neg (by omega)] at hR
     refine t_g @h ?_
     refine t_c1 trivial (ref02_n_ok 13 []) ?_
     repeat (first | refine W_seq ?_ | refine W_skip ?_ | refine W_block ?_ | refine W_inBlock ?_ | refine W_label ?_ | refine W_exit rfl ?_)
     first | refine W_retR hP hf hfn _ ([(b, deck l r)]) (by first | (simp [go_sem, hP, hgl, hn, nT]; done) | (simp [go_sem, hP, hgl, hn, nT]; rfl)) (by simp [go_sem, hP, hgl, hn, nT]) (by simp) ?_ hR.2 | refine W_endR hP hf hfn _ ([(b, deck l r)]) (by first | (simp [go_sem, hP, hgl, hn, nT]; done) | (simp [go_sem, hP, hgl, hn, nT]; rfl)) (by simp [go_sem, hP, hgl, hn, nT]) (by simp) ?_ hR.2
     rw [hR.1]
     refine ⟨?_, by simp [nT]⟩
     try simp [nT]
     try all_goals (simp [Ty.dv, Ty.cells_eq, Ty.kind_mk, Ty.args_mk, Tm.dv, Tm.cells_eq, Tm.kind_mk, Tm.index_mk, Tm.type_mk, Tm.args_mk, Val.dv, Val.cells_eq, Val.kind_mk, Val.num_mk, Val.list_mk, Val.args_mk, ints])
    ·rw [if_neg (by omega), if_neg (by omega), if_pos h] at hR
     obtain ⟨s0, s1, hc⟩ := ht.arg (.inl h)
     have ha : t.args = [t.arg 0, t.arg 1] := by rw [e]; rfl
     have cx := ihn (t.arg 0) (g) r s0 hg (by omega) hr
     have fx := (hD (t.arg 0) (g) r s0 hg hr).1
     generalize hex : termD l n (t.arg 0) (g) r = rx at cx fx hR
     obtain ⟨x, qx⟩ := rx
     simp only at cx fx hR
     have cy := ihn (t.arg 1) (g) qx s1 hg (by omega) fx
     have fy := (hD (t.arg 1) (g) qx s1 hg fx).1
     generalize hey : termD l n (t.arg 1) (g) qx = ry at cy fy hR
     obtain ⟨y, qy⟩ := ry
     simp only at cy fy hR
     refine t_g @h ?_
     refine t_c3 (j2 @hsub @ha) cx cy (ref02_n_ok 10 [x, y]) ?_
     repeat (first | refine W_seq ?_ | refine W_skip ?_ | refine W_block ?_ | refine W_inBlock ?_ | refine W_label ?_ | refine W_exit rfl ?_)
     first | refine W_retR hP hf hfn _ ([(b, deck l qy)]) (by first | (simp [go_sem, hP, hgl, hn, nT]; done) | (simp [go_sem, hP, hgl, hn, nT]; rfl)) (by simp [go_sem, hP, hgl, hn, nT]) (by simp) ?_ hR.2 | refine W_endR hP hf hfn _ ([(b, deck l qy)]) (by first | (simp [go_sem, hP, hgl, hn, nT]; done) | (simp [go_sem, hP, hgl, hn, nT]; rfl)) (by simp [go_sem, hP, hgl, hn, nT]) (by simp) ?_ hR.2
     rw [hR.1]
     refine ⟨?_, by simp [nT]⟩
     try simp [nT]
     try all_goals (simp [Ty.dv, Ty.cells_eq, Ty.kind_mk, Ty.args_mk, Tm.dv, Tm.cells_eq, Tm.kind_mk, Tm.index_mk, Tm.type_mk, Tm.args_mk, Val.dv, Val.cells_eq, Val.kind_mk, Val.num_mk, Val.list_mk, Val.args_mk, ints])
    ·rw [if_neg (by omega), if_neg (by omega), if_neg (by omega), if_pos h] at hR
     obtain ⟨s0, s1, hc⟩ := ht.arg (.inr h)
     have ha : t.args = [t.arg 0, t.arg 1] := by rw [e]; rfl
     have cx := ihn (t.arg 1) (g ++ [t.arg 0]) r s1 (hg1 [t.arg 0] (by simpa using s0)) (by simp; omega) hr
     have fx := (hD (t.arg 1) (g ++ [t.arg 0]) r s1 (hg1 [t.arg 0] (by simpa using s0)) hr).1
     generalize hex : termD l n (t.arg 1) (g ++ [t.arg 0]) r = rx at cx fx hR
     obtain ⟨x, qx⟩ := rx
     simp only at cx fx hR
     refine t_g @h ?_
     refine t_c3 (j2 @hsub @ha) (mk_longer_ok g [t.arg 0] (by simp; omega)) cx (ref02_t_ok 2 (t.arg 0) [x]) ?_
     refine t_ro [(b, deck l qx)] trivial ?_
     try simp
     try all_goals exact t_f
 ·rw [hpk] at hR
  simp only at hR
  obtain ⟨h0, h1, k, i, hk, hi, rfl, rfl⟩ := pickD_some' hpk
  have hpos : 0 < (varsN g t).length := by omega
  have hpos3 : 0 < (nextD l p 3).1 := by omega
  have hgi := ints_get (l := natI (varsN g t)) (i := k) (n := i) (by simp [natI, hi])
  have hkl := (List.getElem?_eq_some_iff.1 hi).1
  refine t_g0 ?_
  refine t_c1 trivial (mk_vars_ok g t (by omega)) ?_
  refine t_g0 ?_
  refine t_c1 (j2 @natI_len (j2 @hpos @hpos3)) (next_ok b l p 3 (by decide) (by omega)) ?_
  refine t_g @hpos3 ?_
  refine t_c2 (j2 @natI_len (j2 @hk @hgi)) (next_ok b l (nextD l p 3).2 (varsN g t).length (by omega) (by omega)) (ref02_var_ok i) ?_
  repeat (first | refine W_seq ?_ | refine W_skip ?_ | refine W_block ?_ | refine W_inBlock ?_ | refine W_label ?_ | refine W_exit rfl ?_)
  first | refine W_retR hP hf hfn _ ([(b, deck l (nextD l (nextD l p 3).2 (varsN g t).length).2)]) (by first | (simp [go_sem, hP, hgl, hn, vT]; done) | (simp [go_sem, hP, hgl, hn, vT]; rfl)) (by simp [go_sem, hP, hgl, hn, vT]) (by simp) ?_ hR.2 | refine W_endR hP hf hfn _ ([(b, deck l (nextD l (nextD l p 3).2 (varsN g t).length).2)]) (by first | (simp [go_sem, hP, hgl, hn, vT]; done) | (simp [go_sem, hP, hgl, hn, vT]; rfl)) (by simp [go_sem, hP, hgl, hn, vT]) (by simp) ?_ hR.2
  rw [hR.1]
  refine ⟨?_, by simp [vT]⟩
  try simp [vT]
  try all_goals (simp [Ty.dv, Ty.cells_eq, Ty.kind_mk, Ty.args_mk, Tm.dv, Tm.cells_eq, Tm.kind_mk, Tm.index_mk, Tm.type_mk, Tm.args_mk, Val.dv, Val.cells_eq, Val.kind_mk, Val.num_mk, Val.list_mk, Val.args_mk, ints])
end
section
variable {gl : Globs}

theorem sc_var_ok (i : Int) : Con1 Tryz.prog gl 125 [dint i] [] (vT i).dv [] := by
 refine t_in Tryz.func125 ?_
 intro X hP hgl hf hfn hn hR hids hfit
 refine t_g0 ?_
 refine t_r ?_
 simp [go_sem, hP, hgl, hn, vT] <;> (try omega)
 all_goals exact t_f
theorem sc_nat_ok : Con1 Tryz.prog gl 77 [] [] natY.dv [] := by
 refine t_in Tryz.func77 ?_
 intro X hP hgl hf hfn hn hR hids hfit
 refine t_g0 ?_
 refine t_r ?_
 simp [go_sem, hP, hgl, hn, natY] <;> (try omega)
 all_goals exact t_f
theorem types_check_ok (t : Ty) (hc : t.count ≤ 2147483648) : Con1 Tryz.prog gl 50 [t.dv] [] (dint t.checkN) [] := by
 refine t_in Tryz.func50 ?_
 intro X hP hgl hf hfn hn hR hids hfit
 refine t_g0 ?_
 refine t_c1 trivial (checktype_ok t hc) ?_
 refine t_g0 ?_
 refine t_r ?_
 simp [go_sem, hP, hgl, hn] <;> (try omega)

theorem sc_nodes_ok (t : Tm) (hc : t.count ≤ 1073741824) : Con1 Tryz.prog gl 154 [t.dv] [] (dint t.count) [] := by
 induction t using Tm.ind with
 | h t ih =>
 refine t_in Tryz.func154 ?_
 intro X hP hgl hf hfn hn hR hids hfit
 have hl1 := Tm.fit_len (hfit t.dv (by simp))
 have hcv := Tm.count_eq t
 refine t_g0 ?_
 refine t_a ?_
 refine W_sub [] (by simp [go_sem]) (by simp [go_sem, Tm.count.counts] <;> omega) (by simp [go_sem]) (W_list (t.args) (fun done rest => [(.slot 9, .one (.v (dint done.length))), (.slot 8, .one (.v (dint t.args.length))), (.slot 7, .one (.v (.sl (t.args.map Tm.cells)))), (.slot 3, .one (.v (dint (1 + Tm.count.counts done : Nat)))), (.slot 2, .one (.v (dint 0)))]) ?_ ?_)
 ·intro done x rest hL hg0 hnext
  have hlt : done.length < t.args.length := by rw [hL]; simp
  have hxm := List.mem_of_getElem? hg0
  have hca := Tm.counts_append done (x :: rest)
  have hcs := Tm.counts_append done [x]
  rw [← hL] at hca
  simp only [Tm.count.counts] at hca hcs
  refine t_rg0 ?_
  refine t_yes ?_
  refine t_g @hg0 ?_
  refine t_c1 @hg0 (ih x hxm (by omega)) ?_
  refine t_gt (wr []) @hcs trivial hnext
 ·refine t_rg0 ?_
  refine t_no ?_
  refine t_g0 ?_
  refine t_r ?_
  simp [go_sem, hP, hgl, hn, hcv] <;> (try omega)

theorem sc_build_ok (k : Int) (s : Ty) (l : List Tm) (hc : (Tm.mk k 0 s l).count ≤ 1073741824) : Con1 Tryz.prog gl 124 [dint k, s.dv, .sl (l.map Tm.cells)] [] (.tup [(buildN k s l).1.dv, dint (buildN k s l).2]) [] := by
 refine t_in Tryz.func124 ?_
 intro X hP hgl hf hfn hn hR hids hfit
 have hfm := Tm.fold_mk k 0 s l
 refine t_g0 ?_
 refine t_c1 @hfm (sc_nodes_ok (Tm.mk k 0 s l) hc) ?_
 by_cases h : 4096 < (Tm.mk k 0 s l).count
 ·refine t_g @h ?_
  refine t_r ?_
  simp [go_sem, hP, hgl, hn, buildN, h, zeroTm] <;> (try omega)
  all_goals exact t_f
 ·refine t_g @h ?_
  refine t_r ?_
  simp [go_sem, hP, hgl, hn, buildN, h] <;> (try omega)
  all_goals exact t_f

theorem sc_lift_ok (t : Tm) (f b : Int) (hs : t.shape = true) (hi : t.idx 549755813888) (hb1 : 0 ≤ b) (hb2 : b ≤ 1048576) (hf0 : 0 ≤ f) (hfc : f + t.count ≤ 549755813888) : Con1 Tryz.prog gl 127 [t.dv, dint f, dint b] [] (t.upN f b).dv [] := by
 induction t using Tm.ind generalizing f with
 | h t ih =>
 have hct := Tm.count_eq t
 have hbd := bindI_le t.kind
 have hix := (Tm.idx_eq t _).1 hi
 obtain ⟨hlen0, -, -, -, hsa⟩ := Tm.shape_node hs
 refine t_in Tryz.func127 ?_
 intro X hP hgl hf hfn hn hR hids hfit
 have hlen := Tm.fit_len (hfit t.dv (by simp))
 have hfd := Tm.fold t
 by_cases h0 : b = 0
 ·rw [h0, up_zero] at hR
  refine t_g @h0 ?_
  refine t_r ?_
  simp [go_sem, hP, hgl, hn] <;> (try omega)
  all_goals exact t_f
 by_cases h1 : t.kind = 1
 ·have ha : t.args = [] := by rw [h1] at hlen0; simp [arityI] at hlen0; exact hlen0
  rw [Tm.upN_eq, ha] at hR
  by_cases h2 : f ≤ t.index
  ·refine t_g (j2 @h0 (j2 @h1 @h2)) ?_
   refine t_r ?_
   simp [go_sem, hP, hgl, hn, h1, h2, ha] <;> (try omega)
   all_goals (simp [Ty.dv, Ty.cells_eq, Ty.kind_mk, Ty.args_mk, Tm.dv, Tm.cells_eq, Tm.kind_mk, Tm.index_mk, Tm.type_mk, Tm.args_mk, Val.dv, Val.cells_eq, Val.kind_mk, Val.num_mk, Val.list_mk, Val.args_mk, ints])
  ·refine t_g (j2 @h0 (j2 @h1 @h2)) ?_
   refine t_r ?_
   simp [go_sem, hP, hgl, hn, h1, h2, ha] <;> (try omega)
   all_goals (simp [Ty.dv, Ty.cells_eq, Ty.kind_mk, Ty.args_mk, Tm.dv, Tm.cells_eq, Tm.kind_mk, Tm.index_mk, Tm.type_mk, Tm.args_mk, Val.dv, Val.cells_eq, Val.kind_mk, Val.num_mk, Val.list_mk, Val.args_mk, ints])
 rw [Tm.upN_eq, if_neg (fun h => h1 h.1)] at hR
 apply W_cutX [(.slot 36, .one (.v (dint 0))), (.slot 35, .one (.v (dint t.args.length))), (.slot 34, .one (.v (.sl (t.args.map Tm.cells)))), (.loc 7, .row ([.v (dint t.kind), .v (dint t.index), .v (dint t.type.kind), .v (.sl (t.type.args.map Ty.cells)), .own 0 []])), (.slot 7, .one (.loc 7 0)), (.slot 1, .one (.v (dint (f + bindI t.kind)))), (.slot 2, .one (.v (dint b))), (.loc 6, .row ([.v (dint 0), .v (dint 0), .v (dint 0), .own 0 [], .own 0 []])), (.slot 6, .one (.loc 6 0))]
 ·intro hrest
  by_cases h2 : t.kind = 2
  ·have hbi : bindI 2 = 1 := rfl
   refine t_g (j2 @h0 (j2 @h1 @h2)) ?_
   refine t_b ?_
   refine t_sub [] (j2 @hbi @h2) hrest
  ·have hbi : bindI t.kind = 0 := by simp [bindI, h2]
   refine t_g (j2 @h0 (j2 @h1 @h2)) ?_
   refine t_b ?_
   refine t_sub [] (j2 @hbi @h2) hrest
 ·refine t_a ?_
  refine t_sub [(1007, 0)] trivial (W_list (t.args) (fun done rest => [(.slot 36, .one (.v (dint done.length))), (.slot 35, .one (.v (dint t.args.length))), (.slot 34, .one (.v (.sl (t.args.map Tm.cells)))), (.loc 7, .row ([.v (dint t.kind), .v (dint t.index), .v (dint t.type.kind), .v (.sl (t.type.args.map Ty.cells)), .own 1007 (done.map fun x => (x.upN (f + bindI t.kind) b).cells)])), (.slot 7, .one (.loc 7 0)), (.tok 1007, .tk 5 done.length), (.slot 1, .one (.v (dint (f + bindI t.kind)))), (.slot 2, .one (.v (dint b))), (.loc 6, .row ([.v (dint 0), .v (dint 0), .v (dint 0), .own 0 [], .own 0 []])), (.slot 6, .one (.loc 6 0))]) ?_ ?_)
  ·intro done x rest hL hg0 hnext
   have hlt : done.length < t.args.length := by rw [hL]; simp
   have hxm := List.mem_of_getElem? hg0
   have hcs := Tm.count_mem hxm
   refine t_rg0 ?_
   refine t_yes ?_
   refine t_g @hg0 ?_
   refine t_c1 @hg0 (ih x hxm (f + bindI t.kind) (hsa x hxm) (hix.2 x hxm) (by omega) (by omega)) ?_
   refine t_gt (wr [(1007, 47)]) (Tm.cells_eq (x.upN (f + bindI t.kind) b)) trivial hnext
  ·refine t_rg0 ?_
   refine t_no ?_
   refine t_g0 ?_
   refine t_r ?_
   simp [go_sem, hP, hgl, hn] <;> (try omega)
   simp [Tm.dv, Tm.cells_eq, Tm.kind_mk, Tm.index_mk, Tm.type_mk, Tm.args_mk]

/-! the maker: an object that holds its error -/
abbrev mk1 (e : Int) : List DV := [dint e]

theorem node_count (e k : Int) (s : Ty) (l : List Tm) : (nodeE e k s l).1.count ≤ 4096 := by
 unfold nodeE buildN
 split
 ·split
  ·show 1 + 0 ≤ 4096; omega
  ·simp only; omega
 ·show 1 + 0 ≤ 4096; omega
end
section
/-
 Part V of the small logic: a slice literal that is one's own (it may be appended to).
-/
section
variable {X : Ctx} {s : St}

theorem step_litO {o : Oper} {t len E B : Nat} {parts : Array (Nat × Operand)} (ho : o.op = .buildSlice t len parts) {d : Nat} (hd : o.dst = some d) (hn : d < X.n) (hd0 : d ≠ 0) (hf : freshT d s = true) (he : elemZ X.P t = some (E, B)) {els : List (List DV)}
  (h : litEls X (get s) E 0 parts.toList = some els) (hc : els.length = len ∧ len * E ≤ 16777216 ∧ len ≤ BIG) : StepOK X s o (upd (upd (del s (.tok 0)) (.slot d) (.one (.own d els))) (.tok d) (.tk E len)) := by
 intro G a w R next Q hK
 obtain ⟨c, e, h1, h2, h3⟩ := buildSlice_run R he h hc.1 hc.2.1 hc.2.2
 refine opIn (by intro c e; rw [ho] at e; cases e) ?_
 simp only [execOp, ho, Sem.run_bind, h1, Result.andThen_ok, Sem.run_pure, upn_value, hd]
 have hτ0 : (setτ G (withData G.D w.heap.size 0 (len * E)) d (some ⟨w.heap.size, 0, none⟩, len)).τ 0 = (none, 0) := by simp only [setτ, if_neg (Ne.symm hd0)]; exact R.nil
 have T : Trans X G a w (setτ G (withData G.D w.heap.size 0 (len * E)) d (some ⟨w.heap.size, 0, none⟩, len)) a (w.alloc (.cells c e)) (fun _ => False) := trans_data R (hi := len * E) (by omega) rfl hτ0
 refine hK (setτ G (withData G.D w.heap.size 0 (len * E)) d (some ⟨w.heap.size, 0, none⟩, len)) _ _ (R.ownNew (t := 0) hn hf T rfl (fun k hk => by simp [setτ, hk]) (fun b h => h.elim) ?_ ?_ (fun b hb => ?_))
 ·simp only [RSV, setτ, if_true]
  rw [← hc.1] at h3 ⊢
  exact ⟨rfl, h3⟩
 ·simp only [TokAt, setτ, if_true]
  exact ⟨Nat.le_refl _, fun h => absurd h (Nat.lt_irrefl _)⟩
 ·simp [tokBlk, setτ] at hb

theorem vcK_litO {esc : List Nat} {ops : Array Oper} {l : List Oper} {K : St → Prop} {d : Tmp} {t len : Nat} {parts : Array (Nat × Operand)} {ty : TypeId} {pos : String} {af : Array Edge} {q : Option (Prop × St)} {E B : Nat} {els : List (List DV)}
  (he : elemZ X.P t = some (E, B)) (h : litEls X (get s) E 0 parts.toList = some els) (hc : els.length = len ∧ len * E ≤ 16777216 ∧ len ≤ BIG) (hn : d < X.n) (hd0 : d ≠ 0) (hf : freshT d s = true) (hq : q = none)
  (k : vc X esc ops l (upd (upd (del s (.tok 0)) (.slot d) (.one (.own d els))) (.tok d) (.tk E len)) K) :
  vcK X esc ops l K ⟨some d, .buildSlice t len parts, ty, pos, af, none⟩ s q := by
 subst hq
 exact VL_step rfl (step_litO (o := ⟨some d, .buildSlice t len parts, ty, pos, af, none⟩) rfl rfl hn hd0 hf he h hc) (vc_sound k)

end
end
section
/-
 Package typing, the small functions: types with their sizes.
-/
variable {gl : Globs}

/-- a type with its size, as cells -/
def szC (t : Ty) : List DV := [dint t.kind, .sl (t.args.map Ty.cells), dint (t.count : Int)]
theorem szC_eq (t : Ty) : szC t = [dint t.kind, .sl (t.args.map Ty.cells), dint (t.count : Int)] := rfl

theorem sameType_ok (a b : Ty) : Con1 Tryz.prog gl 137 [a.dv, b.dv] [] (dbool (a.same b)) [] := by
 induction a using Ty.ind generalizing b with
 | h a ih =>
 refine t_in Tryz.func137 ?_
 intro X hP hgl hf hfn hn hR hids hfit
 have hla := Ty.fit_len (hfit a.dv (by simp))
 have hlb := Ty.fit_len (hfit b.dv (by simp))
 by_cases hk : a.kind = b.kind
 ·by_cases hl : a.args.length = b.args.length
  ·refine t_g (j2 @hk @hl) ?_
   refine t_a ?_
   refine t_sub [] (j2 @hk @hl) (W_upto (a.args.length) (fun i => ∀ (j : Nat) (x y : Ty), j < i → a.args[j]? = some x → b.args[j]? = some y → x.same y = true) (fun i => [(.slot 24, .one (.v (dint i))), (.slot 23, .one (.v (dint a.args.length))), (.slot 22, .one (.v (.sl (a.args.map Ty.cells)))), (.slot 3, .one (.loc 3 0)), (.loc 3, .row ([.v (dint b.kind), .v (.sl (b.args.map Ty.cells))]))]) (by intro j x y h; omega) ?_ ?_)
   ·intro i hlt hI hnext
    obtain ⟨x, hx⟩ : ∃ x, a.args[i]? = some x := ⟨_, List.getElem?_eq_getElem hlt⟩
    obtain ⟨y, hy⟩ : ∃ y, b.args[i]? = some y := ⟨_, List.getElem?_eq_getElem (by omega)⟩
    refine t_rg0 ?_
    refine t_yes ?_
    refine t_g (j2 @hx @hy) ?_
    refine t_c1 (j2 @hx @hy) (ih x (List.mem_of_getElem? hx) y) ?_
    by_cases hs : x.same y = true
    ·refine t_gt (wr []) trivial @hs (hnext ?_)
     intro j x' y' hj hx' hy'
     by_cases hji : j = i
     ·subst hji; rw [hx] at hx'; rw [hy] at hy'; cases hx'; cases hy'; exact hs
     ·exact hI j x' y' (by omega) hx' hy'
    ·refine t_g @hs ?_
     refine t_r ?_
     simp [go_sem, hP, hgl, hn] <;> (try omega)
     refine Bool.eq_false_iff.2 ?_
     intro h
     rw [Ty.same_eq, Bool.and_eq_true, Ty.sames_iff] at h
     exact hs (h.2.2 i x y hx hy)
   ·intro hI
    refine t_rg0 ?_
    refine t_no ?_
    refine t_g0 ?_
    refine t_r ?_
    simp [go_sem, hP, hgl, hn] <;> (try omega)
    rw [Ty.same_eq, Bool.and_eq_true, Ty.sames_iff]
    exact ⟨by simp [hk], hl, fun i x y hx hy => hI i x y (List.getElem?_eq_some_iff.1 hx).1 hx hy⟩
  ·refine t_g (j2 @hk @hl) ?_
   refine t_r ?_
   simp [go_sem, hP, hgl, hn] <;> (try omega)
   refine Bool.eq_false_iff.2 ?_
   intro h
   rw [Ty.same_eq, Bool.and_eq_true, Ty.sames_iff] at h
   exact hl h.2.1
 ·refine t_g @hk ?_
  refine t_r ?_
  simp [go_sem, hP, hgl, hn] <;> (try omega)
  simp [Ty.same_eq, hk]

theorem ownType_ok (t : Ty) : Con1 Tryz.prog gl 74 [t.dv] [] t.dv [] := by
 induction t using Ty.ind with
 | h t ih =>
 refine t_in Tryz.func74 ?_
 intro X hP hgl hf hfn hn hR hids hfit
 have hlen := Ty.fit_len (hfit t.dv (by simp))
 refine t_g0 ?_
 refine t_a ?_
 refine t_sub [(1003, 0)] trivial (W_list (t.args) (fun done rest => [(.slot 12, .one (.v (dint done.length))), (.slot 11, .one (.v (dint t.args.length))), (.slot 10, .one (.v (.sl (t.args.map Ty.cells)))), (.slot 3, .one (.loc 3 0)), (.loc 3, .row ([.v (dint t.kind), .own 1003 (done.map Ty.cells)])), (.tok 1003, .tk 2 done.length), (.slot 2, .one (.loc 2 0)), (.loc 2, .row ([.v (dint 0), .own 0 []]))]) ?_ ?_)
 ·intro done x rest hL hg hnext
  have hlt : done.length < t.args.length := by rw [hL]; simp
  have hfo := Ty.fold x
  refine t_rg0 ?_
  refine t_yes ?_
  refine t_rg @hg ?_
  refine t_a ?_
  first | refine W_reg [] fun K hK => ?_ | refine W_regd (by rw [hP]; exact mixed) [] fun K hK => ?_
  refine t_s0 ?_
  refine t_c trivial (ih x (List.mem_of_getElem? hg)) ?_
  refine t_e ?_
  clear hK K
  refine t_rg0 ?_
  refine t_b ?_
  refine t_sub [(1003, 21)] trivial hnext
 ·refine t_rg0 ?_
  refine t_no ?_
  refine t_g0 ?_
  refine t_r ?_
  simp [go_sem, hP, hgl, hn] <;> (try omega)
  all_goals exact t_f

theorem ty_of_ok (t : Ty) (ht : t.ok) : Con1 Tryz.prog gl 120 [t.dv] [] (.agg (szC t)) [] := by
 refine t_in Tryz.func120 ?_
 intro X hP hgl hf hfn hn hR hids hfit
 have hc := ht.2
 have h0 := (Ty.checkN_iff t).2 ht
 have hfo := Ty.fold t
 refine t_g0 ?_
 refine t_c1 (j2 @hfo @h0) (checktype_ok t (by omega)) ?_
 refine t_g @h0 ?_
 refine t_r ?_
 simp [go_sem, hP, hgl, hn, szC_eq t] <;> (try omega)

theorem ty_part_ok (t x : Ty) (i : Nat) (hx : t.args[i]? = some x) (ho : x.ok) : Con1 Tryz.prog gl 150 [.agg (szC t), dint (i : Int)] [] (.agg (szC x)) [] := by
 refine t_in Tryz.func150 ?_
 intro X hP hgl hf hfn hn hR hids hfit
 have hsz := szC_eq t
 have hfo := Ty.fold x
 refine t_rg @hsz ?_
 refine t_c1 (j2 @hx (j2 @hfo (szC_eq x))) (ty_of_ok x ho) ?_
 refine t_r ?_
 simp [go_sem, hP, hgl, hn, szC_eq x] <;> (try omega)

theorem ty_is_ok (t : Ty) (k : Int) : Con1 Tryz.prog gl 149 [.agg (szC t), dint k] [] (dbool (decide (t.kind = k))) [] := by
 refine t_in Tryz.func149 ?_
 intro X hP hgl hf hfn hn hR hids hfit
 have hsz := szC_eq t
 refine t_g @hsz ?_
 refine t_r ?_
 simp [go_sem, hP, hgl, hn] <;> (try omega)

theorem ty_same_ok (a b : Ty) : Con1 Tryz.prog gl 151 [.agg (szC a), .agg (szC b)] [] (dbool (a.same b)) [] := by
 refine t_in Tryz.func151 ?_
 intro X hP hgl hf hfn hn hR hids hfit
 have ha := szC_eq a
 have hb := szC_eq b
 have fa := Ty.fold a
 have fb := Ty.fold b
 by_cases h : a.count = b.count
 ·refine t_rg (j2 @ha @hb) ?_
  refine t_c1 (j2 @ha (j2 @hb (j2 @h (j2 @fa @fb)))) (sameType_ok a b) ?_
  refine t_r ?_
  simp [go_sem, hP, hgl, hn] <;> (try omega)
 ·have hs : a.same b = false := by
   refine Bool.eq_false_iff.2 fun e => h ?_
   rw [(Ty.same_iff a b).1 e]
  have hi : ¬ (a.count : Int) = (b.count : Int) := by omega
  refine t_g (j2 @ha (j2 @hb @hi)) ?_
  refine t_r ?_
  simp [go_sem, hP, hgl, hn, hs] <;> (try omega)

theorem ty_join_ok (k : Int) (a b : Ty) (hc : 1 + a.count + b.count ≤ 64) : Con1 Tryz.prog gl 121 [dint k, .agg (szC a), .agg (szC b)] [] (.tup [.agg (szC (Ty.mk k [a, b])), dint 0]) [] := by
 refine t_in Tryz.func121 ?_
 intro X hP hgl hf hfn hn hR hids hfit
 have ha := szC_eq a
 have hb := szC_eq b
 have hc1 : (1 : Int) + a.count + b.count ≤ 64 := by omega
 have hr : szC (Ty.mk k [a, b]) = [dint k, .sl [a.cells, b.cells], dint (1 + (a.count : Int) + (b.count : Int))] := by
  rw [szC_eq, count_two]
  simp [Ty.kind, Ty.args]
  omega
 refine t_g (j2 @ha (j2 @hb @hc1)) ?_
 refine t_r ?_
 simp [go_sem, hP, hgl, hn, hr, Ty.cells_eq a, Ty.cells_eq b] <;> (try omega)

theorem ty_plain_ok (k : Int) : Con1 Tryz.prog gl 148 [dint k] [] (.sl (ints (if k = 4 then [1] else if k = 5 then [1, 1] else if k = 7 then [2] else if k = 8 then [2, 1, 2] else if k = 13 then [5] else []))) [] := by
 refine t_in Tryz.func148 ?_
 intro X hP hgl hf hfn hn hR hids hfit
 by_cases hs0 : k = 4
 ·refine t_g @hs0 ?_
  refine t_r ?_
  simp [go_sem, hP, hgl, hn, ints, hs0] <;> (try omega)
 by_cases hs1 : k = 5
 ·refine t_g @hs1 ?_
  refine t_r ?_
  simp [go_sem, hP, hgl, hn, ints, hs1] <;> (try omega)
 by_cases hs2 : k = 7
 ·refine t_g @hs2 ?_
  refine t_r ?_
  simp [go_sem, hP, hgl, hn, ints, hs2] <;> (try omega)
 by_cases hs3 : k = 8
 ·refine t_g @hs3 ?_
  refine t_r ?_
  simp [go_sem, hP, hgl, hn, ints, hs3] <;> (try omega)
 by_cases hs4 : k = 13
 ·refine t_g @hs4 ?_
  refine t_r ?_
  simp [go_sem, hP, hgl, hn, ints, hs4] <;> (try omega)
 refine t_g (j2 @hs0 (j2 @hs1 (j2 @hs2 (j2 @hs3 @hs4)))) ?_
 refine t_r ?_
 simp [go_sem, hP, hgl, hn, ints, hs0, hs1, hs2, hs3, hs4] <;> (try omega)

theorem nat_t_ok : Con1 Tryz.prog gl 170 [] [] (Ty.mk 1 []).dv [] := by
 refine t_in Tryz.func170 ?_
 intro X hP hgl hf hfn hn hR hids hfit
 refine t_g0 ?_
 refine t_r ?_
 simp [go_sem, hP, hgl, hn] <;> (try omega)
 all_goals exact t_f
theorem list_t_ok : Con1 Tryz.prog gl 171 [] [] (Ty.mk 2 []).dv [] := by
 refine t_in Tryz.func171 ?_
 intro X hP hgl hf hfn hn hR hids hfit
 refine t_g0 ?_
 refine t_r ?_
 simp [go_sem, hP, hgl, hn] <;> (try omega)
 all_goals exact t_f

/-- the type of a function of some arguments -/
def funT (r : Ty) (l : List Ty) : Ty := l.foldr (fun a r => Ty.mk 4 [a, r]) r

theorem fun_t_ok (r : Ty) (l : List Ty) : Con1 Tryz.prog gl 169 [r.dv, .sl (l.map Ty.cells)] [] (funT r l).dv [] := by
 refine t_in Tryz.func169 ?_
 intro X hP hgl hf hfn hn hR hids hfit
 have hll := sl_len (hfit (.sl (l.map Ty.cells)) (by simp))
 simp at hll
 have h0 : l.drop l.length = [] := List.drop_length
 refine t_g0 ?_
 refine t_a ?_
 refine W_sub [] (by simp [go_sem]) (by simp [go_sem, h0, funT, List.foldr_nil] <;> omega) (by simp [go_sem]) (W_rounds (fun k : Nat => k ≤ l.length) (fun k : Nat => [(.slot 1, .one (.v (.sl (l.map Ty.cells)))), (.slot 2, .one (.loc 2 0)), (.loc 2, .row ([.v (dint (funT r (l.drop k)).kind), .v (.sl ((funT r (l.drop k)).args.map Ty.cells))])), (.slot 4, .one (.loc 4 0)), (.loc 4, .row ([.v (dint 0), .own 0 []])), (.slot 5, .one (.v (dint ((k : Int) - 1))))]) (fun k : Nat => k) l.length (Nat.le_refl _) ?_)
 intro k hk ih
 cases k with
 | zero =>
  refine t_rg0 ?_
  refine t_no ?_
  refine t_g0 ?_
  refine t_r ?_
  simp [go_sem, hP, hgl, hn, Ty.cells_eq] <;> (try omega)
 | succ k =>
  have hlt : k < l.length := by omega
  obtain ⟨a, ha⟩ : ∃ a, l[k]? = some a := ⟨_, List.getElem?_eq_getElem hlt⟩
  have hd : l.drop k = a :: l.drop (k + 1) := by
   rw [List.drop_eq_getElem_cons hlt]
   rw [List.getElem?_eq_getElem hlt, Option.some.injEq] at ha
   rw [ha]
  have hfd : funT r (l.drop k) = Ty.mk 4 [a, funT r (l.drop (k + 1))] := by rw [hd]; rfl
  have hk1 : ((k + 1 : Nat) : Int) - 1 = (k : Int) := by omega
  have hle : (k : Int) ≤ 2147483648 := by omega
  have hcl := Ty.cells_eq (funT r (l.drop (k + 1)))
  have hih := ih k (by omega) (by omega)
  rw [hfd] at hih
  simp only [Ty.kind, Ty.args] at hih
  rw [hk1]
  refine t_rg0 ?_
  refine t_yes ?_
  refine t_rg @ha ?_
  refine t_rg0 ?_
  refine t_b ?_
  refine t_sub [] (Ty.cells_eq (funT r (l.drop (k + 1)))) hih
end
end Go.Proofs.YtoamlfmdkbmmpaaGreatDoor.Lift

