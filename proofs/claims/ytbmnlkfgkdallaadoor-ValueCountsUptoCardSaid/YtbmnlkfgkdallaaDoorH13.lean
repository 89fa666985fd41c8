import Derived.Test.YtbmnlkfgkdallaaDoorP5
import Derived.Test.YtbmnlkfgkdallaaDoorL4
namespace Go.Proofs.YtbmnlkfgkdallaaDoor.Lift
set_option linter.unusedSimpArgs false
set_option linter.unusedVariables false
set_option linter.unnecessarySimpa false
open Go
variable {gl : Globs}

theorem Tm.nextN_root (t : Tm) (room : Int) (h : t.rootN = true) : t.nextN room = if room < t.growthN then (zeroTm, true, false) else (t.reducedN, true, true) := by
  cases t; rw [nextN, h]
theorem Tm.nextN_args (t : Tm) (room : Int) (h : t.rootN = false) : t.nextN room = match nextN.nexts t.args room with
    | (l, true, f) => (.mk t.kind t.index t.type l, true, f)
    | (_, false, _) => (t, false, true) := by
  cases t; rw [nextN, h]; rfl
theorem Tm.nexts_found {room : Int} {x y : Tm} {f : Bool} (hx : x.nextN room = (y, true, f)) (rest : List Tm) : ∀ done : List Tm, (nextN.nexts done room).2.1 = false → nextN.nexts (done ++ x :: rest) room = (done ++ y :: rest, true, f)
  | [], _ => by simp [nextN.nexts, hx]
  | a :: r, h => by
    simp only [nextN.nexts] at h
    simp only [List.cons_append, nextN.nexts]
    rcases ha : a.nextN room with ⟨z, b, g⟩
    rw [ha] at h
    cases b with
    | true => simp at h
    | false =>
      simp only at h ⊢
      have hr : (nextN.nexts r room).2.1 = false := by
        rcases hq : nextN.nexts r room with ⟨u, v, w⟩
        rw [hq] at h
        exact h
      rw [nexts_found hx rest r hr]
theorem Tm.nexts_none {room : Int} {x : Tm} (hx : (x.nextN room).2.1 = false) : ∀ done : List Tm, (nextN.nexts done room).2.1 = false → (nextN.nexts (done ++ [x]) room).2.1 = false
  | [], _ => by
    rcases hq : x.nextN room with ⟨u, v, w⟩
    rw [hq] at hx
    simp only at hx
    subst hx
    simp [nextN.nexts, hq]
  | a :: r, h => by
    simp only [nextN.nexts] at h
    simp only [List.cons_append, nextN.nexts]
    rcases ha : a.nextN room with ⟨z, b, g⟩
    rw [ha] at h
    cases b with
    | true => simp at h
    | false =>
      simp only at h ⊢
      have hr : (nextN.nexts r room).2.1 = false := by
        rcases hq : nextN.nexts r room with ⟨u, v, w⟩
        rw [hq] at h
        exact h
      have := nexts_none hx r hr
      rcases hq : nextN.nexts (r ++ [x]) room with ⟨u, v, w⟩
      rw [hq] at this
      exact this

theorem frzSV_prim (b : Nat) (ys : List (List DV)) (k : IntKind) (n : Int) : frzSV b ys (.v (.prim (.int k n))) = .v (.prim (.int k n)) := rfl
theorem frzSV_dint (b : Nat) (ys : List (List DV)) (n : Int) : frzSV b ys (.v (dint n)) = .v (dint n) := rfl
theorem frzSV_bool (b : Nat) (ys : List (List DV)) (n : Bool) : frzSV b ys (.v (.prim (.bool n))) = .v (.prim (.bool n)) := rfl
theorem frzSV_dbool (b : Nat) (ys : List (List DV)) (n : Bool) : frzSV b ys (.v (dbool n)) = .v (dbool n) := rfl
theorem frzSV_sl (b : Nat) (ys els : List (List DV)) : frzSV b ys (.v (.sl els)) = .v (.sl els) := rfl
theorem frzSV_agg (b : Nat) (ys : List (List DV)) (cs : List DV) : frzSV b ys (.v (.agg cs)) = .v (.agg cs) := rfl
theorem frzSV_tup (b : Nat) (ys : List (List DV)) (cs : List DV) : frzSV b ys (.v (.tup cs)) = .v (.tup cs) := rfl
theorem frzSV_tm (b : Nat) (ys : List (List DV)) (t : Tm) : frzSV b ys (.v t.dv) = .v t.dv := rfl
theorem frzSV_loc (b : Nat) (ys : List (List DV)) (k o : Nat) : frzSV b ys (.loc k o) = .loc k o := rfl
theorem frzSV_dp (b : Nat) (ys els : List (List DV)) (k o : Nat) : frzSV b ys (.dp els k o) = .dp els k o := rfl
theorem frzSV_own (b : Nat) (ys els : List (List DV)) (k : Nat) : frzSV b ys (.own k els) = .own k els := rfl
theorem frzSV_ptr (b : Nat) (ys : List (List DV)) (p : Option Addr) : frzSV b ys (.v (.prim (.pointer p))) = .v (.prim (.pointer p)) := rfl
theorem frzSV_it {b : Nat} {ys : List (List DV)} {n cap : Nat} (h1 : n = ys.length) (h2 : n ≤ cap) : frzSV b ys (.v (.prim (.slice (some ⟨b, 0, none⟩) n cap))) = .v (.sl ys) := by
  show (if b = b ∧ n = ys.length ∧ n ≤ cap then _ else _) = _
  rw [if_pos ⟨rfl, h1, h2⟩]
theorem arrRow_len {E : Nat} {ys : List (List DV)} (hE : ∀ e ∈ ys, e.length = E) : (arrRow ys).length = ys.length * E := by simp only [arrRow, List.length_map]; exact flatten_len hE

set_option maxRecDepth 100000 in
theorem next4_ok (t : Tm) (room : Int) (ht : t.shape = true) (hi : t.idx 549755813888) (hc : t.count ≤ 1048576) : Con1 Tryd.prog gl 87 [t.dv, dint room] [] (.tup [(t.nextN room).1.dv, dbool (t.nextN room).2.1, dbool (t.nextN room).2.2]) [] := by
  induction t using Tm.ind with
  | h t ih =>
  have hs := (Tm.shape_node ht).2.2.2.2
  have hi2 := ((Tm.idx_eq t _).1 hi).2
  refine t_in Tryd.func87 ?_
  intro X hP hgl hf hfn hn hR hids hfit
  have hlen := Tm.fit_len (hfit t.dv (by simp))
  refine t_g0 ?_
  refine t_c1 trivial (root_ok t ht) ?_
  by_cases hr0 : t.rootN = true
  · refine t_g @hr0 ?_
    refine t_c1 trivial (growth_ok t ht hr0 hc) ?_
    by_cases hg : room < t.growthN
    · refine t_g @hg ?_
      refine t_r ?_
      simp [go_sem, hP, hgl, hn, Tm.nextN_root t room hr0, hg, zeroTm] <;> (try omega)
      all_goals exact t_f
    · refine t_g @hg ?_
      refine t_c1 trivial (reduced_ok t ht hr0 hi hc) ?_
      refine t_r ?_
      simp [go_sem, hP, hgl, hn, Tm.nextN_root t room hr0, hg] <;> (try omega)
      all_goals exact t_f
  have hr : t.rootN = false := by simpa using hr0
  have hct := Tm.count_eq t
  refine t_g @hr ?_
  refine t_a ?_
  refine t_sub [] trivial (W_listI (t.args) (fun done => (Tm.nextN.nexts done room).2.1 = false) (fun done rest => [(.slot 1, .one (.v (dint room))), (.slot 25, .one (.v (dint done.length))), (.slot 24, .one (.v (dint t.args.length))), (.slot 23, .one (.v (.sl (t.args.map Tm.cells)))), (.loc 4, .row ([.v (dint 0), .v (dint 0), .v (dint 0), .own 0 [], .own 0 []])), (.slot 4, .one (.loc 4 0)), (.loc 2, .row ([.v (dint t.kind), .v (dint t.index), .v (dint t.type.kind), .v (.sl (t.type.args.map Ty.cells)), .v (.sl (t.args.map Tm.cells))])), (.slot 2, .one (.loc 2 0))]) (rfl) ?_ ?_)
  · intro done x rest hL hg0 hI hnext
    have hlt : done.length < t.args.length := by rw [hL]; simp
    have hxm := List.mem_of_getElem? hg0
    have hcs := Tm.count_mem hxm
    refine t_rg0 ?_
    refine t_yes ?_
    refine t_g @hg0 ?_
    refine t_c1 @hg0 (ih x hxm (hs x hxm) (hi2 x hxm) (by omega)) ?_
    by_cases hf0 : (x.nextN room).2.1 = true
    · refine t_rg @hf0 ?_
      refine t_n @hf0 ?_
      refine t_rg0 ?_
      repeat (first | refine W_seq ?_ | refine W_skip ?_ | refine W_block ?_ | refine W_inBlock ?_ | refine W_label ?_ | refine W_exit rfl ?_)
      refine W_reg [42] fun K hK => ?_
      simp [go_sem, hP, hgl, hn]
      refine vcK_appendX (E := 5) (ys := t.args.map Tm.cells) (by simp [go_sem]) (by simp [go_sem]) (by simp [go_sem, hP]; rfl) (by decide) (by simp [go_sem, hP]) (by rw [hn]; exact Nat.le_of_ble_eq_true rfl) (by simp [Tm.length_cells]) (by simp; omega) (by simp [BIG]; omega) (by rfl) ?_
      intro b cap hcap hnb hw0
      have hal : (arrRow (t.args.map Tm.cells)).length = t.args.length * 5 := by rw [arrRow_len (E := 5) (by simp [Tm.length_cells])]; simp
      simp [go_sem, hP, hgl, hn]
      refine t_e ?_
      clear hK K
      refine t_a ?_
      first | refine W_reg [] fun K hK => ?_ | refine W_regd (by rw [hP]; exact mixed) [] fun K hK => ?_
      refine t_s @hal ?_
      have hdl : ((done.length : Nat) : Int) < (t.args.length : Nat) := by omega
      refine vcK_indexX (E := 5) (k := .i64) (n := ((done.length : Nat) : Int)) (len := t.args.length) (b := b) (cap := cap) (by simp [go_sem]) (by simp [go_sem, dint]) (by simp [go_sem, hP]) (by omega) (by omega) (by rw [hn]; exact Nat.le_of_ble_eq_true rfl) (by first | rfl | simp [go_sem, hP]) ?_
      simp [go_sem, hP, hgl, hn, hal]
      refine t_e ?_
      clear hK K
      have hput := put_arr (ys := t.args.map Tm.cells) (E := 5) (by simp [Tm.length_cells]) (i := done.length) (by simpa using hlt) (z := (x.nextN room).1.cells) (Tm.length_cells _)
      have hz : (x.nextN room).1.cells.map SV.v = [SV.v (dint (x.nextN room).1.kind), SV.v (dint (x.nextN room).1.index), SV.v (dint (x.nextN room).1.type.kind), SV.v (.sl ((x.nextN room).1.type.args.map Ty.cells)), SV.v (.sl ((x.nextN room).1.args.map Tm.cells))] := by rw [Tm.cells_eq]; rfl
      rw [hz] at hput
      obtain ⟨L', hL'⟩ : ∃ L', L' = done ++ (x.nextN room).1 :: rest := ⟨_, rfl⟩
      have hset : (t.args.map Tm.cells).set done.length (x.nextN room).1.cells = L'.map Tm.cells := by rw [hL', hL]; simp
      rw [hput, hset]
      have hys : t.args.length = (L'.map Tm.cells).length := by rw [hL', hL]; simp
      have hll : L'.length ≤ 2147483648 := by
        have := congrArg List.length hL
        rw [hL']; simp at this ⊢; omega
      have hcap' : t.args.length ≤ cap := by simpa using hcap
      have hx3 : x.nextN room = ((x.nextN room).1, true, (x.nextN room).2.2) := by rw [← hf0]
      have hN : t.nextN room = (Tm.mk t.kind t.index t.type L', true, (x.nextN room).2.2) := by
        rw [Tm.nextN_args t room hr, hL, Tm.nexts_found hx3 rest done hI, hL']
      refine W_freeze (b := b) (E := 5) (ys := L'.map Tm.cells) (by simp [go_sem]) (fun e he => ?_) (by simp [BIG]; omega) hw0 ?_
      · obtain ⟨q, _, rfl⟩ := List.mem_map.1 he; exact Tm.length_cells q
      simp [go_sem, frz, frzLV, frzRow, frzSV_prim, frzSV_dint, frzSV_bool, frzSV_dbool, frzSV_sl, frzSV_agg, frzSV_tup, frzSV_tm, frzSV_loc, frzSV_dp, frzSV_own, frzSV_ptr, frzSV_it hys hcap']
      refine t_g0 ?_
      refine t_r ?_
      simp [go_sem, hP, hgl, hn, hN] <;> (try omega)
      all_goals exact t_f
    · have hf1 : (x.nextN room).2.1 = false := by simpa using hf0
      refine t_gt (wr []) trivial @hf1 (hnext (Tm.nexts_none hf1 done hI))
  · intro hI
    have hN : t.nextN room = (t, false, true) := by
      rw [Tm.nextN_args t room hr]
      rcases hq : Tm.nextN.nexts t.args room with ⟨u, v, w⟩
      rw [hq] at hI
      simp only at hI
      subst hI
      rfl
    refine t_rg0 ?_
    refine t_no ?_
    refine t_g0 ?_
    refine t_r ?_
    simp [go_sem, hP, hgl, hn, hN] <;> (try omega)
    all_goals exact t_f
end Go.Proofs.YtbmnlkfgkdallaaDoor.Lift
