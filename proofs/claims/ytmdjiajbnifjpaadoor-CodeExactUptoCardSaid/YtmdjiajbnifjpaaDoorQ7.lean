import Derived.Test.YtmdjiajbnifjpaaDoorQ6
import Derived.Test.YtmdjiajbnifjpaaDoorRows
import Derived.ProofKit
import Derived.OpenShut
import Derived.JoinedCond
import Derived.ChangeSlices
import Derived.ChangeArms
import Derived.ChangeOld
import Derived.ChangeSame
import Derived.Lib.LaidTab
/-
  The bridge between the contracts of the small logic and the statements: what is read as data (DataW) is data (DV); what is read before a call reads so behind it.
-/
namespace Go.Proofs.YtmdjiajbnifjpaaDoor.Lift
set_option linter.unusedSimpArgs false
set_option linter.unusedVariables false
set_option linter.unnecessarySimpa false
open Go Go.ChangeShapes Go.WideShapes Go.ChangeAt Go.RowKit

/-- plain types: numbers, truth values, slices and structs of such -/
def tiled (P : Program) : List Field → Nat → Nat → Bool
  | [], o, n => o == n
  | f :: r, o, n => f.offset == o && tiled P r (o + P.cellsOf f.type) n

def tyOK (P : Program) (TS : List TypeId) (t : TypeId) : Bool :=
  match P.underlying t with
  | some .bool => P.cellsOf t == 1
  | some (.int _) => P.cellsOf t == 1
  | some (.slice e) => P.cellsOf t == 1 && decide (0 < P.cellsOf e) && TS.contains e
  | some (.struct fs) => tiled P fs.toList 0 (P.cellsOf t) && fs.toList.all fun f => TS.contains f.type
  | _ => false
def tysOK (P : Program) (TS : List TypeId) : Bool := TS.all (tyOK P TS)

mutual
/-- the cells of what is read -/
def cellsR {H : Type} : DataW H → List DV
  | .lit (.bool b) => [dbool b]
  | .lit (.int k n) => [.prim (.int k n)]
  | .nil => [.sl []]
  | .slice elems _ => [.sl (cellsRs elems)]
  | .agg parts => cellsRa parts
  | _ => []
def cellsRs {H : Type} : List (DataW H) → List (List DV)
  | [] => []
  | d :: r => cellsR d :: cellsRs r
def cellsRa {H : Type} : List (DataW H) → List DV
  | [] => []
  | d :: r => cellsR d ++ cellsRa r
end
theorem cellsRs_map {H : Type} (l : List (DataW H)) : cellsRs l = l.map cellsR := by
  induction l with
  | nil => rfl
  | cons a r ih => simp [cellsRs, ih]
theorem cellsRa_flat {H : Type} (l : List (DataW H)) : cellsRa l = l.flatMap cellsR := by
  induction l with
  | nil => rfl
  | cons a r ih => simp [cellsRa, ih]

/-- all cells that are there -/
def Old (w : World) : Nat → Nat → Prop := fun b o => ∃ v, w.cell? ⟨b, o, none⟩ = some v

/-- cells that read as such data -/
def CellsOK (w : World) (ds : List DV) (cs : List Value) : Prop :=
  ds.length = cs.length ∧ ∀ (i : Nat) (c : DV) (v : Value), ds[i]? = some c → cs[i]? = some v → c.isCell = true ∧ RV (Old w) w c v

theorem CellsOK.nil (w : World) : CellsOK w [] [] := ⟨rfl, by simp⟩
theorem CellsOK.one {w : World} {c : DV} {v : Value} (h1 : c.isCell = true) (h2 : RV (Old w) w c v) : CellsOK w [c] [v] := by
  refine ⟨rfl, fun i x u hx hu => ?_⟩
  cases i with
  | zero => simp at hx hu; subst hx hu; exact ⟨h1, h2⟩
  | succ i => simp at hx
theorem CellsOK.append {w : World} {ds es : List DV} {cs us : List Value} (h1 : CellsOK w ds cs) (h2 : CellsOK w es us) : CellsOK w (ds ++ es) (cs ++ us) := by
  refine ⟨by simp [h1.1, h2.1], fun i c v hc hv => ?_⟩
  by_cases hi : i < ds.length
  · rw [List.getElem?_append_left hi] at hc
    rw [List.getElem?_append_left (by rw [← h1.1]; exact hi)] at hv
    exact h1.2 i c v hc hv
  · rw [List.getElem?_append_right (by omega)] at hc
    rw [List.getElem?_append_right (by rw [← h1.1]; omega), ← h1.1] at hv
    exact h2.2 _ c v hc hv

theorem bulk_mem {H : Type} {d : DataW H} {l : List (DataW H)} (h : d ∈ l) : Rows.uptoBulk d ≤ Rows.uptoBulkAll l := by
  induction l with
  | nil => cases h
  | cons x r ih =>
    simp only [Rows.uptoBulkAll]
    cases List.mem_cons.1 h with
    | inl e => subst e; omega
    | inr e => have := ih e; omega
theorem bulk_one {H : Type} (d : DataW H) : 1 ≤ Rows.uptoBulk d := by
  cases d with
  | lit l => cases l <;> simp [Rows.uptoBulk]
  | _ => simp [Rows.uptoBulk]
theorem bulk_len {H : Type} (l : List (DataW H)) : l.length ≤ Rows.uptoBulkAll l := by
  induction l with
  | nil => simp [Rows.uptoBulkAll]
  | cons x r ih => have := bulk_one x; simp only [Rows.uptoBulkAll, List.length_cons]; omega

section
variable {H : Type} {enc : TypeId × Value → H} {P : Program} {w w' : World}

theorem tysOK_at {TS : List TypeId} (h : tysOK P TS = true) {t : TypeId} (ht : t ∈ TS) : tyOK P TS t = true := List.all_eq_true.1 h t ht

/-- WHAT IS READ IS DATA -/
theorem trod_cells {TS : List TypeId} (hT : tysOK P TS = true) : ∀ (fuel : Nat) (t : TypeId), t ∈ TS → ∀ (cs : List Value) (x : DataW H × List MemPlace), DataW.trod enc P w 0 (fun _ => true) true fuel t cs = some x → Rows.uptoBulk x.1 ≤ 1048576 →
    cs.length = P.cellsOf t ∧ CellsOK w (cellsR x.1) cs := by
  intro fuel
  induction fuel with
  | zero => intro t _ cs x h; simp [DataW.trod] at h
  | succ fuel ih =>
    intro t ht cs x h hb
    have hk := tysOK_at hT ht
    unfold tyOK at hk
    split at hk
    · rename_i hu
      obtain ⟨b, rfl, rfl⟩ := DataW.trod_bool hu h
      exact ⟨by simpa using (beq_iff_eq.1 hk).symm, .one rfl (.prim _ trivial)⟩
    · rename_i k hu
      obtain ⟨n, rfl, rfl, hw⟩ := DataW.trod_int hu h
      exact ⟨by simpa using (beq_iff_eq.1 hk).symm, .one rfl (.prim _ (by simpa [Lit.wf, primOK] using hw))⟩
    · rename_i e hu
      simp only [Bool.and_eq_true, beq_iff_eq, decide_eq_true_eq, List.contains_iff_mem] at hk
      obtain ⟨⟨hk1, hk2⟩, hk3⟩ := hk
      rcases DataW.trod_slice hu h with ⟨rfl, rfl⟩ | ⟨a, len, cap, elems, rest, n, hn, rfl, rfl, -, hl, hm, hlen, hel, hsp, -⟩
      · exact ⟨by simp [hk1], .one rfl (.sl0 _ _)⟩
      · obtain rfl : fuel = n := by omega
        refine ⟨by simp [hk1], .one rfl ?_⟩
        simp only [cellsR, cellsRs_map, List.map_map]
        simp only [Rows.uptoBulk] at hb
        have hbl := bulk_len (elems.map (·.1))
        simp only [List.length_map] at hbl
        have hbe : ∀ y ∈ elems, Rows.uptoBulk y.1 ≤ 1048576 := fun y hy => by
          have := bulk_mem (List.mem_map_of_mem (f := (·.1)) hy)
          omega
        have each : ∀ i y, elems[i]? = some y → ∃ us, w.cells? 0 (a.add (i * P.cellsOf e)) (P.cellsOf e) = some us ∧ us.length = P.cellsOf e ∧ CellsOK w (cellsR y.1) us := by
          intro i y hy
          have hi : i < len := by rw [← hlen]; exact (List.getElem?_eq_some_iff.1 hy).1
          have h1 := hel i hi
          rw [hy, Option.bind_eq_some_iff] at h1
          obtain ⟨us, h2, h3⟩ := h1
          exact ⟨us, h2, ih e hk3 us y h3 (hbe y (List.mem_of_getElem? hy))⟩
        cases hq : elems with
        | nil =>
          rw [hq] at hlen
          simp only [List.length_nil] at hlen
          subst hlen
          exact .sl0 _ _
        | cons y0 r0 =>
          have hpos : 0 < len := by rw [← hlen, hq]; simp
          rw [← hq]
          have hcell : ∀ i y, elems[i]? = some y → ∀ j, j < P.cellsOf e → ∃ us, us.length = P.cellsOf e ∧ CellsOK w (cellsR y.1) us ∧ w.cell? ((a.add (i * P.cellsOf e)).add j) = us[j]? := by
            intro i y hy j hj
            obtain ⟨us, h1, h2, h3⟩ := each i y hy
            exact ⟨us, h2, h3, (World.cells?_some h1).2.2 j hj⟩
          have hspot : a.spot = none := by
            obtain ⟨us, h1, -, h3⟩ := hcell 0 y0 (by rw [hq]; rfl) 0 hk2
            rw [Nat.zero_mul] at h3
            cases hs : a.spot with
            | none => rfl
            | some q =>
              have hlt : 0 < us.length := by omega
              rw [List.getElem?_eq_getElem hlt] at h3
              have : (a.add 0).add 0 = a := by simp [Addr.add]
              rw [this] at h3
              unfold World.cell? at h3
              simp [hs] at h3
              split at h3 <;> cases h3
          obtain ⟨ab, ao, asp⟩ := a
          simp only at hspot
          subst hspot
          have hadd : ∀ i j, ((⟨ab, ao, none⟩ : Addr).add (i * P.cellsOf e)).add j = ⟨ab, ao + (i * P.cellsOf e + j), none⟩ := by
            intro i j
            rw [addr_add, addr_add, Nat.add_assoc]
          have hval : ∀ i j, i < elems.length → j < P.cellsOf e → w.cell? ⟨ab, ao + (i * P.cellsOf e + j), none⟩ = some ((w.cell? ⟨ab, ao + (i * P.cellsOf e + j), none⟩).getD undef) := by
            intro i j hi hj
            obtain ⟨us, h1, -, h3⟩ := hcell i _ (List.getElem?_eq_getElem hi) j hj
            rw [hadd] at h3
            rw [h3, List.getElem?_eq_getElem (by omega)]
            rfl
          have key := RV.sl (D := Old w) (w := w) (elems.map (fun y => cellsR y.1)) ab ao cap (P.cellsOf e) (fun i j => (w.cell? ⟨ab, ao + (i * P.cellsOf e + j), none⟩).getD undef) (by simp [BIG]; omega) (by simp; omega)
            (by
              intro q hq'
              obtain ⟨y, hy, rfl⟩ := List.mem_map.1 hq'
              obtain ⟨i, hi⟩ := List.getElem?_of_mem hy
              obtain ⟨us, -, h2, h3⟩ := each i y hi
              rw [h3.1, h2])
            (by
              intro q hq' c hc
              obtain ⟨y, hy, rfl⟩ := List.mem_map.1 hq'
              obtain ⟨i, hi⟩ := List.getElem?_of_mem hy
              obtain ⟨us, -, h2, h3⟩ := each i y hi
              obtain ⟨j, hj⟩ := List.getElem?_of_mem hc
              have hjl := (List.getElem?_eq_some_iff.1 hj).1
              exact (h3.2 j c (us[j]'(by rw [← h3.1]; exact hjl)) hj (List.getElem?_eq_getElem (by rw [← h3.1]; exact hjl))).1)
            (fun i j hi hj => hval i j (by simpa using hi) hj) (fun i j hi hj => ⟨_, hval i j (by simpa using hi) hj⟩)
            (by
              intro i j q c hi hj
              rw [List.getElem?_map] at hi
              cases hy : elems[i]? with
              | none => simp [hy] at hi
              | some y =>
                simp [hy] at hi
                subst hi
                obtain ⟨us0, -, g2, g3⟩ := each i y hy
                have hjl : j < P.cellsOf e := by rw [← g2, ← g3.1]; exact (List.getElem?_eq_some_iff.1 hj).1
                obtain ⟨us, h1, h2, h3⟩ := hcell i y hy j hjl
                rw [hadd] at h3
                have hu : us[j]? = some us[j] := List.getElem?_eq_getElem (by omega)
                rw [h3, hu]
                exact (h2.2 j c us[j] hj hu).2)
          simp only [List.length_map, hlen] at key
          exact key
    · rename_i fs hu
      simp only [Bool.and_eq_true, List.all_eq_true, List.contains_iff_mem] at hk
      obtain ⟨hk1, hk2⟩ := hk
      obtain ⟨xs, n, hn, rfl, hcl, hxl, hx⟩ := DataW.trod_struct hu h
      obtain rfl : fuel = n := by omega
      refine ⟨hcl, ?_⟩
      simp only [cellsR, cellsRa_flat]
      simp only [Rows.uptoBulk] at hb
      have hbe : ∀ y ∈ xs, Rows.uptoBulk y.1 ≤ 1048576 := fun y hy => by
        have := bulk_mem (List.mem_map_of_mem (f := (·.1)) hy)
        omega
      have main : ∀ (gs : List Field) (ys : List (DataW H × List MemPlace)) (o : Nat), (∀ f ∈ gs, f.type ∈ TS) → (∀ y ∈ ys, Rows.uptoBulk y.1 ≤ 1048576) → tiled P gs o (P.cellsOf t) = true → gs.length = ys.length →
          (∀ (i : Nat) (f : Field), gs[i]? = some f → DataW.trod enc P w 0 (fun _ => true) true fuel f.type ((cs.drop f.offset).take (P.cellsOf f.type)) = ys[i]?) → CellsOK w ((ys.map (·.1)).flatMap cellsR) (cs.drop o) := by
        intro gs
        induction gs with
        | nil =>
          intro ys o _ _ ht hl _
          obtain rfl : ys = [] := List.eq_nil_of_length_eq_zero (by simpa using hl.symm)
          simp only [tiled, beq_iff_eq] at ht
          rw [ht, ← hcl, List.drop_length]
          exact .nil w
        | cons f r ihr =>
          intro ys o hm hby ht hl hrd
          cases ys with
          | nil => simp at hl
          | cons y ys =>
            simp only [tiled, Bool.and_eq_true, beq_iff_eq] at ht
            have h0 := hrd 0 f rfl
            rw [ht.1] at h0
            obtain ⟨q1, q2⟩ := ih f.type (hm f (by simp)) _ y h0 (hby y (by simp))
            have hrest := ihr ys (o + P.cellsOf f.type) (fun g hg => hm g (by simp [hg])) (fun z hz => hby z (by simp [hz])) ht.2 (by simpa using hl) (fun i g hg => by simpa using hrd (i + 1) g (by simpa using hg))
            have e : cs.drop o = (cs.drop o).take (P.cellsOf f.type) ++ cs.drop (o + P.cellsOf f.type) := by
              rw [← List.drop_drop, List.take_append_drop]
            rw [e]
            simp only [List.map_cons, List.flatMap_cons]
            exact q2.append hrest
      have := main fs.toList xs 0 (fun f hf => hk2 f hf) hbe hk1 (by simp [hxl]) (fun i f hf => hx i f (by simpa using hf))
      simpa using this
    · cases hk

/-- what is read in full is read so where spare places are looked at wherever it lies -/
theorem trod_spare {TS : List TypeId} (hT : tysOK P TS = true) {sp : Nat → Bool} {held : Bool} {base : Nat} : ∀ (fuel : Nat) (t : TypeId), t ∈ TS → ∀ (cs : List Value) (x : DataW H × List MemPlace), DataW.trod enc P w base (fun _ => true) held fuel t cs = some x → (∀ p ∈ x.2, sp p.block = true) →
    DataW.trod enc P w base sp held fuel t cs = some x := by
  intro fuel
  induction fuel with
  | zero => intro t _ cs x h; simp [DataW.trod] at h
  | succ fuel ih =>
    intro t ht cs x h hs
    have hk := tysOK_at hT ht
    unfold tyOK at hk
    split at hk
    · rename_i hu
      obtain ⟨b, rfl, rfl⟩ := DataW.trod_bool hu h
      simp [DataW.trod, hu]
    · rename_i k hu
      obtain ⟨n, rfl, rfl, hw⟩ := DataW.trod_int hu h
      simp [DataW.trod, hu, hw]
    · rename_i e hu
      simp only [Bool.and_eq_true, beq_iff_eq, decide_eq_true_eq, List.contains_iff_mem] at hk
      obtain ⟨⟨hk1, hk2⟩, hk3⟩ := hk
      have hshape : cs = [.slice none 0 0] ∨ ∃ a len cap, cs = [.slice (some a) len cap] := by
        rcases DataW.trod_slice hu h with ⟨rfl, -⟩ | ⟨a, len, cap, _, _, _, _, rfl, -⟩
        · exact .inl rfl
        · exact .inr ⟨a, len, cap, rfl⟩
      rcases hshape with rfl | ⟨a, len, cap, rfl⟩
      · simp only [DataW.trod, hu] at h ⊢
        exact h
      · simp only [DataW.trod, hu] at h ⊢
        split at h
        · rename_i hcond
          rw [if_pos hcond]
          simp only [if_true, Option.bind_eq_some_iff, Option.map_eq_some_iff] at h
          obtain ⟨elems, h1, rest, h2, rfl⟩ := h
          have hmem : ∀ y ∈ elems ++ rest, ∀ p ∈ y.2, sp p.block = true := fun y hy p hp => hs p (List.mem_append.2 (.inr (List.mem_flatMap.2 ⟨y, hy, hp⟩)))
          have step : ∀ (i : Nat) (y : DataW H × List MemPlace), y ∈ elems ++ rest → (w.cells? base (a.add (i * P.cellsOf e)) (P.cellsOf e)).bind (DataW.trod enc P w base (fun _ => true) held fuel e) = some y → (w.cells? base (a.add (i * P.cellsOf e)) (P.cellsOf e)).bind (DataW.trod enc P w base sp held fuel e) = some y := by
            intro i y hy h
            rw [Option.bind_eq_some_iff] at h ⊢
            obtain ⟨us, q1, q2⟩ := h
            exact ⟨us, q1, ih e hk3 us y q2 (hmem y hy)⟩
          have e1 := mapM_carry (g := fun i => (w.cells? base (a.add (i * P.cellsOf e)) (P.cellsOf e)).bind (DataW.trod enc P w base sp held fuel e)) h1 (fun i y _ hy hi => step i y (List.mem_append.2 (.inl hy)) hi)
          rw [e1]
          simp only [Option.bind_some]
          have e2 := mapM_carry (g := fun j => (w.cells? base (a.add ((len + j) * P.cellsOf e)) (P.cellsOf e)).bind (DataW.trod enc P w base sp held fuel e)) h2 (fun i y _ hy hi => step _ y (List.mem_append.2 (.inr hy)) hi)
          by_cases hz : elems.length + rest.length = 0
          · have hr0 : rest = [] := List.eq_nil_of_length_eq_zero (by omega)
            have hlen : rest.length = cap - len := by simpa using mapM_some_length h2
            have hc0 : cap - len = 0 := by rw [← hlen, hr0]; rfl
            subst hr0
            rw [hc0]
            split <;> simp
          · have hsp : sp a.block = true := by
              have hn : 0 < (elems.length + rest.length) * P.cellsOf e := Nat.mul_pos (by omega) hk2
              exact hs (.cell a.block (a.off + 0)) (List.mem_append.2 (.inl (MemPlace.mem_row.2 ⟨0, hn, rfl⟩)))
            rw [if_pos hsp, e2]
            rfl
        · cases h
    · rename_i fs hu
      simp only [Bool.and_eq_true, List.all_eq_true, List.contains_iff_mem] at hk
      obtain ⟨hk1, hk2⟩ := hk
      obtain ⟨xs, n, hn, rfl, hcl, hxl, hx⟩ := DataW.trod_struct hu h
      obtain rfl : fuel = n := by omega
      unfold DataW.trod at h ⊢
      rw [hu] at h ⊢
      simp only [hcl, if_true, Option.map_eq_some_iff] at h ⊢
      obtain ⟨ys, h1, h2⟩ := h
      have hy : ∀ y ∈ ys, ∀ p ∈ y.2, sp p.block = true := fun y hy p hp => hs p (by
        have : xs.flatMap (·.2) = ys.flatMap (·.2) := (congrArg Prod.snd h2).symm
        rw [this]
        exact List.mem_flatMap.2 ⟨y, hy, hp⟩)
      exact ⟨ys, mapM_carry h1 (fun f y hf hy' hr => ih f.type (hk2 f hf) _ y hr (hy y hy')), h2⟩
    · cases hk

/-- what was read before reads so in a later world -/
theorem trod_later {TS : List TypeId} (hT : tysOK P TS = true) (hw : ∀ b, b < w.heap.size → w'.heap[b]? = w.heap[b]?) {sp : Nat → Bool} {held : Bool} {base : Nat} {t : TypeId} (ht : t ∈ TS) {v : Value} {d : DataW H} {ps : List MemPlace} (h : DataW.Trod enc P w base (fun _ => true) held t v d ps)
    (hs : ∀ p ∈ ps, sp p.block = true) : DataW.Trod enc P w' base sp held t v d ps := by
  obtain ⟨fuel, h⟩ := h
  refine ⟨fuel, DataW.trod_carry _ _ _ _ (trod_spare hT fuel t ht _ _ h hs) fun p hp => ?_⟩
  have hlt := DataW.trod_lt fuel t _ _ h p hp
  cases p with
  | cell b o => simp only [World.sameAt, World.cell?]; rw [hw b hlt]
  | map b => exact hw b hlt

end

/-- an argument that reads as a list of numbers -/
theorem read_ints {H : Type} {enc : TypeId × Value → H} {P : Program} {w : World} {t e : TypeId} (ht : P.underlying t = some (.slice e)) (he : P.underlying e = some (.int .i64)) (hT : tysOK P [t, e] = true) {v : Value} {d : DataW H} {ps : List MemPlace} (h : DataW.Trod enc P w 0 (fun _ => true) true t v d ps) (hcell : v.cells = #[v])
    (hb : Rows.uptoBulk d ≤ 1048576) : ∃ l : List Int, RV (Old w) w (.sl (l.map fun n => [dint n])) v ∧ l.length ≤ 1048576 := by
  obtain ⟨fuel, h⟩ := h
  rw [hcell] at h
  have key : ∃ l : List Int, cellsR d = [.sl (l.map fun n => [dint n])] ∧ l.length ≤ 1048576 := by
    rcases DataW.trod_slice ht h with ⟨-, hx⟩ | ⟨a, len, cap, elems, rest, n, hn, -, hx, -, hl, hm, hlen, hel, hsp, -⟩
    · cases hx; exact ⟨[], rfl, by simp⟩
    · cases hx
      simp only [Rows.uptoBulk] at hb
      have hbl := bulk_len (elems.map (·.1))
      simp only [List.length_map] at hbl
      have each : ∀ y ∈ elems, ∃ m : Int, cellsR y.1 = [dint m] := by
        intro y hy
        obtain ⟨i, hi⟩ := List.getElem?_of_mem hy
        have hil : i < len := by rw [← hlen]; exact (List.getElem?_eq_some_iff.1 hi).1
        have h1 := hel i hil
        rw [hi, Option.bind_eq_some_iff] at h1
        obtain ⟨us, -, h3⟩ := h1
        obtain ⟨m, -, rfl, -⟩ := DataW.trod_int he h3
        exact ⟨m, rfl⟩
      have : ∃ l : List Int, elems.map (fun y => cellsR y.1) = l.map fun n => [dint n] := by
        clear hel hlen hbl h hb hsp
        induction elems with
        | nil => exact ⟨[], rfl⟩
        | cons y r ih =>
          obtain ⟨m, hm⟩ := each y (by simp)
          obtain ⟨l, hl⟩ := ih fun z hz => each z (by simp [hz])
          exact ⟨m :: l, by simp [hm, hl]⟩
      obtain ⟨l, hl⟩ := this
      have hll : l.length = elems.length := by simpa using (congrArg List.length hl).symm
      refine ⟨l, ?_, by omega⟩
      simp only [cellsR, cellsRs_map, List.map_map]
      exact congrArg (fun q => [DV.sl q]) hl
  obtain ⟨l, h1, h2⟩ := key
  obtain ⟨-, h3⟩ := trod_cells hT fuel t (by simp) _ _ h hb
  rw [h1] at h3
  exact ⟨l, (h3.2 0 _ v rfl rfl).2, h2⟩

theorem slice_cells {P : Program} {w : World} {r : Reach} {base : Nat} {t e : TypeId} (ht : P.underlying t = some (.slice e)) {v : Value} (h : Value.okWide P w r base t v) : v.cells = #[v] := by
  cases v <;> first | rfl | (simp [Value.okWide, Cell.okWide, Cell.ok, ht] at h)

theorem ext_same {w w' : World} {D D' : Nat → Nat → Prop} (h : Ext [] D w D' w') : ∀ b, b < w.heap.size → w'.heap[b]? = w.heap[b]? := fun b hb => h.block b hb (by simp)

theorem ext_kept {w w' : World} {D D' : Nat → Nat → Prop} (h : Ext [] D w D' w') (may : MemPlace → Prop) : w.keptBut w' may := by
  refine ⟨h.os, h.output, fun i hi => ?_⟩
  rw [ext_same h i hi]
  cases hq : w.heap[i]? with
  | none => rfl
  | some o => cases o <;> first | rfl | exact ⟨rfl, rfl, rfl, fun _ _ => rfl⟩ | exact .inr ⟨rfl, rfl⟩

/-- what a call leaves that turned nothing that was there -/
theorem post_of_ext {H : Type} {enc : TypeId × Value → H} {P : Program} {f : Func} {s : ChangeSpec} {apart fresh handsOn again : Bool} {W W' : World} {D D' : Nat → Nat → Prop} {args : Array Value} {v : Value} {ds gs : List (DataW H)} {before pa pv : List MemPlace}
    (hW : DataW.Whole enc P f.params.toList s.vars apart W args.toList ds gs before)
    (hres : ∀ (b : Nat) (sp : Nat → Bool) (hd : Bool), DataW.TrodAll enc P W' b sp hd f.resultTypes.toList (v.resultList f.resultTypes.size) (s.fn H (ds ++ gs)).results [])
    (hargs : ∀ sp : Nat → Bool, (∀ p ∈ before, sp p.block = true) → DataW.TrodAll enc P W' 0 sp true f.params.toList args.toList (s.fn H (ds ++ gs)).args pa)
    (hvars : ∀ sp : Nat → Bool, (∀ p ∈ before, sp p.block = true) → DataW.TrodVars enc P W' sp s.vars (s.fn H (ds ++ gs)).vars pv)
    (hps : before = pa ++ pv) (hx : Ext [] D W D' W')
    (hok : ∀ (j : Nat) (t : TypeId) (r : Value), f.resultTypes[j]? = some t → (v.resultList f.resultTypes.size)[j]? = some r → Value.okWide P W' .any 0 t r) :
    s.post enc P f apart fresh handsOn again W args v W' := by
  have hlt : ∀ p ∈ before, p.block < W.heap.size := fun p hp => hW.lt p hp
  have hold : ∀ p ∈ before, (fun b => decide (b < W.heap.size)) p.block = true := fun p hp => by simpa using hlt p hp
  refine ⟨ds, gs, before, [], pa, pv, hW, hres _ _ _, hargs _ hold, hvars _ hold, World.keptBut_mono (fun p hp => ⟨hp, ?_⟩) (ext_kept hx (· ∈ before)), fun _ => ?_⟩
  · rw [hps, List.mem_append] at hp
    exact Or.inr hp
  · obtain ⟨_, _, _, _, _, hz, hn⟩ := hW
    refine ⟨hok, _, _, ([] ++ pa) ++ pv, ⟨[] ++ pa, pv, trodAll_append (hargs _ (fun _ _ => rfl)) (hres _ _ _), hvars _ (fun _ _ => rfl), rfl, ?_, ?_⟩, ?_⟩
    · intro b off hp
      have hin : MemPlace.cell b off ∈ before := by rw [hps]; simpa using hp
      have h2 : W'.frozen? ⟨b, off, none⟩ = W.frozen? ⟨b, off, none⟩ := by
        simp only [World.frozen?, ext_same hx b (hlt _ hin)]
      rw [h2]
      exact hz b off hin
    · intro ha
      have := hn ha
      rw [hps] at this
      simpa using this
    · intro p hp _
      rw [hps]
      simpa using hp
end Go.Proofs.YtmdjiajbnifjpaaDoor.Lift

/-
  The bridge for trees: arguments that read as types, terms and values are such trees.
-/
namespace Go.Proofs.YtmdjiajbnifjpaaDoor.Lift
set_option linter.unusedSimpArgs false
set_option linter.unusedVariables false
set_option linter.unnecessarySimpa false
open Go Go.ChangeShapes Go.WideShapes Go.ChangeAt Go.RowKit

section
variable {H : Type} {enc : TypeId × Value → H} {P : Program} {w : World}

/-- whatever reads as such a type within the fuel is a tree of the kind -/
def Reads (enc : TypeId × Value → H) (P : Program) (w : World) {α : Type} (f : α → List DV) (g : α → Nat) (t : TypeId) (fuel : Nat) : Prop :=
  ∀ (cs : List Value) (x : DataW H × List MemPlace), DataW.trod enc P w 0 (fun _ => true) true fuel t cs = some x → ∃ a : α, cellsR x.1 = f a ∧ g a ≤ Rows.uptoBulk x.1

theorem reads_int {t : TypeId} (h : P.underlying t = some (.int .i64)) (fuel : Nat) : Reads enc P w (fun n : Int => [dint n]) (fun _ => 1) t fuel := by
  intro cs x hx
  cases fuel with
  | zero => simp [DataW.trod] at hx
  | succ fuel =>
    obtain ⟨m, -, rfl, -⟩ := DataW.trod_int h hx
    exact ⟨m, rfl, by simp [Rows.uptoBulk]⟩

theorem reads_slice {α : Type} {f : α → List DV} {g : α → Nat} {t e : TypeId} (ht : P.underlying t = some (.slice e)) {fuel : Nat} (he : ∀ n, n < fuel → Reads enc P w f g e n) :
    Reads enc P w (fun l : List α => [.sl (l.map f)]) (fun l => 1 + (l.map g).sum) t fuel := by
  intro cs x h
  cases fuel with
  | zero => simp [DataW.trod] at h
  | succ fuel =>
  rcases DataW.trod_slice ht h with ⟨-, hx⟩ | ⟨a, len, cap, elems, rest, n, hn, -, hx, -, hl, hm, hlen, hel, hsp, -⟩
  · cases hx; exact ⟨[], rfl, by simp [Rows.uptoBulk]⟩
  · cases hx
    have each : ∀ y ∈ elems, ∃ b : α, cellsR y.1 = f b ∧ g b ≤ Rows.uptoBulk y.1 := by
      intro y hy
      obtain ⟨i, hi⟩ := List.getElem?_of_mem hy
      have hil : i < len := by rw [← hlen]; exact (List.getElem?_eq_some_iff.1 hi).1
      have h1 := hel i hil
      rw [hi, Option.bind_eq_some_iff] at h1
      obtain ⟨us, -, h3⟩ := h1
      exact he n (by omega) us y h3
    have : ∃ l : List α, elems.map (fun y => cellsR y.1) = l.map f ∧ (l.map g).sum ≤ Rows.uptoBulkAll (elems.map (·.1)) := by
      clear hel hlen h hsp
      induction elems with
      | nil => exact ⟨[], rfl, by simp⟩
      | cons y r ih =>
        obtain ⟨m, hm, hg⟩ := each y (by simp)
        obtain ⟨l, hl, hs⟩ := ih fun z hz => each z (by simp [hz])
        exact ⟨m :: l, by simp [hm, hl], by simp only [List.map_cons, List.sum_cons, Rows.uptoBulkAll]; omega⟩
    obtain ⟨l, h1, h2⟩ := this
    refine ⟨l, ?_, ?_⟩
    · simp only [cellsR, cellsRs_map, List.map_map]
      exact congrArg (fun q => [DV.sl q]) h1
    · simp only [Rows.uptoBulk]; omega

theorem ty_sum (l : List Ty) : (l.map Ty.tot).sum = Ty.tot.tots l := by
  induction l with
  | nil => rfl
  | cons a r ih => simp [Ty.tot.tots, ih]
theorem tm_sum (l : List Tm) : (l.map Tm.tot).sum = Tm.tot.tots l := by
  induction l with
  | nil => rfl
  | cons a r ih => simp [Tm.tot.tots, ih]
variable {ti tl ty ts tm ms tv vs : TypeId} {fy fm fv : Array Field}

theorem reads_ty (hi : P.underlying ti = some (.int .i64)) (hy : P.underlying ty = some (.struct fy)) (hs : P.underlying ts = some (.slice ty)) (hf : fy.toList.map (·.type) = [ti, ts]) : ∀ fuel, Reads enc P w Ty.cells Ty.tot ty fuel := by
  intro fuel
  induction fuel using Nat.strongRecOn with
  | _ fuel ih =>
  intro cs x h
  cases fuel with
  | zero => simp [DataW.trod] at h
  | succ fuel =>
  obtain ⟨xs, n, hn, rfl, hcl, hxl, hx⟩ := DataW.trod_struct hy h
  obtain rfl : fuel = n := by omega
  have hlen : fy.size = 2 := by simpa using congrArg List.length hf
  match xs, hxl with
  | [x0, x1], _ =>
    have ht : ∀ (i : Nat) (t : TypeId), [ti, ts][i]? = some t → ∃ f : Field, fy[i]? = some f ∧ f.type = t := by
      intro i t hq
      rw [← hf, List.getElem?_map] at hq
      obtain ⟨f, h1, h2⟩ := Option.map_eq_some_iff.1 hq
      exact ⟨f, by simpa using h1, h2⟩
    obtain ⟨f0, g0, e0⟩ := ht 0 ti rfl
    obtain ⟨f1, g1, e1⟩ := ht 1 ts rfl
    have r0 := hx 0 f0 g0
    have r1 := hx 1 f1 g1
    rw [e0] at r0
    rw [e1] at r1
    obtain ⟨k, a0, b0⟩ := reads_int (enc := enc) (w := w) hi fuel _ x0 r0
    obtain ⟨l, a1, b1⟩ := reads_slice (enc := enc) (w := w) hs (fun n hn => ih n (by omega)) _ x1 r1
    refine ⟨Ty.mk k l, ?_, ?_⟩
    · rw [Ty.cells_mk]
      simp [cellsR, cellsRa, a0, a1]
    · simp only [ty_sum] at b1
      rw [Ty.tot_eq]
      simp only [Ty.args, Rows.uptoBulk, Rows.uptoBulkAll, List.map_cons, List.map_nil]
      omega
  | [], h => simp [hlen] at h
  | [_], h => simp [hlen] at h
  | _ :: _ :: _ :: _, h => simp [hlen] at h

theorem reads_tm (hi : P.underlying ti = some (.int .i64)) (hy : P.underlying ty = some (.struct fy)) (hs : P.underlying ts = some (.slice ty)) (hf : fy.toList.map (·.type) = [ti, ts])
    (hm : P.underlying tm = some (.struct fm)) (hms : P.underlying ms = some (.slice tm)) (hfm : fm.toList.map (·.type) = [ti, ti, ty, ms]) : ∀ fuel, Reads enc P w Tm.cells Tm.tot tm fuel := by
  intro fuel
  induction fuel using Nat.strongRecOn with
  | _ fuel ih =>
  intro cs x h
  cases fuel with
  | zero => simp [DataW.trod] at h
  | succ fuel =>
  obtain ⟨xs, n, hn, rfl, hcl, hxl, hx⟩ := DataW.trod_struct hm h
  obtain rfl : fuel = n := by omega
  have hlen : fm.size = 4 := by simpa using congrArg List.length hfm
  match xs, hxl with
  | [x0, x1, x2, x3], _ =>
    have ht : ∀ (i : Nat) (t : TypeId), [ti, ti, ty, ms][i]? = some t → ∃ f : Field, fm[i]? = some f ∧ f.type = t := by
      intro i t hq
      rw [← hfm, List.getElem?_map] at hq
      obtain ⟨f, h1, h2⟩ := Option.map_eq_some_iff.1 hq
      exact ⟨f, by simpa using h1, h2⟩
    obtain ⟨f0, g0, e0⟩ := ht 0 ti rfl
    obtain ⟨f1, g1, e1⟩ := ht 1 ti rfl
    obtain ⟨f2, g2, e2⟩ := ht 2 ty rfl
    obtain ⟨f3, g3, e3⟩ := ht 3 ms rfl
    have r0 := hx 0 f0 g0
    have r1 := hx 1 f1 g1
    have r2 := hx 2 f2 g2
    have r3 := hx 3 f3 g3
    rw [e0] at r0
    rw [e1] at r1
    rw [e2] at r2
    rw [e3] at r3
    obtain ⟨k, a0, b0⟩ := reads_int (enc := enc) (w := w) hi fuel _ x0 r0
    obtain ⟨i, a1, b1⟩ := reads_int (enc := enc) (w := w) hi fuel _ x1 r1
    obtain ⟨u, a2, b2⟩ := reads_ty (enc := enc) (w := w) hi hy hs hf fuel _ x2 r2
    obtain ⟨l, a3, b3⟩ := reads_slice (enc := enc) (w := w) hms (fun n hn => ih n (by omega)) _ x3 r3
    refine ⟨Tm.mk k i u l, ?_, ?_⟩
    · rw [Tm.cells_mk]
      rw [Ty.cells_eq] at a2
      simp [cellsR, cellsRa, a0, a1, a2, a3]
    · simp only [tm_sum] at b3
      rw [Tm.tot_eq]
      simp only [Tm.args, Tm.type, Rows.uptoBulk, Rows.uptoBulkAll, List.map_cons, List.map_nil]
      omega
  | [], h => simp [hlen] at h
  | [_], h => simp [hlen] at h
  | [_, _], h => simp [hlen] at h
  | [_, _, _], h => simp [hlen] at h
  | _ :: _ :: _ :: _ :: _ :: _, h => simp [hlen] at h

/-- an argument that reads as a tree is one -/
theorem read_tree {α : Type} {f : α → List DV} {g : α → Nat} {TS : List TypeId} {t : TypeId} (hT : tysOK P TS = true) (htm : t ∈ TS) (hR : ∀ fuel, Reads enc P w f g t fuel) (hc : ∀ a, ∀ c ∈ f a, DV.isCell c = true)
    {v : Value} {d : DataW H} {ps : List MemPlace} (h : DataW.Trod enc P w 0 (fun _ => true) true t v d ps) (hv : ∃ vs, v = .agg vs) (hb : Rows.uptoBulk d ≤ 1048576) : ∃ a : α, RV (Old w) w (.agg (f a)) v ∧ g a ≤ 1048576 := by
  obtain ⟨fuel, h⟩ := h
  obtain ⟨vs, rfl⟩ := hv
  obtain ⟨a, h1, h2⟩ := hR fuel _ _ h
  obtain ⟨-, h3⟩ := trod_cells hT fuel t htm _ _ h hb
  have h4 : g a ≤ Rows.uptoBulk d := h2
  refine ⟨a, ?_, by omega⟩
  rw [h1] at h3
  refine .agg _ _ (by rw [h3.1]; simp [Value.cells]) (hc a) fun i c u hi hu => (h3.2 i c u hi (by simpa [Value.cells] using hu)).2
end
end Go.Proofs.YtmdjiajbnifjpaaDoor.Lift

/-
  The bridge for lists of instructions.
-/
namespace Go.Proofs.YtmdjiajbnifjpaaDoor.Lift
set_option linter.unusedSimpArgs false
set_option linter.unusedVariables false
set_option linter.unnecessarySimpa false
open Go Go.ChangeShapes Go.WideShapes Go.ChangeAt Go.RowKit

section
variable {H : Type} {enc : TypeId × Value → H} {P : Program} {w : World}
theorem reads_ins {ti tn : TypeId} {fn : Array Field} (hi : P.underlying ti = some (.int .i64)) (hy : P.underlying tn = some (.struct fn)) (hf : fn.toList.map (·.type) = [ti, ti]) : ∀ fuel, Reads enc P w Ins.row (fun _ : Ins => 1) tn fuel := by
  intro fuel cs x h
  cases fuel with
  | zero => simp [DataW.trod] at h
  | succ fuel =>
  obtain ⟨xs, n, hn, rfl, hcl, hxl, hx⟩ := DataW.trod_struct hy h
  obtain rfl : fuel = n := by omega
  have hlen : fn.size = 2 := by simpa using congrArg List.length hf
  match xs, hxl with
  | [x0, x1], _ =>
    have ht : ∀ (i : Nat) (t : TypeId), [ti, ti][i]? = some t → ∃ f : Field, fn[i]? = some f ∧ f.type = t := by
      intro i t hq
      rw [← hf, List.getElem?_map] at hq
      obtain ⟨f, h1, h2⟩ := Option.map_eq_some_iff.1 hq
      exact ⟨f, by simpa using h1, h2⟩
    obtain ⟨f0, g0, e0⟩ := ht 0 ti rfl
    obtain ⟨f1, g1, e1⟩ := ht 1 ti rfl
    have r0 := hx 0 f0 g0
    have r1 := hx 1 f1 g1
    rw [e0] at r0
    rw [e1] at r1
    obtain ⟨k, a0, b0⟩ := reads_int (enc := enc) (w := w) hi fuel _ x0 r0
    obtain ⟨a, a1, b1⟩ := reads_int (enc := enc) (w := w) hi fuel _ x1 r1
    refine ⟨(k, a), ?_, ?_⟩
    · simp [cellsR, cellsRa, a0, a1, Ins.row]
    · simp only [Rows.uptoBulk, Rows.uptoBulkAll, List.map_cons, List.map_nil]
      omega
  | [], h => simp [hlen] at h
  | [_], h => simp [hlen] at h
  | _ :: _ :: _ :: _, h => simp [hlen] at h

theorem read_slice {α : Type} {f : α → List DV} {g : α → Nat} {TS : List TypeId} {t e : TypeId} (ht : P.underlying t = some (.slice e)) (hT : tysOK P TS = true) (htm : t ∈ TS) (hR : ∀ fuel, Reads enc P w f g e fuel)
    {v : Value} {d : DataW H} {ps : List MemPlace} (h : DataW.Trod enc P w 0 (fun _ => true) true t v d ps) (hcell : v.cells = #[v]) (hb : Rows.uptoBulk d ≤ 1048576) : ∃ l : List α, RV (Old w) w (.sl (l.map f)) v ∧ 1 + (l.map g).sum ≤ 1048576 := by
  obtain ⟨fuel, h⟩ := h
  obtain ⟨a, h1, h2⟩ := reads_slice (enc := enc) (w := w) ht (fun n _ => hR n) _ _ h
  obtain ⟨-, h3⟩ := trod_cells hT fuel t htm _ _ h hb
  simp only at h1 h2
  refine ⟨a, ?_, by omega⟩
  rw [h1] at h3
  exact (h3.2 0 _ v rfl (by rw [hcell]; rfl)).2
theorem ins_sum (l : List Ins) : (l.map fun _ => 1).sum = l.length := by
  induction l with
  | nil => rfl
  | cons a r ih => simp [ih]; omega
/-- a list of instructions is read -/
theorem read_ins {TS : List TypeId} {ti tn t : TypeId} {fn : Array Field} (hi : P.underlying ti = some (.int .i64)) (hy : P.underlying tn = some (.struct fn)) (hf : fn.toList.map (·.type) = [ti, ti]) (ht : P.underlying t = some (.slice tn)) (hT : tysOK P TS = true) (htm : t ∈ TS)
    {v : Value} {d : DataW H} {ps : List MemPlace} (h : DataW.Trod enc P w 0 (fun _ => true) true t v d ps) (hcell : v.cells = #[v]) (hb : Rows.uptoBulk d ≤ 1048576) : ∃ l : List Ins, RV (Old w) w (.sl (rowsI l)) v ∧ l.length ≤ 1048576 := by
  obtain ⟨l, h1, h2⟩ := read_slice (g := fun _ : Ins => 1) ht hT htm (reads_ins hi hy hf) h hcell hb
  rw [ins_sum] at h2
  exact ⟨l, h1, by omega⟩
end
end Go.Proofs.YtmdjiajbnifjpaaDoor.Lift

/-
  The two tables of layer 37, as they are laid when a call begins.
-/
namespace Go.Proofs.YtmdjiajbnifjpaaDoor.Lift
set_option linter.unusedSimpArgs false
set_option linter.unusedVariables false
set_option linter.unnecessarySimpa false
open Go Go.ChangeShapes Go.WideShapes Go.ChangeAt Go.RowKit

/-- a table of pairs, as a row lists it -/
def pairData {H : Type} (zs : List (Int × Int)) : DataW H := .agg (zs.map fun z => .agg [.lit (.int .i64 z.1), .lit (.int .i64 z.2)])
theorem take1 {α : Type} {l : List α} {o : Nat} {v : α} (h : (l.drop o).take 1 = [v]) : l[o]? = some v := by
  have := congrArg (·[0]?) h
  simpa [List.getElem?_take, List.getElem?_drop] using this
theorem cells_of_pairs {H : Type} {enc : TypeId × Value → H} {P : Program} {w : World} {base : Nat} {sp : Nat → Bool} {held : Bool} {fuel : Nat} {t e : TypeId} {n : Nat} {f g : Field} {cs : List Value} {zs : List (Int × Int)} {p : List MemPlace}
    (ht : P.underlying t = some (.array n e)) (he : P.underlying e = some (.struct #[f, g])) (hf : P.underlying f.type = some (.int .i64)) (hg : P.underlying g.type = some (.int .i64)) (hfo : f.offset = 0) (hgo : g.offset = 1) (hcf : P.cellsOf f.type = 1) (hcg : P.cellsOf g.type = 1) (hce : P.cellsOf e = 2) (hct : P.cellsOf t = n * 2)
    (h : DataW.trod enc P w base sp held fuel t cs = some (pairData zs, p)) : zs.length = n ∧ ∀ (i : Nat) (z : Int × Int), zs[i]? = some z → cs[i * 2]? = some (.int .i64 z.1) ∧ cs[i * 2 + 1]? = some (.int .i64 z.2) := by
  cases fuel with
  | zero => simp [DataW.trod] at h
  | succ fuel =>
    simp only [DataW.trod, ht, hce] at h
    split at h
    · rename_i hl
      obtain ⟨xs, hm, hx⟩ := Option.map_eq_some_iff.1 h
      have hxs : xs.map (·.1) = zs.map fun z => (DataW.agg [.lit (.int .i64 z.1), .lit (.int .i64 z.2)] : DataW H) := by
        have := congrArg Prod.fst hx
        simpa [pairData] using this
      have hxl : xs.length = n := by simpa using Lib.mapM_length hm
      have hzl : zs.length = n := by
        have := congrArg List.length hxs
        simp at this
        omega
      refine ⟨hzl, fun i z hz => ?_⟩
      have hi : i < n := by have := (List.getElem?_eq_some_iff.1 hz).1; omega
      obtain ⟨b, hb, hfb⟩ := Lib.mapM_at hm i i (by simp [hi])
      have hbz : b.1 = DataW.agg [.lit (.int .i64 z.1), .lit (.int .i64 z.2)] := by
        have h2 : (xs.map (·.1))[i]? = some b.1 := by simp [hb]
        rw [hxs] at h2
        simp only [List.getElem?_map, hz, Option.map_some, Option.some.injEq] at h2
        exact h2.symm
      cases fuel with
      | zero => simp [DataW.trod] at hfb
      | succ fuel =>
        simp only [DataW.trod, he] at hfb
        split at hfb
        · obtain ⟨ys, hn, hy⟩ := Option.map_eq_some_iff.1 hfb
          have hys : ys.map (·.1) = [(DataW.lit (.int .i64 z.1) : DataW H), .lit (.int .i64 z.2)] := by
            have := congrArg Prod.fst hy
            rw [hbz] at this
            simpa using this
          obtain ⟨y0, hy0, hf0⟩ := Lib.mapM_at hn 0 f rfl
          obtain ⟨y1, hy1, hf1⟩ := Lib.mapM_at hn 1 g rfl
          rw [hfo, hcf, List.drop_zero] at hf0
          rw [hgo, hcg] at hf1
          obtain ⟨a0, c0, rfl, -⟩ := DataW.trod_int hf hf0
          obtain ⟨a1, c1, rfl, -⟩ := DataW.trod_int hg hf1
          have k0 : (ys.map (·.1))[0]? = some (DataW.lit (.int .i64 a0)) := by simp [hy0]
          have k1 : (ys.map (·.1))[1]? = some (DataW.lit (.int .i64 a1)) := by simp [hy1]
          rw [hys] at k0 k1
          simp only [List.getElem?_cons_zero, List.getElem?_cons_succ, Option.some.injEq, DataW.lit.injEq, Lit.int.injEq, true_and] at k0 k1
          subst k0 k1
          have q0 := take1 (l := (cs.drop (i * 2)).take 2) (o := 0) (by rw [List.drop_zero]; exact c0)
          have q1 := take1 c1
          rw [List.getElem?_take_of_lt (by decide), List.getElem?_drop] at q0 q1
          exact ⟨q0, q1⟩
        · cases hfb
    · cases h

/-- the numbers of the table of operations -/
def opNums : List (Int × Int) := [(0, 0), (0, 1), (0, 2), (2, 3), (0, 4), (1, 5), (3, 6), (0, 7), (2, 8), (3, 9), (2, 10), (1, 11), (1, 12), (0, 13)]
theorem opEls_nums : opEls = opNums.map fun z => [dint z.1, dint z.2] := rfl
/-- what is laid of the table of operations is data -/
theorem ops_rv {W : World} {g : Nat} (h : ∀ (i : Nat) (z : Int × Int), opNums[i]? = some z → W.cell? ⟨g, i * 2, none⟩ = some (.int .i64 z.1) ∧ W.cell? ⟨g, i * 2 + 1, none⟩ = some (.int .i64 z.2)) : RV (Old W) W (.sl opEls) (.slice (some ⟨g, 0, none⟩) opEls.length 14) := by
  have hb : ∀ z ∈ opNums, (0 ≤ z.1 ∧ z.1 ≤ 3) ∧ 0 ≤ z.2 ∧ z.2 ≤ 13 := by decide
  have hp : ∀ n : Int, 0 ≤ n ∧ n ≤ 13 → primOK (.int .i64 n) := fun n h => by
    have h1 : IntKind.i64.min ≤ 0 := by decide
    have h2 : 13 ≤ IntKind.i64.max := by decide
    exact ⟨by omega, by omega⟩
  have key : ∀ (i j : Nat) (e : List DV) (d : DV), opEls[i]? = some e → e[j]? = some d → ∃ v, W.cell? ⟨g, i * 2 + j, none⟩ = some v ∧ RV (Old W) W d v := by
    intro i j e d he hd
    rw [opEls_nums, List.getElem?_map] at he
    obtain ⟨z, hz, rfl⟩ := Option.map_eq_some_iff.1 he
    obtain ⟨h1, h2⟩ := h i z hz
    have hzb := hb z (List.mem_of_getElem? hz)
    match j with
    | 0 => simp at hd; subst hd; exact ⟨_, h1, .prim _ (hp _ (by omega))⟩
    | 1 => simp at hd; subst hd; exact ⟨_, h2, .prim _ (hp _ (by omega))⟩
    | j + 2 => simp at hd
  have hE : ∀ e ∈ opEls, e.length = 2 := by decide
  refine sl_of_laid (E := 2) (f := fun k => (W.cell? ⟨g, k, none⟩).getD undef) (by decide) (by decide) hE ?_ (fun k hk => ?_) (fun i j e d he hd => ?_)
  · intro e he c hc
    rw [opEls_nums] at he
    obtain ⟨z, _, rfl⟩ := List.mem_map.1 he
    simp at hc
    rcases hc with rfl | rfl <;> rfl
  · have hk2 : k / 2 < opEls.length := by have h14 : opEls.length = 14 := rfl; omega
    have he : opEls[k / 2]? = some opEls[k / 2] := List.getElem?_eq_getElem hk2
    have hl := hE _ (List.getElem_mem hk2)
    have hd : opEls[k / 2][k % 2]? = some (opEls[k / 2][k % 2]'(by omega)) := List.getElem?_eq_getElem (by omega)
    obtain ⟨v, hv, -⟩ := key _ _ _ _ he hd
    have e1 : k / 2 * 2 + k % 2 = k := by omega
    rw [e1] at hv
    rw [Nat.zero_add]
    refine ⟨by rw [hv]; rfl, v, hv⟩
  · obtain ⟨v, hv, hr⟩ := key i j e d he hd
    show RV (Old W) W d ((W.cell? ⟨g, i * 2 + j, none⟩).getD undef)
    rw [hv]
    exact hr
/-- a type of pairs of numbers -/
def prT (P : Program) (e : TypeId) : Bool :=
  match P.underlying e with
  | some (.struct fs) => match fs.toList with
    | [f, g] => (f.offset == 0) && ((g.offset == 1) && (intB P f.type && (intB P g.type && ((P.cellsOf f.type == 1) && (P.cellsOf g.type == 1)))))
    | _ => false
  | _ => false
theorem prT_spec {P : Program} {e : TypeId} (h : prT P e = true) : ∃ f g : Field, P.underlying e = some (.struct #[f, g]) ∧ f.offset = 0 ∧ g.offset = 1 ∧ P.underlying f.type = some (.int .i64) ∧ P.underlying g.type = some (.int .i64) ∧ P.cellsOf f.type = 1 ∧ P.cellsOf g.type = 1 := by
  unfold prT at h
  split at h
  · rename_i fs hu
    split at h
    · rename_i f g hl
      simp only [Bool.and_eq_true, beq_iff_eq] at h
      obtain ⟨h1, h2, h3, h4, h5, h6⟩ := h
      have : fs = #[f, g] := by
        cases fs with
        | mk l => simp at hl; rw [hl]
      exact ⟨f, g, by rw [hu, this], h1, h2, intB_spec h3, intB_spec h4, h5, h6⟩
    · cases h
  · cases h

theorem arities_rv {W : World} (h : Lib.TabIs Tryd.prog W "proofprograms/tree.arities" .i64 [0, 0, 1, 2, 0, 1, 3, 0, 2, 3, 2, 1, 1, 0]) (hg : Tryd.prog.globalNamed "proofprograms/tree.arities" = some 1) : RV (Old W) W (.sl arEls) (.slice (some ⟨1, 0, none⟩) arEls.length 14) := by
  have hc : ∀ k, k < 14 → W.cell? ⟨1, 0 + k, none⟩ = some (.int .i64 ([0, 0, 1, 2, 0, 1, 3, 0, 2, 3, 2, 1, 1, 0].getD k 0)) := fun k hk => by
    rw [Nat.zero_add]; exact h.cell hg k hk
  refine sl_of_laid (E := 1) (f := fun k => .int .i64 ([0, 0, 1, 2, 0, 1, 3, 0, 2, 3, 2, 1, 1, 0].getD k 0)) (by decide) (by decide) (by decide) ?_ (fun k hk => ⟨hc k hk, _, hc k hk⟩) ?_
  · intro e he c hc
    obtain ⟨n, _, rfl⟩ := List.mem_map.1 he
    obtain rfl := List.mem_singleton.1 hc
    rfl
  · intro i j e c he hd
    obtain ⟨n, hn, rfl⟩ : ∃ n, ([0, 0, 1, 2, 0, 1, 3, 0, 2, 3, 2, 1, 1, 0] : List Int)[i]? = some n ∧ [dint n] = e := by
      rw [arEls, ints, List.getElem?_map] at he
      obtain ⟨n, h1, h2⟩ := Option.map_eq_some_iff.1 he
      exact ⟨n, h1, h2⟩
    cases j with
    | zero =>
      simp at hd; subst hd
      have hi : i < 14 := (List.getElem?_eq_some_iff.1 hn).1
      have : ([0, 0, 1, 2, 0, 1, 3, 0, 2, 3, 2, 1, 1, 0] : List Int).getD (i * 1 + 0) 0 = n := by rw [List.getD_eq_getElem?_getD, Nat.mul_one, Nat.add_zero, hn]; rfl
      show RV _ _ _ (.int .i64 (([0, 0, 1, 2, 0, 1, 3, 0, 2, 3, 2, 1, 1, 0] : List Int).getD (i * 1 + 0) 0))
      rw [this]
      refine .prim _ ?_
      have hb : 0 ≤ n ∧ n ≤ 3 := by
        have := List.mem_of_getElem? hn
        simp at this
        omega
      exact (show ∀ n : Int, 0 ≤ n ∧ n ≤ 3 → primOK (.int .i64 n) from fun n h => by
        have h1 : IntKind.i64.min ≤ 0 := by decide
        have h2 : 3 ≤ IntKind.i64.max := by decide
        exact ⟨by omega, by omega⟩) n hb
    | succ j => simp at hd

/-- BOTH TABLES, AS A ROW LAYS THEM -/
theorem wf_two {W : World} (h : laidMet Tryd.prog [("proofprograms/tree.arities", Rows.laid_proofprograms_tree_arities), ("proofprograms/code.ops", Rows.laid_proofprograms_code_ops)] W) : Wf [(1, arEls), (0, opEls)] (Old W) W := by
  have gTab : Tryd.prog.globalNamed "proofprograms/tree.arities" = some 1 := by kernel_rfl
  have gTab2 : Tryd.prog.globalNamed "proofprograms/code.ops" = some 0 := by kernel_rfl
  have h1 : Lib.TabIs Tryd.prog W "proofprograms/tree.arities" .i64 [0, 0, 1, 2, 0, 1, 3, 0, 2, 3, 2, 1, 1, 0] :=
    Lib.tabIs_of_head (rest := [("proofprograms/code.ops", Rows.laid_proofprograms_code_ops)]) gTab (t := 109) (by kernel_rfl) Tryd.underlying109 Tryd.underlying3 (by kernel_rfl) (by kernel_rfl) h
  refine ⟨fun _ _ h => h, fun g els hm => ?_⟩
  have hm2 : (g = 1 ∧ els = arEls) ∨ (g = 0 ∧ els = opEls) := by simpa using hm
  rcases hm2 with ⟨rfl, rfl⟩ | ⟨rfl, rfl⟩
  · exact ⟨14, arities_rv h1 gTab⟩
  · refine ⟨14, ops_rv ?_⟩
    obtain ⟨ps, ⟨g1, t1, cs1, fu1, p1, q1, -, -, -, -, ⟨g2, t2, cs2, fu2, p2, q2, hg2, ht2, hv2, hd2, -, -⟩, -⟩, -⟩ := h
    obtain rfl := Option.some.inj (gTab2.symm.trans hg2)
    have gT2 : (Tryd.prog.globals[0]?).map (·.type) = some 85 := by kernel_rfl
    obtain rfl := Option.some.inj (gT2.symm.trans ht2)
    obtain ⟨f, g, k1, k2, k3, k4, k5, k6, k7⟩ := prT_spec (P := Tryd.prog) (e := 84) (by kernel_rfl)
    have hcs := (cells_of_pairs (zs := opNums) (n := 14) Tryd.underlying85 k1 k4 k5 k2 k3 k6 k7 (by kernel_rfl) (by kernel_rfl) hd2).2
    intro i z hz
    obtain ⟨c0, c1⟩ := hcs i z hz
    rw [World.var?_cell gTab2 hv2, World.var?_cell gTab2 hv2]
    exact ⟨by simpa using c0, by simpa using c1⟩
end Go.Proofs.YtmdjiajbnifjpaaDoor.Lift

