/-
  Plain facts: the terms of small values.
-/
import Derived.Test.YtbmnlkfgkdallaaGreatDoorH9
import Derived.Test.YtbmnlkfgkdallaaGreatDoorG2
namespace Go.Proofs.YtbmnlkfgkdallaaGreatDoor.Lift
set_option linter.unusedSimpArgs false
set_option linter.unusedVariables false
set_option linter.unnecessarySimpa false
open Go

theorem zty_tys : (Ty.mk 0 []).count = 1 := rfl

/-- what is known of the term of a value -/
structure TmFacts (t : Tm) (s : Ty) (v : Val) : Prop where
  shape : t.shape = true
  infer : t.inferN [] = (s, 0)
  nf : t.nf = true
  least : t.leastN 536870912 = true
  tys : t.tys
  read : t.readV = (v, true)

theorem num_shape : ∀ n : Nat, (numTm n).shape = true
  | 0 => rfl
  | n + 1 => by
    rw [numTm, Tm.shape_eq]
    simp [Tm.kind, Tm.index, Tm.type, Tm.args, Tm.shape.shapes, num_shape n, tmKind, tyOfKind, arityI, Ty.zero, Ty.kind, Ty.args]
theorem num_infer : ∀ n : Nat, (numTm n).inferN [] = (Ty.mk 1 [], 0)
  | 0 => rfl
  | n + 1 => by
    rw [numTm, Tm.inferN_eq]
    simp [Tm.kind, Tm.index, Tm.type, Tm.args, Tm.inferN.infers, num_infer n, ruleN]
    rfl
theorem num_kind : ∀ n : Nat, (numTm n).kind = 4 ∨ (numTm n).kind = 5
  | 0 => .inl rfl
  | n + 1 => .inr rfl
theorem num_nf : ∀ n : Nat, (numTm n).nf = true
  | 0 => rfl
  | n + 1 => by
    rw [numTm, Tm.nf_eq]
    simp [Tm.kind, Tm.args, Tm.nf.nfs, num_nf n, Tm.rootN]
theorem num_least : ∀ n : Nat, (numTm n).leastN 536870912 = true
  | 0 => rfl
  | n + 1 => by
    rw [numTm, Tm.leastN_eq]
    simp [Tm.index, Tm.args, Tm.leastN.leasts, num_least n]
theorem num_tys : ∀ n : Nat, (numTm n).tys
  | 0 => by rw [numTm, Tm.tys_eq]; simp [Tm.type, Tm.args, zty_tys]
  | n + 1 => by
    rw [numTm, Tm.tys_eq]
    simp [Tm.type, Tm.args, zty_tys, num_tys n]
theorem num_peel : ∀ n : Nat, (numTm n).peel = (n, 4)
  | 0 => rfl
  | n + 1 => by rw [numTm, Tm.peel_succ _ (numTm n) rfl rfl, num_peel n]
theorem num_facts (n : Nat) : TmFacts (numTm n) (Ty.mk 1 []) (Val.mk 1 n [] []) := by
  refine ⟨num_shape n, num_infer n, num_nf n, num_least n, num_tys n, ?_⟩
  rw [Tm.readV_eq, if_pos (num_kind n), num_peel]
  rfl

theorem listTm_cons (x : Int) (l : List Int) : listTm (x :: l) = Tm.mk 8 0 (Ty.mk 0 []) [numTm x.toNat, listTm l] := rfl
theorem list_facts : ∀ l : List Int, (∀ x ∈ l, 0 ≤ x) → TmFacts (listTm l) (Ty.mk 2 []) (Val.mk 2 0 l []) ∧ (listTm l).readL = some (l, 7) ∧ ((listTm l).kind = 7 ∨ (listTm l).kind = 8)
  | [], _ => ⟨⟨rfl, rfl, rfl, rfl, by rw [show listTm [] = Tm.mk 7 0 (Ty.mk 0 []) [] from rfl, Tm.tys_eq]; simp [Tm.type, Tm.args, zty_tys], rfl⟩, rfl, .inl rfl⟩
  | x :: r, h => by
    obtain ⟨hr, hl, _⟩ := list_facts r fun y hy => h y (by simp [hy])
    have hx := h x (by simp)
    have hn := num_facts x.toNat
    have hL : (listTm (x :: r)).readL = some (x :: r, 7) := by
      rw [Tm.readL_cons _ (numTm x.toNat) (listTm r) rfl rfl, num_peel, hl]
      simp; omega
    refine ⟨⟨?_, ?_, ?_, ?_, ?_, ?_⟩, hL, .inr rfl⟩
    · rw [listTm_cons, Tm.shape_eq]
      simp [Tm.kind, Tm.index, Tm.type, Tm.args, Tm.shape.shapes, hn.shape, hr.shape, tmKind, tyOfKind, arityI, Ty.zero, Ty.kind, Ty.args]
    · rw [listTm_cons, Tm.inferN_eq]
      simp [Tm.kind, Tm.index, Tm.type, Tm.args, Tm.inferN.infers, hn.infer, hr.infer, ruleN]
      decide
    · rw [listTm_cons, Tm.nf_eq]
      simp [Tm.kind, Tm.args, Tm.nf.nfs, hn.nf, hr.nf, Tm.rootN]
    · rw [listTm_cons, Tm.leastN_eq]
      simp [Tm.index, Tm.args, Tm.leastN.leasts, hn.least, hr.least]
    · rw [listTm_cons, Tm.tys_eq]
      simp [Tm.type, Tm.args, zty_tys, hn.tys, hr.tys]
    · rw [Tm.readV_eq, if_neg (by rw [listTm_cons]; simp [Tm.kind]), if_pos (.inr rfl), hL]
      simp

theorem unit_facts : TmFacts (Tm.mk 13 0 (Ty.mk 0 []) []) (Ty.mk 5 []) (Val.mk 4 0 [] []) :=
  ⟨rfl, rfl, rfl, rfl, by rw [Tm.tys_eq]; simp [Tm.type, Tm.args, zty_tys], rfl⟩

theorem pair_facts {a b : Tm} {s u : Ty} {v w : Val} (ha : TmFacts a s v) (hb : TmFacts b u w) (ho : (Ty.mk 3 [s, u]).checkN = 0) :
    TmFacts (Tm.mk 10 0 (Ty.mk 0 []) [a, b]) (Ty.mk 3 [s, u]) (Val.mk 3 0 [] [v, w]) := by
  refine ⟨?_, ?_, ?_, ?_, ?_, ?_⟩
  · rw [Tm.shape_eq]
    simp [Tm.kind, Tm.index, Tm.type, Tm.args, Tm.shape.shapes, ha.shape, hb.shape, tmKind, tyOfKind, arityI, Ty.zero, Ty.kind, Ty.args]
  · rw [Tm.inferN_eq]
    simp [Tm.kind, Tm.index, Tm.type, Tm.args, Tm.inferN.infers, ha.infer, hb.infer, ruleN, okN, ho]
  · rw [Tm.nf_eq]
    simp [Tm.kind, Tm.args, Tm.nf.nfs, ha.nf, hb.nf, Tm.rootN]
  · rw [Tm.leastN_eq]
    simp [Tm.index, Tm.args, Tm.leastN.leasts, ha.least, hb.least]
  · rw [Tm.tys_eq]
    simp [Tm.type, Tm.args, zty_tys, ha.tys, hb.tys]
  · rw [Tm.readV_eq]
    simp [Tm.kind, Tm.args, Tm.readV.reads, ha.read, hb.read]

theorem flat_tm {v : Val} (h : v.flat) : TmFacts v.termN v.tyN v ∧ (v.tyN = Ty.mk 1 [] ∨ v.tyN = Ty.mk 2 [] ∨ v.tyN = Ty.mk 5 []) := by
  obtain ⟨h0, h⟩ := h
  cases v with
  | mk k n l a =>
  simp only [Val.args, Val.kind, Val.num, Val.list] at h0 h
  subst h0
  rcases h with ⟨rfl, h2, h3, rfl⟩ | ⟨rfl, rfl, h3, h4⟩ | ⟨rfl, rfl, rfl⟩
  · have := num_facts n.toNat
    have e : ((n.toNat : Nat) : Int) = n := by omega
    rw [e] at this
    rw [Val.termN_eq, Val.tyN_eq]
    exact ⟨by simpa [Val.kind, Val.num, Val.list] using this, by simp [Val.kind]⟩
  · have := (list_facts l fun x hx => (h4 x hx).1).1
    rw [Val.termN_eq, Val.tyN_eq]
    exact ⟨by simpa [Val.kind, Val.num, Val.list] using this, by simp [Val.kind]⟩
  · rw [Val.termN_eq, Val.tyN_eq]
    exact ⟨by simpa [Val.kind, Val.num, Val.list] using unit_facts, by simp [Val.kind]⟩

theorem good_tm {v : Val} (h : v.good) : TmFacts v.termN v.tyN v := by
  rcases h with h | ⟨a, b, rfl, ha, hb⟩
  · exact (flat_tm h).1
  · obtain ⟨fa, ta⟩ := flat_tm ha
    obtain ⟨fb, tb⟩ := flat_tm hb
    have e1 : (Val.mk 3 0 [] [a, b]).termN = Tm.mk 10 0 (Ty.mk 0 []) [a.termN, b.termN] := by rw [Val.termN_eq]; simp [Val.args, Val.kind]
    have e2 : (Val.mk 3 0 [] [a, b]).tyN = Ty.mk 3 [a.tyN, b.tyN] := by rw [Val.tyN_eq]; simp [Val.args, Val.kind]
    rw [e1, e2]
    refine pair_facts fa fb ?_
    rcases ta with ta | ta | ta <;> rcases tb with tb | tb | tb <;> rw [ta, tb] <;> rfl

/-- a value that is made of a type has that type -/
theorem mkVal_tyF (l : List Int) (k : Int) (h : k = 1 ∨ k = 2 ∨ k = 5) (p : Nat) : (mkVal l (Ty.mk k []) p).1.tyN = Ty.mk k [] := by
  rw [mkVal_eq, Val.tyN_eq]
  rcases h with rfl | rfl | rfl <;> simp [Ty.kind, Val.kind]

theorem mkVal_ty (l : List Int) (q p : Nat) : (mkVal l (plainD l q).1 p).1.tyN = (plainD l q).1 := by
  have pair : ∀ k m : Int, (k = 1 ∨ k = 2 ∨ k = 5) → (m = 1 ∨ m = 2 ∨ m = 5) → (mkVal l (Ty.mk 3 [Ty.mk k [], Ty.mk m []]) p).1.tyN = Ty.mk 3 [Ty.mk k [], Ty.mk m []] := by
    intro k m hk hm
    have e : (mkVal l (Ty.mk 3 [Ty.mk k [], Ty.mk m []]) p).1 = Val.mk 3 0 [] [(mkVal l (Ty.mk k []) p).1, (mkVal l (Ty.mk m []) (mkVal l (Ty.mk k []) p).2).1] := by
      rw [mkVal_eq]
      simp [mkVal.mkVals, Ty.kind, Ty.args]
    rw [e, Val.tyN_eq]
    simp [Val.kind, Val.args, mkVal_tyF l k hk, mkVal_tyF l m hm]
  rcases plainD_cases l q with h | h | h | h | h <;> rw [h]
  · exact mkVal_tyF l 1 (by decide) p
  · exact mkVal_tyF l 2 (by decide) p
  · exact mkVal_tyF l 5 (by decide) p
  · exact pair 1 2 (by decide) (by decide)
  · exact pair 1 1 (by decide) (by decide)

/-- all that the statement says of a good value -/
theorem good_back {v : Val} (h : v.good) : v.termN.readE = (v, 0) ∧ v.typeE = (v.tyN, 0) ∧ v.termN.typeE [] = (v.tyN, 0) ∧ v.termN.checkN = 0 := by
  have ht := good_tm h
  obtain ⟨e1, e2, e3, e4⟩ := Val.good_facts h
  have hck : v.termN.checkN = 0 := (Tm.checkN_iff _).2 ⟨ht.shape, by omega⟩
  have hn : v.nodesN.2 = true ∧ v.nodesN.1 ≤ 64 := by
    rcases h with h | ⟨a, b, rfl, ha, hb⟩
    · rw [(Val.flat_facts h).1]; simp
    · rw [Val.nodesN_eq]; simp [Val.args, Val.nodesN.nodesL, Val.okB, Val.kind, Val.num, Val.list, (Val.flat_facts ha).1, (Val.flat_facts hb).1]
  refine ⟨?_, ?_, ?_, hck⟩
  · simp [Tm.readE, hck, ht.read]; omega
  · have : v.checkN = 0 := by simp [Val.checkN, hn.1]; omega
    simp [Val.typeE, this]
  · simp [Tm.typeE, Tm.typedE, ctxN, errTys, hck, ht.infer]
end Go.Proofs.YtbmnlkfgkdallaaGreatDoor.Lift
