/-
  Part M of the small logic: the rules by which states are reckoned.
-/
import Derived.Test.YtbmnlkfgkdallaaDoorLl
namespace Go.Proofs.YtbmnlkfgkdallaaDoor.Lift
set_option linter.unusedSimpArgs false
set_option linter.unusedVariables false
set_option linter.unnecessarySimpa false
open Go

abbrev dint (n : Int) : DV := .prim (.int .i64 n)
abbrev dbool (b : Bool) : DV := .prim (.bool b)

/- each rule has a constructor's form on its left side: nothing is taken apart that is not known -/
theorem get_nil (l : Loc) : get [] l = none := rfl
theorem get_same (l : Loc) (v : LV) (r : St) : get ((l, v) :: r) l = some v := by simp [get]
theorem get_other {l m : Loc} (v : LV) (r : St) (h : m ≠ l) : get ((m, v) :: r) l = get r l := by simp [get, h]
theorem del_nil (l : Loc) : del [] l = [] := rfl
theorem del_same (l : Loc) (v : LV) (r : St) : del ((l, v) :: r) l = del r l := by simp [del]
theorem del_other {l m : Loc} (v : LV) (r : St) (h : m ≠ l) : del ((m, v) :: r) l = (m, v) :: del r l := by simp [del, h]
theorem upd_eq (s : St) (l : Loc) (v : LV) : upd s l v = (l, v) :: del s l := rfl
theorem memN_nil (d : Nat) : memN d [] = false := rfl
theorem memN_cons (d x : Nat) (r : List Nat) : memN d (x :: r) = (d == x || memN d r) := rfl

def oneOf : Option LV → Option SV
  | some (.one x) => some x
  | _ => none
theorem oneOf_some (x : SV) : oneOf (some (.one x)) = some x := rfl
section
variable {X : Ctx} {s : St} {g : Rd}
theorem evl_tmp (t : Nat) : evl X g (.tmp t) = oneOf (g (.slot t)) := by
  unfold evl oneOf
  rfl
theorem evl_const (v : Value) : evl X g (.const v) = constS v := rfl
def evG : Option (List (List DV)) → Option SV
  | some (e :: r) => some (.dp (e :: r) 0 0)
  | _ => none
theorem evG_some (e : List DV) (r : List (List DV)) : evG (some (e :: r)) = some (.dp (e :: r) 0 0) := rfl
theorem evl_global (b : Nat) : evl X g (.global b) = evG (globOf X.gl b) := by
  unfold evl evG
  rfl
theorem evl_func (f : Nat) : evl X g (.func f) = some (.v (.prim (.func (.func f) #[] #[]))) := rfl
theorem constS_nil : constS (.slice none 0 0) = some (.own 0 []) := rfl
theorem constS_int {k : IntKind} {n : Int} (h : intOK k n) : constS (.int k n) = some (.v (.prim (.int k n))) := by simp [constS, primB, h]
theorem constS_bool (b : Bool) : constS (.bool b) = some (.v (.prim (.bool b))) := rfl
theorem constS_string (b : ByteArray) : constS (.string b) = some (.v (.prim (.string b))) := rfl
theorem constS_nilFunc : constS .nilFunc = some (.v (.prim .nilFunc)) := rfl
theorem constS_nilIface : constS .nilIface = some (.v (.prim .nilIface)) := rfl
theorem constS_ptr (a : Option Addr) : constS (.pointer a) = some (.v (.prim (.pointer a))) := rfl
theorem constS_map (a : Option Nat) : constS (.map a) = some (.v (.prim (.map a))) := rfl

theorem toD_v (x : DV) : toD (.v x) = some x := rfl
theorem toD_ag (cs : List DV) (ns : List Nat) : toD (.ag cs ns) = some (.agg cs) := rfl
theorem toD_own (t : Nat) (els : List (List DV)) : toD (.own t els) = some (.sl els) := rfl
theorem toDs_nil : toDs [] = some [] := rfl
theorem toDs_v (x : DV) (r : List SV) : toDs (.v x :: r) = (toDs r).map (x :: ·) := by
  simp only [toDs, toD]
  cases toDs r <;> rfl
theorem toDs_own (t : Nat) (els : List (List DV)) (r : List SV) : toDs (.own t els :: r) = (toDs r).map (.sl els :: ·) := by
  simp only [toDs, toD]
  cases toDs r <;> rfl
theorem cellsD_agg (cs : List DV) : cellsD (.agg cs) = cs := rfl
theorem cellsD_prim (v : Value) : cellsD (.prim v) = [.prim v] := rfl
theorem cellsD_sl (e : List (List DV)) : cellsD (.sl e) = [.sl e] := rfl
theorem cellsD_iface (t : TypeId) (x : DV) : cellsD (.iface t x) = [.iface t x] := rfl
theorem cellsS_v (x : DV) : cellsS (.v x) = (cellsD x).map .v := rfl
theorem cellsS_own (t : Nat) (els : List (List DV)) : cellsS (.own t els) = [.own t els] := rfl
theorem cellsS_loc (k off : Nat) : cellsS (.loc k off) = [.loc k off] := rfl
theorem cellsS_ag (cs : List DV) (ns : List Nat) : cellsS (.ag cs ns) = agC ns 0 cs := rfl
theorem agC_nil (ns : List Nat) (k : Nat) : agC ns k [] = [] := rfl
def agB (b : Bool) (d : DV) : SV := if b then .own 0 [] else .v d
theorem agB_t (d : DV) : agB true d = .own 0 [] := rfl
theorem agB_f (d : DV) : agB false d = .v d := rfl
theorem agC_cons (ns : List Nat) (k : Nat) (d : DV) (r : List DV) : agC ns k (d :: r) = agB (memN k ns) d :: agC ns (k + 1) r := rfl
theorem nilsOf_nil (k : Nat) : nilsOf k [] = [] := rfl
theorem nilsOf_own (k : Nat) (r : List SV) : nilsOf k (.own 0 [] :: r) = k :: nilsOf (k + 1) r := rfl
theorem nilsOf_ownt (k t : Nat) (e : List (List DV)) (r : List SV) : nilsOf k (.own (t + 1) e :: r) = nilsOf (k + 1) r := by
  rw [nilsOf]
  rintro h1
  cases h1
theorem nilsOf_v (k : Nat) (x : DV) (r : List SV) : nilsOf k (.v x :: r) = nilsOf (k + 1) r := rfl
theorem nilsOf_loc (k j o : Nat) (r : List SV) : nilsOf k (.loc j o :: r) = nilsOf (k + 1) r := rfl
theorem hasLoc_ag (d : Nat) (cs : List DV) (ns : List Nat) : hasLoc d (.ag cs ns) = false := rfl
theorem hasTok_ag (d : Nat) (cs : List DV) (ns : List Nat) : hasTok d (.ag cs ns) = false := rfl
theorem slOf_sl (e : List (List DV)) : slOf (.v (.sl e)) = some e := rfl
theorem slOf_own (t : Nat) (e : List (List DV)) : slOf (.own t e) = some e := rfl
theorem cell_prim (v : Value) : DV.isCell (.prim v) = true := rfl
theorem cell_sl (e : List (List DV)) : DV.isCell (.sl e) = true := rfl
theorem cell_iface (t : TypeId) (x : DV) : DV.isCell (.iface t x) = true := rfl
theorem cellS_v (x : DV) : SV.isCell (.v x) = x.isCell := rfl
theorem cellS_loc (k o : Nat) : SV.isCell (.loc k o) = true := rfl
theorem cellS_dp (e : List (List DV)) (k o : Nat) : SV.isCell (.dp e k o) = true := rfl
theorem cellS_own (t : Nat) (e : List (List DV)) : SV.isCell (.own t e) = true := rfl
theorem cellB_nil : cellB [] = true := rfl
theorem cellB_cons (x : DV) (r : List DV) : cellB (x :: r) = (x.isCell && cellB r) := rfl
theorem cellBS_nil : cellBS [] = true := rfl
theorem cellBS_cons (x : SV) (r : List SV) : cellBS (x :: r) = (x.isCell && cellBS r) := rfl
theorem hasLoc_v (d : Nat) (x : DV) : hasLoc d (.v x) = false := rfl
theorem hasLoc_loc (d k o : Nat) : hasLoc d (.loc k o) = (k == d) := rfl
theorem hasLoc_dp (d : Nat) (e : List (List DV)) (k o : Nat) : hasLoc d (.dp e k o) = false := rfl
theorem hasLoc_own (d t : Nat) (e : List (List DV)) : hasLoc d (.own t e) = false := rfl
theorem hasTok_v (d : Nat) (x : DV) : hasTok d (.v x) = false := rfl
theorem hasTok_loc (d k o : Nat) : hasTok d (.loc k o) = false := rfl
theorem hasTok_dp (d : Nat) (e : List (List DV)) (k o : Nat) : hasTok d (.dp e k o) = false := rfl
theorem hasTok_own (d t : Nat) (e : List (List DV)) : hasTok d (.own t e) = (t == d) := rfl
theorem anyLoc_nil (d : Nat) : anyLoc d [] = false := rfl
theorem anyLoc_cons (d : Nat) (x : SV) (r : List SV) : anyLoc d (x :: r) = (hasLoc d x || anyLoc d r) := rfl
theorem anyTok_nil (d : Nat) : anyTok d [] = false := rfl
theorem anyTok_cons (d : Nat) (x : SV) (r : List SV) : anyTok d (x :: r) = (hasTok d x || anyTok d r) := rfl
theorem freshL_nil (d : Nat) : freshL d [] = true := rfl
theorem freshL_slot (d n : Nat) (x : SV) (r : St) : freshL d ((.slot n, .one x) :: r) = (!hasLoc d x && freshL d r) := by simp [freshL]
theorem freshL_loc (d n : Nat) (cs : List SV) (r : St) : freshL d ((.loc n, .row cs) :: r) = (n != d && !anyLoc d cs && freshL d r) := by simp [freshL]
theorem freshL_heap (d n : Nat) (cs : List SV) (r : St) : freshL d ((.heap n, .row cs) :: r) = (!anyLoc d cs && freshL d r) := by simp [freshL]
theorem freshL_ob (d n : Nat) (q : Loop) (r : St) : freshL d ((.heap n, .ob q) :: r) = freshL d r := by simp [freshL]
theorem freshT_ob (d n : Nat) (q : Loop) (r : St) : freshT d ((.heap n, .ob q) :: r) = freshT d r := by simp [freshT]
theorem freshL_tok (d n E l : Nat) (r : St) : freshL d ((.tok n, .tk E l) :: r) = freshL d r := by simp [freshL]
theorem freshT_nil (d : Nat) : freshT d [] = true := rfl
theorem freshT_slot (d n : Nat) (x : SV) (r : St) : freshT d ((.slot n, .one x) :: r) = (!hasTok d x && freshT d r) := by simp [freshT]
theorem freshT_loc (d n : Nat) (cs : List SV) (r : St) : freshT d ((.loc n, .row cs) :: r) = (!anyTok d cs && freshT d r) := by simp [freshT]
theorem freshT_heap (d n : Nat) (cs : List SV) (r : St) : freshT d ((.heap n, .row cs) :: r) = (!anyTok d cs && freshT d r) := by simp [freshT]
theorem freshT_tok (d n E l : Nat) (r : St) : freshT d ((.tok n, .tk E l) :: r) = (n != d && freshT d r) := by simp [freshT]
theorem put_zero (cs xs : List SV) : put cs 0 xs = xs ++ cs.drop xs.length := by simp [put]
theorem put_succ (c : SV) (r xs : List SV) (n : Nat) : put (c :: r) (n + 1) xs = c :: put r n xs := by simp [put]

/- the regions -/
def vcK (X : Ctx) (esc : List Nat) (ops : Array Oper) (l : List Oper) (K : St → Prop) (o : Oper) (s : St) : Option (Prop × St) → Prop
  | some (c, s') => c ∧ vc X esc ops l s' K
  | none => VL X ops (o :: l) s K
theorem vc_nil (esc : List Nat) (ops : Array Oper) (K : St → Prop) : vc X esc ops [] s K = K s := by simp [vc]
theorem vc_op (esc : List Nat) (ops : Array Oper) (l : List Oper) (K : St → Prop) (d : Option Tmp) (op : Op) (ty : TypeId) (pos : String) (af : Array Edge) :
    vc X esc ops (⟨d, op, ty, pos, af, none⟩ :: l) s K = vcK X esc ops l K ⟨d, op, ty, pos, af, none⟩ s (stepS X esc s ⟨d, op, ty, pos, af, none⟩) := by
  simp only [vc, guardOf, vcK]
  cases stepS X esc s ⟨d, op, ty, pos, af, none⟩ <;> rfl
theorem vcK_some (esc : List Nat) (ops : Array Oper) (l : List Oper) (K : St → Prop) (o : Oper) (c : Prop) (s' : St) : vcK X esc ops l K o s (some (c, s')) = (c ∧ vc X esc ops l s' K) := rfl

theorem del_del (s : St) (l : Loc) : del (del s l) l = del s l := by
  induction s with
  | nil => rfl
  | cons p r ih =>
    obtain ⟨m, v⟩ := p
    by_cases h : m = l <;> simp [del, h, ih]
theorem upd_upd (s : St) (l : Loc) (v u : LV) : upd (upd s l v) l u = upd s l u := by simp [upd, del, del_del]

def gsl (ops : Array Oper) (j : Nat) : Option Nat := (ops[j]?).bind (·.dst)

/-- an operation that is guarded by a slot -/
def vcG (X : Ctx) (esc : List Nat) (ops : Array Oper) (l : List Oper) (K : St → Prop) (o : Oper) (s : St) (want : Bool) (dj : Nat) : Option SV → Prop
  | some (.v (.prim (.bool b))) =>
    dj < X.n ∧ (b = want → vcK X esc ops l K o (upd s (.slot dj) (.one (.v (.prim (.bool want))))) (stepS X esc (upd s (.slot dj) (.one (.v (.prim (.bool want))))) o)) ∧
      (b = !want → match o.dst with
        | some d => d < X.n ∧ vc X esc ops l (upd (upd s (.slot dj) (.one (.v (.prim (.bool (!want)))))) (.slot d) unv) K
        | none => False)
  | some (.v (.tup [])) => match o.dst with
    | some d => d < X.n ∧ vc X esc ops l (upd s (.slot d) unv) K
    | none => False
  | _ => False

def vcG0 (X : Ctx) (esc : List Nat) (ops : Array Oper) (l : List Oper) (K : St → Prop) (o : Oper) (s : St) (want : Bool) : Option Nat → Prop
  | some dj => vcG X esc ops l K o s want dj (oneOf (get s (.slot dj)))
  | none => False

theorem vcG0_some (esc : List Nat) (ops : Array Oper) (l : List Oper) (K : St → Prop) (o : Oper) (w : Bool) (dj : Nat) : vcG0 X esc ops l K o s w (some dj) = vcG X esc ops l K o s w dj (oneOf (get s (.slot dj))) := rfl

theorem vc_gd (esc : List Nat) (ops : Array Oper) (l : List Oper) (K : St → Prop) (d : Option Tmp) (op : Op) (ty : TypeId) (pos : String) (af : Array Edge) (j : Nat) (w : Bool) :
    vc X esc ops (⟨d, op, ty, pos, af, some (j, w)⟩ :: l) s K = vcG0 X esc ops l K ⟨d, op, ty, pos, af, some (j, w)⟩ s w (gsl ops j) := by
  simp only [vc, guardOf, gsl]
  cases h : (ops[j]?).bind (·.dst) with
  | none => rfl
  | some dj =>
    simp only [vcG0]
    have e : get s (.slot dj) = get s (.slot dj) := rfl
    generalize get s (.slot dj) = u at *
    unfold vcG oneOf vcK
    cases u with
    | none => rfl
    | some u => cases u with
      | row => rfl
      | tk => rfl
      | ob => rfl
      | one x => cases x with
        | v y => cases y with
          | prim q => cases q <;> first | rfl | (apply propext; constructor <;> (intro h; exact h))
          | tup cs => cases cs <;> rfl
          | _ => rfl
        | _ => rfl

theorem vcG_yes_t (esc : List Nat) (ops : Array Oper) (l : List Oper) (K : St → Prop) (o : Oper) (dj : Nat) :
    vcG X esc ops l K o s true dj (some (.v (.prim (.bool true)))) = (dj < X.n ∧ vcK X esc ops l K o (upd s (.slot dj) (.one (.v (.prim (.bool true))))) (stepS X esc (upd s (.slot dj) (.one (.v (.prim (.bool true))))) o)) := by
  simp [vcG]
theorem vcG_yes_f (esc : List Nat) (ops : Array Oper) (l : List Oper) (K : St → Prop) (o : Oper) (dj : Nat) :
    vcG X esc ops l K o s false dj (some (.v (.prim (.bool false)))) = (dj < X.n ∧ vcK X esc ops l K o (upd s (.slot dj) (.one (.v (.prim (.bool false))))) (stepS X esc (upd s (.slot dj) (.one (.v (.prim (.bool false))))) o)) := by
  simp [vcG]
theorem vcG_no_t (esc : List Nat) (ops : Array Oper) (l : List Oper) (K : St → Prop) (d : Tmp) (op : Op) (ty : TypeId) (pos : String) (af : Array Edge) (gd : Option (Nat × Bool)) (dj : Nat) :
    vcG X esc ops l K ⟨some d, op, ty, pos, af, gd⟩ s true dj (some (.v (.prim (.bool false)))) = (dj < X.n ∧ d < X.n ∧ vc X esc ops l (upd (upd s (.slot dj) (.one (.v (.prim (.bool false))))) (.slot d) unv) K) := by
  simp [vcG]
theorem vcG_no_f (esc : List Nat) (ops : Array Oper) (l : List Oper) (K : St → Prop) (d : Tmp) (op : Op) (ty : TypeId) (pos : String) (af : Array Edge) (gd : Option (Nat × Bool)) (dj : Nat) :
    vcG X esc ops l K ⟨some d, op, ty, pos, af, gd⟩ s false dj (some (.v (.prim (.bool true)))) = (dj < X.n ∧ d < X.n ∧ vc X esc ops l (upd (upd s (.slot dj) (.one (.v (.prim (.bool true))))) (.slot d) unv) K) := by
  simp [vcG]
theorem vcG_un (esc : List Nat) (ops : Array Oper) (l : List Oper) (K : St → Prop) (d : Tmp) (op : Op) (ty : TypeId) (pos : String) (af : Array Edge) (gd : Option (Nat × Bool)) (w : Bool) (dj : Nat) :
    vcG X esc ops l K ⟨some d, op, ty, pos, af, gd⟩ s w dj (some (.v (.tup []))) = (d < X.n ∧ vc X esc ops l (upd s (.slot d) unv) K) := rfl
/-- the guard is not known: both ways -/
theorem vcG_split {esc : List Nat} {ops : Array Oper} {l : List Oper} {K : St → Prop} {o : Oper} {w b : Bool} {dj : Nat} (ht : b = true → vcG X esc ops l K o (upd s (.slot dj) (.one (.v (.prim (.bool true))))) w dj (some (.v (.prim (.bool true)))))
    (hf : b = false → vcG X esc ops l K o (upd s (.slot dj) (.one (.v (.prim (.bool false))))) w dj (some (.v (.prim (.bool false))))) : vcG X esc ops l K o s w dj (some (.v (.prim (.bool b)))) := by
  cases b with
  | true =>
    have := ht rfl
    cases w <;> simpa [vcG, upd_upd] using this
  | false =>
    have := hf rfl
    cases w <;> simpa [vcG, upd_upd] using this

/- operations -/
def esK (b : Bool) (r : Option (Prop × St)) : Option (Prop × St) := if b then none else r
theorem esK_false (r : Option (Prop × St)) : esK false r = r := rfl
theorem put1_some (d : Nat) (c : Prop) (y : SV) : put1 X s (some d) (some (c, y)) = some (c ∧ d < X.n, upd s (.slot d) (.one y)) := rfl
theorem put1_none (c : Prop) (y : SV) : put1 X s none (some (c, y)) = some (c, s) := rfl
def tru : Option SV → Option (Prop × SV)
  | some y => some (True, y)
  | none => none
theorem tru_some (y : SV) : tru (some y) = some (True, y) := rfl
theorem tru_map (o : Option SV) : o.map (True, ·) = tru o := by cases o <;> rfl

def pickV (c x y : Option SV) : Option (Prop × SV) :=
  match c with
  | some (.v (.prim (.bool true))) => tru x
  | some (.v (.prim (.bool false))) => tru y
  | _ => none
theorem pickV_t (x y : Option SV) : pickV (some (.v (.prim (.bool true)))) x y = tru x := rfl
theorem pickV_f (x y : Option SV) : pickV (some (.v (.prim (.bool false)))) x y = tru y := rfl

def binV (P : Program) (op : BinOp) (t : TypeId) (x y : Option SV) : Option (Prop × SV) :=
  match x, y with
  | some (.v (.prim (.int k a))), some (.v (.prim (.int k' b))) => if k = k' then intOp op k a b else none
  | some (.v (.prim (.bool a))), some (.v (.prim (.bool b))) =>
    if boolT P t then
      match op with
      | .eql => some (True, .v (.prim (.bool (a == b))))
      | .neq => some (True, .v (.prim (.bool (!(a == b)))))
      | _ => none
    else none
  | _, _ => none
theorem binV_int (P : Program) (op : BinOp) (t : TypeId) (k : IntKind) (a b : Int) : binV P op t (some (.v (.prim (.int k a)))) (some (.v (.prim (.int k b)))) = intOp op k a b := by simp [binV]
theorem binV_beq {P : Program} {t : TypeId} (h : boolT P t = true) (a b : Bool) : binV P .eql t (some (.v (.prim (.bool a)))) (some (.v (.prim (.bool b)))) = some (True, .v (.prim (.bool (a == b)))) := by simp [binV, h]
theorem binV_bne {P : Program} {t : TypeId} (h : boolT P t = true) (a b : Bool) : binV P .neq t (some (.v (.prim (.bool a)))) (some (.v (.prim (.bool b)))) = some (True, .v (.prim (.bool (!(a == b))))) := by simp [binV, h]
theorem intOp_add (k : IntKind) (a b : Int) : intOp .add k a b = some (intOK k (a + b), .v (.prim (.int k (a + b)))) := rfl
theorem intOp_sub (k : IntKind) (a b : Int) : intOp .sub k a b = some (intOK k (a - b), .v (.prim (.int k (a - b)))) := rfl
theorem intOp_mul (k : IntKind) (a b : Int) : intOp .mul k a b = some (intOK k (a * b), .v (.prim (.int k (a * b)))) := rfl
theorem intOp_rem (k : IntKind) (a b : Int) : intOp .rem k a b = some (b ≠ 0 ∧ intOK k (a.tmod b), .v (.prim (.int k (a.tmod b)))) := rfl
theorem intOp_quo (k : IntKind) (a b : Int) : intOp .quo k a b = some (b ≠ 0 ∧ intOK k (a.tdiv b), .v (.prim (.int k (a.tdiv b)))) := rfl
theorem intOp_eql (k : IntKind) (a b : Int) : intOp .eql k a b = some (True, .v (.prim (.bool (decide (a = b))))) := rfl
theorem intOp_neq (k : IntKind) (a b : Int) : intOp .neq k a b = some (True, .v (.prim (.bool (!decide (a = b))))) := rfl
theorem intOp_lss (k : IntKind) (a b : Int) : intOp .lss k a b = some (True, .v (.prim (.bool (decide (a < b))))) := rfl
theorem intOp_leq (k : IntKind) (a b : Int) : intOp .leq k a b = some (True, .v (.prim (.bool (decide (a ≤ b))))) := rfl
theorem intOp_gtr (k : IntKind) (a b : Int) : intOp .gtr k a b = some (True, .v (.prim (.bool (decide (b < a))))) := rfl
theorem intOp_geq (k : IntKind) (a b : Int) : intOp .geq k a b = some (True, .v (.prim (.bool (decide (b ≤ a))))) := rfl

def unV (op : UnOp) (x : Option SV) : Option (Prop × SV) :=
  match op, x with
  | .not, some (.v (.prim (.bool b))) => some (True, .v (.prim (.bool (!b))))
  | .neg, some (.v (.prim (.int k n))) => some (intOK k (0 - n), .v (.prim (.int k (0 - n))))
  | _, _ => none
theorem unV_not (b : Bool) : unV .not (some (.v (.prim (.bool b)))) = some (True, .v (.prim (.bool (!b)))) := rfl
theorem unV_neg (k : IntKind) (n : Int) : unV .neg (some (.v (.prim (.int k n)))) = some (intOK k (0 - n), .v (.prim (.int k (0 - n)))) := rfl

def exC (o : Option DV) : Option (Prop × SV) := o.map fun c => (True, .v c)
theorem exC_some (c : DV) : exC (some c) = some (True, .v c) := rfl
def exV (x : Option SV) (i : Nat) : Option (Prop × SV) :=
  match x with
  | some (.v (.tup cs)) => exC cs[i]?
  | _ => none
theorem exV_some (cs : List DV) (i : Nat) : exV (some (.v (.tup cs))) i = exC cs[i]? := rfl

def faV (f : Option (Bool × Nat × Nat)) (x : Option SV) : Option (Prop × SV) :=
  match f, x with
  | some (_, foff, _), some (.loc k off) => some (True, .loc k (off + foff))
  | some (_, foff, _), some (.dp els i off) => some (True, .dp els i (off + foff))
  | some (_, foff, _), some (.v (.prim (.pointer (some ⟨b, off, none⟩)))) => some (True, .v (.prim (.pointer (some ⟨b, off + foff, none⟩))))
  | _, _ => none
theorem faV_loc (b : Bool) (n foff k off : Nat) : faV (some (b, foff, n)) (some (.loc k off)) = some (True, .loc k (off + foff)) := rfl
theorem faV_dp (b : Bool) (n foff i off : Nat) (els : List (List DV)) : faV (some (b, foff, n)) (some (.dp els i off)) = some (True, .dp els i (off + foff)) := rfl
theorem faV_ptr (b : Bool) (n foff k off : Nat) : faV (some (b, foff, n)) (some (.v (.prim (.pointer (some ⟨k, off, none⟩))))) = some (True, .v (.prim (.pointer (some ⟨k, off + foff, none⟩)))) := rfl

def fdC (y : DV) (o : Option DV) : Option (Prop × SV) := o.map fun c => (y.isAgg = true, .v c)
theorem fdC_some (y c : DV) : fdC y (some c) = some (y.isAgg = true, .v c) := rfl
def fdV (f : Option (Bool × Nat × Nat)) (x : Option SV) : Option (Prop × SV) :=
  match f, x with
  | some (agg, off, n), some (.v y) => fdC y (readD (cellsD y) agg off n)
  | _, _ => none
theorem fdV_some (agg : Bool) (off n : Nat) (y : DV) : fdV (some (agg, off, n)) (some (.v y)) = fdC y (readD (cellsD y) agg off n) := rfl
theorem readD_one (cs : List DV) (off n : Nat) : readD cs false off n = cs[off]? := rfl
def rdA (n : Nat) (ds : List DV) : Option DV := if ds.length = n then some (.agg ds) else none
theorem rdA_some {n : Nat} {ds : List DV} (h : ds.length = n) : rdA n ds = some (.agg ds) := by simp [rdA, h]
theorem readD_agg (cs : List DV) (off n : Nat) : readD cs true off n = rdA n ((cs.drop off).take n) := rfl
theorem isAgg_agg (cs : List DV) : DV.isAgg (.agg cs) = true := rfl

def rdS (n : Nat) : Option (List DV) → Option SV
  | some ds => if ds.length = n then some (.v (.agg ds)) else none
  | none => none
theorem rdS_some {n : Nat} {ds : List DV} (h : ds.length = n) : rdS n (some ds) = some (.v (.agg ds)) := by simp [rdS, h]
theorem readRow_one (cs : List SV) (off n : Nat) : readRow cs false off n = cs[off]? := rfl
theorem readRow_agg (cs : List SV) (off n : Nat) : readRow cs true off n = rdS n (toDs ((cs.drop off).take n)) := by
  simp only [readRow, if_true, rdS]
  cases toDs ((cs.drop off).take n) <;> rfl

def ldRow (lay : Option (Bool × Nat)) (r : Option LV) (off : Nat) : Option SV :=
  match lay, r with
  | some (agg, n), some (.row cs) => readRow cs agg off n
  | _, _ => none
theorem ldRow_some (agg : Bool) (n off : Nat) (cs : List SV) : ldRow (some (agg, n)) (some (.row cs)) off = readRow cs agg off n := rfl
def ldDp (lay : Option (Bool × Nat)) (e : Option (List DV)) (off : Nat) : Option SV :=
  match lay, e with
  | some (agg, n), some e => (readD e agg off n).map .v
  | _, _ => none
theorem ldDp_some (agg : Bool) (n off : Nat) (e : List DV) : ldDp (some (agg, n)) (some e) off = (readD e agg off n).map .v := rfl
def ldV (P : Program) (g : Rd) (t : TypeId) (x : Option SV) : Option SV :=
  match x with
  | some (.loc k off) => ldRow (layT P t) (g (.loc k)) off
  | some (.dp els i off) => ldDp (layT P t) els[i]? off
  | some (.v (.prim (.pointer (some ⟨b, off, none⟩)))) => ldRow (layT P t) (g (.heap b)) off
  | _ => none
theorem ldV_eq (t : TypeId) (y : SV) : ldV X.P g t (some y) = loadAt X g t y := by
  cases y with
  | loc k off =>
    simp only [ldV, ldRow, loadAt]
    cases layT X.P t <;> cases g (.loc k) <;> rfl
  | dp els i off =>
    simp only [ldV, ldDp, loadAt]
    cases layT X.P t <;> cases els[i]? <;> rfl
  | own t els => rfl
  | ag cs ns => rfl
  | v x => cases x with
    | prim v => cases v with
      | pointer p => cases p with
        | none => rfl
        | some a => obtain ⟨b, o, sp⟩ := a; cases sp with
          | none =>
            simp only [ldV, ldRow, loadAt]
            cases layT X.P t <;> cases g (.heap b) <;> rfl
          | some _ => rfl
      | _ => rfl
    | _ => rfl
theorem ldV_loc (P : Program) (t k off : Nat) : ldV P g t (some (.loc k off)) = ldRow (layT P t) (g (.loc k)) off := rfl
theorem ldV_dp (P : Program) (t i off : Nat) (els : List (List DV)) : ldV P g t (some (.dp els i off)) = ldDp (layT P t) els[i]? off := rfl
theorem ldV_ptr (P : Program) (t b off : Nat) : ldV P g t (some (.v (.prim (.pointer (some ⟨b, off, none⟩))))) = ldRow (layT P t) (g (.heap b)) off := rfl

def ixS (E : Nat) (els : List (List DV)) (n : Int) : Option (List DV) → Option (Prop × SV)
  | some e => some (0 ≤ n ∧ e.length = E, .dp els n.toNat 0)
  | none => none
theorem ixS_some (E : Nat) (els : List (List DV)) (n : Int) (e : List DV) : ixS E els n (some e) = some (0 ≤ n ∧ e.length = E, .dp els n.toNat 0) := rfl
def ixA (len E j : Nat) (els : List (List DV)) (n : Int) : Option (List DV) → Option (Prop × SV)
  | some e => some (0 ≤ n ∧ n < len ∧ 1 < len ∧ e.length = E, .dp els (j + n.toNat) 0)
  | none => none
theorem ixA_some (len E j : Nat) (els : List (List DV)) (n : Int) (e : List DV) : ixA len E j els n (some e) = some (0 ≤ n ∧ n < len ∧ 1 < len ∧ e.length = E, .dp els (j + n.toNat) 0) := rfl
def ixV (el : Option Nat) (ar : Option (Nat × Nat)) (x i : Option SV) : Option (Prop × SV) :=
  match x, i with
  | some y, some (.v (.prim (.int _ n))) =>
    match el, slOf y with
    | some E, some els => ixS E els n els[n.toNat]?
    | _, _ => match ar, y with
      | some (len, E), .loc k off => some (0 ≤ n ∧ n < len ∧ 1 < len, .loc k (off + n.toNat * E))
      | some (len, E), .dp els j 0 => ixA len E j els n els[j + n.toNat]?
      | _, _ => none
  | _, _ => none
theorem ixV_v (E : Nat) (ar : Option (Nat × Nat)) (els : List (List DV)) (k : IntKind) (n : Int) : ixV (some E) ar (some (.v (.sl els))) (some (.v (.prim (.int k n)))) = ixS E els n els[n.toNat]? := rfl
theorem ixV_own (E : Nat) (ar : Option (Nat × Nat)) (t : Nat) (els : List (List DV)) (k : IntKind) (n : Int) : ixV (some E) ar (some (.own t els)) (some (.v (.prim (.int k n)))) = ixS E els n els[n.toNat]? := rfl
theorem ixV_loc (len E k off : Nat) (kk : IntKind) (n : Int) : ixV none (some (len, E)) (some (.loc k off)) (some (.v (.prim (.int kk n)))) = some (0 ≤ n ∧ n < len ∧ 1 < len, .loc k (off + n.toNat * E)) := rfl
theorem ixV_dp (len E j : Nat) (els : List (List DV)) (kk : IntKind) (n : Int) : ixV none (some (len, E)) (some (.dp els j 0)) (some (.v (.prim (.int kk n)))) = ixA len E j els n els[j + n.toNat]? := rfl

def blC (cs : List SV) : Option (List DV) → Option (Prop × SV)
  | some ds => if cellB ds then some (True, .ag ds (nilsOf 0 cs)) else none
  | none => none
theorem blC_some {cs : List SV} {ds : List DV} (h : cellB ds = true) : blC cs (some ds) = some (True, .ag ds (nilsOf 0 cs)) := by simp [blC, h]
def blD : Option (List SV) → Option (Prop × SV)
  | some cs => blC cs (toDs cs)
  | none => none
theorem blD_some (cs : List SV) : blD (some cs) = blC cs (toDs cs) := rfl
def blV (X : Ctx) (g : Rd) (z : Option (List SV)) (pl : Option (List (Nat × Nat))) (parts : List (Nat × Operand)) : Option (Prop × SV) :=
  match z, pl with
  | some z, some pl => blD (fillS pl X g z parts)
  | _, _ => none
theorem blV_some (z : List SV) (pl : List (Nat × Nat)) (parts : List (Nat × Operand)) : blV X g (some z) (some pl) parts = blD (fillS pl X g z parts) := rfl
theorem fillS_nil (pl : List (Nat × Nat)) (cells : List SV) : fillS pl X g cells [] = some cells := rfl
def fillK (pl : List (Nat × Nat)) (X : Ctx) (g : Rd) (cells : List SV) (rest : List (Nat × Operand)) (p : Option (Nat × Nat)) (y : Option SV) : Option (List SV) :=
  match p, y with
  | some (off, size), some y => if (cellsS y).length = size ∧ off + size ≤ cells.length then fillS pl X g (put cells off (cellsS y)) rest else none
  | _, _ => none
theorem fillS_cons (pl : List (Nat × Nat)) (cells : List SV) (i : Nat) (x : Operand) (rest : List (Nat × Operand)) : fillS pl X g cells ((i, x) :: rest) = fillK pl X g cells rest pl[i]? (evl X g x) := rfl
theorem fillK_some {pl : List (Nat × Nat)} {cells : List SV} {rest : List (Nat × Operand)} {off size : Nat} {y : SV} (h : (cellsS y).length = size ∧ off + size ≤ cells.length) :
    fillK pl X g cells rest (some (off, size)) (some y) = fillS pl X g (put cells off (cellsS y)) rest := by simp [fillK, h]

def ifV (b : Bool) (t : TypeId) : Option DV → Option (Prop × SV)
  | some y => if b then some (True, .v (.iface t y)) else none
  | none => none
theorem ifV_some (t : TypeId) (y : DV) : ifV true t (some y) = some (True, .v (.iface t y)) := rfl

def ncV (x : Option SV) : Option (Prop × SV) :=
  match x with
  | some (.loc k off) => some (True, .loc k off)
  | some (.dp els i off) => some (True, .dp els i off)
  | some (.v (.prim (.pointer (some a)))) => some (True, .v (.prim (.pointer (some a))))
  | some (.v (.prim (.func (.func f) x y))) => some (True, .v (.prim (.func (.func f) x y)))
  | _ => none
theorem ncV_loc (k off : Nat) : ncV (some (.loc k off)) = some (True, .loc k off) := rfl
theorem ncV_dp (els : List (List DV)) (k off : Nat) : ncV (some (.dp els k off)) = some (True, .dp els k off) := rfl
theorem ncV_ptr (a : Addr) : ncV (some (.v (.prim (.pointer (some a))))) = some (True, .v (.prim (.pointer (some a)))) := rfl
theorem ncV_func (f : Nat) (x y : Array Value) : ncV (some (.v (.prim (.func (.func f) x y)))) = some (True, .v (.prim (.func (.func f) x y))) := rfl

def cvV (x : Option SV) (a b : Option IntKind) : Option (Prop × SV) :=
  match x, a, b with
  | some (.v (.prim (.int _ n))), some _, some k => some (intOK k n, .v (.prim (.int k n)))
  | _, _, _ => none
theorem cvV_some (k0 a k : IntKind) (n : Int) : cvV (some (.v (.prim (.int k0 n)))) (some a) (some k) = some (intOK k n, .v (.prim (.int k n))) := rfl

def pvK (x : Option SV) (r : Option (List Value)) : Option (List Value) :=
  match x, r with
  | some (.v (.prim v)), some vs => some (v :: vs)
  | _, _ => none
theorem pvK_some (v : Value) (vs : List Value) : pvK (some (.v (.prim v))) (some vs) = some (v :: vs) := rfl
theorem pvls_nil : pvls X g [] = some [] := rfl
theorem pvls_cons (x : Operand) (r : List Operand) : pvls X g (x :: r) = pvK (evl X g x) (pvls X g r) := by
  simp only [pvls]
  rfl
def mfV (fn : Fn) (x y : Option (List Value)) : Option (Prop × SV) :=
  match x, y with
  | some fi, some ca => some (True, .v (.prim (.func fn fi.toArray ca.toArray)))
  | _, _ => none
theorem mfV_some (fn : Fn) (fi ca : List Value) : mfV fn (some fi) (some ca) = some (True, .v (.prim (.func fn fi.toArray ca.toArray))) := rfl

def bdI (d : Nat) : Option SV → Option Int
  | some (.v (.prim (.int _ n))) => some n
  | _ => none
theorem bdI_some (d : Nat) (k : IntKind) (n : Int) : bdI d (some (.v (.prim (.int k n)))) = some n := rfl
theorem bound_none (d : Nat) : bound X g d none = some (d : Int) := rfl
theorem bound_some (d : Nat) (x : Operand) : bound X g d (some x) = bdI d (evl X g x) := by
  unfold bound bdI
  rfl
def slC (E : Nat) (els : List (List DV)) (l h : Option Int) : Option (Prop × SV) :=
  match l, h with
  | some l, some h => some (0 ≤ l ∧ l ≤ h ∧ h ≤ els.length ∧ ∀ e ∈ els, e.length = E, .v (.sl ((els.take h.toNat).drop l.toNat)))
  | _, _ => none
theorem slC_some (E : Nat) (els : List (List DV)) (l h : Int) : slC E els (some l) (some h) = some (0 ≤ l ∧ l ≤ h ∧ h ≤ els.length ∧ ∀ e ∈ els, e.length = E, .v (.sl ((els.take h.toNat).drop l.toNat))) := rfl
def slV (X : Ctx) (g : Rd) (el : Option Nat) (x : Option (List (List DV))) (lo hi : Option Operand) : Option (Prop × SV) :=
  match el, x with
  | some E, some els => slC E els (bound X g 0 lo) (bound X g els.length hi)
  | _, _ => none
theorem slV_some (E : Nat) (els : List (List DV)) (lo hi : Option Operand) : slV X g (some E) (some els) lo hi = slC E els (bound X g 0 lo) (bound X g els.length hi) := rfl

def lnV (el : Option Nat) (x : Option (List (List DV))) : Option (Prop × SV) :=
  match el, x with
  | some _, some els => some (True, .v (.prim (.int .i64 els.length)))
  | _, _ => none
theorem lnV_some (E : Nat) (els : List (List DV)) : lnV (some E) (some els) = some (True, .v (.prim (.int .i64 els.length))) := rfl
def mxV (x y : Option SV) : Option (Prop × SV) :=
  match x, y with
  | some (.v (.prim (.int k a))), some (.v (.prim (.int _ b))) => some (intOK k b, .v (.prim (.int k (if b > a then b else a))))
  | _, _ => none
theorem mxV_some (k k' : IntKind) (a b : Int) : mxV (some (.v (.prim (.int k a)))) (some (.v (.prim (.int k' b)))) = some (intOK k b, .v (.prim (.int k (max a b)))) := by
  simp only [mxV, Option.some.injEq, Prod.mk.injEq, true_and, SV.v.injEq, DV.prim.injEq, Value.int.injEq]
  split <;> omega
def mnV (x y : Option SV) : Option (Prop × SV) :=
  match x, y with
  | some (.v (.prim (.int k a))), some (.v (.prim (.int _ b))) => some (intOK k b, .v (.prim (.int k (if b < a then b else a))))
  | _, _ => none
theorem mnV_some (k k' : IntKind) (a b : Int) : mnV (some (.v (.prim (.int k a)))) (some (.v (.prim (.int k' b)))) = some (intOK k b, .v (.prim (.int k (min a b)))) := by
  simp only [mnV, Option.some.injEq, Prod.mk.injEq, true_and, SV.v.injEq, DV.prim.injEq, Value.int.injEq]
  split <;> omega

section
variable (esc : List Nat) (d : Tmp) (ty : TypeId) (pos : String) (af : Array Edge) (gd : Option (Nat × Bool))
theorem sMove (x : Operand) : stepS X esc s ⟨some d, .move x, ty, pos, af, gd⟩ = esK (memN d esc) (put1 X s (some d) (tru (evl X (get s) x))) := by simp only [stepS, pval, escs, esK, tru_map]
theorem sAssign (x : Operand) : stepS X esc s ⟨some d, .assign x, ty, pos, af, gd⟩ = esK (memN d esc) (put1 X s (some d) (tru (evl X (get s) x))) := by simp only [stepS, pval, escs, esK, tru_map]
theorem sPick (c x y : Operand) : stepS X esc s ⟨some d, .pick c x y, ty, pos, af, gd⟩ = esK (memN d esc) (put1 X s (some d) (pickV (evl X (get s) c) (evl X (get s) x) (evl X (get s) y))) := by
  simp only [stepS, pval, escs, esK, tru_map]; rfl
theorem sBin (op : BinOp) (t yt : TypeId) (x y : Operand) : stepS X esc s ⟨some d, .binOp op t x y yt, ty, pos, af, gd⟩ = esK (memN d esc) (put1 X s (some d) (binV X.P op t (evl X (get s) x) (evl X (get s) y))) := by
  simp only [stepS, pval, escs, esK]; rfl
theorem sUn (op : UnOp) (t : TypeId) (x : Operand) : stepS X esc s ⟨some d, .unOp op t x, ty, pos, af, gd⟩ = esK (memN d esc) (put1 X s (some d) (unV op (evl X (get s) x))) := by
  simp only [stepS, pval, escs, esK]; rfl
theorem sExtract (x : Operand) (i : Nat) : stepS X esc s ⟨some d, .extract x i, ty, pos, af, gd⟩ = esK (memN d esc) (put1 X s (some d) (exV (evl X (get s) x) i)) := by
  simp only [stepS, pval, escs, esK]; rfl
theorem sField (t : TypeId) (x : Operand) (f : Nat) : stepS X esc s ⟨some d, .field t x f, ty, pos, af, gd⟩ = esK (memN d esc) (put1 X s (some d) (fdV (fieldT X.P t f) (evl X (get s) x))) := by
  simp only [stepS, pval, escs, esK]; rfl
theorem sFieldAddr (t : TypeId) (x : Operand) (f : Nat) : stepS X esc s ⟨some d, .fieldAddr t x f, ty, pos, af, gd⟩ = esK (memN d esc) (put1 X s (some d) (faV (fieldT X.P t f) (evl X (get s) x))) := by
  simp only [stepS, pval, escs, esK]; rfl
theorem sIndexAddr (t : TypeId) (x i : Operand) : stepS X esc s ⟨some d, .indexAddr t x i, ty, pos, af, gd⟩ = esK (memN d esc) (put1 X s (some d) (ixV (elemT X.P t) (arrT X.P t) (evl X (get s) x) (evl X (get s) i))) := by
  simp only [stepS, pval, escs, esK]; rfl
theorem sLoad (t : TypeId) (x : Operand) : stepS X esc s ⟨some d, .load t x, ty, pos, af, gd⟩ = esK (memN d esc) (put1 X s (some d) (tru (ldV X.P (get s) t (evl X (get s) x)))) := by
  simp only [stepS, pval, escs, esK, tru_map]
  congr 4
  cases evl X (get s) x with
  | none => rfl
  | some y => exact (ldV_eq t y).symm
theorem sBuild (t : TypeId) (parts : Array (Nat × Operand)) : stepS X esc s ⟨some d, .build t parts, ty, pos, af, gd⟩ = esK (memN d esc) (put1 X s (some d) (blV X (get s) (zeroT X.P t) (placesT X.P t) parts.toList)) := by
  simp only [stepS, pval, escs, esK]; rfl
theorem sMakeIface (t : TypeId) (x : Operand) : stepS X esc s ⟨some d, .makeInterface t x, ty, pos, af, gd⟩ = esK (memN d esc) (put1 X s (some d) (ifV (concT X.P t) t ((evl X (get s) x).bind toD))) := by
  simp only [stepS, pval, escs, esK]; rfl
theorem sNilCheck (x : Operand) : stepS X esc s ⟨some d, .nilCheck x, ty, pos, af, gd⟩ = esK (memN d esc) (put1 X s (some d) (ncV (evl X (get s) x))) := by
  simp only [stepS, pval, escs, esK]; rfl
theorem sNilCheck0 (x : Operand) : stepS X esc s ⟨none, .nilCheck x, ty, pos, af, gd⟩ = put1 X s none (ncV (evl X (get s) x)) := by
  simp only [stepS, pval, escs]; rfl
theorem sConvert (a b : TypeId) (x : Operand) : stepS X esc s ⟨some d, .convert a b x, ty, pos, af, gd⟩ = esK (memN d esc) (put1 X s (some d) (cvV (evl X (get s) x) (intT X.P a) (intT X.P b))) := by
  simp only [stepS, pval, escs, esK]; rfl
theorem sMakeFunc (fn : Fn) (fi ca : Array Operand) : stepS X esc s ⟨some d, .makeFunc fn fi ca, ty, pos, af, gd⟩ = esK (memN d esc) (put1 X s (some d) (mfV fn (pvls X (get s) fi.toList) (pvls X (get s) ca.toList))) := by
  simp only [stepS, pval, escs, esK]; rfl
theorem sSlice (t : TypeId) (x : Operand) (lo hi : Option Operand) : stepS X esc s ⟨some d, .slice t x lo hi none, ty, pos, af, gd⟩ = esK (memN d esc) (put1 X s (some d) (slV X (get s) (elemT X.P t) ((evl X (get s) x).bind slOf) lo hi)) := by
  simp only [stepS, pval, escs, esK]; rfl
theorem sSlice3 (t : TypeId) (x m : Operand) (lo hi : Option Operand) : stepS X esc s ⟨some d, .slice t x lo hi (some m), ty, pos, af, gd⟩ = esK (memN d esc) (stSlice3 X s (some d) (elemT X.P t) ((evl X (get s) x).bind slOf) (bound X (get s) 0 lo) (hiOf X s x hi) (bound X (get s) 0 (some m)) hi.isSome) := by
  simp only [stepS, escs, esK]; rfl
theorem sLen (t : TypeId) (x : Operand) : stepS X esc s ⟨some d, .call { callee := .builtin .len, args := #[x], argTypes := #[t] }, ty, pos, af, gd⟩ = esK (memN d esc) (put1 X s (some d) (lnV (elemT X.P t) ((evl X (get s) x).bind slOf))) := by
  simp only [stepS, pval, escs, esK, isAppend, pcall]; rfl
theorem sMax (ts : Array TypeId) (x y : Operand) : stepS X esc s ⟨some d, .call { callee := .builtin .max, args := #[x, y], argTypes := ts }, ty, pos, af, gd⟩ = esK (memN d esc) (put1 X s (some d) (mxV (evl X (get s) x) (evl X (get s) y))) := by
  simp only [stepS, pval, escs, esK, isAppend, pcall]; rfl
theorem sMin (ts : Array TypeId) (x y : Operand) : stepS X esc s ⟨some d, .call { callee := .builtin .min, args := #[x, y], argTypes := ts }, ty, pos, af, gd⟩ = esK (memN d esc) (put1 X s (some d) (mnV (evl X (get s) x) (evl X (get s) y))) := by
  simp only [stepS, pval, escs, esK, isAppend, pcall]; rfl
theorem sAlloc (t : TypeId) : stepS X esc s ⟨some d, .alloc t, ty, pos, af, gd⟩ = esK (memN d esc) (stAlloc X s (some d) (zeroT X.P t)) := by simp only [stepS, escs, esK]; rfl
theorem sBox (t : TypeId) (x : Operand) : stepS X esc s ⟨some d, .box t x, ty, pos, af, gd⟩ = esK (memN d esc) (stBox X s (some d) (evl X (get s) x)) := by simp only [stepS, escs, esK]; rfl
theorem sStore (t : TypeId) (p x : Operand) : stepS X esc s ⟨none, .store t p x, ty, pos, af, gd⟩ = stStore s (layT X.P t) (evl X (get s) p) (evl X (get s) x) := by simp only [stepS, escs]; rfl
def ltK (X : Ctx) (s : St) (d : Tmp) (len : Nat) (parts : List (Nat × Operand)) : Option (Nat × Nat) → Option (Prop × St)
  | some (E, B) => stLit X s (some d) len (some (E, B)) (litEls X (get s) E 0 parts)
  | none => none
theorem ltK_some (len E B : Nat) (parts : List (Nat × Operand)) : ltK X s d len parts (some (E, B)) = stLit X s (some d) len (some (E, B)) (litEls X (get s) E 0 parts) := rfl
theorem sBuildSlice (t len : Nat) (parts : Array (Nat × Operand)) : stepS X esc s ⟨some d, .buildSlice t len parts, ty, pos, af, gd⟩ = esK (memN d esc) (ltK X s d len parts.toList (elemZ X.P t)) := by
  simp only [stepS, escs, esK, ltK]
  cases elemZ X.P t <;> rfl
theorem sAppend (t t2 : TypeId) (x y : Operand) : stepS X esc s ⟨some d, .call { callee := .builtin .append, args := #[x, y], argTypes := #[t, t2] }, ty, pos, af, gd⟩ =
    esK (memN d esc) (stAppend X s (some d) (elemZ X.P t) (elemT X.P t2).isSome (evl X (get s) x) ((evl X (get s) y).bind slOf)) := by
  simp only [stepS, escs, esK, isAppend]; rfl
end

theorem stAlloc_some {d : Nat} {cs : List SV} (h : (cellBS cs && freshL d s && !anyLoc d cs) = true) : stAlloc X s (some d) (some cs) = some (d < X.n, upd (upd s (.slot d) (.one (.loc d 0))) (.loc d) (.row cs)) := by simp only [stAlloc, h, if_true]
theorem stBox_some {d : Nat} {y : SV} (h : (cellBS (cellsS y) && freshL d s && !hasLoc d y) = true) : stBox X s (some d) (some y) = some (d < X.n, upd (upd s (.slot d) (.one (.loc d 0))) (.loc d) (.row (cellsS y))) := by simp only [stBox, h, if_true]
def sts (s : St) (k off n : Nat) (xs : List SV) : Option LV → Option (Prop × St)
  | some (.row cs) => if cellBS xs then some (xs.length = n ∧ off + n ≤ cs.length, upd s (.loc k) (.row (put cs off xs))) else none
  | _ => none
theorem sts_some {k off n : Nat} {xs cs : List SV} (h : cellBS xs = true) : sts s k off n xs (some (.row cs)) = some (xs.length = n ∧ off + n ≤ cs.length, upd s (.loc k) (.row (put cs off xs))) := by simp [sts, h]
theorem stStore_loc (k off n : Nat) (b : Bool) (y : SV) : stStore s (some (b, n)) (some (.loc k off)) (some y) = sts s k off n (cellsS y) (get s (.loc k)) := by
  simp only [stStore]
  rfl
def sth (s : St) (b off n : Nat) (xs : Option (List SV)) : Option LV → Option (Prop × St)
  | some (.row cs) => match xs with
    | some ys => if cellBS ys then some (ys.length = n ∧ off + n ≤ cs.length, upd s (.heap b) (.row (put cs off ys))) else none
    | none => none
  | _ => none
theorem sth_some {b off n : Nat} {ys cs : List SV} (h : cellBS ys = true) : sth s b off n (some ys) (some (.row cs)) = some (ys.length = n ∧ off + n ≤ cs.length, upd s (.heap b) (.row (put cs off ys))) := by simp [sth, h]
theorem stStore_ptr (b off n : Nat) (bb : Bool) (y : SV) : stStore s (some (bb, n)) (some (.v (.prim (.pointer (some ⟨b, off, none⟩))))) (some y) = sth s b off n (asVs (cellsS y)) (get s (.heap b)) := by
  simp only [stStore]
  cases get s (.heap b) with
  | none => rfl
  | some u => cases u with
    | row cs => cases asVs (cellsS y) <;> rfl
    | _ => rfl
theorem asVs_nil : asVs [] = some [] := rfl
theorem asVs_v (x : DV) (r : List SV) : asVs (.v x :: r) = (asVs r).map (SV.v x :: ·) := by
  simp only [asVs, asV]
  cases asVs r <;> rfl
theorem asVs_own (t : Nat) (e : List (List DV)) (r : List SV) : asVs (.own t e :: r) = (asVs r).map (SV.v (.sl e) :: ·) := by
  simp only [asVs, asV]
  cases asVs r <;> rfl
theorem stLit_some (d len E B : Nat) (els : List (List DV)) : stLit X s (some d) len (some (E, B)) (some els) = some (d < X.n ∧ els.length = len ∧ len * E ≤ 16777216 ∧ len ≤ BIG, upd s (.slot d) (.one (.v (.sl els)))) := rfl
theorem litEls_nil (E n : Nat) : litEls X g E n [] = some [] := rfl
def ltD (ds : Option (List DV)) (E : Nat) (rest : Option (List (List DV))) : Option (List (List DV)) :=
  match ds with
  | some ds => if ds.length = E then if cellB ds then rest.map (ds :: ·) else none else none
  | none => none
theorem ltD_some {ds : List DV} {E : Nat} (h : ds.length = E ∧ cellB ds = true) (rest : Option (List (List DV))) : ltD (some ds) E rest = rest.map (ds :: ·) := by simp [ltD, h.1, h.2]
theorem litEls_cons (E n : Nat) (x : Operand) (r : List (Nat × Operand)) : litEls X g E n ((n, x) :: r) = ltD (((evl X g x).map cellsS).bind toDs) E (litEls X g E (n + 1) r) := by
  simp only [litEls, if_true, ltD]
  cases evl X g x with
  | none => rfl
  | some y =>
    simp only [Option.map_some, Option.bind_some]
    cases toDs (cellsS y) with
    | none => rfl
    | some ds =>
      simp only
      split
      · split
        · cases litEls X g E (n + 1) r <;> rfl
        · rfl
      · rfl
theorem stAppend_some {d E B t : Nat} {els ys : List (List DV)} (h : (freshT d s && d != 0) = true) : stAppend X s (some d) (some (E, B)) true (some (.own t els)) (some ys) =
    some (d < X.n ∧ (0 < B ∧ B ≤ 1024) ∧ hasRoom (get s) t E els.length ∧ els.length + ys.length ≤ BIG ∧ (∀ e ∈ els, e.length = E) ∧ (∀ e ∈ ys, e.length = E),
        upd (upd (del s (.tok t)) (.slot d) (.one (.own d (els ++ ys)))) (.tok d) (.tk E (els.length + ys.length))) := by simp only [stAppend, Bool.true_and, h, if_true]
theorem hasRoom_zero (g : Rd) (E n : Nat) : hasRoom g 0 E n = True := by simp [hasRoom]
theorem hasRoom_some {g : Rd} {t E n : Nat} (h : g (.tok t) = some (.tk E n)) : hasRoom g t E n = True := by simp [hasRoom, h]
theorem stSlice3_some {d E : Nat} {els : List (List DV)} {l h k : Int} {b : Bool} (hb : (freshT d s && d != 0 && b) = true) : stSlice3 X s (some d) (some E) (some els) (some l) (some h) (some k) b =
    some (d < X.n ∧ 0 ≤ l ∧ l ≤ h ∧ h ≤ els.length ∧ h = k ∧ (∀ e ∈ els, e.length = E), upd (upd (del s (.tok 0)) (.slot d) (.one (.own d ((els.take h.toNat).drop l.toNat)))) (.tok d) (.tk E (h.toNat - l.toNat))) := by simp only [stSlice3, hb, if_true]
def hoK (X : Ctx) (s : St) (hi : Option Operand) : Option (List (List DV)) → Option Int
  | some els => bound X (get s) els.length hi
  | none => none
theorem hiOf_eq (x : Operand) (hi : Option Operand) : hiOf X s x hi = hoK X s hi ((evl X (get s) x).bind slOf) := by
  unfold hiOf hoK
  cases (evl X (get s) x).bind slOf <;> rfl
theorem hoK_some (hi : Option Operand) (els : List (List DV)) : hoK X s hi (some els) = bound X (get s) els.length hi := rfl

theorem evlDs_nil : evlDs X g [] = some [] := rfl
def edK (y : Option DV) (r : Option (List DV)) : Option (List DV) :=
  match y, r with
  | some y, some r => some (y :: r)
  | _, _ => none
theorem edK_some (y : DV) (r : List DV) : edK (some y) (some r) = some (y :: r) := rfl
theorem evlDs_cons (x : Operand) (r : List Operand) : evlDs X g (x :: r) = edK ((evl X g x).bind toD) (evlDs X g r) := by
  simp only [evlDs, edK]
  cases (evl X g x).bind toD <;> cases evlDs X g r <;> rfl

/- ends -/
def roK : Option SV → Option DV
  | some x => toD x
  | none => none
theorem roK_some (x : SV) : roK (some x) = toD x := rfl
theorem retOne_tmp (t : Nat) : retOne X g (.tmp t) = roK (oneOf (g (.slot t))) := by
  simp only [retOne, oneOf, roK]
  cases g (.slot t) with
  | none => rfl
  | some u => cases u <;> rfl
theorem retOne_cell (t ty : Nat) : retOne X g (.cell t ty) = roK (ldV X.P g ty (oneOf (g (.slot t)))) := by
  simp only [retOne, oneOf, roK]
  cases g (.slot t) with
  | none => rfl
  | some u => cases u with
    | one x =>
      simp only
      rw [ldV_eq]
      cases loadAt X g ty x <;> rfl
    | _ => rfl
theorem retL_nil : retL X g [] = some [] := rfl
theorem retL_cons (r : ResultVar) (l : List ResultVar) : retL X g (r :: l) = edK (retOne X g r) (retL X g l) := by
  simp only [retL, edK]
  cases retOne X g r <;> cases retL X g l <;> rfl
def rdK : Option (List DV) → Option DV
  | some [x] => some x
  | some xs => some (.tup xs)
  | none => none
theorem rdK_one (x : DV) : rdK (some [x]) = some x := rfl
theorem rdK_two (x y : DV) (r : List DV) : rdK (some (x :: y :: r)) = some (.tup (x :: y :: r)) := rfl
theorem rdK_nil : rdK (some []) = some (.tup []) := rfl
theorem retD_eq (l : List ResultVar) : retD X g l = rdK (retL X g l) := by
  unfold retD rdK
  rfl

theorem svLe_vv (σ : Nat → Nat) (x y : DV) : svLe σ (.v x) (.v y) = (x = y) := rfl
theorem svLe_vo (σ : Nat → Nat) (x : DV) (t : Nat) (e : List (List DV)) : svLe σ (.v x) (.own t e) = (x = .sl e) := rfl
theorem svLe_va (σ : Nat → Nat) (x : DV) (e : List DV) (n : List Nat) : svLe σ (.v x) (.ag e n) = (x = .agg e) := rfl
theorem svLe_aa (σ : Nat → Nat) (e e' : List DV) (n n' : List Nat) : svLe σ (.ag e n) (.ag e' n') = (e = e' ∧ n = n') := rfl
theorem svLe_ll (σ : Nat → Nat) (k o k' o' : Nat) : svLe σ (.loc k o) (.loc k' o') = (k = k' ∧ o = o') := rfl
theorem svLe_dd (σ : Nat → Nat) (e e' : List (List DV)) (k o k' o' : Nat) : svLe σ (.dp e k o) (.dp e' k' o') = (e = e' ∧ k = k' ∧ o = o') := rfl
theorem svLe_oo (σ : Nat → Nat) (t t' : Nat) (e e' : List (List DV)) : svLe σ (.own t e) (.own t' e') = (σ t = t' ∧ e = e') := rfl
theorem rowLe_nil (σ : Nat → Nat) : rowLe σ [] [] = True := by simp [rowLe]
theorem rowLe_cons (σ : Nat → Nat) (x y : SV) (r t : List SV) : rowLe σ (x :: r) (y :: t) = (svLe σ x y ∧ rowLe σ r t) := by simp [rowLe]
theorem lvLe_one (σ : Nat → Nat) (x y : SV) : lvLe σ (.one x) (some (.one y)) = svLe σ x y := rfl
theorem lvLe_ob (σ : Nat → Nat) (r q : Loop) : lvLe σ (.ob r) (some (.ob q)) = (r = q) := rfl
theorem lvLe_row (σ : Nat → Nat) (x y : List SV) : lvLe σ (.row x) (some (.row y)) = rowLe σ x y := rfl
theorem subLe_nil (σ : Nat → Nat) : subLe σ s [] = True := rfl
theorem subLe_slot (σ : Nat → Nat) (n : Nat) (v : LV) (r : St) : subLe σ s ((.slot n, v) :: r) = (lvLe σ v (get s (.slot n)) ∧ subLe σ s r) := by simp [subLe, factLe]
theorem subLe_loc (σ : Nat → Nat) (n : Nat) (v : LV) (r : St) : subLe σ s ((.loc n, v) :: r) = (lvLe σ v (get s (.loc n)) ∧ subLe σ s r) := by simp [subLe, factLe]
theorem subLe_heap (σ : Nat → Nat) (n : Nat) (v : LV) (r : St) : subLe σ s ((.heap n, v) :: r) = (lvLe σ v (get s (.heap n)) ∧ subLe σ s r) := by simp [subLe, factLe]
def tkLe (g : Rd) (t E n : Nat) : Prop := (t = 0 ∧ n = 0) ∨ (t ≠ 0 ∧ g (.tok t) = some (.tk E n))
theorem subLe_tok (σ : Nat → Nat) (t E n : Nat) (r : St) : subLe σ s ((.tok t, .tk E n) :: r) = (tkLe (get s) (σ t) E n ∧ subLe σ s r) := by simp [subLe, factLe, tkLe]
theorem tkLe_zero (E n : Nat) : tkLe g 0 E n = (n = 0) := by simp [tkLe]
theorem tkLe_succ (t E n : Nat) : tkLe g (t + 1) E n = (g (.tok (t + 1)) = some (.tk E n)) := by simp [tkLe]
theorem ren_nil (n : Nat) : ren [] n = n := rfl
theorem ren_cons (x y n : Nat) (r : List (Nat × Nat)) : ren ((x, y) :: r) n = if n = x then y else ren r n := rfl
theorem toksOf_nil : toksOf [] = [] := rfl
theorem toksOf_slot (n : Nat) (v : LV) (r : St) : toksOf ((.slot n, v) :: r) = toksOf r := rfl
theorem toksOf_loc (n : Nat) (v : LV) (r : St) : toksOf ((.loc n, v) :: r) = toksOf r := rfl
theorem toksOf_heap (n : Nat) (v : LV) (r : St) : toksOf ((.heap n, v) :: r) = toksOf r := rfl
theorem toksOf_tok (n : Nat) (v : LV) (r : St) : toksOf ((.tok n, v) :: r) = n :: toksOf r := rfl
theorem tokInj_nil (σ : Nat → Nat) : tokInj σ [] = True := rfl
theorem tokInj_cons (σ : Nat → Nat) (t : Nat) (r : List Nat) : tokInj σ (t :: r) = ((σ t = 0 ∨ ∀ t' ∈ r, t' = t ∨ σ t' ≠ σ t) ∧ tokInj σ r) := rfl
theorem objsIn_nil : objsIn g [] = True := by simp [objsIn]
theorem objsIn_cons (b : Nat) (cs : List DV) (r : Objs) : objsIn g ((b, cs) :: r) = (g (.heap b) = some (.row (cs.map SV.v)) ∧ objsIn g r) := by
  simp only [objsIn, List.mem_cons, Prod.mk.injEq, eq_iff_iff]
  constructor
  · intro h
    exact ⟨h b cs (.inl ⟨rfl, rfl⟩), fun b' cs' hm => h b' cs' (.inr hm)⟩
  · rintro ⟨h1, h2⟩ b' cs' (⟨rfl, rfl⟩ | hm)
    · exact h1
    · exact h2 b' cs' hm
theorem entry_eq (args : List DV) (φ : Objs) : entry args φ = argSt 0 args ++ heapSt φ := rfl
theorem argSt_nil (n : Nat) : argSt n [] = [] := rfl
theorem argSt_cons (n : Nat) (x : DV) (r : List DV) : argSt n (x :: r) = (.slot n, .one (.v x)) :: argSt (n + 1) r := rfl
theorem heapSt_nil : heapSt [] = [] := rfl
theorem heapSt_cons (b : Nat) (cs : List DV) (r : Objs) : heapSt ((b, cs) :: r) = (.heap b, .row (cs.map SV.v)) :: heapSt r := rfl
theorem delObjs_nil : delObjs s [] = s := rfl
theorem delObjs_cons (b : Nat) (cs : List DV) (r : Objs) : delObjs s ((b, cs) :: r) = delObjs (del s (.heap b)) r := rfl
theorem addObjs_nil : addObjs s [] = s := rfl
theorem addObjs_cons (b : Nat) (cs : List DV) (r : Objs) : addObjs s ((b, cs) :: r) = upd (addObjs s r) (.heap b) (.row (cs.map SV.v)) := rfl

/-- at a call the reckoning stands still: the contract goes on -/
theorem vcK_call {esc : List Nat} {ops : Array Oper} {l : List Oper} {K : St → Prop} {d : Tmp} {f : FuncId} {args : Array Operand} {ats : Array TypeId} {ty : TypeId} {pos : String} {af : Array Edge} {P : Program} {gl : Globs} (hP : X.P = P) (hgl : X.gl = gl)
    {ds ds' : List DV} {φ φ' : Objs} {r : DV} (hc : Con1 P gl f ds' φ r φ') (hargs : evlDs X (get s) args.toList = some ds) (hds : ds = ds') (hφ : objsIn (get s) φ) (hnd : (φ.map (·.1)).Nodup) (hdn : d < X.n)
    (h : vc X esc ops l (addObjs (delObjs (upd s (.slot d) (.one (.v r))) φ) φ') K) :
    vcK X esc ops l K ⟨some d, .call { callee := .value (.func f), args := args, argTypes := ats }, ty, pos, af, none⟩ s (stepS X esc s ⟨some d, .call { callee := .value (.func f), args := args, argTypes := ats }, ty, pos, af, none⟩) := by
  subst hds
  have e : stepS X esc s ⟨some d, .call { callee := .value (.func f), args := args, argTypes := ats }, ty, pos, af, none⟩ = none := by
    simp only [stepS, isAppend, pval, pcall, put1]
    split <;> rfl
  rw [e]
  exact VL_call1 (o := ⟨some d, .call { callee := .value (.func f), args := args, argTypes := ats }, ty, pos, af, none⟩) rfl rfl hargs hP hgl hc hφ hnd rfl hdn h

end

theorem getElem?_toArray' {α : Type} (l : List α) (i : Nat) : l.toArray[i]? = l[i]? := by simp

attribute [go_sem] get_nil get_same get_other del_nil del_same del_other upd_eq memN_nil memN_cons oneOf_some evl_tmp evl_const evG_some evl_global evl_func constS_nil constS_int constS_bool constS_string constS_nilFunc constS_nilIface constS_ptr constS_map
attribute [go_sem] toD_ag cellsS_ag agC_nil agB_t agB_f agC_cons nilsOf_nil nilsOf_own nilsOf_ownt nilsOf_v nilsOf_loc hasLoc_ag hasTok_ag
attribute [go_sem] toD_v toD_own toDs_nil toDs_v toDs_own cellsD_agg cellsD_prim cellsD_sl cellsD_iface cellsS_v cellsS_own cellsS_loc slOf_sl slOf_own cell_prim cell_sl cell_iface cellB_nil cellB_cons cellBS_nil cellBS_cons
attribute [go_sem] hasLoc_v hasLoc_loc hasLoc_dp hasLoc_own hasTok_v hasTok_loc hasTok_dp hasTok_own anyLoc_nil anyLoc_cons anyTok_nil anyTok_cons freshL_nil freshL_slot freshL_loc freshL_heap freshL_tok freshL_ob freshT_ob freshT_nil freshT_slot freshT_loc freshT_heap freshT_tok
attribute [go_sem] put_zero put_succ vc_nil vc_op vcK_some vc_gd vcG0_some vcG_yes_t vcG_yes_f vcG_no_t vcG_no_f vcG_un esK_false put1_some put1_none tru_some pickV_t pickV_f binV_int binV_beq binV_bne intOp_add intOp_sub intOp_mul intOp_rem intOp_quo intOp_eql intOp_neq intOp_lss intOp_leq intOp_gtr intOp_geq
attribute [go_sem] unV_not unV_neg exC_some exV_some faV_loc faV_dp faV_ptr fdC_some fdV_some readD_one rdA_some readD_agg isAgg_agg rdS_some readRow_one readRow_agg ldRow_some ldDp_some ldV_loc ldV_dp ldV_ptr ixS_some ixA_some ixV_v ixV_own ixV_loc ixV_dp
attribute [go_sem] blC_some blD_some blV_some fillS_nil fillS_cons fillK_some ifV_some ncV_loc ncV_dp ncV_ptr ncV_func cvV_some bdI_some bound_none bound_some slC_some slV_some lnV_some mxV_some mnV_some
attribute [go_sem] sMove sAssign sPick sBin sUn sExtract sField sFieldAddr sIndexAddr sLoad sBuild sMakeIface sNilCheck sNilCheck0 sConvert sMakeFunc pvK_some pvls_nil pvls_cons mfV_some sSlice sSlice3 sLen sMax sMin sAlloc sBox sStore ltK_some sBuildSlice sAppend
attribute [go_sem] stAlloc_some stBox_some sts_some stStore_loc sth_some stStore_ptr asVs_nil asVs_v asVs_own stLit_some litEls_nil ltD_some litEls_cons stAppend_some hasRoom_zero hasRoom_some stSlice3_some hiOf_eq hoK_some evlDs_nil edK_some evlDs_cons
attribute [go_sem] roK_some retOne_tmp retOne_cell retL_nil retL_cons rdK_one rdK_two rdK_nil retD_eq svLe_vv svLe_va svLe_aa svLe_vo svLe_ll svLe_dd svLe_oo rowLe_nil rowLe_cons lvLe_one lvLe_ob lvLe_row subLe_nil subLe_slot subLe_loc subLe_heap subLe_tok tkLe_zero tkLe_succ ren_nil ren_cons
attribute [go_sem] toksOf_nil toksOf_slot toksOf_loc toksOf_heap toksOf_tok tokInj_nil tokInj_cons objsIn_nil objsIn_cons entry_eq argSt_nil argSt_cons heapSt_nil heapSt_cons delObjs_nil delObjs_cons addObjs_nil addObjs_cons
attribute [go_sem] cellS_v cellS_loc cellS_dp cellS_own gsl getElem?_toArray' intOK_i64 intOK_u8

end Go.Proofs.YtbmnlkfgkdallaaDoor.Lift
