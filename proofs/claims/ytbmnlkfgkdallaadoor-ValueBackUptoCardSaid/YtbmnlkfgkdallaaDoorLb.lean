/-
  Part B of the small logic: what the operations that write nothing give, on states (pval), and that it is what they give in the model (pval_sound).
-/
import Derived.Test.YtbmnlkfgkdallaaDoorLa
namespace Go.Proofs.YtbmnlkfgkdallaaDoor.Lift
set_option linter.unusedSimpArgs false
set_option linter.unusedVariables false
set_option linter.unnecessarySimpa false
open Go

def layD : TypeDesc → Bool
  | .struct _ | .array _ _ => true
  | _ => false

/-- is it a struct or an array; how many cells -/
def layT (P : Program) (t : TypeId) : Option (Bool × Nat) :=
  match P.underlying t, P.info? t with
  | some d, some i => some (layD d, i.size)
  | _, _ => none

/-- of a slice type: the cells of an element -/
def elemT (P : Program) (t : TypeId) : Option Nat :=
  match P.underlying t with
  | some (.slice e) => (P.info? e).map (·.size)
  | _ => none

def arrT (P : Program) (t : TypeId) : Option (Nat × Nat) :=
  match P.underlying t with
  | some (.array n e) => (P.info? e).map fun i => (n, i.size)
  | _ => none

/-- of a struct's field: is it a struct or an array; where it begins; how many cells -/
def fieldT (P : Program) (t f : Nat) : Option (Bool × Nat × Nat) :=
  match P.underlying t with
  | some (.struct fs) =>
    match fs[f]? with
    | some fl =>
      match layT P fl.type with
      | some (b, n) => if n = 0 then none else some (b, fl.offset, n)
      | none => none
    | none => none
  | _ => none

def boolT (P : Program) (t : TypeId) : Bool :=
  match P.underlying t with
  | some .bool => true
  | _ => false

def concT (P : Program) (t : TypeId) : Bool :=
  match P.underlying t with
  | some (.interface _) => false
  | some _ => true
  | none => false

def intT (P : Program) (t : TypeId) : Option IntKind :=
  match P.underlying t with
  | some (.int k) => some k
  | _ => none

def ptrT (P : Program) (t : TypeId) : Bool :=
  match P.underlying t with
  | some (.pointer _) => true
  | _ => false

def intOK (k : IntKind) (n : Int) : Prop := k.min ≤ n ∧ n ≤ k.max
instance (k : IntKind) (n : Int) : Decidable (intOK k n) := inferInstanceAs (Decidable (_ ∧ _))

theorem intOK_i64 (n : Int) : intOK .i64 n ↔ -9223372036854775808 ≤ n ∧ n ≤ 9223372036854775807 := by
  have h1 : IntKind.i64.min = -9223372036854775808 := by decide
  have h2 : IntKind.i64.max = 9223372036854775807 := by decide
  rw [intOK, h1, h2]

theorem intOK_u8 (n : Int) : intOK .u8 n ↔ 0 ≤ n ∧ n ≤ 255 := by
  have h1 : IntKind.u8.min = 0 := by decide
  have h2 : IntKind.u8.max = 255 := by decide
  rw [intOK, h1, h2]

theorem wrap_of_ok {k : IntKind} {n : Int} (h : intOK k n) : k.wrap n = n := by
  obtain ⟨h1, h2⟩ := h
  cases k <;> simp [IntKind.min, IntKind.max, IntKind.signed, IntKind.bits] at h1 h2 <;> simp [IntKind.wrap, IntKind.signed, IntKind.bits] <;> (try split) <;> omega

def primB : Value → Bool
  | .int k n => decide (intOK k n)
  | .agg _ => false
  | .tuple _ => false
  | .slice _ _ _ => false
  | .iface _ _ => false
  | _ => true

theorem primB_ok {v : Value} (h : primB v = true) : primOK v := by
  cases v <;> first | trivial | (simp [primB] at h; exact h) | (simp [primB] at h)

/-- a constant's cell -/
def constD : Value → Option DV
  | .slice none 0 0 => some (.sl [])
  | v => if primB v then some (.prim v) else none

def constDs : List Value → Option (List DV)
  | [] => some []
  | v :: r => match constD v, constDs r with
    | some x, some xs => some (x :: xs)
    | _, _ => none

def constS : Value → Option SV
  | .slice none 0 0 => some (.own 0 [])
  | .agg cs => (constDs cs.toList).map fun ds => .v (.agg ds)
  | v => if primB v then some (.v (.prim v)) else none

theorem constD_sound {G : Gh} {w : World} {v : Value} {x : DV} (h : constD v = some x) : RV G.D w x v ∧ x.isCell = true := by
  unfold constD at h
  split at h
  · cases h; exact ⟨.sl0 _ _, rfl⟩
  · split at h
    · cases h; exact ⟨.prim _ (primB_ok ‹_›), rfl⟩
    · cases h

theorem constDs_sound {G : Gh} {w : World} : ∀ {l : List Value} {ds : List DV}, constDs l = some ds → l.length = ds.length ∧ (∀ c ∈ ds, c.isCell = true) ∧
    ∀ (i : Nat) (c : DV) (v : Value), ds[i]? = some c → l[i]? = some v → RV G.D w c v
  | [], ds, h => by cases h; simp
  | v :: r, ds, h => by
    simp only [constDs] at h
    split at h
    · rename_i x xs hx hxs
      cases h
      obtain ⟨h1, h2, h3⟩ := constDs_sound (G := G) (w := w) hxs
      obtain ⟨k1, k2⟩ := constD_sound (G := G) (w := w) hx
      refine ⟨by simp [h1], fun c hc => ?_, fun i c v hc hv => ?_⟩
      · rcases List.mem_cons.1 hc with rfl | hc
        · exact k2
        · exact h2 c hc
      · cases i with
        | zero => simp at hc hv; subst hc hv; exact k1
        | succ i => exact h3 i c v (by simpa using hc) (by simpa using hv)
    · cases h

theorem constS_sound {G : Gh} {w : World} (hn : G.τ 0 = (none, 0)) {v : Value} {x : SV} (h : constS v = some x) : RSV G w x v := by
  unfold constS at h
  split at h
  · cases h
    simp only [RSV, hn]
    exact ⟨rfl, .sl0 _ _⟩
  · rename_i cs
    cases hd : constDs cs.toList with
    | none => rw [hd] at h; cases h
    | some ds =>
      rw [hd] at h
      cases h
      obtain ⟨h1, h2, h3⟩ := constDs_sound (G := G) (w := w) hd
      exact .agg ds cs (by simpa using h1) h2 (fun i c v hc hv => h3 i c v hc (by simpa using hv))
  · split at h
    · cases h; exact .prim _ (primB_ok ‹_›)
    · cases h

def globOf : Globs → Nat → Option (List (List DV))
  | [], _ => none
  | (g, els) :: r, n => if g = n then some els else globOf r n

theorem globOf_mem {gl : Globs} {n : Nat} {els : List (List DV)} (h : globOf gl n = some els) : (n, els) ∈ gl := by
  induction gl with
  | nil => cases h
  | cons p r ih =>
    obtain ⟨g, e⟩ := p
    simp only [globOf] at h
    split at h
    · cases h; subst_vars; simp
    · exact List.mem_cons_of_mem _ (ih h)

/-- how long each element is -/
def wide : List (List DV) → Option Nat
  | [] => none
  | e :: _ => some e.length

abbrev Rd := Loc → Option LV

def evl (X : Ctx) (g : Rd) : Operand → Option SV
  | .tmp t => match g (.slot t) with
    | some (.one x) => some x
    | _ => none
  | .const v => constS v
  | .global b => match globOf X.gl b with
    | some (e :: r) => some (.dp (e :: r) 0 0)
    | _ => none
  | .func f => some (.v (.prim (.func (.func f) #[] #[])))

theorem evl_sound {X : Ctx} {G : Gh} {s : St} {a : Act} {w : World} (R : Rel X G s a w) {x : Operand} {y : SV} (h : evl X (get s) x = some y) : RSV G w y (a.eval x) := by
  cases x with
  | tmp t =>
    simp only [evl] at h
    split at h
    · rename_i z hz; cases h; exact R.holds _ _ hz
    · cases h
  | const v => exact constS_sound R.nil h
  | global b =>
    simp only [evl] at h
    split at h
    · rename_i e r hg
      cases h
      obtain ⟨cap, hr⟩ := R.wf.globs b _ (globOf_mem hg)
      have hr' := hr
      cases hr with
      | sl els b' o cap' E val hlen hcap hE hcell hc hD hh =>
        exact ⟨b, 0, E, cap, hr', hE, by simp, by simp [Act.eval]⟩
    · cases h
  | func f =>
    cases h
    exact .prim _ trivial

def toD : SV → Option DV
  | .v x => some x
  | .own _ els => some (.sl els)
  | .ag cs _ => some (.agg cs)
  | _ => none

theorem toD_sound {G : Gh} {w : World} {x : SV} {y : DV} {v : Value} (h : toD x = some y) (hr : RSV G w x v) : RV G.D w y v := by
  cases x with
  | v x => cases h; exact hr
  | own t els => cases h; exact hr.2
  | ag cs ns => cases h; exact hr.1
  | loc => cases h
  | dp => cases h

theorem toD_cell {x : SV} {y : DV} (h : toD x = some y) (hc : x.isCell = true) : y.isCell = true := by
  cases x with
  | v x => cases h; exact hc
  | own t els => cases h; rfl
  | ag cs ns => cases hc
  | loc => cases h
  | dp => cases h

def toDs : List SV → Option (List DV)
  | [] => some []
  | x :: r => match toD x, toDs r with
    | some y, some ys => some (y :: ys)
    | _, _ => none

theorem toDs_get : ∀ {l : List SV} {ds : List DV}, toDs l = some ds → l.length = ds.length ∧ ∀ (i : Nat) (c : DV), ds[i]? = some c → ∃ x, l[i]? = some x ∧ toD x = some c
  | [], ds, h => by cases h; simp
  | x :: r, ds, h => by
    simp only [toDs] at h
    split at h
    · rename_i y ys hy hys
      cases h
      obtain ⟨h1, h2⟩ := toDs_get hys
      refine ⟨by simp [h1], fun i c hc => ?_⟩
      cases i with
      | zero => simp at hc; subst hc; exact ⟨x, rfl, hy⟩
      | succ i => obtain ⟨z, hz⟩ := h2 i c (by simpa using hc); exact ⟨z, by simpa using hz.1, hz.2⟩
    · cases h

theorem toDs_map (cs : List DV) : toDs (cs.map SV.v) = some cs := by
  induction cs with
  | nil => rfl
  | cons c r ih => simp [toDs, toD, ih]

def evlDs (X : Ctx) (g : Rd) : List Operand → Option (List DV)
  | [] => some []
  | x :: r => match (evl X g x).bind toD, evlDs X g r with
    | some y, some ys => some (y :: ys)
    | _, _ => none

def intOp (op : BinOp) (k : IntKind) (a b : Int) : Option (Prop × SV) :=
  match op with
  | .add => some (intOK k (a + b), .v (.prim (.int k (a + b))))
  | .sub => some (intOK k (a - b), .v (.prim (.int k (a - b))))
  | .mul => some (intOK k (a * b), .v (.prim (.int k (a * b))))
  | .rem => some (b ≠ 0 ∧ intOK k (a.tmod b), .v (.prim (.int k (a.tmod b))))
  | .quo => some (b ≠ 0 ∧ intOK k (a.tdiv b), .v (.prim (.int k (a.tdiv b))))
  | .eql => some (True, .v (.prim (.bool (a == b))))
  | .neq => some (True, .v (.prim (.bool (a != b))))
  | .lss => some (True, .v (.prim (.bool (decide (a < b)))))
  | .leq => some (True, .v (.prim (.bool (decide (a ≤ b)))))
  | .gtr => some (True, .v (.prim (.bool (decide (a > b)))))
  | .geq => some (True, .v (.prim (.bool (decide (a ≥ b)))))
  | _ => none

/-- a row read from `off` on: one cell, or n cells as a struct -/
def readRow (cs : List SV) (agg : Bool) (off n : Nat) : Option SV :=
  if agg then
    match toDs ((cs.drop off).take n) with
    | some ds => if ds.length = n then some (.v (.agg ds)) else none
    | none => none
  else cs[off]?

def readD (cs : List DV) (agg : Bool) (off n : Nat) : Option DV :=
  if agg then if ((cs.drop off).take n).length = n then some (.agg ((cs.drop off).take n)) else none
  else cs[off]?

def cellsD : DV → List DV
  | .agg cs => cs
  | x => [x]

def memN (d : Nat) : List Nat → Bool
  | [] => false
  | x :: r => d == x || memN d r

/-- cells of a literal: those that are nil slices are one's own -/
def agC (ns : List Nat) : Nat → List DV → List SV
  | _, [] => []
  | k, d :: r => (if memN k ns then .own 0 [] else .v d) :: agC ns (k + 1) r

theorem agC_get (ns : List Nat) : ∀ (cs : List DV) (k : Nat), (agC ns k cs).length = cs.length ∧ ∀ i : Nat, (agC ns k cs)[i]? = cs[i]?.map fun d => if memN (k + i) ns then SV.own 0 [] else .v d
  | [], k => by simp [agC]
  | d :: r, k => by
    obtain ⟨h1, h2⟩ := agC_get ns r (k + 1)
    refine ⟨by simp [agC, h1], fun i => ?_⟩
    cases i with
    | zero => simp [agC]
    | succ i => simp only [agC, List.getElem?_cons_succ, h2]; rw [show k + 1 + i = k + (i + 1) from by omega]

theorem memN_iff (d : Nat) (l : List Nat) : memN d l = true ↔ d ∈ l := by
  induction l with
  | nil => simp [memN]
  | cons x r ih => simp [memN, ih]

def nilsOf : Nat → List SV → List Nat
  | _, [] => []
  | k, .own 0 [] :: r => k :: nilsOf (k + 1) r
  | k, _ :: r => nilsOf (k + 1) r

theorem nilsOf_mem {i : Nat} : ∀ {cs : List SV} {k : Nat}, i ∈ nilsOf k cs → ∃ j, i = k + j ∧ cs[j]? = some (.own 0 [])
  | [], _, h => by cases h
  | c :: r, k, h => by
    unfold nilsOf at h
    split at h
    · cases h
    · rename_i heq
      cases heq
      rcases List.mem_cons.1 h with rfl | h
      · exact ⟨0, rfl, rfl⟩
      · obtain ⟨j, h1, h2⟩ := nilsOf_mem h
        exact ⟨j + 1, by omega, by simpa using h2⟩
    · rename_i heq
      cases heq
      obtain ⟨j, h1, h2⟩ := nilsOf_mem h
      exact ⟨j + 1, by omega, by simpa using h2⟩

def cellsS : SV → List SV
  | .v x => (cellsD x).map .v
  | .ag cs ns => agC ns 0 cs
  | x => [x]

def put (cs : List SV) : Nat → List SV → List SV
  | 0, xs => xs ++ cs.drop xs.length
  | n + 1, xs => match cs with
    | [] => []
    | c :: r => c :: put r n xs

def zeroS : List Value → Option (List SV)
  | [] => some []
  | v :: r => match constS v, zeroS r with
    | some x, some xs => some (x :: xs)
    | _, _ => none

/-- the cells of a type's zero -/
def zeroT (P : Program) (t : TypeId) : Option (List SV) :=
  match P.info? t with
  | some i => match i.zero with
    | some z => zeroS z.cells.toList
    | none => none
  | none => none

/-- where the parts of a literal of the type lie -/
def placesT (P : Program) (t : TypeId) : Option (List (Nat × Nat)) :=
  match P.underlying t with
  | some (.struct fields) => fields.toList.mapM (fun f => (P.info? f.type).map fun i => (f.offset, i.size))
  | some (.array n e) => (P.info? e).map fun i => (List.range n).map fun k => (k * i.size, i.size)
  | _ => none

def fillS (places : List (Nat × Nat)) (X : Ctx) (g : Rd) (cells : List SV) : List (Nat × Operand) → Option (List SV)
  | [] => some cells
  | (i, x) :: rest =>
    match places[i]?, evl X g x with
    | some (off, size), some y =>
      if (cellsS y).length = size ∧ off + size ≤ cells.length then fillS places X g (put cells off (cellsS y)) rest else none
    | _, _ => none

def cellB : List DV → Bool
  | [] => true
  | c :: r => c.isCell && cellB r

def loadAt (X : Ctx) (g : Rd) (t : TypeId) : SV → Option SV
  | .loc k off => match layT X.P t, g (.loc k) with
    | some (agg, n), some (.row cs) => readRow cs agg off n
    | _, _ => none
  | .dp els i off => match layT X.P t, els[i]? with
    | some (agg, n), some e => (readD e agg off n).map .v
    | _, _ => none
  | .v (.prim (.pointer (some ⟨b, off, none⟩))) => match layT X.P t, g (.heap b) with
    | some (agg, n), some (.row cs) => readRow cs agg off n
    | _, _ => none
  | _ => none

def slOf : SV → Option (List (List DV))
  | .v (.sl els) => some els
  | .own _ els => some els
  | _ => none

/-- the bound of a slice expression -/
def bound (X : Ctx) (g : Rd) (d : Nat) : Option Operand → Option Int
  | none => some d
  | some x => match evl X g x with
    | some (.v (.prim (.int _ n))) => some n
    | _ => none

/-- the builtins that only compute -/
def pcall (X : Ctx) (g : Rd) (c : Call) : Option (Prop × SV) :=
  match c.callee, c.args.toList, c.argTypes.toList with
  | .builtin .len, [x], [t] =>
    match elemT X.P t, (evl X g x).bind slOf with
    | some _, some els => some (True, .v (.prim (.int .i64 els.length)))
    | _, _ => none
  | .builtin .max, [x, y], _ =>
    match evl X g x, evl X g y with
    | some (.v (.prim (.int k a))), some (.v (.prim (.int _ b))) => some (intOK k b, .v (.prim (.int k (if b > a then b else a))))
    | _, _ => none
  | .builtin .min, [x, y], _ =>
    match evl X g x, evl X g y with
    | some (.v (.prim (.int k a))), some (.v (.prim (.int _ b))) => some (intOK k b, .v (.prim (.int k (if b < a then b else a))))
    | _, _ => none
  | _, _, _ => none

/-- operands that are values of their own -/
def pvls (X : Ctx) (g : Rd) : List Operand → Option (List Value)
  | [] => some []
  | x :: r => match evl X g x, pvls X g r with
    | some (.v (.prim v)), some vs => some (v :: vs)
    | _, _ => none

def pval (X : Ctx) (g : Rd) (o : Oper) : Option (Prop × SV) :=
  match o.op with
  | .move x => (evl X g x).map (True, ·)
  | .assign x => (evl X g x).map (True, ·)
  | .pick c x y =>
    match evl X g c with
    | some (.v (.prim (.bool true))) => (evl X g x).map (True, ·)
    | some (.v (.prim (.bool false))) => (evl X g y).map (True, ·)
    | _ => none
  | .binOp op t x y _ =>
    match evl X g x, evl X g y with
    | some (.v (.prim (.int k a))), some (.v (.prim (.int k' b))) => if k = k' then intOp op k a b else none
    | some (.v (.prim (.bool a))), some (.v (.prim (.bool b))) =>
      if boolT X.P t then
        match op with
        | .eql => some (True, .v (.prim (.bool (a == b))))
        | .neq => some (True, .v (.prim (.bool (!(a == b)))))
        | _ => none
      else none
    | _, _ => none
  | .unOp op _ x =>
    match op, evl X g x with
    | .not, some (.v (.prim (.bool b))) => some (True, .v (.prim (.bool (!b))))
    | .neg, some (.v (.prim (.int k n))) => some (intOK k (0 - n), .v (.prim (.int k (0 - n))))
    | _, _ => none
  | .extract x i =>
    match evl X g x with
    | some (.v (.tup cs)) => cs[i]?.map fun c => (True, .v c)
    | _ => none
  | .field t x f =>
    match fieldT X.P t f, evl X g x with
    | some (agg, off, n), some (.v y) => (readD (cellsD y) agg off n).map fun c => (y.isAgg = true, .v c)
    | _, _ => none
  | .fieldAddr t x f =>
    match fieldT X.P t f, evl X g x with
    | some (_, foff, _), some (.loc k off) => some (True, .loc k (off + foff))
    | some (_, foff, _), some (.dp els i off) => some (True, .dp els i (off + foff))
    | some (_, foff, _), some (.v (.prim (.pointer (some ⟨b, off, none⟩)))) => some (True, .v (.prim (.pointer (some ⟨b, off + foff, none⟩))))
    | _, _ => none
  | .indexAddr t x i =>
    match evl X g x, evl X g i with
    | some y, some (.v (.prim (.int _ n))) =>
      match elemT X.P t, slOf y with
      | some E, some els => match els[n.toNat]? with
        | some e => some (0 ≤ n ∧ e.length = E, .dp els n.toNat 0)
        | none => none
      | _, _ => match arrT X.P t, y with
        | some (len, E), .loc k off => some (0 ≤ n ∧ n < len ∧ 1 < len, .loc k (off + n.toNat * E))
        | some (len, E), .dp els j 0 => match els[j + n.toNat]? with
          | some e => some (0 ≤ n ∧ n < len ∧ 1 < len ∧ e.length = E, .dp els (j + n.toNat) 0)
          | none => none
        | _, _ => none
    | _, _ => none
  | .load t x => ((evl X g x).bind (loadAt X g t)).map (True, ·)
  | .build t parts =>
    match zeroT X.P t, placesT X.P t with
    | some z, some pl => match fillS pl X g z parts.toList with
      | some cs => match toDs cs with
        | some ds => if cellB ds then some (True, .ag ds (nilsOf 0 cs)) else none
        | none => none
      | none => none
    | _, _ => none
  | .makeInterface t x =>
    match (evl X g x).bind toD with
    | some y => if concT X.P t then some (True, .v (.iface t y)) else none
    | none => none
  | .nilCheck x =>
    match evl X g x with
    | some (.loc k off) => some (True, .loc k off)
    | some (.dp els i off) => some (True, .dp els i off)
    | some (.v (.prim (.pointer (some a)))) => some (True, .v (.prim (.pointer (some a))))
    | some (.v (.prim (.func (.func f) x y))) => some (True, .v (.prim (.func (.func f) x y)))
    | _ => none
  | .convert s d x =>
    match evl X g x, intT X.P s, intT X.P d with
    | some (.v (.prim (.int _ n))), some _, some k => some (intOK k n, .v (.prim (.int k n)))
    | _, _, _ => none
  | .slice t x lo hi none =>
    match elemT X.P t, (evl X g x).bind slOf with
    | some E, some els => match bound X g 0 lo, bound X g els.length hi with
      | some l, some h => some (0 ≤ l ∧ l ≤ h ∧ h ≤ els.length ∧ ∀ e ∈ els, e.length = E, .v (.sl ((els.take h.toNat).drop l.toNat)))
      | _, _ => none
    | _, _ => none
  | .call c => pcall X g c
  | .makeFunc fn fi ca =>
    match pvls X g fi.toList, pvls X g ca.toList with
    | some fi, some ca => some (True, .v (.prim (.func fn fi.toArray ca.toArray)))
    | _, _ => none
  | _ => none

section
variable {X : Ctx} {G : Gh} {s : St} {a : Act} {w : World}

theorem run_lay {P : Program} {w : World} {t : TypeId} {b : Bool} {n : Nat} (h : layT P t = some (b, n)) : (isAgg t).run P w = .ok b w ∧ (sizeOf t).run P w = .ok n w := by
  unfold layT at h
  split at h
  · rename_i d i hd hi
    simp only [Option.some.injEq, Prod.mk.injEq] at h
    obtain ⟨rfl, rfl⟩ := h
    refine ⟨?_, by simp [sizeOf, typeInfo, hi]⟩
    unfold isAgg
    rw [Sem.run_bind, run_underlying hd w]
    cases d <;> rfl
  · cases h

theorem addr_add (b o n : Nat) : (⟨b, o, none⟩ : Addr).add n = ⟨b, o + n, none⟩ := by
  unfold Addr.add
  split <;> simp_all

/-- loads through an address at which cells are known -/
theorem run_loadVar_known {P : Program} {w : World} {t : TypeId} {agg : Bool} {n : Nat} (h : layT P t = some (agg, n)) (b o : Nat) (cs : List Value) (hc : ∀ j v, cs[j]? = some v → w.cell? ⟨b, o + j, none⟩ = some v)
    (hn : agg = true → cs.length = n) (v : Value) (hv : if agg = true then v = .agg cs.toArray else cs[0]? = some v) : (loadVar t ⟨b, o, none⟩).run P w = .ok v w := by
  obtain ⟨h1, h2⟩ := run_lay (w := w) h
  unfold loadVar
  cases agg with
  | true =>
    simp only [if_true] at hv
    have := run_loadCells_list (P := P) w ⟨b, o, none⟩ cs (fun j v hj => by rw [addr_add]; exact hc j v hj)
    rw [hn rfl] at this
    simp [h1, h2, this, hv]
  | false =>
    simp only [Bool.false_eq_true, if_false] at hv
    have := hc 0 v hv
    simp at this
    simp [h1, this]

theorem readRow_sound {w : World} {b : Nat} {cs : List SV} (hb : BlkAt G w b cs) {P : Program} {t : TypeId} {agg : Bool} {n off : Nat} (hl : layT P t = some (agg, n)) {y : SV} (h : readRow cs agg off n = some y) :
    ∃ v, (loadVar t ⟨b, off, none⟩).run P w = .ok v w ∧ RSV G w y v := by
  obtain ⟨c, e, h1, h2, h3⟩ := hb
  unfold readRow at h
  have hcell : ∀ (i : Nat) (v : Value), c[i]? = some v → w.cell? ⟨b, i, none⟩ = some v := fun i v hv => by simp [World.cell?, h1, hv]
  cases agg with
  | true =>
    simp only [if_true] at h
    split at h
    · rename_i ds hds
      split at h
      · rename_i hlen
        cases h
        obtain ⟨k1, k2⟩ := toDs_get hds
        have hk : ∀ i, i < n → ∃ x c' v, cs[off + i]? = some x ∧ toD x = some c' ∧ ds[i]? = some c' ∧ c[off + i]? = some v ∧ RSV G w x v ∧ x.isCell = true := by
          intro i hi
          have hc : ds[i]? = some (ds[i]'(by omega)) := List.getElem?_eq_getElem (by omega)
          obtain ⟨x, hx, hd⟩ := k2 i _ hc
          rw [List.getElem?_take_of_lt hi, List.getElem?_drop] at hx
          obtain ⟨hcl, v, hv, hr⟩ := h3 _ _ hx
          exact ⟨x, _, v, hx, hd, hc, hv, hr, hcl⟩
        have hsz : ∀ i, i < n → off + i < c.size := fun i hi => by
          obtain ⟨x, c', v, -, -, -, hv, -⟩ := hk i hi
          exact (Array.getElem?_eq_some_iff.1 hv).1
        refine ⟨.agg ((c.toList.drop off).take n).toArray, ?_, ?_⟩
        · refine run_loadVar_known hl b off ((c.toList.drop off).take n) (fun j v hj => ?_) (fun _ => ?_) _ (by simp)
          · have hj' : j < n := by
              have := (List.getElem?_eq_some_iff.1 hj).1
              simp at this; omega
            rw [List.getElem?_take_of_lt hj', List.getElem?_drop] at hj
            exact hcell _ _ (by simpa using hj)
          · simp
            by_cases hn : n = 0
            · omega
            · have := hsz (n - 1) (by omega); omega
        · refine .agg ds _ ?_ ?_ ?_
          · simp
            by_cases hn : n = 0
            · subst hn; simp at hlen; simp [hlen]
            · have := hsz (n - 1) (by omega); omega
          · intro c' hc'
            obtain ⟨i, hi, rfl⟩ := List.mem_iff_getElem.1 hc'
            obtain ⟨x, c'', v, hx, hd, hc, hv, hr, hcl⟩ := hk i (by omega)
            rw [List.getElem?_eq_getElem hi] at hc
            cases hc
            exact toD_cell hd hcl
          · intro i c' v hc' hv
            have hi : i < n := by
              have := (List.getElem?_eq_some_iff.1 hc').1; omega
            obtain ⟨x, c'', v', hx, hd, hc, hv', hr, hcl⟩ := hk i hi
            rw [hc'] at hc
            cases hc
            simp only [List.getElem?_toArray] at hv
            rw [List.getElem?_take_of_lt hi, List.getElem?_drop] at hv
            have hv2 : c[off + i]? = some v := by simpa using hv
            rw [hv'] at hv2
            cases hv2
            exact toD_sound hd hr
      · cases h
    · cases h
  | false =>
    simp only [Bool.false_eq_true, if_false] at h
    obtain ⟨hcl, v, hv, hr⟩ := h3 _ _ h
    refine ⟨v, run_loadVar_known hl b off [v] (fun j u hj => ?_) (fun h => by cases h) _ (by simp), hr⟩
    cases j with
    | zero => simp at hj; subst hj; exact hcell _ _ hv
    | succ j => simp at hj

theorem readD_sound {w : World} {D : Nat → Nat → Prop} {els : List (List DV)} {b o cap E i off : Nat} (hr : RV D w (.sl els) (.slice (some ⟨b, o, none⟩) els.length cap)) (hE : ∀ e ∈ els, e.length = E) {e : List DV} (he : els[i]? = some e)
    {P : Program} {t : TypeId} {agg : Bool} {n : Nat} (hl : layT P t = some (agg, n)) {y : DV} (h : readD e agg off n = some y) :
    ∃ v, (loadVar t ⟨b, o + (i * E + off), none⟩).run P w = .ok v w ∧ RV D w y v := by
  have hi : i < els.length := (List.getElem?_eq_some_iff.1 he).1
  have hel : e.length = E := hE e (List.mem_of_getElem? he)
  cases hr with
  | sl0 => simp at hi
  | sl _ _ _ _ E' val hlen hcap hE' hcell hc hD hh =>
    have hEE : E' = E := by rw [← hE' e (List.mem_of_getElem? he), hel]
    subst hEE
    unfold readD at h
    cases agg with
    | true =>
      simp only [if_true] at h
      split at h
      · rename_i hlen'
        cases h
        simp at hlen'
        have hoff : n = 0 ∨ off + n ≤ E' := by omega
        refine ⟨.agg ((List.range n).map fun j => val i (off + j)).toArray, ?_, ?_⟩
        · refine run_loadVar_known hl b _ ((List.range n).map fun j => val i (off + j)) (fun j v hj => ?_) (fun _ => by simp) _ (by simp)
          have hj' : j < n := by
            have := (List.getElem?_eq_some_iff.1 hj).1; simpa using this
          simp [hj'] at hj
          subst hj
          have := hc i (off + j) hi (by omega)
          rw [← this]; congr 2; omega
        · refine .agg _ _ (by simp only [List.size_toArray, List.length_map, List.length_range, List.length_take, List.length_drop]; omega) (fun c hc' => ?_) (fun j c v hc' hv => ?_)
          · exact hcell e (List.mem_of_getElem? he) c (List.mem_of_mem_drop (List.mem_of_mem_take hc'))
          · have hj' : j < n := by
              have := (List.getElem?_eq_some_iff.1 hc').1; simp at this; omega
            rw [List.getElem?_take_of_lt hj', List.getElem?_drop] at hc'
            simp [hj'] at hv
            subst hv
            exact hh i (off + j) e c he hc'
      · cases h
    | false =>
      simp only [Bool.false_eq_true, if_false] at h
      have ho : off < E' := by
        have := (List.getElem?_eq_some_iff.1 h).1; omega
      refine ⟨val i off, run_loadVar_known hl b _ [val i off] (fun j u hj => ?_) (fun h => by cases h) _ (by simp), hh i off e y he h⟩
      cases j with
      | zero => simp at hj; subst hj; simpa using hc i off hi ho
      | succ j => simp at hj

theorem loadAt_sound (R : Rel X G s a w) {t : TypeId} {x y : SV} {v : Value} (hx : RSV G w x v) (h : loadAt X (get s) t x = some y) :
    ∃ u, (Instr.loadAt t v).run X.P w = .ok u w ∧ RSV G w y u := by
  unfold loadAt at h
  split at h
  · rename_i k off
    split at h
    · rename_i agg n cs hl hg
      obtain rfl := hx
      obtain ⟨u, h1, h2⟩ := readRow_sound (R.holds _ _ hg) hl h
      exact ⟨u, by simp [Instr.loadAt, Instr.sureAddr, h1], h2⟩
    · cases h
  · rename_i els i off
    split at h
    · rename_i agg n e hl he
      obtain ⟨b, o, E, cap, hr, hE, hi, rfl⟩ := hx
      cases hd : readD e agg off n with
      | none => simp [hd] at h
      | some y' =>
        simp [hd] at h
        subst h
        obtain ⟨u, h1, h2⟩ := readD_sound hr hE he hl hd
        exact ⟨u, by simp [Instr.loadAt, Instr.sureAddr, h1], h2⟩
    · cases h
  · rename_i b off
    split at h
    · rename_i agg n cs hl hg
      cases hx
      obtain ⟨u, h1, h2⟩ := readRow_sound (R.holds _ _ hg) hl h
      exact ⟨u, by simp [Instr.loadAt, Instr.sureAddr, h1], h2⟩
    · cases h
  · cases h

end
end Go.Proofs.YtbmnlkfgkdallaaDoor.Lift
