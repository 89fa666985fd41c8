/-
  Part P of the small logic: the rules by which drawn regions are reckoned; loops over lists; further rules of use.
-/
import Derived.Test.YtbmnlkfgkdallaaDoorLo
namespace Go.Proofs.YtbmnlkfgkdallaaDoor.Lift
set_option linter.unusedSimpArgs false
set_option linter.unusedVariables false
set_option linter.unnecessarySimpa false
open Go

section
variable {X : Ctx} {esc : List Nat} {ops : Array Oper} {s0 : St} {K : St → Prop} {g : Rd} {s : St}

def rsK (l : Loc) (r : St) : Option LV → St
  | some v => (l, v) :: r
  | none => r
theorem rsK_some (l : Loc) (r : St) (v : LV) : rsK l r (some v) = (l, v) :: r := rfl
theorem rsK_none (l : Loc) (r : St) : rsK l r none = r := rfl
theorem restr_nil : restr s [] = [] := rfl
theorem restr_cons (l : Loc) (r : List Loc) : restr s (l :: r) = rsK l (restr s r) (get s l) := by
  simp only [restr, rsK]
  cases get s l <;> rfl

theorem slotsOf_nil : slotsOf [] = [] := rfl
theorem slotsOf_tmp (t : Nat) (r : List Operand) : slotsOf (.tmp t :: r) = .slot t :: slotsOf r := rfl
theorem slotsOf_const (v : Value) (r : List Operand) : slotsOf (.const v :: r) = slotsOf r := rfl
theorem slotsOf_global (v : Nat) (r : List Operand) : slotsOf (.global v :: r) = slotsOf r := rfl
theorem slotsOf_func (v : Nat) (r : List Operand) : slotsOf (.func v :: r) = slotsOf r := rfl
theorem tgt_heap (b o : Nat) (q) : tgtOf (some (.v (.prim (.pointer (some ⟨b, o, q⟩))))) = [.heap b] := rfl
theorem tgt_own (t : Nat) (e : List (List DV)) : tgtOf (some (.own t e)) = [.tok t] := rfl
theorem tgt_dp (e : List (List DV)) (i o : Nat) : tgtOf (some (.dp e i o)) = [] := rfl
theorem tgt_sl (e : List (List DV)) : tgtOf (some (.v (.sl e))) = [] := rfl

theorem fMove (x : Operand) : fpOf X g (.move x) = slotsOf [x] := by simp [fpOf, exFp, Op.operands]
theorem fAssign (x : Operand) : fpOf X g (.assign x) = slotsOf [x] := by simp [fpOf, exFp, Op.operands]
theorem fPick (a b c : Operand) : fpOf X g (.pick a b c) = slotsOf [a, b, c] := by simp [fpOf, exFp, Op.operands]
theorem fAlloc (t : TypeId) : fpOf X g (.alloc t) = [] := by simp [fpOf, exFp, Op.operands, slotsOf]
theorem fBox (t : TypeId) (x : Operand) : fpOf X g (.box t x) = slotsOf [x] := by simp [fpOf, exFp, Op.operands]
theorem fBuild (t : TypeId) (ps : Array (Nat × Operand)) : fpOf X g (.build t ps) = slotsOf (ps.toList.map (·.2)) := by simp [fpOf, exFp, Op.operands]
theorem fBuildSlice (t : TypeId) (n : Nat) (ps : Array (Nat × Operand)) : fpOf X g (.buildSlice t n ps) = slotsOf (ps.toList.map (·.2)) := by simp [fpOf, exFp, Op.operands]
theorem fLoad (t : TypeId) (x : Operand) : fpOf X g (.load t x) = slotsOf [x] ++ tgtOf (evl X g x) := by simp [fpOf, exFp, Op.operands]
theorem fStore (t : TypeId) (p x : Operand) : fpOf X g (.store t p x) = slotsOf [p, x] ++ tgtOf (evl X g p) := by simp [fpOf, exFp, Op.operands]
theorem fNilCheck (x : Operand) : fpOf X g (.nilCheck x) = slotsOf [x] := by simp [fpOf, exFp, Op.operands]
theorem fBin (op : BinOp) (t u : TypeId) (x y : Operand) : fpOf X g (.binOp op t x y u) = slotsOf [x, y] := by simp [fpOf, exFp, Op.operands]
theorem fUn (op : UnOp) (t : TypeId) (x : Operand) : fpOf X g (.unOp op t x) = slotsOf [x] := by simp [fpOf, exFp, Op.operands]
theorem fConvert (t u : TypeId) (x : Operand) : fpOf X g (.convert t u x) = slotsOf [x] := by simp [fpOf, exFp, Op.operands]
theorem fMakeFunc (fn : Fn) (fi ca : Array Operand) : fpOf X g (.makeFunc fn fi ca) = slotsOf ((fi ++ ca).toList) := by simp [fpOf, exFp, Op.operands]
theorem fMakeIface (t : TypeId) (x : Operand) : fpOf X g (.makeInterface t x) = slotsOf [x] := by simp [fpOf, exFp, Op.operands]
theorem fSlice (t : TypeId) (x : Operand) (a b c : Option Operand) : fpOf X g (.slice t x a b c) = slotsOf (x :: (a.toList ++ b.toList ++ c.toList)) := by
  simp [fpOf, exFp, Op.operands]
theorem fFieldAddr (t : TypeId) (x : Operand) (f : Nat) : fpOf X g (.fieldAddr t x f) = slotsOf [x] := by simp [fpOf, exFp, Op.operands]
theorem fField (t : TypeId) (x : Operand) (f : Nat) : fpOf X g (.field t x f) = slotsOf [x] := by simp [fpOf, exFp, Op.operands]
theorem fIndexAddr (t : TypeId) (x y : Operand) : fpOf X g (.indexAddr t x y) = slotsOf [x, y] := by simp [fpOf, exFp, Op.operands]
theorem fExtract (x : Operand) (i : Nat) : fpOf X g (.extract x i) = slotsOf [x] := by simp [fpOf, exFp, Op.operands]
theorem fLen (xs : Array Operand) (ts : Array TypeId) : fpOf X g (.call { callee := .builtin .len, args := xs, argTypes := ts }) = slotsOf xs.toList := by simp [fpOf, exFp, Op.operands, Call.operands, isAppend]
theorem fMax (xs : Array Operand) (ts : Array TypeId) : fpOf X g (.call { callee := .builtin .max, args := xs, argTypes := ts }) = slotsOf xs.toList := by simp [fpOf, exFp, Op.operands, Call.operands, isAppend]
theorem fMin (xs : Array Operand) (ts : Array TypeId) : fpOf X g (.call { callee := .builtin .min, args := xs, argTypes := ts }) = slotsOf xs.toList := by simp [fpOf, exFp, Op.operands, Call.operands, isAppend]
theorem fAppend (x y : Operand) (t t2 : TypeId) : fpOf X g (.call { callee := .builtin .append, args := #[x, y], argTypes := #[t, t2] }) = slotsOf [x, y] ++ tgtOf (evl X g x) := by simp [fpOf, exFp, Op.operands, Call.operands, isAppend]

theorem dstL_some (d : Nat) : dstL (some d) = [.slot d] := rfl
theorem dstL_none : dstL none = [] := rfl
theorem dstA_some (d : Nat) : dstA (some d) = [.slot d, .loc d] := rfl
theorem dstT_some (d : Nat) : dstT (some d) = [.slot d, .tok d] := rfl
variable {d : Option Tmp}
theorem wMove (x : Operand) : wrOp X g d (.move x) = dstL d := rfl
theorem wAssign (x : Operand) : wrOp X g d (.assign x) = dstL d := rfl
theorem wPick (a b c : Operand) : wrOp X g d (.pick a b c) = dstL d := rfl
theorem wAlloc (t : TypeId) : wrOp X g d (.alloc t) = dstA d := rfl
theorem wBox (t : TypeId) (x : Operand) : wrOp X g d (.box t x) = dstA d := rfl
theorem wBuild (t : TypeId) (ps : Array (Nat × Operand)) : wrOp X g d (.build t ps) = dstL d := rfl
theorem wBuildSlice (t : TypeId) (n : Nat) (ps : Array (Nat × Operand)) : wrOp X g d (.buildSlice t n ps) = dstL d := rfl
theorem wLoad (t : TypeId) (x : Operand) : wrOp X g d (.load t x) = dstL d := rfl
theorem wStore (t : TypeId) (p x : Operand) : wrOp X g d (.store t p x) = tgtOf (evl X g p) := rfl
theorem wNilCheck (x : Operand) : wrOp X g d (.nilCheck x) = dstL d := rfl
theorem wBin (op : BinOp) (t u : TypeId) (x y : Operand) : wrOp X g d (.binOp op t x y u) = dstL d := rfl
theorem wUn (op : UnOp) (t : TypeId) (x : Operand) : wrOp X g d (.unOp op t x) = dstL d := rfl
theorem wConvert (t u : TypeId) (x : Operand) : wrOp X g d (.convert t u x) = dstL d := rfl
theorem wMakeFunc (fn : Fn) (fi ca : Array Operand) : wrOp X g d (.makeFunc fn fi ca) = dstL d := rfl
theorem wMakeIface (t : TypeId) (x : Operand) : wrOp X g d (.makeInterface t x) = dstL d := rfl
theorem wSlice (t : TypeId) (x : Operand) (a b : Option Operand) : wrOp X g d (.slice t x a b none) = dstL d := rfl
theorem wSlice3 (t : TypeId) (x c : Operand) (a b : Option Operand) : wrOp X g d (.slice t x a b (some c)) = .tok 0 :: dstT d := rfl
theorem wFieldAddr (t : TypeId) (x : Operand) (f : Nat) : wrOp X g d (.fieldAddr t x f) = dstL d := rfl
theorem wField (t : TypeId) (x : Operand) (f : Nat) : wrOp X g d (.field t x f) = dstL d := rfl
theorem wIndexAddr (t : TypeId) (x y : Operand) : wrOp X g d (.indexAddr t x y) = dstL d := rfl
theorem wExtract (x : Operand) (i : Nat) : wrOp X g d (.extract x i) = dstL d := rfl
theorem wLen (xs : Array Operand) (ts : Array TypeId) : wrOp X g d (.call { callee := .builtin .len, args := xs, argTypes := ts }) = dstL d := by simp [wrOp, isAppend]
theorem wMax (xs : Array Operand) (ts : Array TypeId) : wrOp X g d (.call { callee := .builtin .max, args := xs, argTypes := ts }) = dstL d := by simp [wrOp, isAppend]
theorem wMin (xs : Array Operand) (ts : Array TypeId) : wrOp X g d (.call { callee := .builtin .min, args := xs, argTypes := ts }) = dstL d := by simp [wrOp, isAppend]
theorem wAppend (x y : Operand) (t t2 : TypeId) : wrOp X g d (.call { callee := .builtin .append, args := #[x, y], argTypes := #[t, t2] }) = tgtOf (evl X g x) ++ dstT d := by simp [wrOp, isAppend]

theorem nMove (x : Operand) : nmOf d (.move x) = [] := rfl
theorem nAssign (x : Operand) : nmOf d (.assign x) = [] := rfl
theorem nPick (a b c : Operand) : nmOf d (.pick a b c) = [] := rfl
theorem nAlloc (t : TypeId) : nmOf d (.alloc t) = d.toList := rfl
theorem nBox (t : TypeId) (x : Operand) : nmOf d (.box t x) = d.toList := rfl
theorem nBuild (t : TypeId) (ps : Array (Nat × Operand)) : nmOf d (.build t ps) = [] := rfl
theorem nBuildSlice (t : TypeId) (n : Nat) (ps : Array (Nat × Operand)) : nmOf d (.buildSlice t n ps) = [] := rfl
theorem nLoad (t : TypeId) (x : Operand) : nmOf d (.load t x) = [] := rfl
theorem nStore (t : TypeId) (p x : Operand) : nmOf d (.store t p x) = [] := rfl
theorem nNilCheck (x : Operand) : nmOf d (.nilCheck x) = [] := rfl
theorem nBin (op : BinOp) (t u : TypeId) (x y : Operand) : nmOf d (.binOp op t x y u) = [] := rfl
theorem nUn (op : UnOp) (t : TypeId) (x : Operand) : nmOf d (.unOp op t x) = [] := rfl
theorem nConvert (t u : TypeId) (x : Operand) : nmOf d (.convert t u x) = [] := rfl
theorem nMakeFunc (fn : Fn) (fi ca : Array Operand) : nmOf d (.makeFunc fn fi ca) = [] := rfl
theorem nMakeIface (t : TypeId) (x : Operand) : nmOf d (.makeInterface t x) = [] := rfl
theorem nSlice (t : TypeId) (x : Operand) (a b : Option Operand) : nmOf d (.slice t x a b none) = [] := rfl
theorem nSlice3 (t : TypeId) (x c : Operand) (a b : Option Operand) : nmOf d (.slice t x a b (some c)) = d.toList := rfl
theorem nFieldAddr (t : TypeId) (x : Operand) (f : Nat) : nmOf d (.fieldAddr t x f) = [] := rfl
theorem nField (t : TypeId) (x : Operand) (f : Nat) : nmOf d (.field t x f) = [] := rfl
theorem nIndexAddr (t : TypeId) (x y : Operand) : nmOf d (.indexAddr t x y) = [] := rfl
theorem nExtract (x : Operand) (i : Nat) : nmOf d (.extract x i) = [] := rfl
theorem nLen (xs : Array Operand) (ts : Array TypeId) : nmOf d (.call { callee := .builtin .len, args := xs, argTypes := ts }) = [] := by simp [nmOf, isAppend]
theorem nMax (xs : Array Operand) (ts : Array TypeId) : nmOf d (.call { callee := .builtin .max, args := xs, argTypes := ts }) = [] := by simp [nmOf, isAppend]
theorem nMin (xs : Array Operand) (ts : Array TypeId) : nmOf d (.call { callee := .builtin .min, args := xs, argTypes := ts }) = [] := by simp [nmOf, isAppend]
theorem nAppend (x y : Operand) (t t2 : TypeId) : nmOf d (.call { callee := .builtin .append, args := #[x, y], argTypes := #[t, t2] }) = d.toList := by simp [nmOf, isAppend]

theorem effOf_nil (s1 : St) : effOf s1 [] = [] := rfl
theorem effOf_cons (s1 : St) (l : Loc) (r : List Loc) : effOf s1 (l :: r) = (l, get s1 l) :: effOf s1 r := rfl
theorem apply_nil : apply s [] = s := rfl
theorem apply_some (l : Loc) (v : LV) (r : Eff) : apply s ((l, some v) :: r) = apply (upd s l v) r := rfl
theorem apply_none (l : Loc) (r : Eff) : apply s ((l, none) :: r) = apply (del s l) r := rfl
theorem heapL_nil : heapL [] = [] := rfl
theorem heapL_cons (b : Nat) (cs : List DV) (r : Objs) : heapL ((b, cs) :: r) = .heap b :: heapL r := rfl
theorem delE_nil : delE [] = [] := rfl
theorem delE_cons (b : Nat) (cs : List DV) (r : Objs) : delE ((b, cs) :: r) = (.heap b, none) :: delE r := rfl
theorem addE_nil : addE [] = [] := rfl
theorem addE_cons (b : Nat) (cs : List DV) (r : Objs) : addE ((b, cs) :: r) = addE r ++ [(.heap b, some (.row (cs.map SV.v)))] := rfl

variable {l : List Oper} {k : St → List Ev → Prop} {ev : List Ev} {fp wr : List Loc} {nm : List Nat}
theorem vcd_nil : vcd X esc ops s0 K [] s ev = (chkB ops.toList s0 ev.reverse = true ∧ K s) := by rw [vcd]
theorem vcd_op (d : Option Tmp) (op : Op) (ty : TypeId) (pos : String) (af : Array Edge) :
    vcd X esc ops s0 K (⟨d, op, ty, pos, af, none⟩ :: l) s ev = vcdA X esc ops s0 l K (vcd X esc ops s0 K l) ⟨d, op, ty, pos, af, none⟩ ev s (fpOf X (get s) op) := by rw [vcd]
theorem vcd_gd (d : Option Tmp) (op : Op) (ty : TypeId) (pos : String) (af : Array Edge) (j : Nat) (w : Bool) :
    vcd X esc ops s0 K (⟨d, op, ty, pos, af, some (j, w)⟩ :: l) s ev = vcdG0 X esc ops s0 l K (vcd X esc ops s0 K l) ⟨d, op, ty, pos, af, some (j, w)⟩ ev s (fpOf X (get s) op) w (gsl ops j) := by rw [vcd]
theorem vcdA_eq (o : Oper) : vcdA X esc ops s0 l K k o ev s fp = vcdB X esc ops s0 l K k o ev s fp (restr s fp) := rfl
theorem vcdB_eq (s1 : St) (d : Option Tmp) (op : Op) (ty : TypeId) (pos : String) (af : Array Edge) (gd : Option (Nat × Bool)) :
    vcdB X esc ops s0 l K k ⟨d, op, ty, pos, af, gd⟩ ev s fp s1 = vcdC X ops s0 l K k ⟨d, op, ty, pos, af, gd⟩ ev s fp (wrOp X (get s1) d op) (stepS X esc s1 ⟨d, op, ty, pos, af, gd⟩) := rfl
theorem vcdC_some (s1 : St) (c : Prop) (d : Option Tmp) (op : Op) (ty : TypeId) (pos : String) (af : Array Edge) (gd : Option (Nat × Bool)) :
    vcdC X ops s0 l K k ⟨d, op, ty, pos, af, gd⟩ ev s fp wr (some (c, s1)) = (c ∧ vcdD k ev s fp (nmOf d op) (effOf s1 wr)) := rfl
theorem vcdD_eq (e : Eff) : vcdD k ev s fp nm e = k (apply s e) (⟨fp, e, nm⟩ :: ev) := rfl
theorem vcdG0_some (o : Oper) (w : Bool) (dj : Nat) : vcdG0 X esc ops s0 l K k o ev s fp w (some dj) = vcdG X esc ops s0 l K k o ev s fp w dj (oneOf (get s (.slot dj))) := rfl
theorem vcdG_yes_t (o : Oper) (dj : Nat) : vcdG X esc ops s0 l K k o ev s fp true dj (some (.v (.prim (.bool true)))) = (dj < X.n ∧ vcdA X esc ops s0 l K k o ev s (.slot dj :: fp)) := by simp [vcdG]
theorem vcdG_yes_f (o : Oper) (dj : Nat) : vcdG X esc ops s0 l K k o ev s fp false dj (some (.v (.prim (.bool false)))) = (dj < X.n ∧ vcdA X esc ops s0 l K k o ev s (.slot dj :: fp)) := by simp [vcdG]
theorem vcdG_no_t (d : Tmp) (op : Op) (ty : TypeId) (pos : String) (af : Array Edge) (gd : Option (Nat × Bool)) (dj : Nat) :
    vcdG X esc ops s0 l K k ⟨some d, op, ty, pos, af, gd⟩ ev s fp true dj (some (.v (.prim (.bool false)))) = (dj < X.n ∧ d < X.n ∧ vcdD k ev s [.slot dj] [] [(.slot d, some unv)]) := by simp [vcdG]
theorem vcdG_no_f (d : Tmp) (op : Op) (ty : TypeId) (pos : String) (af : Array Edge) (gd : Option (Nat × Bool)) (dj : Nat) :
    vcdG X esc ops s0 l K k ⟨some d, op, ty, pos, af, gd⟩ ev s fp false dj (some (.v (.prim (.bool true)))) = (dj < X.n ∧ d < X.n ∧ vcdD k ev s [.slot dj] [] [(.slot d, some unv)]) := by simp [vcdG]
theorem vcdG_un (d : Tmp) (op : Op) (ty : TypeId) (pos : String) (af : Array Edge) (gd : Option (Nat × Bool)) (w : Bool) (dj : Nat) :
    vcdG X esc ops s0 l K k ⟨some d, op, ty, pos, af, gd⟩ ev s fp w dj (some (.v (.tup []))) = (d < X.n ∧ vcdD k ev s [.slot dj] [] [(.slot d, some unv)]) := rfl
/-- the guard is not known: both ways -/
theorem vcdG_split {o : Oper} {w b : Bool} {dj : Nat} (ht : b = true → vcdG X esc ops s0 l K k o ev s fp w dj (some (.v (.prim (.bool true))))) (hf : b = false → vcdG X esc ops s0 l K k o ev s fp w dj (some (.v (.prim (.bool false))))) :
    vcdG X esc ops s0 l K k o ev s fp w dj (some (.v (.prim (.bool b)))) := by
  cases b
  · exact hf rfl
  · exact ht rfl

/-- the ends of a function that returns a told value and was given no objects -/
theorem W_ret1 {P : Program} (hP : X.P = P) {f : FuncId} {fn : Func} (hf : X.f = f) (hfn : X.fn = fn) {r : DV} (hR : X.R = (fun x ψ => x = r ∧ ψ = []) ∧ X.md = .fn) {kk : List Item} (h : P.funcs[f]? = some fn ∧ retD X (get s) fn.results.toList = some r) : W X (.code .ret :: kk) s := by
  subst hP hf hfn
  exact W_ret hR.2 h.1 h.2 (φ := []) (fun _ _ h => by cases h) List.nodup_nil (by rw [hR.1]; exact ⟨rfl, rfl⟩)
theorem W_end1 {P : Program} (hP : X.P = P) {f : FuncId} {fn : Func} (hf : X.f = f) (hfn : X.fn = fn) {r : DV} (hR : X.R = (fun x ψ => x = r ∧ ψ = []) ∧ X.md = .fn) (h : P.funcs[f]? = some fn ∧ retD X (get s) fn.results.toList = some r) : W X [] s := by
  subst hP hf hfn
  exact W_end hR.2 h.1 h.2 (φ := []) (fun _ _ h => by cases h) List.nodup_nil (by rw [hR.1]; exact ⟨rfl, rfl⟩)

/-- a loop over places from 0, with what is known of those that are done -/
theorem W_upto (n : Nat) (I : Nat → Prop) (S : Nat → St) {c : Code} {kk : List Item} (h0 : I 0) (round : ∀ i, i < n → I i → (I (i + 1) → W X (.inLoop c :: kk) (S (i + 1))) → W X (.code c :: .inLoop c :: kk) (S i)) (last : I n → W X (.code c :: .inLoop c :: kk) (S n)) :
    W X (.code (.loop c) :: kk) (S 0) := by
  refine W_rounds (fun i => i ≤ n ∧ I i) S (fun i => n - i) 0 ⟨Nat.zero_le _, h0⟩ fun i hi ih => ?_
  by_cases h : i < n
  · exact round i h hi.2 fun h1 => ih (i + 1) ⟨h, h1⟩ (by omega)
  · obtain rfl : i = n := by omega
    exact last hi.2

/-- a loop over a list: the state is told by what is done and what is left -/
theorem W_list {α : Type} (L : List α) (S : List α → List α → St) {c : Code} {kk : List Item} (round : ∀ done x rest, L = done ++ x :: rest → L[done.length]? = some x → W X (.inLoop c :: kk) (S (done ++ [x]) rest) → W X (.code c :: .inLoop c :: kk) (S done (x :: rest))) (last : W X (.code c :: .inLoop c :: kk) (S L [])) :
    W X (.code (.loop c) :: kk) (S [] L) := by
  have key := W_rounds (X := X) (k := kk) (c := c) (fun i : List α × List α => L = i.1 ++ i.2) (fun i => S i.1 i.2) (fun i => i.2.length) ([], L) rfl
  refine key fun ⟨done, rest⟩ hI ih => ?_
  cases rest with
  | nil =>
    simp only [List.append_nil] at hI
    subst hI
    exact last
  | cons x rest =>
    exact round done x rest hI (by rw [hI]; simp) (ih (done ++ [x], rest) (by simp [hI]) (by simp))

end

theorem BIG_eq : BIG = 2147483648 := rfl
attribute [go_sem] BIG_eq
attribute [go_sem] rsK_some rsK_none restr_nil restr_cons slotsOf_nil slotsOf_tmp slotsOf_const slotsOf_global slotsOf_func tgtOf_loc tgt_heap tgt_own tgt_dp tgt_sl
attribute [go_sem] fMove fAssign fPick fAlloc fBox fBuild fBuildSlice fLoad fStore fNilCheck fBin fUn fConvert fMakeFunc fMakeIface fSlice fFieldAddr fField fIndexAddr fExtract fLen fMax fMin fAppend
attribute [go_sem] dstL_some dstL_none dstA_some dstT_some wMove wAssign wPick wAlloc wBox wBuild wBuildSlice wLoad wStore wNilCheck wBin wUn wConvert wMakeFunc wMakeIface wSlice wSlice3 wFieldAddr wField wIndexAddr wExtract wLen wMax wMin wAppend
attribute [go_sem] nMove nAssign nPick nAlloc nBox nBuild nBuildSlice nLoad nStore nNilCheck nBin nUn nConvert nMakeFunc nMakeIface nSlice nSlice3 nFieldAddr nField nIndexAddr nExtract nLen nMax nMin nAppend
attribute [go_sem] effOf_nil effOf_cons apply_nil apply_some apply_none heapL_nil heapL_cons delE_nil delE_cons addE_nil addE_cons vcd_nil vcd_op vcd_gd vcdA_eq vcdB_eq vcdC_some vcdD_eq vcdG0_some vcdG_yes_t vcdG_yes_f vcdG_no_t vcdG_no_f vcdG_un
end Go.Proofs.YtbmnlkfgkdallaaDoor.Lift
