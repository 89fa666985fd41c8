/-
  Part A of a small logic for Go code that computes with plain data: values as trees (DV), what a slot or a cell holds (SV), a state (St), and what it means that a state fits a frame and a world (Rel). No program is in sight.
-/
import Derived.WalkKit
import Derived.OrdersIn
import Derived.RangeFuncLeaves
import Derived.RangeFuncIn
import Derived.RangeFuncRecord
namespace Go.Proofs.YtbmnlkfgkdallaaDoor.Lift
set_option linter.unusedSimpArgs false
set_option linter.unusedVariables false
set_option linter.unnecessarySimpa false
open Go

/-- plain data: what a value is, whatever memory it lies in -/
inductive DV where
  | prim (v : Value)
  | agg (cs : List DV)
  | tup (cs : List DV)
  | sl (els : List (List DV))
  | iface (t : TypeId) (x : DV)

def BIG : Nat := 2147483648

def primOK : Value → Prop
  | .int k n => k.min ≤ n ∧ n ≤ k.max
  | .agg _ => False
  | .tuple _ => False
  | .slice _ _ _ => False
  | .iface _ _ => False
  | _ => True

def DV.isCell : DV → Bool
  | .agg _ => false
  | .tup _ => false
  | _ => true

def DV.isAgg : DV → Bool
  | .agg _ => true
  | _ => false

/-- a value in a world is a datum; the cells that are read lie in D -/
inductive RV (D : Nat → Nat → Prop) (w : World) : DV → Value → Prop
  | prim (v : Value) (h : primOK v) : RV D w (.prim v) v
  | agg (cs : List DV) (vs : Array Value) (hl : vs.size = cs.length) (hcell : ∀ c ∈ cs, c.isCell = true)
      (h : ∀ (i : Nat) (c : DV) (v : Value), cs[i]? = some c → vs[i]? = some v → RV D w c v) : RV D w (.agg cs) (.agg vs)
  | tup (cs : List DV) (vs : Array Value) (hl : vs.size = cs.length)
      (h : ∀ (i : Nat) (c : DV) (v : Value), cs[i]? = some c → vs[i]? = some v → RV D w c v) : RV D w (.tup cs) (.tuple vs)
  | sl0 (b : Option Addr) (cap : Nat) : RV D w (.sl []) (.slice b 0 cap)
  | sl (els : List (List DV)) (b o cap E : Nat) (val : Nat → Nat → Value) (hlen : els.length ≤ BIG) (hcap : els.length ≤ cap) (hE : ∀ e ∈ els, e.length = E)
      (hcell : ∀ e ∈ els, ∀ c ∈ e, DV.isCell c = true)
      (hc : ∀ i j, i < els.length → j < E → w.cell? ⟨b, o + (i * E + j), none⟩ = some (val i j))
      (hD : ∀ i j, i < els.length → j < E → D b (o + (i * E + j)))
      (h : ∀ (i j : Nat) (e : List DV) (c : DV), els[i]? = some e → e[j]? = some c → RV D w c (val i j)) :
      RV D w (.sl els) (.slice (some ⟨b, o, none⟩) els.length cap)
  | iface (t : TypeId) (x : DV) (v : Value) (h : RV D w x v) : RV D w (.iface t x) (.iface t v)

def Grow (D : Nat → Nat → Prop) (w : World) (D' : Nat → Nat → Prop) (w' : World) : Prop :=
  ∀ b o, D b o → D' b o ∧ w'.cell? ⟨b, o, none⟩ = w.cell? ⟨b, o, none⟩

theorem Grow.refl (D : Nat → Nat → Prop) (w : World) : Grow D w D w := fun _ _ h => ⟨h, rfl⟩
theorem Grow.trans {D D' D'' : Nat → Nat → Prop} {w w' w'' : World} (h : Grow D w D' w') (k : Grow D' w' D'' w'') : Grow D w D'' w'' :=
  fun b o hd => let ⟨h1, h2⟩ := h b o hd; let ⟨k1, k2⟩ := k b o h1; ⟨k1, k2.trans h2⟩

theorem RV.mono {D D' : Nat → Nat → Prop} {w w' : World} {x : DV} {v : Value} (g : Grow D w D' w') (h : RV D w x v) : RV D' w' x v := by
  induction h with
  | prim v h => exact .prim v h
  | agg cs vs hl hcell h ih => exact .agg cs vs hl hcell ih
  | tup cs vs hl h ih => exact .tup cs vs hl ih
  | sl0 b cap => exact .sl0 b cap
  | sl els b o cap E val hlen hcap hE hcell hc hD h ih =>
    exact .sl els b o cap E val hlen hcap hE hcell (fun i j hi hj => by rw [(g _ _ (hD i j hi hj)).2]; exact hc i j hi hj) (fun i j hi hj => (g _ _ (hD i j hi hj)).1) ih
  | iface t x v h ih => exact .iface t x v ih

/-- sizes and ranges within a datum -/
def DV.fit : DV → Prop
  | .prim v => primOK v
  | .agg cs => fits cs
  | .tup cs => fits cs
  | .sl els => els.length ≤ BIG ∧ fitss els
  | .iface _ x => x.fit
where
  fits : List DV → Prop
    | [] => True
    | c :: r => c.fit ∧ fits r
  fitss : List (List DV) → Prop
    | [] => True
    | e :: r => fits e ∧ fitss r

theorem fits_iff (cs : List DV) : DV.fit.fits cs ↔ ∀ (i : Nat) (c : DV), cs[i]? = some c → c.fit := by
  induction cs with
  | nil => simp [DV.fit.fits]
  | cons a r ih =>
    simp only [DV.fit.fits, ih]
    constructor
    · rintro ⟨h, k⟩ i c hc
      cases i with
      | zero => simp at hc; exact hc ▸ h
      | succ i => exact k i c (by simpa using hc)
    · intro h
      exact ⟨h 0 a rfl, fun i c hc => h (i + 1) c (by simpa using hc)⟩

theorem fitss_iff (els : List (List DV)) : DV.fit.fitss els ↔ ∀ (i j : Nat) (e : List DV) (c : DV), els[i]? = some e → e[j]? = some c → c.fit := by
  induction els with
  | nil => simp [DV.fit.fitss]
  | cons a r ih =>
    simp only [DV.fit.fitss, ih, fits_iff]
    constructor
    · rintro ⟨h, k⟩ i j e c he hc
      cases i with
      | zero => simp at he; subst he; exact h j c hc
      | succ i => exact k i j e c (by simpa using he) hc
    · intro h
      exact ⟨fun j c hc => h 0 j a c rfl hc, fun i j e c he hc => h (i + 1) j e c (by simpa using he) hc⟩

theorem RV.fit {D : Nat → Nat → Prop} {w : World} {x : DV} {v : Value} (h : RV D w x v) : x.fit := by
  induction h with
  | prim v h => exact h
  | agg cs vs hl hcell h ih =>
    simp only [DV.fit, fits_iff]
    intro i c hc
    have hi : i < vs.size := by rw [hl]; exact (List.getElem?_eq_some_iff.1 hc).1
    exact ih i c _ hc (Array.getElem?_eq_getElem hi)
  | tup cs vs hl h ih =>
    simp only [DV.fit, fits_iff]
    intro i c hc
    have hi : i < vs.size := by rw [hl]; exact (List.getElem?_eq_some_iff.1 hc).1
    exact ih i c _ hc (Array.getElem?_eq_getElem hi)
  | sl0 b cap => simp [DV.fit, DV.fit.fitss]
  | sl els b o cap E val hlen hcap hE hcell hc hD h ih =>
    simp only [DV.fit, fitss_iff]
    exact ⟨hlen, ih⟩
  | iface t x v h ih => exact ih

theorem primOK_one {v : Value} (h : primOK v) : v.oneCell' = true := by
  cases v <;> first | rfl | exact h.elim

theorem RV.one {D : Nat → Nat → Prop} {w : World} {x : DV} {v : Value} (h : RV D w x v) (hx : x.isCell = true) : v.oneCell' = true := by
  cases h with
  | prim v h => exact primOK_one h
  | agg => cases hx
  | tup => cases hx
  | sl0 => rfl
  | sl => rfl
  | iface => rfl

/-- what a slot or a cell holds -/
inductive SV where
  | v (x : DV)
  | loc (k off : Nat)
  | dp (els : List (List DV)) (i off : Nat)
  | own (t : Nat) (els : List (List DV))
  | ag (cs : List DV) (nils : List Nat)

inductive Loc where
  | slot (n : Nat)
  | loc (n : Nat)
  | heap (b : Nat)
  | tok (t : Nat)
  deriving DecidableEq

inductive LV where
  | one (x : SV)
  | row (cs : List SV)
  | tk (E len : Nat)
  | ob (r : Loop)

abbrev St := List (Loc × LV)

def get : St → Loc → Option LV
  | [], _ => none
  | (m, v) :: r, l => if m = l then some v else get r l

def del : St → Loc → St
  | [], _ => []
  | (m, v) :: r, l => if m = l then del r l else (m, v) :: del r l

def upd (s : St) (l : Loc) (v : LV) : St := (l, v) :: del s l

theorem get_del (s : St) (l m : Loc) : get (del s l) m = if l = m then none else get s m := by
  induction s with
  | nil => simp [del, get]
  | cons p r ih =>
    obtain ⟨k, v⟩ := p
    by_cases h : k = l
    · simp only [del, h, if_true, ih, get]
      by_cases h' : l = m <;> simp [h']
    · by_cases h' : l = m
      · subst h'; simp [del, h, get, ih]
      · simp only [del, h, if_false, get, ih, h']

theorem get_upd (s : St) (l m : Loc) (v : LV) : get (upd s l v) m = if l = m then some v else get s m := by
  simp only [upd, get, get_del]
  by_cases h : l = m <;> simp [h]

/-- what one operation does to a state -/
abbrev Eff := List (Loc × Option LV)

def apply (s : St) : Eff → St
  | [] => s
  | (l, some v) :: e => apply (upd s l v) e
  | (l, none) :: e => apply (del s l) e

/-- the last word of an effect on a place -/
def Eff.says : Eff → Loc → Option (Option LV)
  | [], _ => none
  | (m, v) :: e, l => match Eff.says e l with
    | some x => some x
    | none => if m = l then some v else none

theorem get_apply (e : Eff) : ∀ (s : St) (l : Loc), get (apply s e) l = (e.says l).getD (get s l) := by
  induction e with
  | nil => intro s l; rfl
  | cons p e ih =>
    intro s l
    obtain ⟨m, v⟩ := p
    cases v with
    | none =>
      simp only [apply, ih, Eff.says, get_del]
      cases h : Eff.says e l with
      | some x => rfl
      | none => by_cases hm : m = l <;> simp [hm]
    | some v =>
      simp only [apply, ih, Eff.says, get_upd]
      cases h : Eff.says e l with
      | some x => rfl
      | none => by_cases hm : m = l <;> simp [hm]

/-- what a state's names stand for in a world -/
structure Gh where
  D : Nat → Nat → Prop
  ν : Nat → Nat
  τ : Nat → Option Addr × Nat

def RSV (G : Gh) (w : World) : SV → Value → Prop
  | .v x, v => RV G.D w x v
  | .loc k off, v => v = .pointer (some ⟨G.ν k, off, none⟩)
  | .dp els i off, v => ∃ b o E cap, RV G.D w (.sl els) (.slice (some ⟨b, o, none⟩) els.length cap) ∧ (∀ e ∈ els, e.length = E) ∧ i < els.length ∧ v = .pointer (some ⟨b, o + (i * E + off), none⟩)
  | .own t els, v => v = .slice (G.τ t).1 els.length (G.τ t).2 ∧ RV G.D w (.sl els) v
  | .ag cs ns, v => RV G.D w (.agg cs) v ∧ ∀ i ∈ ns, cs[i]? = some (.sl []) ∧ v.cells[i]? = some (.slice none 0 0)

def SV.isCell : SV → Bool
  | .v x => x.isCell
  | .ag _ _ => false
  | _ => true

theorem RSV.one {G : Gh} {w : World} {x : SV} {v : Value} (h : RSV G w x v) (hx : x.isCell = true) : v.oneCell' = true := by
  cases x with
  | v x => exact RV.one h hx
  | loc k off => obtain rfl := h; rfl
  | dp els i off => obtain ⟨b, o, E, cap, -, -, -, rfl⟩ := h; rfl
  | own t els => obtain ⟨rfl, -⟩ := h; rfl
  | ag cs ns => cases hx

/-- the block of a row of cells -/
def BlkAt (G : Gh) (w : World) (b : Nat) (cs : List SV) : Prop :=
  ∃ c e, w.heap[b]? = some (.cells c e (0, 0)) ∧ c.size = cs.length ∧ ∀ (i : Nat) (x : SV), cs[i]? = some x → x.isCell = true ∧ ∃ v, c[i]? = some v ∧ RSV G w x v

/-- the spare room behind a slice of one's own -/
def TokAt (G : Gh) (w : World) (t E len : Nat) : Prop :=
  match G.τ t with
  | (none, cap) => len = 0 ∧ cap = 0
  | (some a, cap) => len ≤ cap ∧ (len < cap → a.spot = none ∧ ∃ c e, w.heap[a.block]? = some (.cells c e (0, 0)) ∧ a.off + cap * E ≤ c.size ∧ ∀ j, a.off + len * E ≤ j → j < a.off + cap * E → ¬ G.D a.block j)

def tokBlk (G : Gh) (t len : Nat) : Option Nat :=
  match G.τ t with
  | (some a, cap) => if len < cap then some a.block else none
  | _ => none

def Holds (G : Gh) (w : World) (a : Act) : Loc → LV → Prop
  | .slot s, .one x => RSV G w x (a.tmps.getD s undef)
  | .loc k, .row cs => BlkAt G w (G.ν k) cs
  | .heap b, .row cs => BlkAt G w b cs
  | .tok t, .tk E len => TokAt G w t E len
  | .heap b, .ob r => w.heap[b]? = some (.loop r)
  | _, _ => False

/-- the block whose cells a fact speaks of, alone -/
def blkOf (G : Gh) : Loc → LV → Option Nat
  | .loc k, .row _ => some (G.ν k)
  | .heap b, .row _ => some b
  | .heap b, .ob _ => some b
  | .loc k, .ob _ => some (G.ν k)
  | .tok t, .tk _ len => tokBlk G t len
  | _, _ => none

def Loc.isTok : Loc → Bool
  | .tok _ => true
  | _ => false

/-- package-level arrays that read as known data -/
abbrev Globs := List (Nat × List (List DV))

structure Wf (gl : Globs) (D : Nat → Nat → Prop) (w : World) : Prop where
  there : ∀ b o, D b o → ∃ v, w.cell? ⟨b, o, none⟩ = some v
  globs : ∀ g els, (g, els) ∈ gl → ∃ cap, RV D w (.sl els) (.slice (some ⟨g, 0, none⟩) els.length cap)

theorem Wf.lt {gl : Globs} {D : Nat → Nat → Prop} {w : World} (h : Wf gl D w) {b o : Nat} (hd : D b o) : b < w.heap.size := by
  obtain ⟨v, hv⟩ := h.there b o hd
  exact World.block_lt_of_cell? w _ hv

/-- what a call leaves of the memory that was there -/
structure Ext (ids : List Nat) (D : Nat → Nat → Prop) (w : World) (D' : Nat → Nat → Prop) (w' : World) : Prop where
  os : w'.os = w.os
  tape : w'.tape = w.tape
  output : w'.output = w.output
  size : w.heap.size ≤ w'.heap.size
  block : ∀ b, b < w.heap.size → b ∉ ids → w'.heap[b]? = w.heap[b]?
  grow : Grow D w D' w'
  new : ∀ b o, D' b o → ¬ D b o → w.heap.size ≤ b

theorem Ext.refl (ids : List Nat) (D : Nat → Nat → Prop) (w : World) : Ext ids D w D w :=
  ⟨rfl, rfl, rfl, Nat.le_refl _, fun _ _ _ => rfl, Grow.refl _ _, fun _ _ h k => absurd h k⟩

/-- how a walk ends: a function returns; a function that was ranged over returns (its loop's record is l); a round of a loop ends -/
inductive Md where
  | fn
  | it (l : Nat) (R : List (Nat × List DV) → Loop → Prop)
  | rd (l : Nat) (r : Loop) (R : Option Code → List (Nat × List DV) → Prop)

/-- the mark of a range over a function, on the frame's deferred calls -/
def mark (D : Nat) : Deferred := { target := .collected D, args := #[] }

structure Ctx where
  P : Program
  gl : Globs
  f : FuncId
  fn : Func
  n : Nat
  ids : List Nat
  D0 : Nat → Nat → Prop
  w0 : World
  R : DV → List (Nat × List DV) → Prop
  md : Md

def Ctx.rd (X : Ctx) : Option Nat := match X.md with
  | .rd l _ _ => some l
  | _ => none

/-- the frame's deferred calls are marks, whose blocks are there and hold nothing -/
def DfOK (w0 : World) (a : Act) (w : World) : Prop := ∃ Ds : List Nat, a.defers = Ds.map mark ∧ Ds.Nodup ∧ ∀ D ∈ Ds, w.heap[D]? = some (.deferred (some [])) ∧ w0.heap.size ≤ D

theorem DfOK.keep {w0 : World} {a a' : Act} {w w' : World} (h : DfOK w0 a w) (hd : a'.defers = a.defers) (hw : ∀ D : Nat, w.heap[D]? = some (Obj.deferred (some [])) → w'.heap[D]? = some (Obj.deferred (some []))) : DfOK w0 a' w' := by
  obtain ⟨Ds, h1, h2, h3⟩ := h
  exact ⟨Ds, hd.trans h1, h2, fun D hD => ⟨hw D (h3 D hD).1, (h3 D hD).2⟩⟩

theorem DfOK.put {w0 : World} {a a' : Act} {w : World} (hd : a'.defers = a.defers) (h : DfOK w0 a w) : DfOK w0 a' w := h.keep hd fun _ h => h

theorem DfOK.heap {w0 : World} {a : Act} {w w' : World} (h : DfOK w0 a w) (hw : ∀ b, b < w.heap.size → w'.heap[b]? = w.heap[b]?) : DfOK w0 a w' :=
  h.keep rfl fun D hD => (hw D (Array.getElem?_eq_some_iff.1 hD).1).trans hD

theorem DfOK.but {w0 : World} {a : Act} {w w' : World} (h : DfOK w0 a w) {b : Nat} {c : Array Value} {e : TypeId} {f : Nat × Nat} (hc : w.heap[b]? = some (.cells c e f)) (hw : ∀ b', b' ≠ b → w'.heap[b']? = w.heap[b']?) : DfOK w0 a w' :=
  h.keep rfl fun D hD => (hw D (fun e => by subst e; rw [hc] at hD; cases hD)).trans hD

structure Rel (X : Ctx) (G : Gh) (s : St) (a : Act) (w : World) : Prop where
  size : a.tmps.size = X.n
  defers : DfOK X.w0 a w
  ext : Ext X.ids X.D0 X.w0 G.D w
  wf : Wf X.gl G.D w
  nil : G.τ 0 = (none, 0)
  holds : ∀ l v, get s l = some v → Holds G w a l v
  sep : ∀ l v l' v' b, get s l = some v → get s l' = some v' → blkOf G l v = some b → blkOf G l' v' = some b → l = l'
  own : ∀ l v b, get s l = some v → blkOf G l v = some b → X.w0.heap.size ≤ b ∨ (b ∈ X.ids ∧ l.isTok = false)
  data : ∀ l v b o, get s l = some v → blkOf G l v = some b → l.isTok = false → ¬ G.D b o

/-- names in what is held -/
def SV.locs : SV → List Nat
  | .loc k _ => [k]
  | _ => []
def SV.toks : SV → List Nat
  | .own t _ => [t]
  | _ => []
def LV.locs : LV → List Nat
  | .one x => x.locs
  | .row cs => cs.flatMap SV.locs
  | .tk _ _ => []
  | .ob _ => []
def LV.toks : LV → List Nat
  | .one x => x.toks
  | .row cs => cs.flatMap SV.toks
  | .tk _ _ => []
  | .ob _ => []
def Loc.locs : Loc → List Nat
  | .loc k => [k]
  | _ => []
def Loc.toks : Loc → List Nat
  | .tok t => [t]
  | _ => []

/-- one step of the frame and the world; B: the old blocks that it may have written -/
structure Trans (X : Ctx) (G : Gh) (a : Act) (w : World) (G' : Gh) (a' : Act) (w' : World) (B : Nat → Prop) : Prop where
  tmps : a'.tmps.size = a.tmps.size
  defers : DfOK X.w0 a w → DfOK X.w0 a' w'
  os : w'.os = w.os
  tape : w'.tape = w.tape
  output : w'.output = w.output
  size : w.heap.size ≤ w'.heap.size
  keep : ∀ b, b < w.heap.size → ¬ B b → w'.heap[b]? = w.heap[b]?
  own : ∀ b, B b → X.w0.heap.size ≤ b ∨ b ∈ X.ids
  grow : Grow G.D w G'.D w'
  new : ∀ b o, G'.D b o → ¬ G.D b o → (w.heap.size ≤ b ∨ (B b ∧ X.w0.heap.size ≤ b)) ∧ ∃ v, w'.cell? ⟨b, o, none⟩ = some v
  nil : G'.τ 0 = (none, 0)

theorem RSV.mono {G G' : Gh} {w w' : World} {x : SV} {v : Value} (g : Grow G.D w G'.D w') (hl : ∀ k ∈ x.locs, G'.ν k = G.ν k) (ht : ∀ t ∈ x.toks, G'.τ t = G.τ t) (h : RSV G w x v) : RSV G' w' x v := by
  cases x with
  | v x => exact RV.mono g h
  | loc k off => have e := hl k (by simp [SV.locs]); simp only [RSV] at *; rw [e]; exact h
  | dp els i off => obtain ⟨b, o, E, cap, h1, h2⟩ := h; exact ⟨b, o, E, cap, RV.mono g h1, h2⟩
  | own t els => have e := ht t (by simp [SV.toks]); simp only [RSV] at *; rw [e]; exact ⟨h.1, RV.mono g h.2⟩
  | ag cs ns => exact ⟨RV.mono g h.1, h.2⟩

theorem BlkAt.mono {G G' : Gh} {w w' : World} {b : Nat} {cs : List SV} (g : Grow G.D w G'.D w') (hb : w'.heap[b]? = w.heap[b]?) (hl : ∀ k ∈ cs.flatMap SV.locs, G'.ν k = G.ν k) (ht : ∀ t ∈ cs.flatMap SV.toks, G'.τ t = G.τ t) (h : BlkAt G w b cs) : BlkAt G' w' b cs := by
  obtain ⟨c, e, h1, h2, h3⟩ := h
  refine ⟨c, e, hb.trans h1, h2, fun i x hx => ?_⟩
  obtain ⟨hc, v, hv, hr⟩ := h3 i x hx
  have hm : x ∈ cs := List.mem_of_getElem? hx
  exact ⟨hc, v, hv, hr.mono g (fun k hk => hl k (List.mem_flatMap.2 ⟨x, hm, hk⟩)) (fun t hk => ht t (List.mem_flatMap.2 ⟨x, hm, hk⟩))⟩

theorem blk_lt {G : Gh} {w : World} {a : Act} {l : Loc} {v : LV} {b : Nat} (h : Holds G w a l v) (hb : blkOf G l v = some b) : b < w.heap.size := by
  have key : ∀ {o : Obj}, w.heap[b]? = some o → b < w.heap.size := fun h => (Array.getElem?_eq_some_iff.1 h).1
  cases l with
  | slot s => cases v <;> cases hb
  | loc k =>
    cases v with
    | row cs => simp only [blkOf, Option.some.injEq] at hb; subst hb; obtain ⟨c, e, h1, _⟩ := h; exact key h1
    | one x => cases hb
    | tk E len => cases hb
    | ob r => exact h.elim
  | heap k =>
    cases v with
    | row cs => simp only [blkOf, Option.some.injEq] at hb; subst hb; obtain ⟨c, e, h1, _⟩ := h; exact key h1
    | one x => cases hb
    | tk E len => cases hb
    | ob r => simp only [blkOf, Option.some.injEq] at hb; subst hb; exact key h
  | tok t =>
    cases v with
    | row cs => cases hb
    | one x => cases hb
    | ob r => cases hb
    | tk E len =>
      simp only [blkOf, tokBlk, Holds, TokAt] at hb h
      split at hb
      · rename_i aa cap heq
        rw [heq] at h
        obtain ⟨h2, h3⟩ := h
        split at hb
        · rename_i hlt
          obtain ⟨-, c, e, h4, _⟩ := h3 hlt
          cases hb
          exact key h4
        · cases hb
      · cases hb

/-- a fact that the step does not touch stays -/
theorem Trans.kept {X : Ctx} {G G' : Gh} {a a' : Act} {w w' : World} {B : Nat → Prop} (T : Trans X G a w G' a' w' B) {l : Loc} {v : LV}
    (hslot : ∀ s, l = .slot s → a'.tmps.getD s undef = a.tmps.getD s undef) (hB : ∀ b, blkOf G l v = some b → ¬ B b)
    (hl : ∀ k ∈ l.locs ++ v.locs, G'.ν k = G.ν k) (ht : ∀ t ∈ l.toks ++ v.toks, G'.τ t = G.τ t) (h : Holds G w a l v) :
    Holds G' w' a' l v ∧ blkOf G' l v = blkOf G l v := by
  cases l with
  | slot s =>
    cases v with
    | one x =>
      refine ⟨?_, rfl⟩
      simp only [Holds] at *
      rw [hslot s rfl]
      exact h.mono T.grow (fun k hk => hl k (by simp [LV.locs, hk])) (fun t hk => ht t (by simp [LV.toks, hk]))
    | row cs => exact h.elim
    | tk E len => exact h.elim
    | ob r => exact h.elim
  | loc k =>
    cases v with
    | row cs =>
      have e : G'.ν k = G.ν k := hl k (by simp [Loc.locs])
      have hlt := blk_lt (l := .loc k) (v := .row cs) h rfl
      refine ⟨?_, by simp [blkOf, e]⟩
      simp only [Holds] at *
      rw [e]
      exact h.mono T.grow (T.keep _ hlt (hB _ rfl)) (fun j hj => hl j (by simp only [LV.locs, List.mem_append]; exact .inr hj)) (fun t hj => ht t (by simp only [LV.toks, List.mem_append]; exact .inr hj))
    | one x => exact h.elim
    | tk E len => exact h.elim
    | ob r => exact h.elim
  | heap k =>
    cases v with
    | row cs =>
      have hlt := blk_lt (l := .heap k) (v := .row cs) h rfl
      refine ⟨?_, by simp [blkOf]⟩
      simp only [Holds] at *
      exact h.mono T.grow (T.keep _ hlt (hB _ rfl)) (fun j hj => hl j (by simp only [LV.locs, List.mem_append]; exact .inr hj)) (fun t hj => ht t (by simp only [LV.toks, List.mem_append]; exact .inr hj))
    | one x => exact h.elim
    | tk E len => exact h.elim
    | ob r =>
      have hlt := blk_lt (l := .heap k) (v := .ob r) h rfl
      refine ⟨?_, by simp [blkOf]⟩
      simp only [Holds] at *
      exact (T.keep _ hlt (hB _ rfl)).trans h
  | tok t =>
    cases v with
    | row cs => exact h.elim
    | one x => exact h.elim
    | ob r => exact h.elim
    | tk E len =>
      have e : G'.τ t = G.τ t := ht t (by simp [Loc.toks])
      refine ⟨?_, by simp [blkOf, tokBlk, e]⟩
      have hlt := fun b => blk_lt (l := .tok t) (v := .tk E len) (b := b) h
      simp only [Holds, TokAt, blkOf, tokBlk] at *
      rw [e]
      cases hh : G.τ t with
      | mk o cap =>
        cases o with
        | none => rw [hh] at h; exact h
        | some p =>
          rw [hh] at h hlt hB
          obtain ⟨h2, h3⟩ := h
          refine ⟨h2, fun hc => ?_⟩
          obtain ⟨h1, c, e', h4, h5, h6⟩ := h3 hc
          have hb1 := hlt p.block (by simp [hc])
          have hb2 := hB p.block (by simp [hc])
          refine ⟨h1, c, e', (T.keep _ hb1 hb2).trans h4, h5, fun j hj1 hj2 hD => ?_⟩
          have hnd := h6 j hj1 hj2
          rcases (T.new _ _ hD hnd).1 with hge | ⟨hbb, _⟩
          · omega
          · exact hb2 hbb

theorem Ext.step {X : Ctx} {G G' : Gh} {a a' : Act} {w w' : World} {B : Nat → Prop} (T : Trans X G a w G' a' w' B) (h : Ext X.ids X.D0 X.w0 G.D w) : Ext X.ids X.D0 X.w0 G'.D w' := by
  refine ⟨T.os.trans h.os, T.tape.trans h.tape, T.output.trans h.output, Nat.le_trans h.size T.size, fun b hb hn => ?_, h.grow.trans T.grow, fun b o hd hn => ?_⟩
  · have hnB : ¬ B b := fun hB => by
      rcases T.own b hB with h1 | h1
      · omega
      · exact hn h1
    exact (T.keep b (by have := h.size; omega) hnB).trans (h.block b hb hn)
  · by_cases hg : G.D b o
    · exact h.new b o hg hn
    · rcases (T.new b o hd hg).1 with h1 | ⟨_, h1⟩
      · have := h.size; omega
      · exact h1

theorem Wf.step {X : Ctx} {G G' : Gh} {a a' : Act} {w w' : World} {B : Nat → Prop} (T : Trans X G a w G' a' w' B) (h : Wf X.gl G.D w) : Wf X.gl G'.D w' := by
  refine ⟨fun b o hd => ?_, fun g els hg => ?_⟩
  · by_cases hg : G.D b o
    · obtain ⟨v, hv⟩ := h.there b o hg
      exact ⟨v, (T.grow b o hg).2.trans hv⟩
    · exact (T.new b o hd hg).2
  · obtain ⟨cap, hr⟩ := h.globs g els hg
    exact ⟨cap, hr.mono T.grow⟩

/-- THE STEP: old facts are kept or dropped, new ones are shown -/
theorem Rel.step {X : Ctx} {G G' : Gh} {a a' : Act} {w w' : World} {B : Nat → Prop} {s s' : St} (R : Rel X G s a w) (T : Trans X G a w G' a' w' B) (New : Loc → LV → Prop)
    (hfacts : ∀ l v, get s' l = some v → New l v ∨ (get s l = some v ∧ (∀ n, l = .slot n → a'.tmps.getD n undef = a.tmps.getD n undef) ∧ (∀ b, blkOf G l v = some b → ¬ B b) ∧
      (∀ k ∈ l.locs ++ v.locs, G'.ν k = G.ν k) ∧ (∀ t ∈ l.toks ++ v.toks, G'.τ t = G.τ t)))
    (hnew : ∀ l v, New l v → Holds G' w' a' l v ∧ ∀ b, blkOf G' l v = some b → (w.heap.size ≤ b ∨ B b) ∧ (X.w0.heap.size ≤ b ∨ (b ∈ X.ids ∧ l.isTok = false)) ∧ (l.isTok = false → ∀ o, ¬ G'.D b o))
    (hsep : ∀ l v l' v' b, New l v → New l' v' → blkOf G' l v = some b → blkOf G' l' v' = some b → l = l') : Rel X G' s' a' w' := by
  have hk : ∀ l v, get s' l = some v → New l v ∨ (get s l = some v ∧ Holds G' w' a' l v ∧ blkOf G' l v = blkOf G l v ∧ ∀ b, blkOf G l v = some b → b < w.heap.size ∧ ¬ B b) := by
    intro l v h
    rcases hfacts l v h with h | ⟨h1, h2, h3, h4, h5⟩
    · exact .inl h
    · have hh := R.holds l v h1
      obtain ⟨k1, k2⟩ := T.kept h2 h3 h4 h5 hh
      exact .inr ⟨h1, k1, k2, fun b hb => ⟨blk_lt hh hb, h3 b hb⟩⟩
  refine ⟨T.tmps.trans R.size, T.defers R.defers, R.ext.step T, R.wf.step T, T.nil, fun l v h => ?_, fun l v l' v' b h h' hb hb' => ?_, fun l v b h hb => ?_, fun l v b o h hb ht => ?_⟩
  · rcases hk l v h with h | ⟨_, h, _⟩
    · exact (hnew l v h).1
    · exact h
  · rcases hk l v h with h | ⟨h1, _, h3, h4⟩
    · rcases hk l' v' h' with h' | ⟨k1, _, k3, k4⟩
      · exact hsep l v l' v' b h h' hb hb'
      · obtain ⟨q, -, -⟩ := (hnew l v h).2 b hb
        obtain ⟨q1, q2⟩ := k4 b (k3 ▸ hb')
        rcases q with q | q
        · omega
        · exact absurd q q2
    · rcases hk l' v' h' with h' | ⟨k1, _, k3, k4⟩
      · obtain ⟨q, -, -⟩ := (hnew l' v' h').2 b hb'
        obtain ⟨q1, q2⟩ := h4 b (h3 ▸ hb)
        rcases q with q | q
        · omega
        · exact absurd q q2
      · exact R.sep l v l' v' b h1 k1 (h3 ▸ hb) (k3 ▸ hb')
  · rcases hk l v h with h | ⟨h1, _, h3, h4⟩
    · exact ((hnew l v h).2 b hb).2.1
    · exact R.own l v b h1 (h3 ▸ hb)
  · rcases hk l v h with h | ⟨h1, _, h3, h4⟩
    · exact ((hnew l v h).2 b hb).2.2 ht o
    · intro hD
      have hn := R.data l v b o h1 (h3 ▸ hb) ht
      obtain ⟨q1, q2⟩ := h4 b (h3 ▸ hb)
      rcases (T.new b o hD hn).1 with h5 | ⟨h5, _⟩
      · omega
      · exact q2 h5

end Go.Proofs.YtbmnlkfgkdallaaDoor.Lift
