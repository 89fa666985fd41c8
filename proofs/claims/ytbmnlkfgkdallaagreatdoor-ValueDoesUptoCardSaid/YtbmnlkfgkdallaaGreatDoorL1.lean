/-
  Part A of a small logic for Go code that computes with plain data: values as trees (DV), what a slot or a cell holds (SV), a state (St), and what it means that a state fits a frame and a world (Rel). No program is in sight.
-/
import Derived.WalkKit
import Derived.OrdersIn
import Derived.RangeFuncLeaves
import Derived.RangeFuncIn
import Derived.RangeFuncRecord
namespace Go.Proofs.YtbmnlkfgkdallaaGreatDoor.Lift
set_option linter.unusedSimpArgs false
set_option linter.unusedVariables false
set_option linter.unnecessarySimpa false
open Go

/-- plain data: what a value is, whatever memory it lies in -/
inductive DV where
  | prim (v : Value)
  | agg (cs : List DV)
  | tup (cs : List DV)
  | sl (els : List (List DV))
  | iface (t : TypeId) (x : DV)

def BIG : Nat := 2147483648

def primOK : Value → Prop
  | .int k n => k.min ≤ n ∧ n ≤ k.max
  | .agg _ => False
  | .tuple _ => False
  | .slice none _ _ => False
  | .iface _ _ => False
  | _ => True

def DV.isCell : DV → Bool
  | .agg _ => false
  | .tup _ => false
  | _ => true

def DV.isAgg : DV → Bool
  | .agg _ => true
  | _ => false

/-- a value in a world is a datum; the cells that are read lie in D -/
inductive RV (D : Nat → Nat → Prop) (w : World) : DV → Value → Prop
  | prim (v : Value) (h : primOK v) : RV D w (.prim v) v
  | agg (cs : List DV) (vs : Array Value) (hl : vs.size = cs.length) (hcell : ∀ c ∈ cs, c.isCell = true)
      (h : ∀ (i : Nat) (c : DV) (v : Value), cs[i]? = some c → vs[i]? = some v → RV D w c v) : RV D w (.agg cs) (.agg vs)
  | tup (cs : List DV) (vs : Array Value) (hl : vs.size = cs.length)
      (h : ∀ (i : Nat) (c : DV) (v : Value), cs[i]? = some c → vs[i]? = some v → RV D w c v) : RV D w (.tup cs) (.tuple vs)
  | sl0 (b : Option Addr) (cap : Nat) : RV D w (.sl []) (.slice b 0 cap)
  | sl (els : List (List DV)) (b o cap E : Nat) (val : Nat → Nat → Value) (hlen : els.length ≤ BIG) (hcap : els.length ≤ cap) (hE : ∀ e ∈ els, e.length = E)
      (hcell : ∀ e ∈ els, ∀ c ∈ e, DV.isCell c = true)
      (hc : ∀ i j, i < els.length → j < E → w.cell? ⟨b, o + (i * E + j), none⟩ = some (val i j))
      (hD : ∀ i j, i < els.length → j < E → D b (o + (i * E + j)))
      (h : ∀ (i j : Nat) (e : List DV) (c : DV), els[i]? = some e → e[j]? = some c → RV D w c (val i j)) :
      RV D w (.sl els) (.slice (some ⟨b, o, none⟩) els.length cap)
  | iface (t : TypeId) (x : DV) (v : Value) (h : RV D w x v) : RV D w (.iface t x) (.iface t v)

def Grow (D : Nat → Nat → Prop) (w : World) (D' : Nat → Nat → Prop) (w' : World) : Prop :=
  ∀ b o, D b o → D' b o ∧ w'.cell? ⟨b, o, none⟩ = w.cell? ⟨b, o, none⟩

theorem Grow.refl (D : Nat → Nat → Prop) (w : World) : Grow D w D w := fun _ _ h => ⟨h, rfl⟩
theorem Grow.trans {D D' D'' : Nat → Nat → Prop} {w w' w'' : World} (h : Grow D w D' w') (k : Grow D' w' D'' w'') : Grow D w D'' w'' :=
  fun b o hd => let ⟨h1, h2⟩ := h b o hd; let ⟨k1, k2⟩ := k b o h1; ⟨k1, k2.trans h2⟩

theorem RV.mono {D D' : Nat → Nat → Prop} {w w' : World} {x : DV} {v : Value} (g : Grow D w D' w') (h : RV D w x v) : RV D' w' x v := by
  induction h with
  | prim v h => exact .prim v h
  | agg cs vs hl hcell h ih => exact .agg cs vs hl hcell ih
  | tup cs vs hl h ih => exact .tup cs vs hl ih
  | sl0 b cap => exact .sl0 b cap
  | sl els b o cap E val hlen hcap hE hcell hc hD h ih =>
    exact .sl els b o cap E val hlen hcap hE hcell (fun i j hi hj => by rw [(g _ _ (hD i j hi hj)).2]; exact hc i j hi hj) (fun i j hi hj => (g _ _ (hD i j hi hj)).1) ih
  | iface t x v h ih => exact .iface t x v ih

/-- sizes and ranges within a datum -/
def DV.fit : DV → Prop
  | .prim v => primOK v
  | .agg cs => fits cs
  | .tup cs => fits cs
  | .sl els => els.length ≤ BIG ∧ fitss els
  | .iface _ x => x.fit
where
  fits : List DV → Prop
    | [] => True
    | c :: r => c.fit ∧ fits r
  fitss : List (List DV) → Prop
    | [] => True
    | e :: r => fits e ∧ fitss r

theorem fits_iff (cs : List DV) : DV.fit.fits cs ↔ ∀ (i : Nat) (c : DV), cs[i]? = some c → c.fit := by
  induction cs with
  | nil => simp [DV.fit.fits]
  | cons a r ih =>
    simp only [DV.fit.fits, ih]
    constructor
    · rintro ⟨h, k⟩ i c hc
      cases i with
      | zero => simp at hc; exact hc ▸ h
      | succ i => exact k i c (by simpa using hc)
    · intro h
      exact ⟨h 0 a rfl, fun i c hc => h (i + 1) c (by simpa using hc)⟩

theorem fitss_iff (els : List (List DV)) : DV.fit.fitss els ↔ ∀ (i j : Nat) (e : List DV) (c : DV), els[i]? = some e → e[j]? = some c → c.fit := by
  induction els with
  | nil => simp [DV.fit.fitss]
  | cons a r ih =>
    simp only [DV.fit.fitss, ih, fits_iff]
    constructor
    · rintro ⟨h, k⟩ i j e c he hc
      cases i with
      | zero => simp at he; subst he; exact h j c hc
      | succ i => exact k i j e c (by simpa using he) hc
    · intro h
      exact ⟨fun j c hc => h 0 j a c rfl hc, fun i j e c he hc => h (i + 1) j e c (by simpa using he) hc⟩

theorem RV.fit {D : Nat → Nat → Prop} {w : World} {x : DV} {v : Value} (h : RV D w x v) : x.fit := by
  induction h with
  | prim v h => exact h
  | agg cs vs hl hcell h ih =>
    simp only [DV.fit, fits_iff]
    intro i c hc
    have hi : i < vs.size := by rw [hl]; exact (List.getElem?_eq_some_iff.1 hc).1
    exact ih i c _ hc (Array.getElem?_eq_getElem hi)
  | tup cs vs hl h ih =>
    simp only [DV.fit, fits_iff]
    intro i c hc
    have hi : i < vs.size := by rw [hl]; exact (List.getElem?_eq_some_iff.1 hc).1
    exact ih i c _ hc (Array.getElem?_eq_getElem hi)
  | sl0 b cap => simp [DV.fit, DV.fit.fitss]
  | sl els b o cap E val hlen hcap hE hcell hc hD h ih =>
    simp only [DV.fit, fitss_iff]
    exact ⟨hlen, ih⟩
  | iface t x v h ih => exact ih

theorem primOK_one {v : Value} (h : primOK v) : v.oneCell' = true := by
  cases v <;> first | rfl | exact h.elim

theorem RV.one {D : Nat → Nat → Prop} {w : World} {x : DV} {v : Value} (h : RV D w x v) (hx : x.isCell = true) : v.oneCell' = true := by
  cases h with
  | prim v h => exact primOK_one h
  | agg => cases hx
  | tup => cases hx
  | sl0 => rfl
  | sl => rfl
  | iface => rfl

/-- what a slot or a cell holds -/
inductive SV where
  | v (x : DV)
  | loc (k off : Nat)
  | dp (els : List (List DV)) (i off : Nat)
  | own (t : Nat) (els : List (List DV))
  | ag (cs : List DV) (nils : List Nat)

inductive Loc where
  | slot (n : Nat)
  | loc (n : Nat)
  | heap (b : Nat)
  | tok (t : Nat)
  deriving DecidableEq

inductive LV where
  | one (x : SV)
  | row (cs : List SV)
  | tk (E len : Nat)
  | ob (r : Loop)

abbrev St := List (Loc × LV)

def get : St → Loc → Option LV
  | [], _ => none
  | (m, v) :: r, l => if m = l then some v else get r l

def del : St → Loc → St
  | [], _ => []
  | (m, v) :: r, l => if m = l then del r l else (m, v) :: del r l

def upd (s : St) (l : Loc) (v : LV) : St := (l, v) :: del s l

theorem get_del (s : St) (l m : Loc) : get (del s l) m = if l = m then none else get s m := by
  induction s with
  | nil => simp [del, get]
  | cons p r ih =>
    obtain ⟨k, v⟩ := p
    by_cases h : k = l
    · simp only [del, h, if_true, ih, get]
      by_cases h' : l = m <;> simp [h']
    · by_cases h' : l = m
      · subst h'; simp [del, h, get, ih]
      · simp only [del, h, if_false, get, ih, h']

theorem get_upd (s : St) (l m : Loc) (v : LV) : get (upd s l v) m = if l = m then some v else get s m := by
  simp only [upd, get, get_del]
  by_cases h : l = m <;> simp [h]

/-- what one operation does to a state -/
abbrev Eff := List (Loc × Option LV)

def apply (s : St) : Eff → St
  | [] => s
  | (l, some v) :: e => apply (upd s l v) e
  | (l, none) :: e => apply (del s l) e

/-- the last word of an effect on a place -/
def Eff.says : Eff → Loc → Option (Option LV)
  | [], _ => none
  | (m, v) :: e, l => match Eff.says e l with
    | some x => some x
    | none => if m = l then some v else none

theorem get_apply (e : Eff) : ∀ (s : St) (l : Loc), get (apply s e) l = (e.says l).getD (get s l) := by
  induction e with
  | nil => intro s l; rfl
  | cons p e ih =>
    intro s l
    obtain ⟨m, v⟩ := p
    cases v with
    | none =>
      simp only [apply, ih, Eff.says, get_del]
      cases h : Eff.says e l with
      | some x => rfl
      | none => by_cases hm : m = l <;> simp [hm]
    | some v =>
      simp only [apply, ih, Eff.says, get_upd]
      cases h : Eff.says e l with
      | some x => rfl
      | none => by_cases hm : m = l <;> simp [hm]

/-- what a state's names stand for in a world -/
structure Gh where
  D : Nat → Nat → Prop
  ν : Nat → Nat
  τ : Nat → Option Addr × Nat

def RSV (G : Gh) (w : World) : SV → Value → Prop
  | .v x, v => RV G.D w x v
  | .loc k off, v => v = .pointer (some ⟨G.ν k, off, none⟩)
  | .dp els i off, v => ∃ b o E cap, RV G.D w (.sl els) (.slice (some ⟨b, o, none⟩) els.length cap) ∧ (∀ e ∈ els, e.length = E) ∧ i < els.length ∧ v = .pointer (some ⟨b, o + (i * E + off), none⟩)
  | .own t els, v => v = .slice (G.τ t).1 els.length (G.τ t).2 ∧ RV G.D w (.sl els) v
  | .ag cs ns, v => RV G.D w (.agg cs) v ∧ ∀ i ∈ ns, cs[i]? = some (.sl []) ∧ v.cells[i]? = some (.slice none 0 0)

def SV.isCell : SV → Bool
  | .v x => x.isCell
  | .ag _ _ => false
  | _ => true

theorem RSV.one {G : Gh} {w : World} {x : SV} {v : Value} (h : RSV G w x v) (hx : x.isCell = true) : v.oneCell' = true := by
  cases x with
  | v x => exact RV.one h hx
  | loc k off => obtain rfl := h; rfl
  | dp els i off => obtain ⟨b, o, E, cap, -, -, -, rfl⟩ := h; rfl
  | own t els => obtain ⟨rfl, -⟩ := h; rfl
  | ag cs ns => cases hx

/-- the block of a row of cells -/
def BlkAt (G : Gh) (w : World) (b : Nat) (cs : List SV) : Prop :=
  ∃ c e, w.heap[b]? = some (.cells c e (0, 0)) ∧ cs.length ≤ c.size ∧ ∀ (i : Nat) (x : SV), cs[i]? = some x → x.isCell = true ∧ ∃ v, c[i]? = some v ∧ RSV G w x v

/-- the spare room behind a slice of one's own -/
def TokAt (G : Gh) (w : World) (t E len : Nat) : Prop :=
  match G.τ t with
  | (none, cap) => len = 0 ∧ cap = 0
  | (some a, cap) => len ≤ cap ∧ (len < cap → a.spot = none ∧ ∃ c e, w.heap[a.block]? = some (.cells c e (0, 0)) ∧ a.off + cap * E ≤ c.size ∧ ∀ j, a.off + len * E ≤ j → j < a.off + cap * E → ¬ G.D a.block j)

def tokBlk (G : Gh) (t len : Nat) : Option Nat :=
  match G.τ t with
  | (some a, cap) => if len < cap then some a.block else none
  | _ => none

def Holds (G : Gh) (w : World) (a : Act) : Loc → LV → Prop
  | .slot s, .one x => RSV G w x (a.tmps.getD s undef)
  | .loc k, .row cs => BlkAt G w (G.ν k) cs
  | .heap b, .row cs => BlkAt G w b cs
  | .tok t, .tk E len => TokAt G w t E len
  | .heap b, .ob r => w.heap[b]? = some (.loop r)
  | _, _ => False

/-- the block whose cells a fact speaks of, alone -/
def blkOf (G : Gh) : Loc → LV → Option Nat
  | .loc k, .row _ => some (G.ν k)
  | .heap b, .row _ => some b
  | .heap b, .ob _ => some b
  | .loc k, .ob _ => some (G.ν k)
  | .tok t, .tk _ len => tokBlk G t len
  | _, _ => none

def Loc.isTok : Loc → Bool
  | .tok _ => true
  | _ => false

/-- package-level arrays that read as known data -/
abbrev Globs := List (Nat × List (List DV))

structure Wf (gl : Globs) (D : Nat → Nat → Prop) (w : World) : Prop where
  there : ∀ b o, D b o → ∃ v, w.cell? ⟨b, o, none⟩ = some v
  globs : ∀ g els, (g, els) ∈ gl → ∃ cap, RV D w (.sl els) (.slice (some ⟨g, 0, none⟩) els.length cap)

theorem Wf.lt {gl : Globs} {D : Nat → Nat → Prop} {w : World} (h : Wf gl D w) {b o : Nat} (hd : D b o) : b < w.heap.size := by
  obtain ⟨v, hv⟩ := h.there b o hd
  exact World.block_lt_of_cell? w _ hv

/-- what a call leaves of the memory that was there -/
structure Ext (ids : List Nat) (D : Nat → Nat → Prop) (w : World) (D' : Nat → Nat → Prop) (w' : World) : Prop where
  os : w'.os = w.os
  tape : w'.tape = w.tape
  output : w'.output = w.output
  size : w.heap.size ≤ w'.heap.size
  block : ∀ b, b < w.heap.size → b ∉ ids → w'.heap[b]? = w.heap[b]?
  grow : Grow D w D' w'
  new : ∀ b o, D' b o → ¬ D b o → w.heap.size ≤ b

theorem Ext.refl (ids : List Nat) (D : Nat → Nat → Prop) (w : World) : Ext ids D w D w :=
  ⟨rfl, rfl, rfl, Nat.le_refl _, fun _ _ _ => rfl, Grow.refl _ _, fun _ _ h k => absurd h k⟩

/-- how a walk ends: a function returns; a function that was ranged over returns (its loop's record is l); a round of a loop ends -/
inductive Md where
  | fn
  | it (l : Nat) (R : List (Nat × List DV) → Loop → Prop)
  | rd (l : Nat) (r : Loop) (R : Option Code → List (Nat × List DV) → Prop)

/-- the mark of a range over a function, on the frame's deferred calls -/
def mark (D : Nat) : Deferred := { target := .collected D, args := #[] }

structure Ctx where
  P : Program
  gl : Globs
  f : FuncId
  fn : Func
  n : Nat
  ids : List Nat
  D0 : Nat → Nat → Prop
  w0 : World
  R : DV → List (Nat × List DV) → Prop
  md : Md

def Ctx.rd (X : Ctx) : Option Nat := match X.md with
  | .rd l _ _ => some l
  | _ => none

/-- the frame's deferred calls are marks, whose blocks are there and hold nothing -/
def DfOK (w0 : World) (a : Act) (w : World) : Prop := ∃ Ds : List Nat, a.defers = Ds.map mark ∧ Ds.Nodup ∧ ∀ D ∈ Ds, w.heap[D]? = some (.deferred (some [])) ∧ w0.heap.size ≤ D

theorem DfOK.keep {w0 : World} {a a' : Act} {w w' : World} (h : DfOK w0 a w) (hd : a'.defers = a.defers) (hw : ∀ D : Nat, w.heap[D]? = some (Obj.deferred (some [])) → w'.heap[D]? = some (Obj.deferred (some []))) : DfOK w0 a' w' := by
  obtain ⟨Ds, h1, h2, h3⟩ := h
  exact ⟨Ds, hd.trans h1, h2, fun D hD => ⟨hw D (h3 D hD).1, (h3 D hD).2⟩⟩

theorem DfOK.put {w0 : World} {a a' : Act} {w : World} (hd : a'.defers = a.defers) (h : DfOK w0 a w) : DfOK w0 a' w := h.keep hd fun _ h => h

theorem DfOK.heap {w0 : World} {a : Act} {w w' : World} (h : DfOK w0 a w) (hw : ∀ b, b < w.heap.size → w'.heap[b]? = w.heap[b]?) : DfOK w0 a w' :=
  h.keep rfl fun D hD => (hw D (Array.getElem?_eq_some_iff.1 hD).1).trans hD

theorem DfOK.but {w0 : World} {a : Act} {w w' : World} (h : DfOK w0 a w) {b : Nat} {c : Array Value} {e : TypeId} {f : Nat × Nat} (hc : w.heap[b]? = some (.cells c e f)) (hw : ∀ b', b' ≠ b → w'.heap[b']? = w.heap[b']?) : DfOK w0 a w' :=
  h.keep rfl fun D hD => (hw D (fun e => by subst e; rw [hc] at hD; cases hD)).trans hD

structure Rel (X : Ctx) (G : Gh) (s : St) (a : Act) (w : World) : Prop where
  size : a.tmps.size = X.n
  defers : DfOK X.w0 a w
  ext : Ext X.ids X.D0 X.w0 G.D w
  wf : Wf X.gl G.D w
  nil : G.τ 0 = (none, 0)
  holds : ∀ l v, get s l = some v → Holds G w a l v
  sep : ∀ l v l' v' b, get s l = some v → get s l' = some v' → blkOf G l v = some b → blkOf G l' v' = some b → l = l'
  own : ∀ l v b, get s l = some v → blkOf G l v = some b → X.w0.heap.size ≤ b ∨ (b ∈ X.ids ∧ l.isTok = false)
  data : ∀ l v b o, get s l = some v → blkOf G l v = some b → l.isTok = false → ¬ G.D b o

/-- names in what is held -/
def SV.locs : SV → List Nat
  | .loc k _ => [k]
  | _ => []
def SV.toks : SV → List Nat
  | .own t _ => [t]
  | _ => []
def LV.locs : LV → List Nat
  | .one x => x.locs
  | .row cs => cs.flatMap SV.locs
  | .tk _ _ => []
  | .ob _ => []
def LV.toks : LV → List Nat
  | .one x => x.toks
  | .row cs => cs.flatMap SV.toks
  | .tk _ _ => []
  | .ob _ => []
def Loc.locs : Loc → List Nat
  | .loc k => [k]
  | _ => []
def Loc.toks : Loc → List Nat
  | .tok t => [t]
  | _ => []

/-- one step of the frame and the world; B: the old blocks that it may have written -/
structure Trans (X : Ctx) (G : Gh) (a : Act) (w : World) (G' : Gh) (a' : Act) (w' : World) (B : Nat → Prop) : Prop where
  tmps : a'.tmps.size = a.tmps.size
  defers : DfOK X.w0 a w → DfOK X.w0 a' w'
  os : w'.os = w.os
  tape : w'.tape = w.tape
  output : w'.output = w.output
  size : w.heap.size ≤ w'.heap.size
  keep : ∀ b, b < w.heap.size → ¬ B b → w'.heap[b]? = w.heap[b]?
  own : ∀ b, B b → X.w0.heap.size ≤ b ∨ b ∈ X.ids
  grow : Grow G.D w G'.D w'
  new : ∀ b o, G'.D b o → ¬ G.D b o → (w.heap.size ≤ b ∨ (B b ∧ X.w0.heap.size ≤ b)) ∧ ∃ v, w'.cell? ⟨b, o, none⟩ = some v
  nil : G'.τ 0 = (none, 0)

theorem RSV.mono {G G' : Gh} {w w' : World} {x : SV} {v : Value} (g : Grow G.D w G'.D w') (hl : ∀ k ∈ x.locs, G'.ν k = G.ν k) (ht : ∀ t ∈ x.toks, G'.τ t = G.τ t) (h : RSV G w x v) : RSV G' w' x v := by
  cases x with
  | v x => exact RV.mono g h
  | loc k off => have e := hl k (by simp [SV.locs]); simp only [RSV] at *; rw [e]; exact h
  | dp els i off => obtain ⟨b, o, E, cap, h1, h2⟩ := h; exact ⟨b, o, E, cap, RV.mono g h1, h2⟩
  | own t els => have e := ht t (by simp [SV.toks]); simp only [RSV] at *; rw [e]; exact ⟨h.1, RV.mono g h.2⟩
  | ag cs ns => exact ⟨RV.mono g h.1, h.2⟩

theorem BlkAt.mono {G G' : Gh} {w w' : World} {b : Nat} {cs : List SV} (g : Grow G.D w G'.D w') (hb : w'.heap[b]? = w.heap[b]?) (hl : ∀ k ∈ cs.flatMap SV.locs, G'.ν k = G.ν k) (ht : ∀ t ∈ cs.flatMap SV.toks, G'.τ t = G.τ t) (h : BlkAt G w b cs) : BlkAt G' w' b cs := by
  obtain ⟨c, e, h1, h2, h3⟩ := h
  refine ⟨c, e, hb.trans h1, h2, fun i x hx => ?_⟩
  obtain ⟨hc, v, hv, hr⟩ := h3 i x hx
  have hm : x ∈ cs := List.mem_of_getElem? hx
  exact ⟨hc, v, hv, hr.mono g (fun k hk => hl k (List.mem_flatMap.2 ⟨x, hm, hk⟩)) (fun t hk => ht t (List.mem_flatMap.2 ⟨x, hm, hk⟩))⟩

theorem blk_lt {G : Gh} {w : World} {a : Act} {l : Loc} {v : LV} {b : Nat} (h : Holds G w a l v) (hb : blkOf G l v = some b) : b < w.heap.size := by
  have key : ∀ {o : Obj}, w.heap[b]? = some o → b < w.heap.size := fun h => (Array.getElem?_eq_some_iff.1 h).1
  cases l with
  | slot s => cases v <;> cases hb
  | loc k =>
    cases v with
    | row cs => simp only [blkOf, Option.some.injEq] at hb; subst hb; obtain ⟨c, e, h1, _⟩ := h; exact key h1
    | one x => cases hb
    | tk E len => cases hb
    | ob r => exact h.elim
  | heap k =>
    cases v with
    | row cs => simp only [blkOf, Option.some.injEq] at hb; subst hb; obtain ⟨c, e, h1, _⟩ := h; exact key h1
    | one x => cases hb
    | tk E len => cases hb
    | ob r => simp only [blkOf, Option.some.injEq] at hb; subst hb; exact key h
  | tok t =>
    cases v with
    | row cs => cases hb
    | one x => cases hb
    | ob r => cases hb
    | tk E len =>
      simp only [blkOf, tokBlk, Holds, TokAt] at hb h
      split at hb
      · rename_i aa cap heq
        rw [heq] at h
        obtain ⟨h2, h3⟩ := h
        split at hb
        · rename_i hlt
          obtain ⟨-, c, e, h4, _⟩ := h3 hlt
          cases hb
          exact key h4
        · cases hb
      · cases hb

/-- a fact that the step does not touch stays -/
theorem Trans.kept {X : Ctx} {G G' : Gh} {a a' : Act} {w w' : World} {B : Nat → Prop} (T : Trans X G a w G' a' w' B) {l : Loc} {v : LV}
    (hslot : ∀ s, l = .slot s → a'.tmps.getD s undef = a.tmps.getD s undef) (hB : ∀ b, blkOf G l v = some b → ¬ B b)
    (hl : ∀ k ∈ l.locs ++ v.locs, G'.ν k = G.ν k) (ht : ∀ t ∈ l.toks ++ v.toks, G'.τ t = G.τ t) (h : Holds G w a l v) :
    Holds G' w' a' l v ∧ blkOf G' l v = blkOf G l v := by
  cases l with
  | slot s =>
    cases v with
    | one x =>
      refine ⟨?_, rfl⟩
      simp only [Holds] at *
      rw [hslot s rfl]
      exact h.mono T.grow (fun k hk => hl k (by simp [LV.locs, hk])) (fun t hk => ht t (by simp [LV.toks, hk]))
    | row cs => exact h.elim
    | tk E len => exact h.elim
    | ob r => exact h.elim
  | loc k =>
    cases v with
    | row cs =>
      have e : G'.ν k = G.ν k := hl k (by simp [Loc.locs])
      have hlt := blk_lt (l := .loc k) (v := .row cs) h rfl
      refine ⟨?_, by simp [blkOf, e]⟩
      simp only [Holds] at *
      rw [e]
      exact h.mono T.grow (T.keep _ hlt (hB _ rfl)) (fun j hj => hl j (by simp only [LV.locs, List.mem_append]; exact .inr hj)) (fun t hj => ht t (by simp only [LV.toks, List.mem_append]; exact .inr hj))
    | one x => exact h.elim
    | tk E len => exact h.elim
    | ob r => exact h.elim
  | heap k =>
    cases v with
    | row cs =>
      have hlt := blk_lt (l := .heap k) (v := .row cs) h rfl
      refine ⟨?_, by simp [blkOf]⟩
      simp only [Holds] at *
      exact h.mono T.grow (T.keep _ hlt (hB _ rfl)) (fun j hj => hl j (by simp only [LV.locs, List.mem_append]; exact .inr hj)) (fun t hj => ht t (by simp only [LV.toks, List.mem_append]; exact .inr hj))
    | one x => exact h.elim
    | tk E len => exact h.elim
    | ob r =>
      have hlt := blk_lt (l := .heap k) (v := .ob r) h rfl
      refine ⟨?_, by simp [blkOf]⟩
      simp only [Holds] at *
      exact (T.keep _ hlt (hB _ rfl)).trans h
  | tok t =>
    cases v with
    | row cs => exact h.elim
    | one x => exact h.elim
    | ob r => exact h.elim
    | tk E len =>
      have e : G'.τ t = G.τ t := ht t (by simp [Loc.toks])
      refine ⟨?_, by simp [blkOf, tokBlk, e]⟩
      have hlt := fun b => blk_lt (l := .tok t) (v := .tk E len) (b := b) h
      simp only [Holds, TokAt, blkOf, tokBlk] at *
      rw [e]
      cases hh : G.τ t with
      | mk o cap =>
        cases o with
        | none => rw [hh] at h; exact h
        | some p =>
          rw [hh] at h hlt hB
          obtain ⟨h2, h3⟩ := h
          refine ⟨h2, fun hc => ?_⟩
          obtain ⟨h1, c, e', h4, h5, h6⟩ := h3 hc
          have hb1 := hlt p.block (by simp [hc])
          have hb2 := hB p.block (by simp [hc])
          refine ⟨h1, c, e', (T.keep _ hb1 hb2).trans h4, h5, fun j hj1 hj2 hD => ?_⟩
          have hnd := h6 j hj1 hj2
          rcases (T.new _ _ hD hnd).1 with hge | ⟨hbb, _⟩
          · omega
          · exact hb2 hbb

theorem Ext.step {X : Ctx} {G G' : Gh} {a a' : Act} {w w' : World} {B : Nat → Prop} (T : Trans X G a w G' a' w' B) (h : Ext X.ids X.D0 X.w0 G.D w) : Ext X.ids X.D0 X.w0 G'.D w' := by
  refine ⟨T.os.trans h.os, T.tape.trans h.tape, T.output.trans h.output, Nat.le_trans h.size T.size, fun b hb hn => ?_, h.grow.trans T.grow, fun b o hd hn => ?_⟩
  · have hnB : ¬ B b := fun hB => by
      rcases T.own b hB with h1 | h1
      · omega
      · exact hn h1
    exact (T.keep b (by have := h.size; omega) hnB).trans (h.block b hb hn)
  · by_cases hg : G.D b o
    · exact h.new b o hg hn
    · rcases (T.new b o hd hg).1 with h1 | ⟨_, h1⟩
      · have := h.size; omega
      · exact h1

theorem Wf.step {X : Ctx} {G G' : Gh} {a a' : Act} {w w' : World} {B : Nat → Prop} (T : Trans X G a w G' a' w' B) (h : Wf X.gl G.D w) : Wf X.gl G'.D w' := by
  refine ⟨fun b o hd => ?_, fun g els hg => ?_⟩
  · by_cases hg : G.D b o
    · obtain ⟨v, hv⟩ := h.there b o hg
      exact ⟨v, (T.grow b o hg).2.trans hv⟩
    · exact (T.new b o hd hg).2
  · obtain ⟨cap, hr⟩ := h.globs g els hg
    exact ⟨cap, hr.mono T.grow⟩

/-- THE STEP: old facts are kept or dropped, new ones are shown -/
theorem Rel.step {X : Ctx} {G G' : Gh} {a a' : Act} {w w' : World} {B : Nat → Prop} {s s' : St} (R : Rel X G s a w) (T : Trans X G a w G' a' w' B) (New : Loc → LV → Prop)
    (hfacts : ∀ l v, get s' l = some v → New l v ∨ (get s l = some v ∧ (∀ n, l = .slot n → a'.tmps.getD n undef = a.tmps.getD n undef) ∧ (∀ b, blkOf G l v = some b → ¬ B b) ∧
      (∀ k ∈ l.locs ++ v.locs, G'.ν k = G.ν k) ∧ (∀ t ∈ l.toks ++ v.toks, G'.τ t = G.τ t)))
    (hnew : ∀ l v, New l v → Holds G' w' a' l v ∧ ∀ b, blkOf G' l v = some b → (w.heap.size ≤ b ∨ B b) ∧ (X.w0.heap.size ≤ b ∨ (b ∈ X.ids ∧ l.isTok = false)) ∧ (l.isTok = false → ∀ o, ¬ G'.D b o))
    (hsep : ∀ l v l' v' b, New l v → New l' v' → blkOf G' l v = some b → blkOf G' l' v' = some b → l = l') : Rel X G' s' a' w' := by
  have hk : ∀ l v, get s' l = some v → New l v ∨ (get s l = some v ∧ Holds G' w' a' l v ∧ blkOf G' l v = blkOf G l v ∧ ∀ b, blkOf G l v = some b → b < w.heap.size ∧ ¬ B b) := by
    intro l v h
    rcases hfacts l v h with h | ⟨h1, h2, h3, h4, h5⟩
    · exact .inl h
    · have hh := R.holds l v h1
      obtain ⟨k1, k2⟩ := T.kept h2 h3 h4 h5 hh
      exact .inr ⟨h1, k1, k2, fun b hb => ⟨blk_lt hh hb, h3 b hb⟩⟩
  refine ⟨T.tmps.trans R.size, T.defers R.defers, R.ext.step T, R.wf.step T, T.nil, fun l v h => ?_, fun l v l' v' b h h' hb hb' => ?_, fun l v b h hb => ?_, fun l v b o h hb ht => ?_⟩
  · rcases hk l v h with h | ⟨_, h, _⟩
    · exact (hnew l v h).1
    · exact h
  · rcases hk l v h with h | ⟨h1, _, h3, h4⟩
    · rcases hk l' v' h' with h' | ⟨k1, _, k3, k4⟩
      · exact hsep l v l' v' b h h' hb hb'
      · obtain ⟨q, -, -⟩ := (hnew l v h).2 b hb
        obtain ⟨q1, q2⟩ := k4 b (k3 ▸ hb')
        rcases q with q | q
        · omega
        · exact absurd q q2
    · rcases hk l' v' h' with h' | ⟨k1, _, k3, k4⟩
      · obtain ⟨q, -, -⟩ := (hnew l' v' h').2 b hb'
        obtain ⟨q1, q2⟩ := h4 b (h3 ▸ hb)
        rcases q with q | q
        · omega
        · exact absurd q q2
      · exact R.sep l v l' v' b h1 k1 (h3 ▸ hb) (k3 ▸ hb')
  · rcases hk l v h with h | ⟨h1, _, h3, h4⟩
    · exact ((hnew l v h).2 b hb).2.1
    · exact R.own l v b h1 (h3 ▸ hb)
  · rcases hk l v h with h | ⟨h1, _, h3, h4⟩
    · exact ((hnew l v h).2 b hb).2.2 ht o
    · intro hD
      have hn := R.data l v b o h1 (h3 ▸ hb) ht
      obtain ⟨q1, q2⟩ := h4 b (h3 ▸ hb)
      rcases (T.new b o hD hn).1 with h5 | ⟨h5, _⟩
      · omega
      · exact q2 h5

end Go.Proofs.YtbmnlkfgkdallaaGreatDoor.Lift

/-
  Part B of the small logic: what the operations that write nothing give, on states (pval), and that it is what they give in the model (pval_sound).
-/
namespace Go.Proofs.YtbmnlkfgkdallaaGreatDoor.Lift
set_option linter.unusedSimpArgs false
set_option linter.unusedVariables false
set_option linter.unnecessarySimpa false
open Go

def layD : TypeDesc → Bool
  | .struct _ | .array _ _ => true
  | _ => false

/-- is it a struct or an array; how many cells -/
def layT (P : Program) (t : TypeId) : Option (Bool × Nat) :=
  match P.underlying t, P.info? t with
  | some d, some i => some (layD d, i.size)
  | _, _ => none

/-- of a slice type: the cells of an element -/
def elemT (P : Program) (t : TypeId) : Option Nat :=
  match P.underlying t with
  | some (.slice e) => (P.info? e).map (·.size)
  | _ => none

def arrT (P : Program) (t : TypeId) : Option (Nat × Nat) :=
  match P.underlying t with
  | some (.array n e) => (P.info? e).map fun i => (n, i.size)
  | _ => none

/-- of a struct's field: is it a struct or an array; where it begins; how many cells -/
def fieldT (P : Program) (t f : Nat) : Option (Bool × Nat × Nat) :=
  match P.underlying t with
  | some (.struct fs) =>
    match fs[f]? with
    | some fl =>
      match layT P fl.type with
      | some (b, n) => if n = 0 then none else some (b, fl.offset, n)
      | none => none
    | none => none
  | _ => none

def boolT (P : Program) (t : TypeId) : Bool :=
  match P.underlying t with
  | some .bool => true
  | _ => false

def concT (P : Program) (t : TypeId) : Bool :=
  match P.underlying t with
  | some (.interface _) => false
  | some _ => true
  | none => false

def intT (P : Program) (t : TypeId) : Option IntKind :=
  match P.underlying t with
  | some (.int k) => some k
  | _ => none

def ptrT (P : Program) (t : TypeId) : Bool :=
  match P.underlying t with
  | some (.pointer _) => true
  | _ => false

def intOK (k : IntKind) (n : Int) : Prop := k.min ≤ n ∧ n ≤ k.max
instance (k : IntKind) (n : Int) : Decidable (intOK k n) := inferInstanceAs (Decidable (_ ∧ _))

theorem intOK_i64 (n : Int) : intOK .i64 n ↔ -9223372036854775808 ≤ n ∧ n ≤ 9223372036854775807 := by
  have h1 : IntKind.i64.min = -9223372036854775808 := by decide
  have h2 : IntKind.i64.max = 9223372036854775807 := by decide
  rw [intOK, h1, h2]

theorem intOK_u8 (n : Int) : intOK .u8 n ↔ 0 ≤ n ∧ n ≤ 255 := by
  have h1 : IntKind.u8.min = 0 := by decide
  have h2 : IntKind.u8.max = 255 := by decide
  rw [intOK, h1, h2]

theorem wrap_of_ok {k : IntKind} {n : Int} (h : intOK k n) : k.wrap n = n := by
  obtain ⟨h1, h2⟩ := h
  cases k <;> simp [IntKind.min, IntKind.max, IntKind.signed, IntKind.bits] at h1 h2 <;> simp [IntKind.wrap, IntKind.signed, IntKind.bits] <;> (try split) <;> omega

def primB : Value → Bool
  | .int k n => decide (intOK k n)
  | .agg _ => false
  | .tuple _ => false
  | .slice _ _ _ => false
  | .iface _ _ => false
  | _ => true

theorem primB_ok {v : Value} (h : primB v = true) : primOK v := by
  cases v <;> first | trivial | (simp [primB] at h; exact h) | (simp [primB] at h)

/-- a constant's cell -/
def constD : Value → Option DV
  | .slice none 0 0 => some (.sl [])
  | v => if primB v then some (.prim v) else none

def constDs : List Value → Option (List DV)
  | [] => some []
  | v :: r => match constD v, constDs r with
    | some x, some xs => some (x :: xs)
    | _, _ => none

def constS : Value → Option SV
  | .slice none 0 0 => some (.own 0 [])
  | .agg cs => (constDs cs.toList).map fun ds => .v (.agg ds)
  | v => if primB v then some (.v (.prim v)) else none

theorem constD_sound {G : Gh} {w : World} {v : Value} {x : DV} (h : constD v = some x) : RV G.D w x v ∧ x.isCell = true := by
  unfold constD at h
  split at h
  · cases h; exact ⟨.sl0 _ _, rfl⟩
  · split at h
    · cases h; exact ⟨.prim _ (primB_ok ‹_›), rfl⟩
    · cases h

theorem constDs_sound {G : Gh} {w : World} : ∀ {l : List Value} {ds : List DV}, constDs l = some ds → l.length = ds.length ∧ (∀ c ∈ ds, c.isCell = true) ∧
    ∀ (i : Nat) (c : DV) (v : Value), ds[i]? = some c → l[i]? = some v → RV G.D w c v
  | [], ds, h => by cases h; simp
  | v :: r, ds, h => by
    simp only [constDs] at h
    split at h
    · rename_i x xs hx hxs
      cases h
      obtain ⟨h1, h2, h3⟩ := constDs_sound (G := G) (w := w) hxs
      obtain ⟨k1, k2⟩ := constD_sound (G := G) (w := w) hx
      refine ⟨by simp [h1], fun c hc => ?_, fun i c v hc hv => ?_⟩
      · rcases List.mem_cons.1 hc with rfl | hc
        · exact k2
        · exact h2 c hc
      · cases i with
        | zero => simp at hc hv; subst hc hv; exact k1
        | succ i => exact h3 i c v (by simpa using hc) (by simpa using hv)
    · cases h

theorem constS_sound {G : Gh} {w : World} (hn : G.τ 0 = (none, 0)) {v : Value} {x : SV} (h : constS v = some x) : RSV G w x v := by
  unfold constS at h
  split at h
  · cases h
    simp only [RSV, hn]
    exact ⟨rfl, .sl0 _ _⟩
  · rename_i cs
    cases hd : constDs cs.toList with
    | none => rw [hd] at h; cases h
    | some ds =>
      rw [hd] at h
      cases h
      obtain ⟨h1, h2, h3⟩ := constDs_sound (G := G) (w := w) hd
      exact .agg ds cs (by simpa using h1) h2 (fun i c v hc hv => h3 i c v hc (by simpa using hv))
  · split at h
    · cases h; exact .prim _ (primB_ok ‹_›)
    · cases h

def globOf : Globs → Nat → Option (List (List DV))
  | [], _ => none
  | (g, els) :: r, n => if g = n then some els else globOf r n

theorem globOf_mem {gl : Globs} {n : Nat} {els : List (List DV)} (h : globOf gl n = some els) : (n, els) ∈ gl := by
  induction gl with
  | nil => cases h
  | cons p r ih =>
    obtain ⟨g, e⟩ := p
    simp only [globOf] at h
    split at h
    · cases h; subst_vars; simp
    · exact List.mem_cons_of_mem _ (ih h)

/-- how long each element is -/
def wide : List (List DV) → Option Nat
  | [] => none
  | e :: _ => some e.length

abbrev Rd := Loc → Option LV

def evl (X : Ctx) (g : Rd) : Operand → Option SV
  | .tmp t => match g (.slot t) with
    | some (.one x) => some x
    | _ => none
  | .const v => constS v
  | .global b => match globOf X.gl b with
    | some (e :: r) => some (.dp (e :: r) 0 0)
    | _ => none
  | .func f => some (.v (.prim (.func (.func f) #[] #[])))

theorem evl_sound {X : Ctx} {G : Gh} {s : St} {a : Act} {w : World} (R : Rel X G s a w) {x : Operand} {y : SV} (h : evl X (get s) x = some y) : RSV G w y (a.eval x) := by
  cases x with
  | tmp t =>
    simp only [evl] at h
    split at h
    · rename_i z hz; cases h; exact R.holds _ _ hz
    · cases h
  | const v => exact constS_sound R.nil h
  | global b =>
    simp only [evl] at h
    split at h
    · rename_i e r hg
      cases h
      obtain ⟨cap, hr⟩ := R.wf.globs b _ (globOf_mem hg)
      have hr' := hr
      cases hr with
      | sl els b' o cap' E val hlen hcap hE hcell hc hD hh =>
        exact ⟨b, 0, E, cap, hr', hE, by simp, by simp [Act.eval]⟩
    · cases h
  | func f =>
    cases h
    exact .prim _ trivial

def toD : SV → Option DV
  | .v x => some x
  | .own _ els => some (.sl els)
  | .ag cs _ => some (.agg cs)
  | _ => none

theorem toD_sound {G : Gh} {w : World} {x : SV} {y : DV} {v : Value} (h : toD x = some y) (hr : RSV G w x v) : RV G.D w y v := by
  cases x with
  | v x => cases h; exact hr
  | own t els => cases h; exact hr.2
  | ag cs ns => cases h; exact hr.1
  | loc => cases h
  | dp => cases h

theorem toD_cell {x : SV} {y : DV} (h : toD x = some y) (hc : x.isCell = true) : y.isCell = true := by
  cases x with
  | v x => cases h; exact hc
  | own t els => cases h; rfl
  | ag cs ns => cases hc
  | loc => cases h
  | dp => cases h

def toDs : List SV → Option (List DV)
  | [] => some []
  | x :: r => match toD x, toDs r with
    | some y, some ys => some (y :: ys)
    | _, _ => none

theorem toDs_get : ∀ {l : List SV} {ds : List DV}, toDs l = some ds → l.length = ds.length ∧ ∀ (i : Nat) (c : DV), ds[i]? = some c → ∃ x, l[i]? = some x ∧ toD x = some c
  | [], ds, h => by cases h; simp
  | x :: r, ds, h => by
    simp only [toDs] at h
    split at h
    · rename_i y ys hy hys
      cases h
      obtain ⟨h1, h2⟩ := toDs_get hys
      refine ⟨by simp [h1], fun i c hc => ?_⟩
      cases i with
      | zero => simp at hc; subst hc; exact ⟨x, rfl, hy⟩
      | succ i => obtain ⟨z, hz⟩ := h2 i c (by simpa using hc); exact ⟨z, by simpa using hz.1, hz.2⟩
    · cases h

theorem toDs_map (cs : List DV) : toDs (cs.map SV.v) = some cs := by
  induction cs with
  | nil => rfl
  | cons c r ih => simp [toDs, toD, ih]

def evlDs (X : Ctx) (g : Rd) : List Operand → Option (List DV)
  | [] => some []
  | x :: r => match (evl X g x).bind toD, evlDs X g r with
    | some y, some ys => some (y :: ys)
    | _, _ => none

def intOp (op : BinOp) (k : IntKind) (a b : Int) : Option (Prop × SV) :=
  match op with
  | .add => some (intOK k (a + b), .v (.prim (.int k (a + b))))
  | .sub => some (intOK k (a - b), .v (.prim (.int k (a - b))))
  | .mul => some (intOK k (a * b), .v (.prim (.int k (a * b))))
  | .rem => some (b ≠ 0 ∧ intOK k (a.tmod b), .v (.prim (.int k (a.tmod b))))
  | .quo => some (b ≠ 0 ∧ intOK k (a.tdiv b), .v (.prim (.int k (a.tdiv b))))
  | .eql => some (True, .v (.prim (.bool (a == b))))
  | .neq => some (True, .v (.prim (.bool (a != b))))
  | .lss => some (True, .v (.prim (.bool (decide (a < b)))))
  | .leq => some (True, .v (.prim (.bool (decide (a ≤ b)))))
  | .gtr => some (True, .v (.prim (.bool (decide (a > b)))))
  | .geq => some (True, .v (.prim (.bool (decide (a ≥ b)))))
  | _ => none

/-- a row read from `off` on: one cell, or n cells as a struct -/
def readRow (cs : List SV) (agg : Bool) (off n : Nat) : Option SV :=
  if agg then
    match toDs ((cs.drop off).take n) with
    | some ds => if ds.length = n then some (.v (.agg ds)) else none
    | none => none
  else cs[off]?

def readD (cs : List DV) (agg : Bool) (off n : Nat) : Option DV :=
  if agg then if ((cs.drop off).take n).length = n then some (.agg ((cs.drop off).take n)) else none
  else cs[off]?

def cellsD : DV → List DV
  | .agg cs => cs
  | x => [x]

def memN (d : Nat) : List Nat → Bool
  | [] => false
  | x :: r => d == x || memN d r

/-- cells of a literal: those that are nil slices are one's own -/
def agC (ns : List Nat) : Nat → List DV → List SV
  | _, [] => []
  | k, d :: r => (if memN k ns then .own 0 [] else .v d) :: agC ns (k + 1) r

theorem agC_get (ns : List Nat) : ∀ (cs : List DV) (k : Nat), (agC ns k cs).length = cs.length ∧ ∀ i : Nat, (agC ns k cs)[i]? = cs[i]?.map fun d => if memN (k + i) ns then SV.own 0 [] else .v d
  | [], k => by simp [agC]
  | d :: r, k => by
    obtain ⟨h1, h2⟩ := agC_get ns r (k + 1)
    refine ⟨by simp [agC, h1], fun i => ?_⟩
    cases i with
    | zero => simp [agC]
    | succ i => simp only [agC, List.getElem?_cons_succ, h2]; rw [show k + 1 + i = k + (i + 1) from by omega]

theorem memN_iff (d : Nat) (l : List Nat) : memN d l = true ↔ d ∈ l := by
  induction l with
  | nil => simp [memN]
  | cons x r ih => simp [memN, ih]

def nilsOf : Nat → List SV → List Nat
  | _, [] => []
  | k, .own 0 [] :: r => k :: nilsOf (k + 1) r
  | k, _ :: r => nilsOf (k + 1) r

theorem nilsOf_mem {i : Nat} : ∀ {cs : List SV} {k : Nat}, i ∈ nilsOf k cs → ∃ j, i = k + j ∧ cs[j]? = some (.own 0 [])
  | [], _, h => by cases h
  | c :: r, k, h => by
    unfold nilsOf at h
    split at h
    · cases h
    · rename_i heq
      cases heq
      rcases List.mem_cons.1 h with rfl | h
      · exact ⟨0, rfl, rfl⟩
      · obtain ⟨j, h1, h2⟩ := nilsOf_mem h
        exact ⟨j + 1, by omega, by simpa using h2⟩
    · rename_i heq
      cases heq
      obtain ⟨j, h1, h2⟩ := nilsOf_mem h
      exact ⟨j + 1, by omega, by simpa using h2⟩

def cellsS : SV → List SV
  | .v x => (cellsD x).map .v
  | .ag cs ns => agC ns 0 cs
  | x => [x]

def put (cs : List SV) : Nat → List SV → List SV
  | 0, xs => xs ++ cs.drop xs.length
  | n + 1, xs => match cs with
    | [] => []
    | c :: r => c :: put r n xs

def zeroS : List Value → Option (List SV)
  | [] => some []
  | v :: r => match constS v, zeroS r with
    | some x, some xs => some (x :: xs)
    | _, _ => none

/-- the cells of a type's zero -/
def zeroT (P : Program) (t : TypeId) : Option (List SV) :=
  match P.info? t with
  | some i => match i.zero with
    | some z => zeroS z.cells.toList
    | none => none
  | none => none

/-- where the parts of a literal of the type lie -/
def placesT (P : Program) (t : TypeId) : Option (List (Nat × Nat)) :=
  match P.underlying t with
  | some (.struct fields) => fields.toList.mapM (fun f => (P.info? f.type).map fun i => (f.offset, i.size))
  | some (.array n e) => (P.info? e).map fun i => (List.range n).map fun k => (k * i.size, i.size)
  | _ => none

def fillS (places : List (Nat × Nat)) (X : Ctx) (g : Rd) (cells : List SV) : List (Nat × Operand) → Option (List SV)
  | [] => some cells
  | (i, x) :: rest =>
    match places[i]?, evl X g x with
    | some (off, size), some y =>
      if (cellsS y).length = size ∧ off + size ≤ cells.length then fillS places X g (put cells off (cellsS y)) rest else none
    | _, _ => none

def cellB : List DV → Bool
  | [] => true
  | c :: r => c.isCell && cellB r

def loadAt (X : Ctx) (g : Rd) (t : TypeId) : SV → Option SV
  | .loc k off => match layT X.P t, g (.loc k) with
    | some (agg, n), some (.row cs) => readRow cs agg off n
    | _, _ => none
  | .dp els i off => match layT X.P t, els[i]? with
    | some (agg, n), some e => (readD e agg off n).map .v
    | _, _ => none
  | .v (.prim (.pointer (some ⟨b, off, none⟩))) => match layT X.P t, g (.heap b) with
    | some (agg, n), some (.row cs) => readRow cs agg off n
    | _, _ => none
  | _ => none

def slOf : SV → Option (List (List DV))
  | .v (.sl els) => some els
  | .own _ els => some els
  | _ => none

/-- the bound of a slice expression -/
def bound (X : Ctx) (g : Rd) (d : Nat) : Option Operand → Option Int
  | none => some d
  | some x => match evl X g x with
    | some (.v (.prim (.int _ n))) => some n
    | _ => none

/-- the builtins that only compute -/
def pcall (X : Ctx) (g : Rd) (c : Call) : Option (Prop × SV) :=
  match c.callee, c.args.toList, c.argTypes.toList with
  | .builtin .len, [x], [t] =>
    match elemT X.P t, (evl X g x).bind slOf with
    | some _, some els => some (True, .v (.prim (.int .i64 els.length)))
    | _, _ => none
  | .builtin .max, [x, y], _ =>
    match evl X g x, evl X g y with
    | some (.v (.prim (.int k a))), some (.v (.prim (.int _ b))) => some (intOK k b, .v (.prim (.int k (if b > a then b else a))))
    | _, _ => none
  | .builtin .min, [x, y], _ =>
    match evl X g x, evl X g y with
    | some (.v (.prim (.int k a))), some (.v (.prim (.int _ b))) => some (intOK k b, .v (.prim (.int k (if b < a then b else a))))
    | _, _ => none
  | _, _, _ => none

/-- operands that are values of their own -/
def pvls (X : Ctx) (g : Rd) : List Operand → Option (List Value)
  | [] => some []
  | x :: r => match evl X g x, pvls X g r with
    | some (.v (.prim v)), some vs => some (v :: vs)
    | _, _ => none

def pval (X : Ctx) (g : Rd) (o : Oper) : Option (Prop × SV) :=
  match o.op with
  | .move x => (evl X g x).map (True, ·)
  | .assign x => (evl X g x).map (True, ·)
  | .pick c x y =>
    match evl X g c with
    | some (.v (.prim (.bool true))) => (evl X g x).map (True, ·)
    | some (.v (.prim (.bool false))) => (evl X g y).map (True, ·)
    | _ => none
  | .binOp op t x y _ =>
    match evl X g x, evl X g y with
    | some (.v (.prim (.int k a))), some (.v (.prim (.int k' b))) => if k = k' then intOp op k a b else none
    | some (.v (.prim (.bool a))), some (.v (.prim (.bool b))) =>
      if boolT X.P t then
        match op with
        | .eql => some (True, .v (.prim (.bool (a == b))))
        | .neq => some (True, .v (.prim (.bool (!(a == b)))))
        | _ => none
      else none
    | _, _ => none
  | .unOp op _ x =>
    match op, evl X g x with
    | .not, some (.v (.prim (.bool b))) => some (True, .v (.prim (.bool (!b))))
    | .neg, some (.v (.prim (.int k n))) => some (intOK k (0 - n), .v (.prim (.int k (0 - n))))
    | _, _ => none
  | .extract x i =>
    match evl X g x with
    | some (.v (.tup cs)) => cs[i]?.map fun c => (True, .v c)
    | _ => none
  | .field t x f =>
    match fieldT X.P t f, evl X g x with
    | some (agg, off, n), some (.v y) => (readD (cellsD y) agg off n).map fun c => (y.isAgg = true, .v c)
    | _, _ => none
  | .fieldAddr t x f =>
    match fieldT X.P t f, evl X g x with
    | some (_, foff, _), some (.loc k off) => some (True, .loc k (off + foff))
    | some (_, foff, _), some (.dp els i off) => some (True, .dp els i (off + foff))
    | some (_, foff, _), some (.v (.prim (.pointer (some ⟨b, off, none⟩)))) => some (True, .v (.prim (.pointer (some ⟨b, off + foff, none⟩))))
    | _, _ => none
  | .indexAddr t x i =>
    match evl X g x, evl X g i with
    | some y, some (.v (.prim (.int _ n))) =>
      match elemT X.P t, slOf y with
      | some E, some els => match els[n.toNat]? with
        | some e => some (0 ≤ n ∧ e.length = E, .dp els n.toNat 0)
        | none => none
      | _, _ => match arrT X.P t, y with
        | some (len, E), .loc k off => some (0 ≤ n ∧ n < len ∧ 1 < len, .loc k (off + n.toNat * E))
        | some (len, E), .dp els j 0 => match els[j + n.toNat]? with
          | some e => some (0 ≤ n ∧ n < len ∧ 1 < len ∧ e.length = E, .dp els (j + n.toNat) 0)
          | none => none
        | _, _ => none
    | _, _ => none
  | .load t x => ((evl X g x).bind (loadAt X g t)).map (True, ·)
  | .build t parts =>
    match zeroT X.P t, placesT X.P t with
    | some z, some pl => match fillS pl X g z parts.toList with
      | some cs => match toDs cs with
        | some ds => if cellB ds then some (True, .ag ds (nilsOf 0 cs)) else none
        | none => none
      | none => none
    | _, _ => none
  | .makeInterface t x =>
    match (evl X g x).bind toD with
    | some y => if concT X.P t then some (True, .v (.iface t y)) else none
    | none => none
  | .nilCheck x =>
    match evl X g x with
    | some (.loc k off) => some (True, .loc k off)
    | some (.dp els i off) => some (True, .dp els i off)
    | some (.v (.prim (.pointer (some a)))) => some (True, .v (.prim (.pointer (some a))))
    | some (.v (.prim (.func (.func f) x y))) => some (True, .v (.prim (.func (.func f) x y)))
    | _ => none
  | .convert s d x =>
    match evl X g x, intT X.P s, intT X.P d with
    | some (.v (.prim (.int _ n))), some _, some k => some (intOK k n, .v (.prim (.int k n)))
    | _, _, _ => none
  | .slice t x lo hi none =>
    match elemT X.P t, (evl X g x).bind slOf with
    | some E, some els => match bound X g 0 lo, bound X g els.length hi with
      | some l, some h => some (0 ≤ l ∧ l ≤ h ∧ h ≤ els.length ∧ ∀ e ∈ els, e.length = E, .v (.sl ((els.take h.toNat).drop l.toNat)))
      | _, _ => none
    | _, _ => none
  | .call c => pcall X g c
  | .makeFunc fn fi ca =>
    match pvls X g fi.toList, pvls X g ca.toList with
    | some fi, some ca => some (True, .v (.prim (.func fn fi.toArray ca.toArray)))
    | _, _ => none
  | _ => none

section
variable {X : Ctx} {G : Gh} {s : St} {a : Act} {w : World}

theorem run_lay {P : Program} {w : World} {t : TypeId} {b : Bool} {n : Nat} (h : layT P t = some (b, n)) : (isAgg t).run P w = .ok b w ∧ (sizeOf t).run P w = .ok n w := by
  unfold layT at h
  split at h
  · rename_i d i hd hi
    simp only [Option.some.injEq, Prod.mk.injEq] at h
    obtain ⟨rfl, rfl⟩ := h
    refine ⟨?_, by simp [sizeOf, typeInfo, hi]⟩
    unfold isAgg
    rw [Sem.run_bind, run_underlying hd w]
    cases d <;> rfl
  · cases h

theorem addr_add (b o n : Nat) : (⟨b, o, none⟩ : Addr).add n = ⟨b, o + n, none⟩ := by
  unfold Addr.add
  split <;> simp_all

/-- loads through an address at which cells are known -/
theorem run_loadVar_known {P : Program} {w : World} {t : TypeId} {agg : Bool} {n : Nat} (h : layT P t = some (agg, n)) (b o : Nat) (cs : List Value) (hc : ∀ j v, cs[j]? = some v → w.cell? ⟨b, o + j, none⟩ = some v)
    (hn : agg = true → cs.length = n) (v : Value) (hv : if agg = true then v = .agg cs.toArray else cs[0]? = some v) : (loadVar t ⟨b, o, none⟩).run P w = .ok v w := by
  obtain ⟨h1, h2⟩ := run_lay (w := w) h
  unfold loadVar
  cases agg with
  | true =>
    simp only [if_true] at hv
    have := run_loadCells_list (P := P) w ⟨b, o, none⟩ cs (fun j v hj => by rw [addr_add]; exact hc j v hj)
    rw [hn rfl] at this
    simp [h1, h2, this, hv]
  | false =>
    simp only [Bool.false_eq_true, if_false] at hv
    have := hc 0 v hv
    simp at this
    simp [h1, this]

theorem readRow_sound {w : World} {b : Nat} {cs : List SV} (hb : BlkAt G w b cs) {P : Program} {t : TypeId} {agg : Bool} {n off : Nat} (hl : layT P t = some (agg, n)) {y : SV} (h : readRow cs agg off n = some y) :
    ∃ v, (loadVar t ⟨b, off, none⟩).run P w = .ok v w ∧ RSV G w y v := by
  obtain ⟨c, e, h1, h2, h3⟩ := hb
  unfold readRow at h
  have hcell : ∀ (i : Nat) (v : Value), c[i]? = some v → w.cell? ⟨b, i, none⟩ = some v := fun i v hv => by simp [World.cell?, h1, hv]
  cases agg with
  | true =>
    simp only [if_true] at h
    split at h
    · rename_i ds hds
      split at h
      · rename_i hlen
        cases h
        obtain ⟨k1, k2⟩ := toDs_get hds
        have hk : ∀ i, i < n → ∃ x c' v, cs[off + i]? = some x ∧ toD x = some c' ∧ ds[i]? = some c' ∧ c[off + i]? = some v ∧ RSV G w x v ∧ x.isCell = true := by
          intro i hi
          have hc : ds[i]? = some (ds[i]'(by omega)) := List.getElem?_eq_getElem (by omega)
          obtain ⟨x, hx, hd⟩ := k2 i _ hc
          rw [List.getElem?_take_of_lt hi, List.getElem?_drop] at hx
          obtain ⟨hcl, v, hv, hr⟩ := h3 _ _ hx
          exact ⟨x, _, v, hx, hd, hc, hv, hr, hcl⟩
        have hsz : ∀ i, i < n → off + i < c.size := fun i hi => by
          obtain ⟨x, c', v, -, -, -, hv, -⟩ := hk i hi
          exact (Array.getElem?_eq_some_iff.1 hv).1
        refine ⟨.agg ((c.toList.drop off).take n).toArray, ?_, ?_⟩
        · refine run_loadVar_known hl b off ((c.toList.drop off).take n) (fun j v hj => ?_) (fun _ => ?_) _ (by simp)
          · have hj' : j < n := by
              have := (List.getElem?_eq_some_iff.1 hj).1
              simp at this; omega
            rw [List.getElem?_take_of_lt hj', List.getElem?_drop] at hj
            exact hcell _ _ (by simpa using hj)
          · simp
            by_cases hn : n = 0
            · omega
            · have := hsz (n - 1) (by omega); omega
        · refine .agg ds _ ?_ ?_ ?_
          · simp
            by_cases hn : n = 0
            · subst hn; simp at hlen; simp [hlen]
            · have := hsz (n - 1) (by omega); omega
          · intro c' hc'
            obtain ⟨i, hi, rfl⟩ := List.mem_iff_getElem.1 hc'
            obtain ⟨x, c'', v, hx, hd, hc, hv, hr, hcl⟩ := hk i (by omega)
            rw [List.getElem?_eq_getElem hi] at hc
            cases hc
            exact toD_cell hd hcl
          · intro i c' v hc' hv
            have hi : i < n := by
              have := (List.getElem?_eq_some_iff.1 hc').1; omega
            obtain ⟨x, c'', v', hx, hd, hc, hv', hr, hcl⟩ := hk i hi
            rw [hc'] at hc
            cases hc
            simp only [List.getElem?_toArray] at hv
            rw [List.getElem?_take_of_lt hi, List.getElem?_drop] at hv
            have hv2 : c[off + i]? = some v := by simpa using hv
            rw [hv'] at hv2
            cases hv2
            exact toD_sound hd hr
      · cases h
    · cases h
  | false =>
    simp only [Bool.false_eq_true, if_false] at h
    obtain ⟨hcl, v, hv, hr⟩ := h3 _ _ h
    refine ⟨v, run_loadVar_known hl b off [v] (fun j u hj => ?_) (fun h => by cases h) _ (by simp), hr⟩
    cases j with
    | zero => simp at hj; subst hj; exact hcell _ _ hv
    | succ j => simp at hj

theorem readD_sound {w : World} {D : Nat → Nat → Prop} {els : List (List DV)} {b o cap E i off : Nat} (hr : RV D w (.sl els) (.slice (some ⟨b, o, none⟩) els.length cap)) (hE : ∀ e ∈ els, e.length = E) {e : List DV} (he : els[i]? = some e)
    {P : Program} {t : TypeId} {agg : Bool} {n : Nat} (hl : layT P t = some (agg, n)) {y : DV} (h : readD e agg off n = some y) :
    ∃ v, (loadVar t ⟨b, o + (i * E + off), none⟩).run P w = .ok v w ∧ RV D w y v := by
  have hi : i < els.length := (List.getElem?_eq_some_iff.1 he).1
  have hel : e.length = E := hE e (List.mem_of_getElem? he)
  cases hr with
  | sl0 => simp at hi
  | sl _ _ _ _ E' val hlen hcap hE' hcell hc hD hh =>
    have hEE : E' = E := by rw [← hE' e (List.mem_of_getElem? he), hel]
    subst hEE
    unfold readD at h
    cases agg with
    | true =>
      simp only [if_true] at h
      split at h
      · rename_i hlen'
        cases h
        simp at hlen'
        have hoff : n = 0 ∨ off + n ≤ E' := by omega
        refine ⟨.agg ((List.range n).map fun j => val i (off + j)).toArray, ?_, ?_⟩
        · refine run_loadVar_known hl b _ ((List.range n).map fun j => val i (off + j)) (fun j v hj => ?_) (fun _ => by simp) _ (by simp)
          have hj' : j < n := by
            have := (List.getElem?_eq_some_iff.1 hj).1; simpa using this
          simp [hj'] at hj
          subst hj
          have := hc i (off + j) hi (by omega)
          rw [← this]; congr 2; omega
        · refine .agg _ _ (by simp only [List.size_toArray, List.length_map, List.length_range, List.length_take, List.length_drop]; omega) (fun c hc' => ?_) (fun j c v hc' hv => ?_)
          · exact hcell e (List.mem_of_getElem? he) c (List.mem_of_mem_drop (List.mem_of_mem_take hc'))
          · have hj' : j < n := by
              have := (List.getElem?_eq_some_iff.1 hc').1; simp at this; omega
            rw [List.getElem?_take_of_lt hj', List.getElem?_drop] at hc'
            simp [hj'] at hv
            subst hv
            exact hh i (off + j) e c he hc'
      · cases h
    | false =>
      simp only [Bool.false_eq_true, if_false] at h
      have ho : off < E' := by
        have := (List.getElem?_eq_some_iff.1 h).1; omega
      refine ⟨val i off, run_loadVar_known hl b _ [val i off] (fun j u hj => ?_) (fun h => by cases h) _ (by simp), hh i off e y he h⟩
      cases j with
      | zero => simp at hj; subst hj; simpa using hc i off hi ho
      | succ j => simp at hj

theorem loadAt_sound (R : Rel X G s a w) {t : TypeId} {x y : SV} {v : Value} (hx : RSV G w x v) (h : loadAt X (get s) t x = some y) :
    ∃ u, (Instr.loadAt t v).run X.P w = .ok u w ∧ RSV G w y u := by
  unfold loadAt at h
  split at h
  · rename_i k off
    split at h
    · rename_i agg n cs hl hg
      obtain rfl := hx
      obtain ⟨u, h1, h2⟩ := readRow_sound (R.holds _ _ hg) hl h
      exact ⟨u, by simp [Instr.loadAt, Instr.sureAddr, h1], h2⟩
    · cases h
  · rename_i els i off
    split at h
    · rename_i agg n e hl he
      obtain ⟨b, o, E, cap, hr, hE, hi, rfl⟩ := hx
      cases hd : readD e agg off n with
      | none => simp [hd] at h
      | some y' =>
        simp [hd] at h
        subst h
        obtain ⟨u, h1, h2⟩ := readD_sound hr hE he hl hd
        exact ⟨u, by simp [Instr.loadAt, Instr.sureAddr, h1], h2⟩
    · cases h
  · rename_i b off
    split at h
    · rename_i agg n cs hl hg
      cases hx
      obtain ⟨u, h1, h2⟩ := readRow_sound (R.holds _ _ hg) hl h
      exact ⟨u, by simp [Instr.loadAt, Instr.sureAddr, h1], h2⟩
    · cases h
  · cases h

end
end Go.Proofs.YtbmnlkfgkdallaaGreatDoor.Lift

/-
  Part C of the small logic: the operations that write nothing do in the model what pval says.
-/
namespace Go.Proofs.YtbmnlkfgkdallaaGreatDoor.Lift
set_option linter.unusedSimpArgs false
set_option linter.unusedVariables false
set_option linter.unnecessarySimpa false
open Go
section
variable {X : Ctx} {G : Gh} {s : St} {a : Act} {w : World}

theorem prim_of {D : Nat → Nat → Prop} {w : World} {u v : Value} (h : RV D w (.prim u) v) : v = u ∧ primOK u := by
  cases h with
  | prim _ h => exact ⟨rfl, h⟩

theorem intOp_sound {op : BinOp} {k : IntKind} {x y : Int} {c : Prop} {r : SV} (h : intOp op k x y = some (c, r)) (hc : c) (t : TypeId) :
    ∃ v, (binOp op t (.int k x) (.int k y)).run X.P w = .ok v w ∧ RSV G w r v := by
  have ok : ∀ n, intOK k n → RSV G w (.v (.prim (.int k n))) (.int k n) := fun n h => .prim _ h
  have bk : ∀ b, RSV G w (.v (.prim (.bool b))) (.bool b) := fun b => .prim _ trivial
  cases op <;> simp only [intOp, Option.some.injEq, Prod.mk.injEq, reduceCtorEq] at h <;> obtain ⟨rfl, rfl⟩ := h
  · exact ⟨_, by simp [binOp, Op.intArith, wrap_of_ok hc], ok _ hc⟩
  · exact ⟨_, by simp [binOp, Op.intArith, wrap_of_ok hc], ok _ hc⟩
  · exact ⟨_, by simp [binOp, Op.intArith, wrap_of_ok hc], ok _ hc⟩
  · exact ⟨_, by simp [binOp, Op.intDiv, hc.1, wrap_of_ok hc.2], ok _ hc.2⟩
  · exact ⟨_, by simp [binOp, Op.intDiv, hc.1], ok _ hc.2⟩
  all_goals exact ⟨_, by simp only [binOp, Op.intCmp, if_false, ne_eq, not_true_eq_false, Sem.run_pure], bk _⟩

theorem eqGuard_int (op : BinOp) (t : TypeId) (x y : Operand) (k k' : IntKind) (p q : Int) : (eqGuard op t x y (.int k p) (.int k' q)).run X.P w = .ok () w := by
  unfold eqGuard
  cases op <;> simp

theorem eqGuard_bool (op : BinOp) (t : TypeId) (x y : Operand) (p q : Bool) : (eqGuard op t x y (.bool p) (.bool q)).run X.P w = .ok () w := by
  unfold eqGuard
  cases op <;> simp

theorem evlDs_sound (R : Rel X G s a w) : ∀ {l : List Operand} {ds : List DV}, evlDs X (get s) l = some ds → l.length = ds.length ∧ ∀ (i : Nat) (c : DV) (v : Value), ds[i]? = some c → (l.map a.eval)[i]? = some v → RV G.D w c v
  | [], ds, h => by cases h; simp
  | x :: r, ds, h => by
    simp only [evlDs] at h
    split at h
    · rename_i y ys hy hys
      cases h
      obtain ⟨h1, h2⟩ := evlDs_sound R hys
      obtain ⟨z, hz, hz'⟩ := Option.bind_eq_some_iff.1 hy
      refine ⟨by simp [h1], fun i c v hc hv => ?_⟩
      cases i with
      | zero =>
        simp at hc hv; subst hc hv
        exact toD_sound hz' (evl_sound R hz)
      | succ i => exact h2 i c v (by simpa using hc) (by simpa using hv)
    · cases h

theorem cellsS_sound (hn : G.τ 0 = (none, 0)) {x : SV} {v : Value} (h : RSV G w x v) : v.cells.size = (cellsS x).length ∧ ∀ (i : Nat) (c : SV) (u : Value), (cellsS x)[i]? = some c → v.cells[i]? = some u → RSV G w c u := by
  have one : ∀ (x : SV) (v : Value), cellsS x = [x] → v.cells = #[v] → RSV G w x v → v.cells.size = (cellsS x).length ∧ ∀ (i : Nat) (c : SV) (u : Value), (cellsS x)[i]? = some c → v.cells[i]? = some u → RSV G w c u := by
    intro x v h1 h2 h3
    rw [h1, h2]
    refine ⟨rfl, fun i c u hc hu => ?_⟩
    cases i with
    | zero => simp at hc hu; subst hc hu; exact h3
    | succ i => simp at hc
  cases x with
  | v x =>
    cases x with
    | agg cs =>
      cases h with
      | agg _ vs hl hcell hh =>
        refine ⟨by simp [Value.cells, cellsS, cellsD, hl], fun i c u hc hu => ?_⟩
        simp only [cellsS, cellsD, List.getElem?_map] at hc
        cases hq : cs[i]? with
        | none => simp [hq] at hc
        | some c' => simp [hq] at hc; subst hc; exact hh i c' u hq hu
    | prim p =>
      refine one _ _ rfl ?_ h
      obtain ⟨rfl, hp⟩ := prim_of h
      cases v <;> first | rfl | exact hp.elim
    | tup cs => cases h; exact one _ _ rfl rfl (.tup _ _ ‹_› ‹_›)
    | sl els =>
      refine one _ _ rfl ?_ h
      cases h <;> rfl
    | iface t y =>
      refine one _ _ rfl ?_ h
      cases h; rfl
  | loc k off => obtain rfl := h; exact one _ _ rfl rfl rfl
  | dp els i off => have h' := h; obtain ⟨b, o, E, cap, -, -, -, rfl⟩ := h; exact one _ _ rfl rfl h'
  | own t els => have h' := h; obtain ⟨rfl, -⟩ := h; exact one _ _ rfl rfl h'
  | ag cs ns =>
    obtain ⟨h1, h2⟩ := h
    cases h1 with
    | agg _ vs hl hcell hh =>
      refine ⟨by simp [Value.cells, cellsS, hl, (agC_get ns cs 0).1], fun i c u hc hu => ?_⟩
      simp only [cellsS, (agC_get ns cs 0).2] at hc
      cases hq : cs[i]? with
      | none => simp [hq] at hc
      | some c' =>
        simp only [hq, Option.map_some, Option.some.injEq, Nat.zero_add] at hc
        split at hc
        · rename_i hm
          subst hc
          obtain ⟨k1, k2⟩ := h2 i ((memN_iff _ _).1 hm)
          rw [hu] at k2
          cases k2
          show _ = _ ∧ _
          rw [hn]
          exact ⟨rfl, .sl0 _ _⟩
        · subst hc; exact hh i c' u hq hu

end
end Go.Proofs.YtbmnlkfgkdallaaGreatDoor.Lift

/-
  Part D of the small logic: literals of structs and arrays; pval_sound.
-/
namespace Go.Proofs.YtbmnlkfgkdallaaGreatDoor.Lift
set_option linter.unusedSimpArgs false
set_option linter.unusedVariables false
set_option linter.unnecessarySimpa false
open Go
section
variable {X : Ctx} {G : Gh} {s : St} {a : Act} {w : World}

def RowOf (G : Gh) (w : World) (cs : List SV) (c : Array Value) : Prop :=
  c.size = cs.length ∧ ∀ (i : Nat) (x : SV) (v : Value), cs[i]? = some x → c[i]? = some v → RSV G w x v

theorem length_put : ∀ (off : Nat) (cs xs : List SV), off + xs.length ≤ cs.length → (put cs off xs).length = cs.length
  | 0, cs, xs, h => by simp [put]; omega
  | off + 1, [], xs, h => by simp [put]
  | off + 1, c :: r, xs, h => by simp [put, length_put off r xs (by simp at h; omega)]

theorem get_put : ∀ (off : Nat) (cs xs : List SV) (k : Nat), off + xs.length ≤ cs.length → (put cs off xs)[k]? = if off ≤ k ∧ k < off + xs.length then xs[k - off]? else cs[k]?
  | 0, cs, xs, k, h => by
    simp only [put, Nat.zero_le, true_and, Nat.zero_add, Nat.sub_zero]
    by_cases hk : k < xs.length
    · rw [List.getElem?_append_left hk, if_pos hk]
    · rw [List.getElem?_append_right (by omega), if_neg hk, List.getElem?_drop]
      congr 1; omega
  | off + 1, [], xs, k, h => by simp at h
  | off + 1, c :: r, xs, k, h => by
    cases k with
    | zero => simp [put]
    | succ k =>
      simp only [put, List.getElem?_cons_succ]
      rw [get_put off r xs k (by simp at h; omega)]
      by_cases hk : off ≤ k ∧ k < off + xs.length
      · rw [if_pos hk, if_pos (by omega)]; congr 1; omega
      · rw [if_neg hk, if_neg (by omega)]

def setAll (c : Array Value) (off : Nat) (vs : Array Value) : Array Value := vs.zipIdx.foldl (fun cs (v, j) => cs.setIfInBounds (off + j) v) c

theorem setAll_list (off : Nat) : ∀ (l : List Value) (k : Nat) (c : Array Value), off + k + l.length ≤ c.size →
    ((l.zipIdx k).foldl (fun cs (p : Value × Nat) => cs.setIfInBounds (off + p.2) p.1) c).size = c.size ∧
    ∀ i, ((l.zipIdx k).foldl (fun cs (p : Value × Nat) => cs.setIfInBounds (off + p.2) p.1) c)[i]? = if off + k ≤ i ∧ i < off + k + l.length then l[i - (off + k)]? else c[i]?
  | [], k, c, h => by
    refine ⟨by simp, fun i => ?_⟩
    simp; intro h1 h2; omega
  | v :: r, k, c, h => by
    simp only [List.zipIdx_cons, List.foldl_cons]
    simp only [List.length_cons] at h
    obtain ⟨h1, h2⟩ := setAll_list off r (k + 1) (c.setIfInBounds (off + k) v) (by simp; omega)
    refine ⟨by rw [h1]; simp, fun i => ?_⟩
    rw [h2]
    by_cases hi : off + (k + 1) ≤ i ∧ i < off + (k + 1) + r.length
    · rw [if_pos hi, if_pos (by simp; omega)]
      rw [show i - (off + k) = (i - (off + (k + 1))) + 1 from by omega]
      simp
    · rw [if_neg hi]
      by_cases he : i = off + k
      · subst he
        rw [if_pos (by simp)]
        have : off + k < c.size := by omega
        simp [this]
      · rw [if_neg (by simp; omega), Array.getElem?_setIfInBounds_ne (by omega)]

theorem setAll_spec (c : Array Value) (off : Nat) (vs : Array Value) (h : off + vs.size ≤ c.size) : (setAll c off vs).size = c.size ∧ ∀ i, (setAll c off vs)[i]? = if off ≤ i ∧ i < off + vs.size then vs[i - off]? else c[i]? := by
  have := setAll_list off vs.toList 0 c (by simpa using h)
  unfold setAll
  rw [← Array.foldl_toList, Array.toList_zipIdx]
  simpa using this

theorem RowOf.put {cs xs : List SV} {c vs : Array Value} {off : Nat} (h : RowOf G w cs c) (k : RowOf G w xs vs) (hle : off + xs.length ≤ cs.length) : RowOf G w (put cs off xs) (setAll c off vs) := by
  have hs := setAll_spec c off vs (by rw [k.1, h.1]; exact hle)
  refine ⟨by rw [hs.1, length_put _ _ _ hle]; exact h.1, fun i x v hx hv => ?_⟩
  rw [get_put _ _ _ _ hle] at hx
  rw [hs.2, k.1] at hv
  by_cases hi : off ≤ i ∧ i < off + xs.length
  · rw [if_pos hi] at hx hv; exact k.2 _ _ _ hx hv
  · rw [if_neg hi] at hx hv; exact h.2 _ _ _ hx hv

theorem zeroS_sound (hn : G.τ 0 = (none, 0)) : ∀ {l : List Value} {cs : List SV}, zeroS l = some cs → RowOf G w cs l.toArray
  | [], cs, h => by cases h; exact ⟨rfl, by simp⟩
  | v :: r, cs, h => by
    simp only [zeroS] at h
    split at h
    · rename_i x xs hx hxs
      cases h
      have ih := zeroS_sound hn hxs
      refine ⟨by simpa using ih.1, fun i c u hc hu => ?_⟩
      cases i with
      | zero => simp at hc hu; subst hc hu; exact constS_sound hn hx
      | succ i => exact ih.2 i c u (by simpa using hc) (by simpa using hu)
    · cases h

theorem fillS_sound (R : Rel X G s a w) (pl : List (Nat × Nat)) (place : Nat → Option (Nat × Nat)) (hp : ∀ i q, pl[i]? = some q → place i = some q) : ∀ (parts : List (Nat × Operand)) (cs : List SV) (c : Array Value) (cs' : List SV), RowOf G w cs c → fillS pl X (get s) cs parts = some cs' →
    ∃ c', Instr.fill place c (parts.map fun q => (q.1, a.eval q.2)) = some c' ∧ RowOf G w cs' c'
  | [], cs, c, cs', hr, h => by cases h; exact ⟨c, rfl, hr⟩
  | (i, x) :: rest, cs, c, cs', hr, h => by
    simp only [fillS] at h
    split at h
    · rename_i off size y hpl hy
      split at h
      · rename_i hc
        obtain ⟨hc1, hc2⟩ := hc
        have hv := cellsS_sound R.nil (evl_sound R hy)
        have hrow : RowOf G w (cellsS y) (a.eval x).cells := hv
        obtain ⟨c', h1, h2⟩ := fillS_sound R pl place hp rest _ _ cs' (hr.put hrow (by rw [hc1]; exact hc2)) h
        refine ⟨c', ?_, h2⟩
        simp only [List.map_cons, Instr.fill, hp _ _ hpl]
        rw [if_neg]
        · exact h1
        · have e1 := hr.1
          have e2 := hv.1
          simp only [Bool.or_eq_true, decide_eq_true_eq, not_or]
          omega
      · cases h
    · cases h

theorem toDs_row {cs : List SV} {c : Array Value} {ds : List DV} (h : RowOf G w cs c) (hd : toDs cs = some ds) : c.size = ds.length ∧ ∀ (i : Nat) (d : DV) (v : Value), ds[i]? = some d → c[i]? = some v → RV G.D w d v := by
  obtain ⟨h1, h2⟩ := toDs_get hd
  refine ⟨h.1.trans h1, fun i d v hi hv => ?_⟩
  obtain ⟨x, hx, hxd⟩ := h2 i d hi
  exact toD_sound hxd (h.2 i x v hx hv)

theorem cellB_iff (l : List DV) : cellB l = true ↔ ∀ c ∈ l, c.isCell = true := by
  induction l with
  | nil => simp [cellB]
  | cons c r ih => simp [cellB, ih]

theorem run_build_struct {P : Program} {t : TypeId} {z : List SV} {pl : List (Nat × Nat)} (hz : zeroT P t = some z) (hpl : placesT P t = some pl) (hn : G.τ 0 = (none, 0)) :
    ∃ zc place, RowOf G w z zc ∧ (∀ i q, pl[i]? = some q → place i = some q) ∧ ∀ (parts : Array (Nat × Value)) (c' : Array Value), Instr.fill place zc parts.toList = some c' → (Instr.build t parts).run P w = .ok (.agg c') w := by
  unfold zeroT at hz
  split at hz
  · rename_i it hit
    split at hz
    · rename_i zv hzv
      have hrow := zeroS_sound (w := w) hn hz
      simp only [Array.toArray_toList] at hrow
      unfold placesT at hpl
      split at hpl
      · rename_i fields hu
        refine ⟨zv.cells, (pl.toArray[·]?), hrow, fun i q hq => by simpa using hq, fun parts c' hf => run_build w t parts c' ?_⟩
        unfold Program.built
        simp only [hit, hu, hzv, hpl]
        exact hf
      · rename_i n e hu
        cases hie : P.info? e with
        | none => simp [hie] at hpl
        | some ie =>
          simp [hie] at hpl
          subst hpl
          refine ⟨zv.cells, (fun i => some (i * ie.size, ie.size)), hrow, fun i q hq => ?_, fun parts c' hf => run_build w t parts c' ?_⟩
          · have hi : i < n := by
              have := (List.getElem?_eq_some_iff.1 hq).1; simpa using this
            simp [hi] at hq
            exact hq ▸ rfl
          · unfold Program.built
            simp only [hit, hu, hzv, hie]
            exact hf
      · cases hpl
    · cases hz
  · cases hz

theorem bool_run {P : Program} {t : TypeId} (h : boolT P t = true) : P.underlying t = some .bool := by
  unfold boolT at h
  split at h
  · assumption
  · cases h

theorem elem_run {P : Program} {t E : Nat} (h : elemT P t = some E) : ∃ e i, P.underlying t = some (.slice e) ∧ P.info? e = some i ∧ i.size = E := by
  unfold elemT at h
  split at h
  · rename_i e hu
    cases hi : P.info? e with
    | none => simp [hi] at h
    | some i => simp [hi] at h; exact ⟨e, i, hu, hi, h⟩
  · cases h

theorem arr_run {P : Program} {t n E : Nat} (h : arrT P t = some (n, E)) : ∃ e i, P.underlying t = some (.array n e) ∧ P.info? e = some i ∧ i.size = E := by
  unfold arrT at h
  split at h
  · rename_i n' e hu
    cases hi : P.info? e with
    | none => simp [hi] at h
    | some i => simp [hi] at h; obtain ⟨rfl, h⟩ := h; exact ⟨e, i, hu, hi, h⟩
  · cases h

theorem field_run {P : Program} {t f : Nat} {agg : Bool} {off n : Nat} (h : fieldT P t f = some (agg, off, n)) :
    ∃ fs fl, P.underlying t = some (.struct fs) ∧ fs[f]? = some fl ∧ layT P fl.type = some (agg, n) ∧ n ≠ 0 ∧ fl.offset = off := by
  unfold fieldT at h
  split at h
  · rename_i fs hu
    split at h
    · rename_i fl hf
      split at h
      · rename_i b m hl
        split at h
        · cases h
        · simp only [Option.some.injEq, Prod.mk.injEq] at h
          obtain ⟨rfl, rfl, rfl⟩ := h
          exact ⟨fs, fl, hu, hf, hl, by assumption, rfl⟩
      · cases h
    · cases h
  · cases h

theorem slOf_sound {x : SV} {els : List (List DV)} {v : Value} (h : slOf x = some els) (hr : RSV G w x v) : ∃ b cap, v = .slice b els.length cap ∧ RV G.D w (.sl els) v ∧ els.length ≤ cap := by
  have key : RV G.D w (.sl els) v → ∃ b cap, v = .slice b els.length cap ∧ RV G.D w (.sl els) v ∧ els.length ≤ cap := by
    intro h
    have h' := h
    cases h with
    | sl0 b cap => exact ⟨b, cap, rfl, h', Nat.zero_le _⟩
    | sl _ b o cap E val hlen hcap hE hcell hc hD hh => exact ⟨_, cap, rfl, h', hcap⟩
  cases x with
  | v x =>
    cases x with
    | sl e => cases h; exact key hr
    | _ => cases h
  | own t e => cases h; exact key hr.2
  | loc => cases h
  | dp => cases h
  | ag => cases h

/-- the element of a slice that is known -/
theorem dp_of_sl {els : List (List DV)} {v : Value} (hr : RV G.D w (.sl els) v) {i : Nat} {e : List DV} (he : els[i]? = some e) :
    ∃ b o cap, v = .slice (some ⟨b, o, none⟩) els.length cap ∧ RSV G w (.dp els i 0) (.pointer (some ⟨b, o + i * e.length, none⟩)) := by
  have hi : i < els.length := (List.getElem?_eq_some_iff.1 he).1
  have hr' := hr
  cases hr with
  | sl0 => simp at hi
  | sl _ b o cap E val hlen hcap hE hcell hc hD hh =>
    have : e.length = E := hE e (List.mem_of_getElem? he)
    subst this
    exact ⟨b, o, cap, rfl, b, o, e.length, cap, hr', hE, hi, rfl⟩

theorem field_part {P : Program} {t f : Nat} {agg : Bool} {off n : Nat} (h : fieldT P t f = some (agg, off, n)) {y c : DV} {v : Value} (hy : y.isAgg = true) (hv : RV G.D w y v) (hd : readD (cellsD y) agg off n = some c) :
    ∃ u, (Instr.field t v f).run P w = .ok u w ∧ RV G.D w c u := by
  obtain ⟨fs, fl, hu, hf, hl, hn, rfl⟩ := field_run h
  obtain ⟨l1, l2⟩ := run_lay (w := w) hl
  cases hv with
  | prim => cases hy
  | sl0 => cases hy
  | sl => cases hy
  | iface => cases hy
  | tup => cases hy
  | agg cs vs hl' hcell hh =>
    rw [show cellsD (DV.agg cs) = cs from rfl] at hd
    unfold readD at hd
    cases agg with
    | true =>
      simp only [if_true] at hd
      by_cases hlen : (List.take n (List.drop fl.offset cs)).length = n
      · rw [if_pos hlen] at hd
        cases hd
        simp at hlen
        refine ⟨.agg (vs.extract fl.offset (fl.offset + n)), by simp [Instr.field, run_underlying hu, hf, part, asAgg, l1, l2], ?_⟩
        refine .agg _ _ (by simp; omega) (fun c hc => hcell c (List.mem_of_mem_drop (List.mem_of_mem_take hc))) (fun i c v hc hv => ?_)
        have hi : i < n := by
          have := (List.getElem?_eq_some_iff.1 hc).1; simp at this; omega
        rw [List.getElem?_take_of_lt hi, List.getElem?_drop] at hc
        have hv' : vs[fl.offset + i]? = some v := by
          have := (Array.getElem?_eq_some_iff.1 hv).1
          simp at this
          rw [Array.getElem?_extract, if_pos (by omega)] at hv
          exact hv
        exact hh _ c v hc hv'
      · rw [if_neg hlen] at hd; cases hd
    | false =>
      simp only [Bool.false_eq_true, if_false] at hd
      have hlt : fl.offset < vs.size := by rw [hl']; exact (List.getElem?_eq_some_iff.1 hd).1
      have hv : vs[fl.offset]? = some vs[fl.offset] := Array.getElem?_eq_getElem hlt
      exact ⟨vs[fl.offset], by simp [Instr.field, run_underlying hu, hf, part, asAgg, l1, hv], hh _ c _ hd hv⟩

end
end Go.Proofs.YtbmnlkfgkdallaaGreatDoor.Lift

/-
  Part E of the small logic: pval_sound.
-/
namespace Go.Proofs.YtbmnlkfgkdallaaGreatDoor.Lift
set_option linter.unusedSimpArgs false
set_option linter.unusedVariables false
set_option linter.unnecessarySimpa false
open Go
section
variable {X : Ctx} {G : Gh} {s : St} {a : Act} {w : World}

theorem map_true {α : Type} {o : Option α} {c : Prop} {y : α} (h : o.map (True, ·) = some (c, y)) : o = some y := by
  cases o with
  | none => cases h
  | some z => simp at h; rw [h.2]

theorem pick_run (b : Bool) (x y : Value) : (do pure (Next.value (if ← asBool (.bool b) then x else y)) : Sem Next).run X.P w = .ok (.value (if b then x else y)) w := by
  simp [asBool]

theorem bound_sound (R : Rel X G s a w) {d : Nat} {x : Option Operand} {n : Int} (h : bound X (get s) d x = some n) :
    (x = none ∧ n = d) ∨ ∃ y k, x = some y ∧ a.eval y = .int k n := by
  cases x with
  | none => simp [bound] at h; exact .inl ⟨rfl, h.symm⟩
  | some y =>
    simp only [bound] at h
    split at h
    · rename_i k m hy
      cases h
      exact .inr ⟨y, k, rfl, (prim_of (evl_sound R hy)).1⟩
    · cases h

theorem slice_run {P : Program} {w : World} {t e : TypeId} {i : TypeInfo} (hu : P.underlying t = some (.slice e)) (hi : P.info? e = some i) (b : Option Addr) (len cap : Nat) (lo hi' : Option Value) (l h : Int)
    (hlo : (lo = none ∧ l = 0) ∨ ∃ k, lo = some (.int k l)) (hhi : (hi' = none ∧ h = len) ∨ ∃ k, hi' = some (.int k h)) (h0 : 0 ≤ l) (h1 : l ≤ h) (h2 : h ≤ cap) :
    (Instr.sliceAt t (.slice b len cap) lo hi' none).run P w = .ok (.slice (if cap = l.toNat then b else b.map fun q => q.add (l.toNat * i.size)) (h.toNat - l.toNat) (cap - l.toNat)) w := by
  have hl' : (l.toNat : Int) = l := Int.toNat_of_nonneg h0
  have hh' : (h.toNat : Int) = h := Int.toNat_of_nonneg (by omega)
  have hsz : (sizeOf e).run P w = .ok i.size w := by simp [sizeOf, typeInfo, hi]
  have c1 : l ≤ (h.toNat : Int) := by omega
  rcases hlo with ⟨rfl, rfl⟩ | ⟨k, rfl⟩ <;> rcases hhi with ⟨rfl, rfl⟩ | ⟨k', rfl⟩
  all_goals simp [Instr.sliceAt, Instr.slice, run_underlying hu, Instr.sliceBounds, Instr.sliceBound, asIntOf, hsz]
  all_goals (try simp [h0, h1, h2])
  all_goals (try (rw [if_pos (by omega : (0 : Int) ≤ h), if_pos (by omega)]))
  all_goals (try (intros; omega))

theorem sl_slice {w : World} {D : Nat → Nat → Prop} {els : List (List DV)} {b : Option Addr} {cap : Nat} (hr : RV D w (.sl els) (.slice b els.length cap)) {E : Nat} (hE : ∀ e ∈ els, e.length = E) (l h : Nat) (h1 : l ≤ h) (h2 : h ≤ els.length) (hcap : els.length ≤ cap) :
    RV D w (.sl ((els.take h).drop l)) (.slice (if cap = l then b else b.map fun q => q.add (l * E)) (h - l) (cap - l)) := by
  by_cases hlh : l = h
  · subst hlh
    have : (els.take l).drop l = [] := by simp
    rw [this, Nat.sub_self]
    exact .sl0 _ _
  · have hlen : ((els.take h).drop l).length = h - l := by simp; omega
    generalize hL : (els.take h).drop l = L at *
    rw [← hlen]
    have hne : cap ≠ l := by omega
    rw [if_neg hne]
    generalize hn : els.length = n at *
    cases hr with
    | sl0 => simp only [List.length_nil] at *; omega
    | sl _ b o _ E' val hl' hc' hE' hcell hc hD hh =>
      have hEE : E' = E := by
        cases els with
        | nil => simp only [List.length_nil] at *; omega
        | cons e r => rw [← hE' e (by simp), hE e (by simp)]
      subst hEE
      simp only [Option.map_some, addr_add]
      have hmem : ∀ e ∈ L, e ∈ els := fun e he => by rw [← hL] at he; exact List.mem_of_mem_take (List.mem_of_mem_drop he)
      have hget : ∀ i, i < L.length → L[i]? = els[l + i]? := fun i hi => by
        rw [← hL, List.getElem?_drop, List.getElem?_take_of_lt (by omega)]
      refine .sl L b (o + l * E') (cap - l) E' (fun i j => val (l + i) j) (by omega) (by omega) (fun e he => hE' e (hmem e he)) (fun e he => hcell e (hmem e he)) (fun i j hi hj => ?_) (fun i j hi hj => ?_) (fun i j e c he hc => ?_)
      · have := hc (l + i) j (by omega) hj
        rw [← this]; congr 2; rw [Nat.add_mul]; omega
      · have := hD (l + i) j (by omega) hj
        have e : o + ((l + i) * E' + j) = o + l * E' + (i * E' + j) := by rw [Nat.add_mul]; omega
        rw [← e]; exact this
      · rw [hget i (List.getElem?_eq_some_iff.1 he).1] at he
        exact hh _ _ _ _ he hc

theorem run_fieldPlace {P : Program} {w : World} {fl : Field} {agg : Bool} {n b o : Nat} (hl : layT P fl.type = some (agg, n)) (hn : n ≠ 0) : (fieldPlace ⟨b, o, none⟩ fl).run P w = .ok ⟨b, o + fl.offset, none⟩ w := by
  obtain ⟨-, l2⟩ := run_lay (w := w) hl
  simp [fieldPlace, l2, hn, addr_add]

theorem arr_of_list {α : Type} {a : Array α} {l : List α} (h : a.toList = l) : a = l.toArray := by rw [← h]

theorem pcall_sound (R : Rel X G s a w) {k : Call} {t : TypeId} {c : Prop} {y : SV} (h : pcall X (get s) k = some (c, y)) (hc : c) :
    ∃ v, (do let d ← resolve a.eval k t; invoke d.target d.args : Sem Next).run X.P w = .ok (.value v) w ∧ RSV G w y v := by
  unfold pcall at h
  split at h
  case h_1 x t' hcal harg hty =>
    have hc' : k = { callee := .builtin .len, args := #[x], argTypes := #[t'] } := by cases k; simp only at hcal harg hty; rw [hcal, arr_of_list harg, arr_of_list hty]
    split at h
    · rename_i E els hE hs
      cases h
      obtain ⟨e', ie, hu, hie, hsz⟩ := elem_run hE
      obtain ⟨q, hq, hq'⟩ := Option.bind_eq_some_iff.1 hs
      obtain ⟨b, cap, hv, hr, hcap⟩ := slOf_sound hq' (evl_sound R hq)
      have hbig : els.length ≤ BIG := by have := RV.fit hr; simp only [DV.fit] at this; exact this.1
      refine ⟨_, ?_, .prim _ ?_⟩
      · simp [hc', hv, resolve, invoke, builtin, Builtin.len_, run_underlying hu, goInt]
      · show intOK .i64 _
        rw [intOK_i64]
        unfold BIG at hbig
        omega
    · cases h
  case h_2 x z hcal harg =>
    have hc' : k = { callee := .builtin .max, args := #[x, z], argTypes := k.argTypes } := by cases k; simp only at hcal harg; rw [hcal, arr_of_list harg]
    split at h
    · rename_i k p k' q hx hy
      cases h
      have hx' := prim_of (evl_sound R hx)
      have hy' := prim_of (evl_sound R hy)
      refine ⟨.int k (if q > p then q else p), ?_, .prim _ ?_⟩
      · rw [hc']
        simp [hx'.1, hy'.1, resolve, invoke, builtin, run_max_int2]
      show intOK _ _
      split
      · exact hc
      · exact hx'.2
    · cases h
  case h_3 x z hcal harg =>
    have hc' : k = { callee := .builtin .min, args := #[x, z], argTypes := k.argTypes } := by cases k; simp only at hcal harg; rw [hcal, arr_of_list harg]
    split at h
    · rename_i k p k' q hx hy
      cases h
      have hx' := prim_of (evl_sound R hx)
      have hy' := prim_of (evl_sound R hy)
      refine ⟨.int k (if q < p then q else p), ?_, .prim _ ?_⟩
      · rw [hc']
        simp [hx'.1, hy'.1, resolve, invoke, builtin, run_min_int2]
      show intOK _ _
      split
      · exact hc
      · exact hx'.2
    · cases h
  case h_4 => cases h

set_option maxHeartbeats 1000000 in
/-- WHAT AN OPERATION THAT WRITES NOTHING GIVES IN THE MODEL -/
theorem pval_sound (R : Rel X G s a w) {o : Oper} {c : Prop} {y : SV} (h : pval X (get s) o = some (c, y)) (hc : c) :
    ∃ v, (execOp a.eval o).run X.P w = .ok (.value v) w ∧ RSV G w y v := by
  unfold pval at h
  split at h
  case h_1 x hop => exact ⟨a.eval x, by simp [execOp, hop], evl_sound R (map_true h)⟩
  case h_2 x hop => exact ⟨a.eval x, by simp [execOp, hop], evl_sound R (map_true h)⟩
  case h_3 x p q hop =>
    split at h
    · rename_i hx
      have hv := (prim_of (evl_sound R hx)).1
      exact ⟨a.eval p, by simp [execOp, hop, hv, asBool], evl_sound R (map_true h)⟩
    · rename_i hx
      have hv := (prim_of (evl_sound R hx)).1
      exact ⟨a.eval q, by simp [execOp, hop, hv, asBool], evl_sound R (map_true h)⟩
    · cases h
  case h_4 op t x z yt hop =>
    split at h
    · rename_i k p k' q hx hy
      split at h
      · subst_vars
        have hx' := (prim_of (evl_sound R hx)).1
        have hy' := (prim_of (evl_sound R hy)).1
        obtain ⟨v, h1, h2⟩ := intOp_sound (X := X) (G := G) (w := w) h hc t
        exact ⟨v, by simp [execOp, hop, hx', hy', eqGuard_int, h1], h2⟩
      · cases h
    · rename_i p q hx hy
      have hx' := (prim_of (evl_sound R hx)).1
      have hy' := (prim_of (evl_sound R hy)).1
      split at h
      · rename_i hb
        have hu := bool_run hb
        split at h
        · cases h; exact ⟨_, by simp [execOp, hop, hx', hy', eqGuard_bool, run_eql_bool _ _ _ _ hu], .prim _ trivial⟩
        · cases h; exact ⟨_, by simp [execOp, hop, hx', hy', eqGuard_bool, run_neq_bool _ _ _ _ hu], .prim _ trivial⟩
        · cases h
      · cases h
    · cases h
  case h_5 op t x hop =>
    split at h
    · rename_i b hx
      cases h
      have hx' := (prim_of (evl_sound R hx)).1
      exact ⟨_, by simp [execOp, hop, hx', Op.unary], .prim _ trivial⟩
    · rename_i k n hx
      cases h
      have hx' := (prim_of (evl_sound R hx)).1
      exact ⟨_, by simp [execOp, hop, hx', Op.unary, Op.intArith, -Int.zero_sub, wrap_of_ok hc], .prim _ hc⟩
    · cases h
  case h_6 x i hop =>
    split at h
    · rename_i cs hx
      cases hi : cs[i]? with
      | none => simp [hi] at h
      | some d =>
        simp [hi] at h
        obtain ⟨-, rfl⟩ := h
        have hr := evl_sound R hx
        generalize hv : a.eval x = v at hr
        cases hr with
        | tup _ vs hl hh =>
          have hlt : i < vs.size := by rw [hl]; exact (List.getElem?_eq_some_iff.1 hi).1
          have hv' : vs[i]? = some vs[i] := Array.getElem?_eq_getElem hlt
          exact ⟨vs[i], by simp [execOp, hop, hv, Instr.extract, hv'], hh i d _ hi hv'⟩
    · cases h
  case h_7 t x f hop =>
    split at h
    · rename_i agg off n y' hf hx
      cases hd : readD (cellsD y') agg off n with
      | none => simp [hd] at h
      | some d =>
        rw [hd] at h
        simp only [Option.map_some, Option.some.injEq, Prod.mk.injEq] at h
        obtain ⟨rfl, rfl⟩ := h
        obtain ⟨u, h1, h2⟩ := field_part hf hc (evl_sound R hx) hd
        exact ⟨u, by simp [execOp, hop, h1], h2⟩
    · cases h
  case h_8 t x f hop =>
    split at h
    · rename_i agg foff n k off hf hx
      cases h
      obtain ⟨fs, fl, hu, hfl, hl, hn, rfl⟩ := field_run hf
      have hv : a.eval x = _ := evl_sound R hx
      exact ⟨_, by simp [execOp, hop, hv, Instr.fieldAt, run_underlying hu, hfl, Instr.sureAddr, run_fieldPlace hl hn], rfl⟩
    · rename_i agg foff n els i off hf hx
      cases h
      obtain ⟨fs, fl, hu, hfl, hl, hn, rfl⟩ := field_run hf
      obtain ⟨b, o', E, cap, hr, hE, hi, hv⟩ := evl_sound R hx
      exact ⟨_, by simp [execOp, hop, hv, Instr.fieldAt, run_underlying hu, hfl, Instr.sureAddr, run_fieldPlace hl hn]; rfl, b, o', E, cap, hr, hE, hi, by congr 3; omega⟩
    · rename_i agg foff n b off hf hx
      cases h
      obtain ⟨fs, fl, hu, hfl, hl, hn, rfl⟩ := field_run hf
      have hv := (prim_of (evl_sound R hx)).1
      exact ⟨_, by simp [execOp, hop, hv, Instr.fieldAt, run_underlying hu, hfl, Instr.sureAddr, run_fieldPlace hl hn], .prim _ trivial⟩
    · cases h
  case h_9 t x i hop =>
    split at h
    · rename_i yy k n hx hi
      have hn := (prim_of (evl_sound R hi)).1
      split at h
      · rename_i E els hE hs
        split at h
        · rename_i e he
          cases h
          obtain ⟨h0, rfl⟩ := hc
          obtain ⟨e', ie, hu, hie, hsz⟩ := elem_run hE
          obtain ⟨b, cap, hv, hr, -⟩ := slOf_sound hs (evl_sound R hx)
          obtain ⟨b', o', cap', hv', hdp⟩ := dp_of_sl hr he
          have hlt : n.toNat < els.length := (List.getElem?_eq_some_iff.1 he).1
          have hn2 : n < els.length := by omega
          refine ⟨_, ?_, hdp⟩
          simp [execOp, hop, hn, hv', Instr.indexAt, asIntOf, run_underlying hu, sizeOf, typeInfo, hie, hsz, h0, hn2, addr_add]
        · cases h
      · split at h
        · rename_i len E k' off hA _
          cases h
          obtain ⟨h0, h1, h2⟩ := hc
          obtain ⟨e', ie, hu, hie, hsz⟩ := arr_run hA
          have hv : a.eval x = _ := evl_sound R hx
          refine ⟨_, ?_, rfl⟩
          simp [execOp, hop, hn, hv, Instr.indexAt, asIntOf, run_underlying hu, sizeOf, typeInfo, hie, hsz, h0, h1, addr_add, Instr.sureAddr]
        · rename_i len E els j hA _
          split at h
          · rename_i e he
            cases h
            obtain ⟨h0, h1, h2, rfl⟩ := hc
            obtain ⟨e', ie, hu, hie, hsz⟩ := arr_run hA
            obtain ⟨b, o', E', cap, hr, hE', hj, hv⟩ := evl_sound R hx
            have hEE : e.length = E' := hE' e (List.mem_of_getElem? he)
            have hlt : j + n.toNat < els.length := (List.getElem?_eq_some_iff.1 he).1
            refine ⟨_, ?_, b, o', E', cap, hr, hE', hlt, rfl⟩
            simp [execOp, hop, hn, hv, Instr.indexAt, asIntOf, run_underlying hu, sizeOf, typeInfo, hie, hsz, h0, h1, addr_add, Instr.sureAddr]
            rw [hEE, Nat.add_mul]; omega
          · cases h
        · cases h
    · cases h
  case h_10 t x hop =>
    have h' := map_true h
    obtain ⟨z, hz, hz'⟩ := Option.bind_eq_some_iff.1 h'
    obtain ⟨u, h1, h2⟩ := loadAt_sound R (evl_sound R hz) hz'
    exact ⟨u, by simp [execOp, hop, h1], h2⟩
  case h_11 t parts hop =>
    split at h
    · rename_i z pl hz hpl
      split at h
      · rename_i cs hcs
        split at h
        · rename_i ds hds
          split at h
          case isFalse => cases h
          rename_i hcb
          cases h
          obtain ⟨zc, place, hrow, hp, hrun⟩ := run_build_struct (w := w) hz hpl R.nil
          obtain ⟨c', h1, h2⟩ := fillS_sound R pl place hp parts.toList z zc cs hrow hcs
          have h3 := hrun (parts.map fun q => (q.1, a.eval q.2)) c' (by simpa using h1)
          obtain ⟨k1, k2⟩ := toDs_row h2 hds
          refine ⟨.agg c', by simp [execOp, hop, h3], .agg ds c' k1 ((cellB_iff ds).1 hcb) k2, fun i hi => ?_⟩
          obtain ⟨j, hij, hj⟩ := nilsOf_mem hi
          obtain rfl : i = j := by omega
          obtain ⟨t1, t2⟩ := toDs_get hds
          have hil : i < cs.length := (List.getElem?_eq_some_iff.1 hj).1
          have hic : i < c'.size := by rw [h2.1]; exact hil
          have hdi : ds[i]? = some (ds[i]'(by omega)) := List.getElem?_eq_getElem (by omega)
          obtain ⟨z', hz1, hz2⟩ := t2 i _ hdi
          rw [hj] at hz1
          cases hz1
          have hz2' : some (DV.sl []) = some (ds[i]'(by omega)) := hz2
          refine ⟨by rw [hdi, ← hz2'], ?_⟩
          have hr := h2.2 i _ _ hj (Array.getElem?_eq_getElem hic)
          have hr1 : c'[i] = .slice (G.τ 0).1 0 (G.τ 0).2 := hr.1
          rw [R.nil] at hr1
          show c'[i]? = _
          rw [Array.getElem?_eq_getElem hic, hr1]
        · cases h
      · cases h
    · cases h
  case h_12 t x hop =>
    split at h
    · rename_i z hz
      split at h
      · rename_i hct
        cases h
        obtain ⟨q, hq, hq'⟩ := Option.bind_eq_some_iff.1 hz
        refine ⟨.iface t (a.eval x), ?_, .iface t z _ (toD_sound hq' (evl_sound R hq))⟩
        unfold concT at hct
        split at hct
        · cases hct
        · rename_i d hd hu
          simp only [execOp, hop, Instr.makeInterface, Sem.run_bind, run_underlying hu, Result.andThen_ok]
          cases d <;> first | (exact (hd _ rfl).elim) | rfl
        · cases hct
      · cases h
    · cases h
  case h_13 x hop =>
    split at h
    · rename_i k off hx
      cases h
      have hv : a.eval x = _ := evl_sound R hx
      exact ⟨_, by simp [execOp, hop, hv], rfl⟩
    · rename_i els i off hx
      cases h
      have hr := evl_sound R hx
      obtain ⟨b, o', E, cap, hr', hE, hi, hv⟩ := hr
      exact ⟨_, by simp [execOp, hop, hv], b, o', E, cap, hr', hE, hi, rfl⟩
    · rename_i ad hx
      cases h
      have hv := (prim_of (evl_sound R hx)).1
      exact ⟨_, by simp [execOp, hop, hv], .prim _ trivial⟩
    · rename_i f p q hx
      cases h
      have hv := (prim_of (evl_sound R hx)).1
      exact ⟨_, by simp [execOp, hop, hv], .prim _ trivial⟩
    · cases h
  case h_14 sT dT x hop =>
    split at h
    · rename_i k n ks kd hx hs hd
      cases h
      have hv := (prim_of (evl_sound R hx)).1
      have e1 : ∀ {t : TypeId} {k : IntKind}, intT X.P t = some k → X.P.underlying t = some (.int k) := by
        intro t k h
        unfold intT at h
        split at h
        · cases h; assumption
        · cases h
      have u1 := e1 hs
      have u2 := e1 hd
      exact ⟨_, by simp [execOp, hop, hv, convert, run_underlying u1, run_underlying u2, Conv.intToInt, wrap_of_ok hc], .prim _ hc⟩
    · cases h
  case h_15 t x lo hi' hop =>
    split at h
    · rename_i E els hE hs
      split at h
      · rename_i l hh hlo hhi
        cases h
        obtain ⟨h0, h1, h2, h3⟩ := hc
        obtain ⟨e', ie, hu, hie, rfl⟩ := elem_run hE
        obtain ⟨q, hq, hq'⟩ := Option.bind_eq_some_iff.1 hs
        obtain ⟨b, cap, hv, hr, hcap⟩ := slOf_sound hq' (evl_sound R hq)
        have hlo' : (lo.map a.eval = none ∧ l = 0) ∨ ∃ k, lo.map a.eval = some (.int k l) := by
          rcases bound_sound R hlo with ⟨rfl, h⟩ | ⟨z, k, rfl, h⟩
          · exact .inl ⟨rfl, h⟩
          · exact .inr ⟨k, by simp [h]⟩
        have hhi' : (hi'.map a.eval = none ∧ hh = els.length) ∨ ∃ k, hi'.map a.eval = some (.int k hh) := by
          rcases bound_sound R hhi with ⟨rfl, h⟩ | ⟨z, k, rfl, h⟩
          · exact .inl ⟨rfl, h⟩
          · exact .inr ⟨k, by simp [h]⟩
        have hrun := slice_run (w := w) hu hie b els.length cap _ _ l hh hlo' hhi' h0 h1 (by omega)
        have hsl := sl_slice (hv ▸ hr) h3 l.toNat hh.toNat (by omega) (by omega) hcap
        refine ⟨_, ?_, hsl⟩
        simp only [execOp, hop, hv, Option.map_none, hrun, Sem.run_bind, Result.andThen_ok, Sem.run_pure]
      · cases h
    · cases h
  case h_16 c' hop =>
    obtain ⟨v, h1, h2⟩ := pcall_sound R h hc
    exact ⟨v, by simp only [execOp, hop]; exact h1, h2⟩
  case h_17 fn fi ca hop =>
    have key : ∀ {l : List Operand} {vs : List Value}, pvls X (get s) l = some vs → l.map a.eval = vs := by
      intro l
      induction l with
      | nil => intro vs h; cases h; rfl
      | cons x r ih =>
        intro vs h
        simp only [pvls] at h
        split at h
        · rename_i v us hx hr
          cases h
          rw [List.map_cons, ih hr, (prim_of (evl_sound R hx)).1]
        · cases h
    split at h
    · rename_i f1 c1 h1 h2
      cases h
      have e1 : fi.map a.eval = f1.toArray := by rw [← key h1, ← Array.toList_map]
      have e2 : ca.map a.eval = c1.toArray := by rw [← key h2, ← Array.toList_map]
      exact ⟨_, by simp only [execOp, hop, e1, e2]; simp [Instr.makeFunc, Sem.run_bind], .prim _ trivial⟩
    · cases h
  case h_18 => cases h

end
end Go.Proofs.YtbmnlkfgkdallaaGreatDoor.Lift

/-
  Part F of the small logic: steps that write: a local variable is made, a cell is stored, a slice is made of a literal.
-/
namespace Go.Proofs.YtbmnlkfgkdallaaGreatDoor.Lift
set_option linter.unusedSimpArgs false
set_option linter.unusedVariables false
set_option linter.unnecessarySimpa false
open Go

def hasLoc (d : Nat) : SV → Bool
  | .loc k _ => k == d
  | _ => false
def hasTok (d : Nat) : SV → Bool
  | .own t _ => t == d
  | _ => false
def anyLoc (d : Nat) : List SV → Bool
  | [] => false
  | x :: r => hasLoc d x || anyLoc d r
def anyTok (d : Nat) : List SV → Bool
  | [] => false
  | x :: r => hasTok d x || anyTok d r
/-- the name of a local variable is not in use -/
def freshL (d : Nat) : St → Bool
  | [] => true
  | (l, v) :: r => (match l with | .loc k => k != d | _ => true) && (match v with | .one x => !hasLoc d x | .row cs => !anyLoc d cs | .tk _ _ => true | .ob _ => true) && freshL d r
def freshT (d : Nat) : St → Bool
  | [] => true
  | (l, v) :: r => (match l with | .tok k => k != d | _ => true) && (match v with | .one x => !hasTok d x | .row cs => !anyTok d cs | .tk _ _ => true | .ob _ => true) && freshT d r

theorem get_mem {s : St} {l : Loc} {v : LV} (h : get s l = some v) : (l, v) ∈ s := by
  induction s with
  | nil => cases h
  | cons p r ih =>
    obtain ⟨m, u⟩ := p
    simp only [get] at h
    split at h
    · cases h; subst_vars; simp
    · exact List.mem_cons_of_mem _ (ih h)

theorem anyLoc_iff (d : Nat) (cs : List SV) : anyLoc d cs = false ↔ d ∉ cs.flatMap SV.locs := by
  induction cs with
  | nil => simp [anyLoc]
  | cons x r ih => cases x <;> simp [anyLoc, hasLoc, SV.locs, ih]; exact fun _ => ne_comm

theorem anyTok_iff (d : Nat) (cs : List SV) : anyTok d cs = false ↔ d ∉ cs.flatMap SV.toks := by
  induction cs with
  | nil => simp [anyTok]
  | cons x r ih => cases x <;> simp [anyTok, hasTok, SV.toks, ih]; exact fun _ => ne_comm

theorem freshL_get {d : Nat} {s : St} (h : freshL d s = true) {l : Loc} {v : LV} (hg : get s l = some v) : ∀ k ∈ l.locs ++ v.locs, k ≠ d := by
  have hm := get_mem hg
  induction s with
  | nil => cases hm
  | cons p r ih =>
    obtain ⟨m, u⟩ := p
    simp only [freshL, Bool.and_eq_true] at h
    rcases List.mem_cons.1 hm with he | hm
    · cases he
      intro k hk he
      subst he
      rcases List.mem_append.1 hk with hk | hk
      · have h1 := h.1.1
        cases l <;> simp [Loc.locs] at hk
        subst hk
        simp at h1
      · have h2 := h.1.2
        cases v with
        | one x => cases x <;> simp [LV.locs, SV.locs] at hk; subst hk; simp [hasLoc] at h2
        | row cs =>
          simp only [Bool.not_eq_true'] at h2
          exact (anyLoc_iff _ _).1 h2 hk
        | tk => simp [LV.locs] at hk
        | ob => simp [LV.locs] at hk
    · by_cases he : m = l
      · subst he
        simp only [get, if_true] at hg
        cases hg
        intro k hk he
        subst he
        rcases List.mem_append.1 hk with hk | hk
        · have h1 := h.1.1
          cases m <;> simp [Loc.locs] at hk
          subst hk
          simp at h1
        · have h2 := h.1.2
          cases v with
          | one x => cases x <;> simp [LV.locs, SV.locs] at hk; subst hk; simp [hasLoc] at h2
          | row cs =>
            simp only [Bool.not_eq_true'] at h2
            exact (anyLoc_iff _ _).1 h2 hk
          | tk => simp [LV.locs] at hk
          | ob => simp [LV.locs] at hk
      · simp only [get, he, if_false] at hg
        exact ih h.2 hg hm

theorem freshT_get {d : Nat} {s : St} (h : freshT d s = true) {l : Loc} {v : LV} (hg : get s l = some v) : ∀ k ∈ l.toks ++ v.toks, k ≠ d := by
  induction s with
  | nil => cases hg
  | cons p r ih =>
    obtain ⟨m, u⟩ := p
    simp only [freshT, Bool.and_eq_true] at h
    by_cases he : m = l
    · subst he
      simp only [get, if_true] at hg
      cases hg
      intro k hk he
      subst he
      rcases List.mem_append.1 hk with hk | hk
      · have h1 := h.1.1
        cases m <;> simp [Loc.toks] at hk
        subst hk
        simp at h1
      · have h2 := h.1.2
        cases v with
        | one x => cases x <;> simp [LV.toks, SV.toks] at hk; subst hk; simp [hasTok] at h2
        | row cs =>
          simp only [Bool.not_eq_true'] at h2
          exact (anyTok_iff _ _).1 h2 hk
        | tk => simp [LV.toks] at hk
        | ob => simp [LV.toks] at hk
    · simp only [get, he, if_false] at hg
      exact ih h.2 hg

/-- every function, every depth; in a round's frame where the walk is of a round -/
def Ctx.F (X : Ctx) : Fence := { Fence.wide with round := X.rd }

theorem callsF {X : Ctx} {n : Nat} {P : Program} {f : FuncId} {args : Array Value} {w : World} {R : Ending → World → Prop} (h : Calls P f args w R) : CallsIn X.F n P f args w R := callsIn_wide.2 h

/-- what is asked of an operation's outcome -/
def upn (P : Program) (o : Oper) (a : Act) (next : Act → World → Prop) (Q : Exit → Act → World → Prop) : Result Next → Prop
  | .ok (.value v) w' => next (a.put o.dst v) w'
  | .ok .skip w' => next (a.put o.dst undef) w'
  | .ok (.enter f args) w' => Calls P f args w' fun
      | .returned v, w'' => next (a.put o.dst v) w''
      | .panicked chain, w'' => Q (.panic chain) a w''
      | .outgrown, _ => LetsOut Q
  | _ => False

theorem upn_value (P : Program) (o : Oper) (a : Act) (next : Act → World → Prop) (Q : Exit → Act → World → Prop) (v : Value) (w : World) : upn P o a next Q (.ok (.value v) w) = next (a.put o.dst v) w := rfl
theorem upn_skip (P : Program) (o : Oper) (a : Act) (next : Act → World → Prop) (Q : Exit → Act → World → Prop) (w : World) : upn P o a next Q (.ok .skip w) = next (a.put o.dst undef) w := rfl
theorem upn_enter (P : Program) (o : Oper) (a : Act) (next : Act → World → Prop) (Q : Exit → Act → World → Prop) (f : FuncId) (args : Array Value) (w : World) : upn P o a next Q (.ok (.enter f args) w) = Calls P f args w fun
      | .returned v, w'' => next (a.put o.dst v) w''
      | .panicked chain, w'' => Q (.panic chain) a w''
      | .outgrown, _ => LetsOut Q := rfl

theorem opIn {X : Ctx} {o : Oper} {a : Act} {w : World} {next : Act → World → Prop} {Q : Exit → Act → World → Prop} (hd : ∀ c, o.op ≠ .defer c) (h : upn X.P o a next Q ((execOp a.eval o).run X.P w)) : o.wpIn X.F 0 X.P a w next Q := by
  refine ⟨fun _ _ => trivial, ?_⟩
  rw [Oper.semAt_eq _ _ _ hd]
  generalize (execOp a.eval o).run X.P w = r at h
  cases r with
  | ok v w' =>
    cases v <;> simp only [upn, Oper.uponIn] at h ⊢
    all_goals first | exact h | exact h.elim | exact ⟨fun h => (by cases h), callsF h⟩
  | halt e w' => exact h.elim

theorem pval_nodefer {X : Ctx} {g : Rd} {o : Oper} {p : Prop × SV} (h : pval X g o = some p) (c : Call) : o.op ≠ .defer c := by
  intro e
  simp [pval, e] at h

/-- AN OPERATION TAKES A STATE TO A STATE, IN EVERY FRAME AND WORLD THAT FITS -/
def StepOK (X : Ctx) (s : St) (o : Oper) (s' : St) : Prop :=
  ∀ (G : Gh) (a : Act) (w : World), Rel X G s a w → ∀ (next : Act → World → Prop) (Q : Exit → Act → World → Prop),
    (∀ G' a' w', Rel X G' s' a' w' → next a' w') → o.wpIn X.F 0 X.P a w next Q

section
variable {X : Ctx} {G : Gh} {s : St} {a : Act} {w : World}

theorem put_tmps (a : Act) (dst : Option Tmp) (v : Value) : (a.put dst v).tmps.size = a.tmps.size ∧ (a.put dst v).defers = a.defers := by
  cases dst <;> simp [Act.put]

theorem put_get_same (a : Act) (d : Nat) (v : Value) (h : d < a.tmps.size) : (a.put (some d) v).tmps.getD d undef = v := by
  simp [Act.put, h]

theorem put_get_ne (a : Act) (d n : Nat) (v : Value) (h : n ≠ d) : (a.put (some d) v).tmps.getD n undef = a.tmps.getD n undef := by
  simp [Act.put, Array.getElem?_setIfInBounds_ne (Ne.symm h)]

theorem alloc_old (w : World) (o : Obj) (b : Nat) (h : b < w.heap.size) : (w.alloc o).heap[b]? = w.heap[b]? := by
  simp only [World.alloc, Array.getElem?_push]
  rw [if_neg (by omega)]

theorem alloc_new (w : World) (o : Obj) : (w.alloc o).heap[w.heap.size]? = some o := by
  show (w.heap.push o)[w.heap.size]? = some o
  simp

/-- nothing but a slot has turned; memory may have grown by data -/
theorem Rel.setSlot {G' : Gh} {w' : World} (R : Rel X G s a w) {B : Nat → Prop} (T : Trans X G a w G' a w' B) (hν : G'.ν = G.ν) (hτ : G'.τ = G.τ) (hB : ∀ b, ¬ B b) {d : Nat} (hd : d < X.n) {x : SV} {v : Value} (hx : RSV G' w' x v) :
    Rel X G' (upd s (.slot d) (.one x)) (a.put (some d) v) w' := by
  have hp := put_tmps a (some d) v
  have T' : Trans X G a w G' (a.put (some d) v) w' B := ⟨hp.1, fun h => (T.defers h).put hp.2, T.os, T.tape, T.output, T.size, T.keep, T.own, T.grow, T.new, T.nil⟩
  refine R.step T' (fun l u => l = .slot d ∧ u = .one x) (fun l u h => ?_) (fun l u h => ?_) (fun l u l' u' b h h' hb hb' => h.1.trans h'.1.symm)
  · rw [get_upd] at h
    by_cases hl : Loc.slot d = l
    · rw [if_pos hl] at h
      cases h
      exact .inl ⟨hl.symm, rfl⟩
    · rw [if_neg hl] at h
      exact .inr ⟨h, fun n hn => put_get_ne _ _ _ _ (fun e => hl (by rw [hn, e])), fun b _ => hB b, fun k _ => by rw [hν], fun t _ => by rw [hτ]⟩
  · obtain ⟨rfl, rfl⟩ := h
    refine ⟨?_, fun b hb => by cases hb⟩
    show RSV G' w' x _
    rw [put_get_same _ _ _ (by rw [R.size]; exact hd)]
    exact hx

theorem Trans.refl (X : Ctx) (G : Gh) (a : Act) (w : World) (hn : G.τ 0 = (none, 0)) : Trans X G a w G a w (fun _ => False) :=
  ⟨rfl, fun h => h, rfl, rfl, rfl, Nat.le_refl _, fun _ _ _ => rfl, fun _ h => h.elim, Grow.refl _ _, fun _ _ h k => absurd h k, hn⟩

/-- an operation that writes nothing -/
theorem step_pval {o : Oper} {c : Prop} {y : SV} (h : pval X (get s) o = some (c, y)) (hc : c) {d : Nat} (hd : o.dst = some d) (hn : d < X.n) : StepOK X s o (upd s (.slot d) (.one y)) := by
  intro G a w R next Q hK
  obtain ⟨v, h1, h2⟩ := pval_sound R h hc
  refine opIn (by first | exact pval_nodefer h | (intro c e; rw [ho] at e; cases e)) ?_
  rw [h1, upn_value, hd]
  exact hK G _ w (R.setSlot (Trans.refl X G a w R.nil) rfl rfl (fun _ h => h) hn h2)

theorem step_pval_none {o : Oper} {c : Prop} {y : SV} (h : pval X (get s) o = some (c, y)) (hc : c) (hd : o.dst = none) : StepOK X s o s := by
  intro G a w R next Q hK
  obtain ⟨v, h1, h2⟩ := pval_sound R h hc
  refine opIn (by first | exact pval_nodefer h | (intro c e; rw [ho] at e; cases e)) ?_
  rw [h1, upn_value, hd]
  exact hK G _ w R

theorem trans_alloc (R : Rel X G s a w) (o : Obj) {G' : Gh} (hD : G'.D = G.D) (hn : G'.τ 0 = (none, 0)) : Trans X G a w G' a (w.alloc o) (fun _ => False) := by
  have hcell : ∀ b o', G.D b o' → (w.alloc o).cell? ⟨b, o', none⟩ = w.cell? ⟨b, o', none⟩ := fun b o' hd => World.cell?_alloc_lt _ _ _ (R.wf.lt hd)
  exact ⟨rfl, fun h => h.heap fun b hb => alloc_old w o b hb, rfl, rfl, rfl, by simp, fun b hb _ => alloc_old w o b hb, fun _ h => h.elim, fun b o' hd => ⟨by rw [hD]; exact hd, hcell b o' hd⟩, fun b o' h k => absurd (hD ▸ h) k, hn⟩

def cellBS : List SV → Bool
  | [] => true
  | x :: r => x.isCell && cellBS r

theorem cellBS_iff (l : List SV) : cellBS l = true ↔ ∀ c ∈ l, c.isCell = true := by
  induction l with
  | nil => simp [cellBS]
  | cons c r ih => simp [cellBS, ih]

theorem RSV.ren {G G' : Gh} {w : World} {x : SV} {v : Value} (hD : G'.D = G.D) (hl : ∀ k ∈ x.locs, G'.ν k = G.ν k) (ht : ∀ t ∈ x.toks, G'.τ t = G.τ t) (h : RSV G w x v) : RSV G' w x v :=
  h.mono (fun _ _ hd => ⟨hD ▸ hd, rfl⟩) hl ht

/-- a local variable of one's own: its block is the newest -/
theorem Rel.newLoc (R : Rel X G s a w) {d : Nat} (hd : d < X.n) (hf : freshL d s = true) {cs : List SV} {c : Array Value} (hrow : RowOf G w cs c) (hcell : cellBS cs = true) (hcs : anyLoc d cs = false) (t : TypeId) :
    ∃ G', Rel X G' (upd (upd s (.slot d) (.one (.loc d 0))) (.loc d) (.row cs)) (a.put (some d) (.pointer (some ⟨w.heap.size, 0, none⟩))) (w.alloc (.cells c t)) := by
  refine ⟨{ G with ν := fun k => if k = d then w.heap.size else G.ν k }, ?_⟩
  have hp := put_tmps a (some d) (.pointer (some ⟨w.heap.size, 0, none⟩))
  have T0 := trans_alloc R (.cells c t) (G' := { G with ν := fun k => if k = d then w.heap.size else G.ν k }) rfl R.nil
  have T : Trans X G a w { G with ν := fun k => if k = d then w.heap.size else G.ν k } (a.put (some d) (.pointer (some ⟨w.heap.size, 0, none⟩))) (w.alloc (.cells c t)) (fun _ => False) := ⟨hp.1, fun h => (T0.defers h).put hp.2, T0.os, T0.tape, T0.output, T0.size, T0.keep, T0.own, T0.grow, T0.new, T0.nil⟩
  refine R.step T (fun l u => (l = .slot d ∧ u = .one (.loc d 0)) ∨ (l = .loc d ∧ u = .row cs)) (fun l u h => ?_) (fun l u h => ?_) (fun l u l' u' b h h' hb hb' => ?_)
  · rw [get_upd, get_upd] at h
    by_cases h1 : Loc.loc d = l
    · rw [if_pos h1] at h; cases h; exact .inl (.inr ⟨h1.symm, rfl⟩)
    · rw [if_neg h1] at h
      by_cases h2 : Loc.slot d = l
      · rw [if_pos h2] at h; cases h; exact .inl (.inl ⟨h2.symm, rfl⟩)
      · rw [if_neg h2] at h
        refine .inr ⟨h, fun n hn => put_get_ne _ _ _ _ (fun e => h2 (by rw [hn, e])), fun b _ h => h, fun k hk => ?_, fun t _ => rfl⟩
        have := freshL_get hf h k hk
        simp [this]
  · rcases h with ⟨rfl, rfl⟩ | ⟨rfl, rfl⟩
    · refine ⟨?_, fun b hb => by cases hb⟩
      simp only [Holds, RSV]
      rw [put_get_same _ _ _ (by rw [R.size]; exact hd)]
      simp
    · refine ⟨⟨c, t, by simp only [if_true]; exact alloc_new _ _, Nat.le_of_eq hrow.1.symm, fun i x hx => ?_⟩, fun b hb => ?_⟩
      · have hm := List.mem_of_getElem? hx
        refine ⟨(cellBS_iff cs).1 hcell x hm, ?_⟩
        have hlt : i < c.size := by rw [hrow.1]; exact (List.getElem?_eq_some_iff.1 hx).1
        refine ⟨c[i], Array.getElem?_eq_getElem hlt, ?_⟩
        have hr := hrow.2 i x _ hx (Array.getElem?_eq_getElem hlt)
        refine hr.mono T0.grow (fun k hk => ?_) (fun t _ => rfl)
        have : k ≠ d := fun e => by
          subst e
          exact (anyLoc_iff _ _).1 hcs (List.mem_flatMap.2 ⟨x, hm, hk⟩)
        simp [this]
      · simp only [blkOf, if_true, Option.some.injEq] at hb
        subst hb
        refine ⟨.inl (Nat.le_refl _), .inl R.ext.size, fun _ o hD => ?_⟩
        exact absurd (R.wf.lt hD) (Nat.lt_irrefl _)
  · rcases h with ⟨rfl, rfl⟩ | ⟨rfl, rfl⟩
    · cases hb
    · rcases h' with ⟨rfl, rfl⟩ | ⟨rfl, rfl⟩
      · cases hb'
      · rfl

theorem step_alloc {o : Oper} {t : TypeId} (ho : o.op = .alloc t) {d : Nat} (hd : o.dst = some d) (hn : d < X.n) {cs : List SV} (hz : zeroT X.P t = some cs) (hc : cellBS cs = true) (hf : freshL d s = true) :
    StepOK X s o (upd (upd s (.slot d) (.one (.loc d 0))) (.loc d) (.row cs)) := by
  intro G a w R next Q hK
  unfold zeroT at hz
  split at hz
  · rename_i i hi
    split at hz
    · rename_i z hzv
      have hrow := zeroS_sound (w := w) R.nil hz
      simp only [Array.toArray_toList] at hrow
      have hnl : anyLoc d cs = false := by
        have : ∀ (l : List Value) (cs : List SV), zeroS l = some cs → anyLoc d cs = false := by
          intro l
          induction l with
          | nil => intro cs h; cases h; rfl
          | cons v r ih =>
            intro cs h
            simp only [zeroS] at h
            split at h
            · rename_i x xs hx hxs
              cases h
              simp only [anyLoc, ih _ hxs, Bool.or_false]
              unfold constS at hx
              split at hx
              · cases hx; rfl
              · rename_i vs
                cases hq : constDs vs.toList with
                | none => rw [hq] at hx; cases hx
                | some ds => rw [hq] at hx; cases hx; rfl
              · split at hx
                · cases hx; rfl
                · cases hx
            · cases h
        exact this _ _ hz
      obtain ⟨G', R'⟩ := R.newLoc hn hf hrow hc hnl t
      refine opIn (by first | exact pval_nodefer h | (intro c e; rw [ho] at e; cases e)) ?_
      simp only [execOp, ho, Instr.alloc, zeroValue, typeInfo, run_program, hi, hzv, newVar, newRow, run_newObj, Sem.run_bind, Sem.run_pure, Result.andThen_ok, upn_value, hd]
      exact hK G' _ _ R'
    · cases hz
  · cases hz

theorem step_box {o : Oper} {t : TypeId} {x : Operand} (ho : o.op = .box t x) {d : Nat} (hd : o.dst = some d) (hn : d < X.n) {y : SV} (hy : evl X (get s) x = some y) (hc : cellBS (cellsS y) = true) (hf : freshL d s = true) (hnl : hasLoc d y = false) :
    StepOK X s o (upd (upd s (.slot d) (.one (.loc d 0))) (.loc d) (.row (cellsS y))) := by
  intro G a w R next Q hK
  have hrow : RowOf G w (cellsS y) (a.eval x).cells := cellsS_sound R.nil (evl_sound R hy)
  have hnl' : anyLoc d (cellsS y) = false := by
    cases y with
    | v y =>
      have : ∀ l : List DV, anyLoc d (l.map SV.v) = false := by
        intro l
        induction l with
        | nil => rfl
        | cons c r ih => simp [anyLoc, hasLoc, ih]
      exact this _
    | loc k off => simp [cellsS, anyLoc, hasLoc] at hnl ⊢; exact hnl
    | dp els i off => rfl
    | own t els => rfl
    | ag cs ns =>
      have : ∀ (l : List DV) (k : Nat), anyLoc d (agC ns k l) = false := by
        intro l
        induction l with
        | nil => intro k; rfl
        | cons c r ih => intro k; simp only [agC, anyLoc, ih, Bool.or_false]; split <;> rfl
      exact this _ _
  obtain ⟨G', R'⟩ := R.newLoc hn hf hrow hc hnl' t
  refine opIn (by first | exact pval_nodefer h | (intro c e; rw [ho] at e; cases e)) ?_
  simp only [execOp, ho, Instr.box, newVar, newRow, run_newObj, Sem.run_bind, Sem.run_pure, Result.andThen_ok, upn_value, hd]
  exact hK G' _ _ R'

end
end Go.Proofs.YtbmnlkfgkdallaaGreatDoor.Lift
