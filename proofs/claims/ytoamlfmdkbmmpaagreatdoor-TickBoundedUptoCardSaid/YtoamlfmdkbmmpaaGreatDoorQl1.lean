import Derived.WalkKit
import Derived.OrdersIn
import Derived.RangeFuncLeaves
import Derived.RangeFuncIn
import Derived.RangeFuncRecord
namespace Go.Proofs.YtoamlfmdkbmmpaaGreatDoor.Lift
set_option linter.unusedSimpArgs false
set_option linter.unusedVariables false
set_option linter.unnecessarySimpa false
open Go
section
inductive DV where
 | prim (v:Value)
 | agg (cs:List DV)
 | tup (cs:List DV)
 | sl (els:List (List DV))
 | iface (t:TypeId) (x:DV)
 | ref (cs:List DV)
def BIG:Nat:=2147483648
def primOK:Value→Prop
 | .int k n=>k.min≤n∧n≤k.max
 | .agg _=>False
 | .tuple _=>False
 | .slice none n c=>n=0∧c=0
 | .iface _ _=>False
 | _=>True
def DV.isCell:DV→Bool
 | .agg _=>false
 | .tup _=>false
 | _=>true
def DV.isAgg:DV→Bool
 | .agg _=>true
 | _=>false
inductive RV (D:Nat→Nat→Prop)(w:World):DV→Value→Prop
 | prim (v:Value) (h:primOK v):RV D w (.prim v) v
 | agg (cs:List DV) (vs:Array Value) (hl:vs.size=cs.length) (hcell:∀ c ∈ cs,c.isCell=true)
   (h:∀ (i:Nat) (c:DV) (v:Value),cs[i]? = some c→vs[i]? = some v→RV D w c v):RV D w (.agg cs) (.agg vs)
 | tup (cs:List DV) (vs:Array Value) (hl:vs.size=cs.length)
   (h:∀ (i:Nat) (c:DV) (v:Value),cs[i]? = some c→vs[i]? = some v→RV D w c v):RV D w (.tup cs) (.tuple vs)
 | sl0 (b:Option Addr) (cap:Nat):RV D w (.sl []) (.slice b 0 cap)
 | sl (els:List (List DV)) (b o cap E:Nat) (val:Nat→Nat→Value) (hlen:els.length≤BIG) (hcap:els.length≤cap) (hE:∀ e ∈ els,e.length=E)
   (hcell:∀ e ∈ els,∀ c ∈ e,DV.isCell c=true)
   (hc:∀ i j,i<els.length→j<E→w.cell? ⟨b,o+(i * E+j),none⟩=some (val i j))
   (hD:∀ i j,i<els.length→j<E→D b (o+(i * E+j)))
   (h:∀ (i j:Nat) (e:List DV) (c:DV),els[i]? = some e→e[j]? = some c→RV D w c (val i j)) :
   RV D w (.sl els) (.slice (some ⟨b,o,none⟩) els.length cap)
 | iface (t:TypeId) (x:DV) (v:Value) (h:RV D w x v):RV D w (.iface t x) (.iface t v)
 | ref (cs:List DV) (b o:Nat) (val:Nat→Value) (hcell:∀ c ∈ cs,DV.isCell c=true)
   (hc:∀ j,j<cs.length→w.cell? ⟨b,o+j,none⟩=some (val j)) (hD:∀ j,j<cs.length→D b (o+j))
   (h:∀ (j:Nat) (c:DV),cs[j]? = some c→RV D w c (val j)):RV D w (.ref cs) (.pointer (some ⟨b,o,none⟩))
def Grow (D:Nat→Nat→Prop)(w:World)(D':Nat→Nat→Prop)(w':World):Prop:=
 ∀ b o,D b o→D' b o∧w'.cell? ⟨b,o,none⟩=w.cell? ⟨b,o,none⟩
theorem Grow.refl (D:Nat→Nat→Prop)(w:World):Grow D w D w:=fun _ _ h=>⟨h,rfl⟩
theorem Grow.trans {D D' D'':Nat→Nat→Prop}{w w' w'':World}(h:Grow D w D' w')(k:Grow D' w' D'' w''):Grow D w D'' w'':=
 fun b o hd=>let ⟨h1,h2⟩:=h b o hd;let ⟨k1,k2⟩:=k b o h1;⟨k1,k2.trans h2⟩
theorem RV.mono {D D':Nat→Nat→Prop}{w w':World}{x:DV}{v:Value}(g:Grow D w D' w')(h:RV D w x v):RV D' w' x v:=by
 induction h with
 | prim v h=>exact .prim v h
 | agg cs vs hl hcell h ih=>exact .agg cs vs hl hcell ih
 | tup cs vs hl h ih=>exact .tup cs vs hl ih
 | sl0 b cap=>exact .sl0 b cap
 | sl els b o cap E val hlen hcap hE hcell hc hD h ih=>
  exact .sl els b o cap E val hlen hcap hE hcell (fun i j hi hj=>by rw [(g _ _ (hD i j hi hj)).2];exact hc i j hi hj) (fun i j hi hj=>(g _ _ (hD i j hi hj)).1) ih
 | iface t x v h ih=>exact .iface t x v ih
 | ref cs b o val hcell hc hD h ih=>exact .ref cs b o val hcell (fun j hj=>by rw [(g _ _ (hD j hj)).2];exact hc j hj) (fun j hj=>(g _ _ (hD j hj)).1) ih
def DV.fit:DV→Prop
 | .prim v=>primOK v
 | .agg cs=>fits cs
 | .tup cs=>fits cs
 | .sl els=>els.length≤BIG∧fitss els
 | .iface _ x=>x.fit
 | .ref cs=>fits cs
where
 fits:List DV→Prop
  | []=>True
  | c::r=>c.fit∧fits r
 fitss:List (List DV)→Prop
  | []=>True
  | e::r=>fits e∧fitss r
theorem fits_iff (cs:List DV):DV.fit.fits cs↔∀ (i:Nat) (c:DV),cs[i]? = some c→c.fit:=by
 induction cs with
 | nil=>simp [DV.fit.fits]
 | cons a r ih=>
  simp only [DV.fit.fits,ih]
  constructor
  ·rintro ⟨h,k⟩ i c hc
   cases i with
   | zero=>simp at hc;exact hc ▸ h
   | succ i=>exact k i c (by simpa using hc)
  ·intro h
   exact ⟨h 0 a rfl,fun i c hc=>h (i+1) c (by simpa using hc)⟩
theorem zes (els:List (List DV)):DV.fit.fitss els↔∀ (i j:Nat) (e:List DV) (c:DV),els[i]? = some e→e[j]? = some c→c.fit:=by
 induction els with
 | nil=>simp [DV.fit.fitss]
 | cons a r ih=>
  simp only [DV.fit.fitss,ih,fits_iff]
  constructor
  ·rintro ⟨h,k⟩ i j e c he hc
   cases i with
   | zero=>simp at he;subst he;exact h j c hc
   | succ i=>exact k i j e c (by simpa using he) hc
  ·intro h
   exact ⟨fun j c hc=>h 0 j a c rfl hc,fun i j e c he hc=>h (i+1) j e c (by simpa using he) hc⟩
theorem RV.fit {D:Nat→Nat→Prop}{w:World}{x:DV}{v:Value}(h:RV D w x v):x.fit:=by
 induction h with
 | prim v h=>exact h
 | agg cs vs hl hcell h ih=>
  simp only [DV.fit,fits_iff]
  intro i c hc
  have hi:i<vs.size:=by rw [hl];exact (List.getElem?_eq_some_iff.1 hc).1
  exact ih i c _ hc (Array.getElem?_eq_getElem hi)
 | tup cs vs hl h ih=>
  simp only [DV.fit,fits_iff]
  intro i c hc
  have hi:i<vs.size:=by rw [hl];exact (List.getElem?_eq_some_iff.1 hc).1
  exact ih i c _ hc (Array.getElem?_eq_getElem hi)
 | sl0 b cap=>simp [DV.fit,DV.fit.fitss]
 | sl els b o cap E val hlen hcap hE hcell hc hD h ih=>
  simp only [DV.fit,zes]
  exact ⟨hlen,ih⟩
 | iface t x v h ih=>exact ih
 | ref cs b o val hcell hc hD h ih=>
  simp only [DV.fit,fits_iff]
  exact ih
theorem zlg {v:Value}(h:primOK v):v.oneCell' = true:=by
 cases v <;> first|rfl|exact h.elim
theorem RV.one {D:Nat→Nat→Prop}{w:World}{x:DV}{v:Value}(h:RV D w x v)(hx:x.isCell=true):v.oneCell' = true:=by
 cases h with
 | prim v h=>exact zlg h
 | agg=>cases hx
 | tup=>cases hx
 | sl0=>rfl
 | sl=>rfl
 | iface=>rfl
 | ref=>rfl
inductive SV where
 | v (x:DV)
 | loc (k off:Nat)
 | dp (els:List (List DV)) (i off:Nat)
 | own (t:Nat) (els:List (List DV))
 | ag (cs:List DV) (nils:List Nat)
inductive Loc where
 | slot (n:Nat)
 | loc (n:Nat)
 | heap (b:Nat)
 | tok (t:Nat)
 deriving DecidableEq
inductive LV where
 | one (x:SV)
 | row (cs:List SV)
 | tk (E len:Nat)
 | ob (r:Loop)
 | mp (l:List (Int × DV))
abbrev St:=List (Loc × LV)
def get:St→Loc→Option LV
 | [],_=>none
 | (m,v)::r,l=>if m=l then some v else get r l
def del:St→Loc→St
 | [],_=>[]
 | (m,v)::r,l=>if m=l then del r l else (m,v)::del r l
def upd (s:St)(l:Loc)(v:LV):St:=(l,v)::del s l
theorem z26 (s:St)(l m:Loc):get (del s l) m=if l=m then none else get s m:=by
 induction s with
 | nil=>simp [del,get]
 | cons p r ih=>
  obtain ⟨k,v⟩:=p
  by_cases h:k=l
  ·simp only [del,h,if_true,ih,get]
   by_cases h':l=m <;> simp [h']
  ·by_cases h':l=m
   ·subst h';simp [del,h,get,ih]
   ·simp only [del,h,if_false,get,ih,h']
theorem z0h (s:St)(l m:Loc)(v:LV):get (upd s l v) m=if l=m then some v else get s m:=by
 simp only [upd,get,z26]
 by_cases h:l=m <;> simp [h]
abbrev Eff:=List (Loc × Option LV)
def apply (s:St):Eff→St
 | []=>s
 | (l,some v)::e=>apply (upd s l v) e
 | (l,none)::e=>apply (del s l) e
def Eff.says:Eff→Loc→Option (Option LV)
 | [],_=>none
 | (m,v)::e,l=>match Eff.says e l with
  | some x=>some x
  | none=>if m=l then some v else none
theorem z4k (e:Eff):∀ (s:St) (l:Loc),get (apply s e) l=(e.says l).getD (get s l):=by
 induction e with
 | nil=>intro s l;rfl
 | cons p e ih=>
  intro s l
  obtain ⟨m,v⟩:=p
  cases v with
  | none=>
   simp only [apply,ih,Eff.says,z26]
   cases h:Eff.says e l with
   | some x=>rfl
   | none=>by_cases hm:m=l <;> simp [hm]
  | some v=>
   simp only [apply,ih,Eff.says,z0h]
   cases h:Eff.says e l with
   | some x=>rfl
   | none=>by_cases hm:m=l <;> simp [hm]
structure Gh where
 D:Nat→Nat→Prop
 ν:Nat→Nat
 τ:Nat→Option Addr × Nat
def RSV (G:Gh)(w:World):SV→Value→Prop
 | .v x,v=>RV G.D w x v
 | .loc k off,v=>v = .pointer (some ⟨G.ν k,off,none⟩)
 | .dp els i off,v=>∃ b o E cap,RV G.D w (.sl els) (.slice (some ⟨b,o,none⟩) els.length cap)∧(∀ e ∈ els,e.length=E)∧i<els.length∧v = .pointer (some ⟨b,o+(i * E+off),none⟩)
 | .own t els,v=>v = .slice (G.τ t).1 els.length (G.τ t).2∧RV G.D w (.sl els) v
 | .ag cs ns,v=>RV G.D w (.agg cs) v∧∀ i ∈ ns,cs[i]? = some (.sl [])∧v.cells[i]? = some (.slice none 0 0)
def SV.isCell:SV→Bool
 | .v x=>x.isCell
 | .ag _ _=>false
 | _=>true
theorem RSV.one {G:Gh}{w:World}{x:SV}{v:Value}(h:RSV G w x v)(hx:x.isCell=true):v.oneCell' = true:=by
 cases x with
 | v x=>exact RV.one h hx
 | loc k off=>obtain rfl:=h;rfl
 | dp els i off=>obtain ⟨b,o,E,cap,-,-,-,rfl⟩:=h;rfl
 | own t els=>obtain ⟨rfl,-⟩:=h;rfl
 | ag cs ns=>cases hx
def BlkAt (G:Gh)(w:World)(b:Nat)(cs:List SV):Prop:=
 ∃ c e,w.heap[b]? = some (.cells c e (0,0))∧cs.length≤c.size∧∀ (i:Nat) (x:SV),cs[i]? = some x→x.isCell=true∧∃ v,c[i]? = some v∧RSV G w x v
def TokAt (G:Gh)(w:World)(t E len:Nat):Prop:=
 match G.τ t with
 | (none,cap)=>len=0∧cap=0
 | (some a,cap)=>len≤cap∧(len<cap→a.spot=none∧∃ c e,w.heap[a.block]? = some (.cells c e (0,0))∧a.off+cap * E≤c.size∧∀ j,a.off+len * E≤j→j<a.off+cap * E→¬ G.D a.block j)
def tokBlk (G:Gh)(t len:Nat):Option Nat:=
 match G.τ t with
 | (some a,cap)=>if len<cap then some a.block else none
 | _=>none
def MapAt (G:Gh)(w:World)(b:Nat)(l:List (Int × DV)):Prop:=
 ∃ es cl,w.heap[b]? = some (.map es cl)∧es.size=l.length∧∀ (i:Nat) (k:Int) (d:DV) (e:MapEntry),l[i]? = some (k,d)→es[i]? = some e→e.key = .int .i64 k∧RV G.D w d e.val
def Holds (G:Gh)(w:World)(a:Act):Loc→LV→Prop
 | .slot s,.one x=>RSV G w x (a.tmps.getD s undef)
 | .loc k,.row cs=>BlkAt G w (G.ν k) cs
 | .heap b,.row cs=>BlkAt G w b cs
 | .tok t,.tk E len=>TokAt G w t E len
 | .heap b,.ob r=>w.heap[b]? = some (.loop r)
 | .heap b,.mp l=>MapAt G w b l
 | _,_=>False
def blkOf (G:Gh):Loc→LV→Option Nat
 | .loc k,.row _=>some (G.ν k)
 | .heap b,.row _=>some b
 | .heap b,.ob _=>some b
 | .loc k,.ob _=>some (G.ν k)
 | .heap b,.mp _=>some b
 | .loc k,.mp _=>some (G.ν k)
 | .tok t,.tk _ len=>tokBlk G t len
 | _,_=>none
def Loc.isTok:Loc→Bool
 | .tok _=>true
 | _=>false
abbrev Globs:=List (Nat × List (List DV))
structure Wf (gl:Globs)(D:Nat→Nat→Prop)(w:World):Prop where
 there:∀ b o,D b o→∃ v,w.cell? ⟨b,o,none⟩=some v
 globs:∀ g els,(g,els) ∈ gl→∃ cap,RV D w (.sl els) (.slice (some ⟨g,0,none⟩) els.length cap)
theorem Wf.lt {gl:Globs}{D:Nat→Nat→Prop}{w:World}(h:Wf gl D w){b o:Nat}(hd:D b o):b<w.heap.size:=by
 obtain ⟨v,hv⟩:=h.there b o hd
 exact World.block_lt_of_cell? w _ hv
structure Ext (ids:List Nat)(D:Nat→Nat→Prop)(w:World)(D':Nat→Nat→Prop)(w':World):Prop where
 os:w'.os=w.os
 tape:w'.tape=w.tape
 output:w'.output=w.output
 size:w.heap.size≤w'.heap.size
 block:∀ b,b<w.heap.size→b ∉ ids→w'.heap[b]? = w.heap[b]?
 grow:Grow D w D' w'
 new:∀ b o,D' b o→¬ D b o→w.heap.size≤b
theorem Ext.refl (ids:List Nat)(D:Nat→Nat→Prop)(w:World):Ext ids D w D w:=
 ⟨rfl,rfl,rfl,Nat.le_refl _,fun _ _ _=>rfl,Grow.refl _ _,fun _ _ h k=>absurd h k⟩
inductive Md where
 | fn
 | it (l:Nat) (R:List (Nat × List DV)→Loop→Prop)
 | rd (l:Nat) (r:Loop) (R:Option Code→List (Nat × List DV)→Prop)
def mark (D:Nat):Deferred:={ target:=.collected D,args:=#[] }
structure Ctx where
 P:Program
 gl:Globs
 f:FuncId
 fn:Func
 n:Nat
 ids:List Nat
 D0:Nat→Nat→Prop
 w0:World
 R:DV→List (Nat × List DV)→Prop
 md:Md
def Ctx.rd (X:Ctx):Option Nat:=match X.md with
 | .rd l _ _=>some l
 | _=>none
def DfOK (w0:World)(a:Act)(w:World):Prop:=∃ Ds:List Nat,a.defers=Ds.map mark∧Ds.Nodup∧∀ D ∈ Ds,w.heap[D]? = some (.deferred (some []))∧w0.heap.size≤D
theorem DfOK.keep {w0:World}{a a':Act}{w w':World}(h:DfOK w0 a w)(hd:a'.defers=a.defers)(hw:∀ D:Nat,w.heap[D]? = some (Obj.deferred (some []))→w'.heap[D]? = some (Obj.deferred (some []))):DfOK w0 a' w':=by
 obtain ⟨Ds,h1,h2,h3⟩:=h
 exact ⟨Ds,hd.trans h1,h2,fun D hD=>⟨hw D (h3 D hD).1,(h3 D hD).2⟩⟩
theorem DfOK.put {w0:World}{a a':Act}{w:World}(hd:a'.defers=a.defers)(h:DfOK w0 a w):DfOK w0 a' w:=h.keep hd fun _ h=>h
theorem DfOK.heap {w0:World}{a:Act}{w w':World}(h:DfOK w0 a w)(hw:∀ b,b<w.heap.size→w'.heap[b]? = w.heap[b]?):DfOK w0 a w':=
 h.keep rfl fun D hD=>(hw D (Array.getElem?_eq_some_iff.1 hD).1).trans hD
theorem DfOK.but {w0:World}{a:Act}{w w':World}(h:DfOK w0 a w){b:Nat}{c:Array Value}{e:TypeId}{f:Nat × Nat}(hc:w.heap[b]? = some (.cells c e f))(hw:∀ b',b' ≠ b→w'.heap[b']? = w.heap[b']?):DfOK w0 a w':=
 h.keep rfl fun D hD=>(hw D (fun e=>by subst e;rw [hc] at hD;cases hD)).trans hD
structure Rel (X:Ctx)(G:Gh)(s:St)(a:Act)(w:World):Prop where
 size:a.tmps.size=X.n
 defers:DfOK X.w0 a w
 ext:Ext X.ids X.D0 X.w0 G.D w
 wf:Wf X.gl G.D w
 nil:G.τ 0=(none,0)
 holds:∀ l v,get s l=some v→Holds G w a l v
 sep:∀ l v l' v' b,get s l=some v→get s l' = some v'→blkOf G l v=some b→blkOf G l' v' = some b→l=l'
 own:∀ l v b,get s l=some v→blkOf G l v=some b→X.w0.heap.size≤b∨(b ∈ X.ids∧l.isTok=false)
 data:∀ l v b o,get s l=some v→blkOf G l v=some b→l.isTok=false→¬ G.D b o
def SV.locs:SV→List Nat
 | .loc k _=>[k]
 | _=>[]
def SV.toks:SV→List Nat
 | .own t _=>[t]
 | _=>[]
def LV.locs:LV→List Nat
 | .one x=>x.locs
 | .row cs=>cs.flatMap SV.locs
 | .tk _ _=>[]
 | .ob _=>[]
 | .mp _=>[]
def LV.toks:LV→List Nat
 | .one x=>x.toks
 | .row cs=>cs.flatMap SV.toks
 | .tk _ _=>[]
 | .ob _=>[]
 | .mp _=>[]
def Loc.locs:Loc→List Nat
 | .loc k=>[k]
 | _=>[]
def Loc.toks:Loc→List Nat
 | .tok t=>[t]
 | _=>[]
structure Trans (X:Ctx)(G:Gh)(a:Act)(w:World)(G':Gh)(a':Act)(w':World)(B:Nat→Prop):Prop where
 tmps:a'.tmps.size=a.tmps.size
 defers:DfOK X.w0 a w→DfOK X.w0 a' w'
 os:w'.os=w.os
 tape:w'.tape=w.tape
 output:w'.output=w.output
 size:w.heap.size≤w'.heap.size
 keep:∀ b,b<w.heap.size→¬ B b→w'.heap[b]? = w.heap[b]?
 own:∀ b,B b→X.w0.heap.size≤b∨b ∈ X.ids
 grow:Grow G.D w G'.D w'
 new:∀ b o,G'.D b o→¬ G.D b o→(w.heap.size≤b∨(B b∧X.w0.heap.size≤b))∧∃ v,w'.cell? ⟨b,o,none⟩=some v
 nil:G'.τ 0=(none,0)
theorem RSV.mono {G G':Gh}{w w':World}{x:SV}{v:Value}(g:Grow G.D w G'.D w')(hl:∀ k ∈ x.locs,G'.ν k=G.ν k)(ht:∀ t ∈ x.toks,G'.τ t=G.τ t)(h:RSV G w x v):RSV G' w' x v:=by
 cases x with
 | v x=>exact RV.mono g h
 | loc k off=>have e:=hl k (by simp [SV.locs]);simp only [RSV] at *;rw [e];exact h
 | dp els i off=>obtain ⟨b,o,E,cap,h1,h2⟩:=h;exact ⟨b,o,E,cap,RV.mono g h1,h2⟩
 | own t els=>have e:=ht t (by simp [SV.toks]);simp only [RSV] at *;rw [e];exact ⟨h.1,RV.mono g h.2⟩
 | ag cs ns=>exact ⟨RV.mono g h.1,h.2⟩
theorem BlkAt.mono {G G':Gh}{w w':World}{b:Nat}{cs:List SV}(g:Grow G.D w G'.D w')(hb:w'.heap[b]? = w.heap[b]?)(hl:∀ k ∈ cs.flatMap SV.locs,G'.ν k=G.ν k)(ht:∀ t ∈ cs.flatMap SV.toks,G'.τ t=G.τ t)(h:BlkAt G w b cs):BlkAt G' w' b cs:=by
 obtain ⟨c,e,h1,h2,h3⟩:=h
 refine ⟨c,e,hb.trans h1,h2,fun i x hx=>?_⟩
 obtain ⟨hc,v,hv,hr⟩:=h3 i x hx
 have hm:x ∈ cs:=List.mem_of_getElem? hx
 exact ⟨hc,v,hv,hr.mono g (fun k hk=>hl k (List.mem_flatMap.2 ⟨x,hm,hk⟩)) (fun t hk=>ht t (List.mem_flatMap.2 ⟨x,hm,hk⟩))⟩
theorem z1x {G:Gh}{w:World}{a:Act}{l:Loc}{v:LV}{b:Nat}(h:Holds G w a l v)(hb:blkOf G l v=some b):b<w.heap.size:=by
 have key:∀ {o:Obj},w.heap[b]? = some o→b<w.heap.size:=fun h=>(Array.getElem?_eq_some_iff.1 h).1
 cases l with
 | slot s=>cases v <;> cases hb
 | loc k=>
  cases v with
  | row cs=>simp only [blkOf,Option.some.injEq] at hb;subst hb;obtain ⟨c,e,h1,_⟩:=h;exact key h1
  | one x=>cases hb
  | tk E len=>cases hb
  | ob r=>exact h.elim
  | mp l=>exact h.elim
 | heap k=>
  cases v with
  | row cs=>simp only [blkOf,Option.some.injEq] at hb;subst hb;obtain ⟨c,e,h1,_⟩:=h;exact key h1
  | one x=>cases hb
  | tk E len=>cases hb
  | ob r=>simp only [blkOf,Option.some.injEq] at hb;subst hb;exact key h
  | mp l=>simp only [blkOf,Option.some.injEq] at hb;subst hb;obtain ⟨es,cl,h1,_⟩:=h;exact key h1
 | tok t=>
  cases v with
  | row cs=>cases hb
  | one x=>cases hb
  | ob r=>cases hb
  | mp l=>cases hb
  | tk E len=>
   simp only [blkOf,tokBlk,Holds,TokAt] at hb h
   split at hb
   ·rename_i aa cap heq
    rw [heq] at h
    obtain ⟨h2,h3⟩:=h
    split at hb
    ·rename_i hlt
     obtain ⟨-,c,e,h4,_⟩:=h3 hlt
     cases hb
     exact key h4
    ·cases hb
   ·cases hb
theorem Trans.kept {X:Ctx}{G G':Gh}{a a':Act}{w w':World}{B:Nat→Prop}(T:Trans X G a w G' a' w' B){l:Loc}{v:LV}
  (hslot:∀ s,l = .slot s→a'.tmps.getD s undef=a.tmps.getD s undef) (hB:∀ b,blkOf G l v=some b→¬ B b)
  (hl:∀ k ∈ l.locs++v.locs,G'.ν k=G.ν k) (ht:∀ t ∈ l.toks++v.toks,G'.τ t=G.τ t) (h:Holds G w a l v) :
  Holds G' w' a' l v∧blkOf G' l v=blkOf G l v:=by
 cases l with
 | slot s=>
  cases v with
  | one x=>
   refine ⟨?_,rfl⟩
   simp only [Holds] at *
   rw [hslot s rfl]
   exact h.mono T.grow (fun k hk=>hl k (by simp [LV.locs,hk])) (fun t hk=>ht t (by simp [LV.toks,hk]))
  | row cs=>exact h.elim
  | tk E len=>exact h.elim
  | ob r=>exact h.elim
  | mp l=>exact h.elim
 | loc k=>
  cases v with
  | row cs=>
   have e:G'.ν k=G.ν k:=hl k (by simp [Loc.locs])
   have hlt:=z1x (l:=.loc k) (v:=.row cs) h rfl
   refine ⟨?_,by simp [blkOf,e]⟩
   simp only [Holds] at *
   rw [e]
   exact h.mono T.grow (T.keep _ hlt (hB _ rfl)) (fun j hj=>hl j (by simp only [LV.locs,List.mem_append];exact .inr hj)) (fun t hj=>ht t (by simp only [LV.toks,List.mem_append];exact .inr hj))
  | one x=>exact h.elim
  | tk E len=>exact h.elim
  | ob r=>exact h.elim
  | mp l=>exact h.elim
 | heap k=>
  cases v with
  | row cs=>
   have hlt:=z1x (l:=.heap k) (v:=.row cs) h rfl
   refine ⟨?_,by simp [blkOf]⟩
   simp only [Holds] at *
   exact h.mono T.grow (T.keep _ hlt (hB _ rfl)) (fun j hj=>hl j (by simp only [LV.locs,List.mem_append];exact .inr hj)) (fun t hj=>ht t (by simp only [LV.toks,List.mem_append];exact .inr hj))
  | one x=>exact h.elim
  | tk E len=>exact h.elim
  | ob r=>
   have hlt:=z1x (l:=.heap k) (v:=.ob r) h rfl
   refine ⟨?_,by simp [blkOf]⟩
   simp only [Holds] at *
   exact (T.keep _ hlt (hB _ rfl)).trans h
  | mp l=>
   have hlt:=z1x (l:=.heap k) (v:=.mp l) h rfl
   refine ⟨?_,by simp [blkOf]⟩
   obtain ⟨es,cl,h1,h2,h3⟩:=h
   exact ⟨es,cl,(T.keep _ hlt (hB _ rfl)).trans h1,h2,fun i k d e hi he=>⟨(h3 i k d e hi he).1,(h3 i k d e hi he).2.mono T.grow⟩⟩
 | tok t=>
  cases v with
  | row cs=>exact h.elim
  | one x=>exact h.elim
  | ob r=>exact h.elim
  | mp l=>exact h.elim
  | tk E len=>
   have e:G'.τ t=G.τ t:=ht t (by simp [Loc.toks])
   refine ⟨?_,by simp [blkOf,tokBlk,e]⟩
   have hlt:=fun b=>z1x (l:=.tok t) (v:=.tk E len) (b:=b) h
   simp only [Holds,TokAt,blkOf,tokBlk] at *
   rw [e]
   cases hh:G.τ t with
   | mk o cap=>
    cases o with
    | none=>rw [hh] at h;exact h
    | some p=>
     rw [hh] at h hlt hB
     obtain ⟨h2,h3⟩:=h
     refine ⟨h2,fun hc=>?_⟩
     obtain ⟨h1,c,e',h4,h5,h6⟩:=h3 hc
     have hb1:=hlt p.block (by simp [hc])
     have hb2:=hB p.block (by simp [hc])
     refine ⟨h1,c,e',(T.keep _ hb1 hb2).trans h4,h5,fun j hj1 hj2 hD=>?_⟩
     have hnd:=h6 j hj1 hj2
     rcases (T.new _ _ hD hnd).1 with hge|⟨hbb,_⟩
     ·omega
     ·exact hb2 hbb
theorem Ext.step {X:Ctx}{G G':Gh}{a a':Act}{w w':World}{B:Nat→Prop}(T:Trans X G a w G' a' w' B)(h:Ext X.ids X.D0 X.w0 G.D w):Ext X.ids X.D0 X.w0 G'.D w':=by
 refine ⟨T.os.trans h.os,T.tape.trans h.tape,T.output.trans h.output,Nat.le_trans h.size T.size,fun b hb hn=>?_,h.grow.trans T.grow,fun b o hd hn=>?_⟩
 ·have hnB:¬ B b:=fun hB=>by
   rcases T.own b hB with h1|h1
   ·omega
   ·exact hn h1
  exact (T.keep b (by have:=h.size;omega) hnB).trans (h.block b hb hn)
 ·by_cases hg:G.D b o
  ·exact h.new b o hg hn
  ·rcases (T.new b o hd hg).1 with h1|⟨_,h1⟩
   ·have:=h.size;omega
   ·exact h1
theorem Wf.step {X:Ctx}{G G':Gh}{a a':Act}{w w':World}{B:Nat→Prop}(T:Trans X G a w G' a' w' B)(h:Wf X.gl G.D w):Wf X.gl G'.D w':=by
 refine ⟨fun b o hd=>?_,fun g els hg=>?_⟩
 ·by_cases hg:G.D b o
  ·obtain ⟨v,hv⟩:=h.there b o hg
   exact ⟨v,(T.grow b o hg).2.trans hv⟩
  ·exact (T.new b o hd hg).2
 ·obtain ⟨cap,hr⟩:=h.globs g els hg
  exact ⟨cap,hr.mono T.grow⟩
theorem Rel.step {X:Ctx}{G G':Gh}{a a':Act}{w w':World}{B:Nat→Prop}{s s':St}(R:Rel X G s a w)(T:Trans X G a w G' a' w' B)(New:Loc→LV→Prop)
  (hfacts:∀ l v,get s' l=some v→New l v∨(get s l=some v∧(∀ n,l = .slot n→a'.tmps.getD n undef=a.tmps.getD n undef)∧(∀ b,blkOf G l v=some b→¬ B b) ∧
   (∀ k ∈ l.locs++v.locs,G'.ν k=G.ν k)∧(∀ t ∈ l.toks++v.toks,G'.τ t=G.τ t)))
  (hnew:∀ l v,New l v→Holds G' w' a' l v∧∀ b,blkOf G' l v=some b→(w.heap.size≤b∨B b)∧(X.w0.heap.size≤b∨(b ∈ X.ids∧l.isTok=false))∧(l.isTok=false→∀ o,¬ G'.D b o))
  (hsep:∀ l v l' v' b,New l v→New l' v'→blkOf G' l v=some b→blkOf G' l' v' = some b→l=l'):Rel X G' s' a' w':=by
 have hk:∀ l v,get s' l=some v→New l v∨(get s l=some v∧Holds G' w' a' l v∧blkOf G' l v=blkOf G l v∧∀ b,blkOf G l v=some b→b<w.heap.size∧¬ B b):=by
  intro l v h
  rcases hfacts l v h with h|⟨h1,h2,h3,h4,h5⟩
  ·exact .inl h
  ·have hh:=R.holds l v h1
   obtain ⟨k1,k2⟩:=T.kept h2 h3 h4 h5 hh
   exact .inr ⟨h1,k1,k2,fun b hb=>⟨z1x hh hb,h3 b hb⟩⟩
 refine ⟨T.tmps.trans R.size,T.defers R.defers,R.ext.step T,R.wf.step T,T.nil,fun l v h=>?_,fun l v l' v' b h h' hb hb'=>?_,fun l v b h hb=>?_,fun l v b o h hb ht=>?_⟩
 ·rcases hk l v h with h|⟨_,h,_⟩
  ·exact (hnew l v h).1
  ·exact h
 ·rcases hk l v h with h|⟨h1,_,h3,h4⟩
  ·rcases hk l' v' h' with h' | ⟨k1,_,k3,k4⟩
   ·exact hsep l v l' v' b h h' hb hb'
   ·obtain ⟨q,-,-⟩:=(hnew l v h).2 b hb
    obtain ⟨q1,q2⟩:=k4 b (k3 ▸ hb')
    rcases q with q|q
    ·omega
    ·exact absurd q q2
  ·rcases hk l' v' h' with h' | ⟨k1,_,k3,k4⟩
   ·obtain ⟨q,-,-⟩:=(hnew l' v' h').2 b hb'
    obtain ⟨q1,q2⟩:=h4 b (h3 ▸ hb)
    rcases q with q|q
    ·omega
    ·exact absurd q q2
   ·exact R.sep l v l' v' b h1 k1 (h3 ▸ hb) (k3 ▸ hb')
 ·rcases hk l v h with h|⟨h1,_,h3,h4⟩
  ·exact ((hnew l v h).2 b hb).2.1
  ·exact R.own l v b h1 (h3 ▸ hb)
 ·rcases hk l v h with h|⟨h1,_,h3,h4⟩
  ·exact ((hnew l v h).2 b hb).2.2 ht o
  ·intro hD
   have hn:=R.data l v b o h1 (h3 ▸ hb) ht
   obtain ⟨q1,q2⟩:=h4 b (h3 ▸ hb)
   rcases (T.new b o hD hn).1 with h5|⟨h5,_⟩
   ·omega
   ·exact q2 h5
end
section
def layD:TypeDesc→Bool
 | .struct _ | .array _ _=>true
 | _=>false
def layT (P:Program)(t:TypeId):Option (Bool × Nat):=
 match P.underlying t,P.info? t with
 | some d,some i=>some (layD d,i.size)
 | _,_=>none
def elemT (P:Program)(t:TypeId):Option Nat:=
 match P.underlying t with
 | some (.slice e)=>(P.info? e).map (·.size)
 | _=>none
def arrT (P:Program)(t:TypeId):Option (Nat × Nat):=
 match P.underlying t with
 | some (.array n e)=>(P.info? e).map fun i=>(n,i.size)
 | _=>none
def fieldT (P:Program)(t f:Nat):Option (Bool × Nat × Nat):=
 match P.underlying t with
 | some (.struct fs)=>
  match fs[f]? with
  | some fl=>
   match layT P fl.type with
   | some (b,n)=>if n=0 then none else some (b,fl.offset,n)
   | none=>none
  | none=>none
 | _=>none
def boolT (P:Program)(t:TypeId):Bool:=
 match P.underlying t with
 | some .bool=>true
 | _=>false
def concT (P:Program)(t:TypeId):Bool:=
 match P.underlying t with
 | some (.interface _)=>false
 | some _=>true
 | none=>false
def intT (P:Program)(t:TypeId):Option IntKind:=
 match P.underlying t with
 | some (.int k)=>some k
 | _=>none
def ptrT (P:Program)(t:TypeId):Bool:=
 match P.underlying t with
 | some (.pointer _)=>true
 | _=>false
def intOK (k:IntKind)(n:Int):Prop:=k.min≤n∧n≤k.max
instance (k:IntKind) (n:Int):Decidable (intOK k n):=inferInstanceAs (Decidable (_∧_))
theorem z57 (n:Int):intOK .i64 n↔-9223372036854775808≤n∧n≤9223372036854775807:=by
 have h1:IntKind.i64.min = -9223372036854775808:=by decide
 have h2:IntKind.i64.max=9223372036854775807:=by decide
 rw [intOK,h1,h2]
theorem zlh (n:Int):intOK .u8 n↔0≤n∧n≤255:=by
 have h1:IntKind.u8.min=0:=by decide
 have h2:IntKind.u8.max=255:=by decide
 rw [intOK,h1,h2]
theorem z66 {k:IntKind}{n:Int}(h:intOK k n):k.wrap n=n:=by
 obtain ⟨h1,h2⟩:=h
 cases k <;> simp [IntKind.min,IntKind.max,IntKind.signed,IntKind.bits] at h1 h2 <;> simp [IntKind.wrap,IntKind.signed,IntKind.bits] <;> (try split) <;> omega
def primB:Value→Bool
 | .int k n=>decide (intOK k n)
 | .agg _=>false
 | .tuple _=>false
 | .slice _ _ _=>false
 | .iface _ _=>false
 | _=>true
theorem zbq {v:Value}(h:primB v=true):primOK v:=by
 cases v <;> first|trivial|(simp [primB] at h;exact h)|(simp [primB] at h)
def constD:Value→Option DV
 | .slice none 0 0=>some (.sl [])
 | v=>if primB v then some (.prim v) else none
def constDs:List Value→Option (List DV)
 | []=>some []
 | v::r=>match constD v,constDs r with
  | some x,some xs=>some (x::xs)
  | _,_=>none
def constS:Value→Option SV
 | .slice none 0 0=>some (.own 0 [])
 | .agg cs=>(constDs cs.toList).map fun ds=>.v (.agg ds)
 | v=>if primB v then some (.v (.prim v)) else none
theorem zli {G:Gh}{w:World}{v:Value}{x:DV}(h:constD v=some x):RV G.D w x v∧x.isCell=true:=by
 unfold constD at h
 split at h
 ·cases h;exact ⟨.sl0 _ _,rfl⟩
 ·split at h
  ·cases h;exact ⟨.prim _ (zbq ‹_›),rfl⟩
  ·cases h
theorem zet {G:Gh}{w:World}:∀ {l:List Value} {ds:List DV},constDs l=some ds→l.length=ds.length∧(∀ c ∈ ds,c.isCell=true) ∧
  ∀ (i:Nat) (c:DV) (v:Value),ds[i]? = some c→l[i]? = some v→RV G.D w c v
 | [],ds,h=>by cases h;simp
 | v::r,ds,h=>by
  simp only [constDs] at h
  split at h
  ·rename_i x xs hx hxs
   cases h
   obtain ⟨h1,h2,h3⟩:=zet (G:=G) (w:=w) hxs
   obtain ⟨k1,k2⟩:=zli (G:=G) (w:=w) hx
   refine ⟨by simp [h1],fun c hc=>?_,fun i c v hc hv=>?_⟩
   ·rcases List.mem_cons.1 hc with rfl|hc
    ·exact k2
    ·exact h2 c hc
   ·cases i with
    | zero=>simp at hc hv;subst hc hv;exact k1
    | succ i=>exact h3 i c v (by simpa using hc) (by simpa using hv)
  ·cases h
theorem zeu {G:Gh}{w:World}(hn:G.τ 0=(none,0)){v:Value}{x:SV}(h:constS v=some x):RSV G w x v:=by
 unfold constS at h
 split at h
 ·cases h
  simp only [RSV,hn]
  exact ⟨rfl,.sl0 _ _⟩
 ·rename_i cs
  cases hd:constDs cs.toList with
  | none=>rw [hd] at h;cases h
  | some ds=>
   rw [hd] at h
   cases h
   obtain ⟨h1,h2,h3⟩:=zet (G:=G) (w:=w) hd
   exact .agg ds cs (by simpa using h1) h2 (fun i c v hc hv=>h3 i c v hc (by simpa using hv))
 ·split at h
  ·cases h;exact .prim _ (zbq ‹_›)
  ·cases h
def globOf:Globs→Nat→Option (List (List DV))
 | [],_=>none
 | (g,els)::r,n=>if g=n then some els else globOf r n
theorem zlj {gl:Globs}{n:Nat}{els:List (List DV)}(h:globOf gl n=some els):(n,els) ∈ gl:=by
 induction gl with
 | nil=>cases h
 | cons p r ih=>
  obtain ⟨g,e⟩:=p
  simp only [globOf] at h
  split at h
  ·cases h;subst_vars;simp
  ·exact List.mem_cons_of_mem _ (ih h)
def wide:List (List DV)→Option Nat
 | []=>none
 | e::_=>some e.length
abbrev Rd:=Loc→Option LV
def evl (X:Ctx)(g:Rd):Operand→Option SV
 | .tmp t=>match g (.slot t) with
  | some (.one x)=>some x
  | _=>none
 | .const v=>constS v
 | .global b=>match globOf X.gl b with
  | some (e::r)=>some (.dp (e::r) 0 0)
  | _=>none
 | .func f=>some (.v (.prim (.func (.func f) #[] #[])))
theorem z0d {X:Ctx}{G:Gh}{s:St}{a:Act}{w:World}(R:Rel X G s a w){x:Operand}{y:SV}(h:evl X (get s) x=some y):RSV G w y (a.eval x):=by
 cases x with
 | tmp t=>
  simp only [evl] at h
  split at h
  ·rename_i z hz;cases h;exact R.holds _ _ hz
  ·cases h
 | const v=>exact zeu R.nil h
 | global b=>
  simp only [evl] at h
  split at h
  ·rename_i e r hg
   cases h
   obtain ⟨cap,hr⟩:=R.wf.globs b _ (zlj hg)
   have hr':=hr
   cases hr with
   | sl els b' o cap' E val hlen hcap hE hcell hc hD hh=>
    exact ⟨b,0,E,cap,hr',hE,by simp,by simp [Act.eval]⟩
  ·cases h
 | func f=>
  cases h
  exact .prim _ trivial
def toD:SV→Option DV
 | .v x=>some x
 | .own _ els=>some (.sl els)
 | .ag cs _=>some (.agg cs)
 | .dp els i 0=>(els[i]?).map .ref
 | _=>none
theorem zlk {G:Gh}{w:World}{els:List (List DV)}{i:Nat}{e:List DV}{v:Value}(he:els[i]? = some e)(hr:RSV G w (.dp els i 0) v):RV G.D w (.ref e) v:=by
 obtain ⟨b,o,E,cap,h1,h2,h3,rfl⟩:=hr
 have hel:e.length=E:=h2 e (List.mem_of_getElem? he)
 cases h1 with
 | sl0=>simp at h3
 | sl _ _ _ _ E' val hlen hcap hE' hcell hc hD hh=>
  have hEE:E' = E:=by rw [← hE' e (List.mem_of_getElem? he),hel]
  subst hEE
  refine .ref e b (o+(i * E'+0)) (fun j=>val i j) (hcell e (List.mem_of_getElem? he)) (fun j hj=>?_) (fun j hj=>?_) (fun j c hj=>hh i j e c he hj)
  ·rw [Nat.add_zero,Nat.add_assoc];exact hc i j h3 (by omega)
  ·rw [Nat.add_zero,Nat.add_assoc];exact hD i j h3 (by omega)
theorem z4l {G:Gh}{w:World}{x:SV}{y:DV}{v:Value}(h:toD x=some y)(hr:RSV G w x v):RV G.D w y v:=by
 cases x with
 | v x=>cases h;exact hr
 | own t els=>cases h;exact hr.2
 | ag cs ns=>cases h;exact hr.1
 | loc=>cases h
 | dp els i off=>
  cases off with
  | zero=>
   obtain ⟨e,he,rfl⟩:=Option.map_eq_some_iff.1 h
   exact zlk he hr
  | succ off=>cases h
theorem zll {x:SV}{y:DV}(h:toD x=some y)(hc:x.isCell=true):y.isCell=true:=by
 cases x with
 | v x=>cases h;exact hc
 | own t els=>cases h;rfl
 | ag cs ns=>cases hc
 | loc=>cases h
 | dp els i off=>
  cases off with
  | zero=>obtain ⟨e,he,rfl⟩:=Option.map_eq_some_iff.1 h;rfl
  | succ off=>cases h
def toDs:List SV→Option (List DV)
 | []=>some []
 | x::r=>match toD x,toDs r with
  | some y,some ys=>some (y::ys)
  | _,_=>none
theorem z67:∀ {l:List SV} {ds:List DV},toDs l=some ds→l.length=ds.length∧∀ (i:Nat) (c:DV),ds[i]? = some c→∃ x,l[i]? = some x∧toD x=some c
 | [],ds,h=>by cases h;simp
 | x::r,ds,h=>by
  simp only [toDs] at h
  split at h
  ·rename_i y ys hy hys
   cases h
   obtain ⟨h1,h2⟩:=z67 hys
   refine ⟨by simp [h1],fun i c hc=>?_⟩
   cases i with
   | zero=>simp at hc;subst hc;exact ⟨x,rfl,hy⟩
   | succ i=>obtain ⟨z,hz⟩:=h2 i c (by simpa using hc);exact ⟨z,by simpa using hz.1,hz.2⟩
  ·cases h
theorem zev (cs:List DV):toDs (cs.map SV.v)=some cs:=by
 induction cs with
 | nil=>rfl
 | cons c r ih=>simp [toDs,toD,ih]
def evlDs (X:Ctx)(g:Rd):List Operand→Option (List DV)
 | []=>some []
 | x::r=>match (evl X g x).bind toD,evlDs X g r with
  | some y,some ys=>some (y::ys)
  | _,_=>none
def intOp (op:BinOp)(k:IntKind)(a b:Int):Option (Prop × SV):=
 match op with
 | .add=>some (intOK k (a+b),.v (.prim (.int k (a+b))))
 | .sub=>some (intOK k (a - b),.v (.prim (.int k (a - b))))
 | .mul=>some (intOK k (a * b),.v (.prim (.int k (a * b))))
 | .rem=>some (b ≠ 0∧intOK k (a.tmod b),.v (.prim (.int k (a.tmod b))))
 | .quo=>some (b ≠ 0∧intOK k (a.tdiv b),.v (.prim (.int k (a.tdiv b))))
 | .eql=>some (True,.v (.prim (.bool (a == b))))
 | .neq=>some (True,.v (.prim (.bool (a != b))))
 | .lss=>some (True,.v (.prim (.bool (decide (a<b)))))
 | .leq=>some (True,.v (.prim (.bool (decide (a≤b)))))
 | .gtr=>some (True,.v (.prim (.bool (decide (a > b)))))
 | .geq=>some (True,.v (.prim (.bool (decide (a ≥ b)))))
 | _=>none
def readRow (cs:List SV)(agg:Bool)(off n:Nat):Option SV:=
 if agg then
  match toDs ((cs.drop off).take n) with
  | some ds=>if ds.length=n then some (.v (.agg ds)) else none
  | none=>none
 else cs[off]?
def readD (cs:List DV)(agg:Bool)(off n:Nat):Option DV:=
 if agg then if ((cs.drop off).take n).length=n then some (.agg ((cs.drop off).take n)) else none
 else cs[off]?
def cellsD:DV→List DV
 | .agg cs=>cs
 | x=>[x]
def memN (d:Nat):List Nat→Bool
 | []=>false
 | x::r=>d == x || memN d r
def agC (ns:List Nat):Nat→List DV→List SV
 | _,[]=>[]
 | k,d::r=>(if memN k ns then .own 0 [] else .v d)::agC ns (k+1) r
theorem zbr (ns:List Nat):∀ (cs:List DV) (k:Nat),(agC ns k cs).length=cs.length∧∀ i:Nat,(agC ns k cs)[i]? = cs[i]?.map fun d=>if memN (k+i) ns then SV.own 0 [] else .v d
 | [],k=>by simp [agC]
 | d::r,k=>by
  obtain ⟨h1,h2⟩:=zbr ns r (k+1)
  refine ⟨by simp [agC,h1],fun i=>?_⟩
  cases i with
  | zero=>simp [agC]
  | succ i=>simp only [agC,List.getElem?_cons_succ,h2];rw [show k+1+i=k+(i+1) from by omega]
theorem zlm (d:Nat)(l:List Nat):memN d l=true↔d ∈ l:=by
 induction l with
 | nil=>simp [memN]
 | cons x r ih=>simp [memN,ih]
def nilsOf:Nat→List SV→List Nat
 | _,[]=>[]
 | k,.own 0 []::r=>k::nilsOf (k+1) r
 | k,_::r=>nilsOf (k+1) r
theorem zbs {i:Nat}:∀ {cs:List SV} {k:Nat},i ∈ nilsOf k cs→∃ j,i=k+j∧cs[j]? = some (.own 0 [])
 | [],_,h=>by cases h
 | c::r,k,h=>by
  unfold nilsOf at h
  split at h
  ·cases h
  ·rename_i heq
   cases heq
   rcases List.mem_cons.1 h with rfl|h
   ·exact ⟨0,rfl,rfl⟩
   ·obtain ⟨j,h1,h2⟩:=zbs h
    exact ⟨j+1,by omega,by simpa using h2⟩
  ·rename_i heq
   cases heq
   obtain ⟨j,h1,h2⟩:=zbs h
   exact ⟨j+1,by omega,by simpa using h2⟩
def cellsS:SV→List SV
 | .v x=>(cellsD x).map .v
 | .ag cs ns=>agC ns 0 cs
 | x=>[x]
def put (cs:List SV):Nat→List SV→List SV
 | 0,xs=>xs++cs.drop xs.length
 | n+1,xs=>match cs with
  | []=>[]
  | c::r=>c::put r n xs
def zeroS:List Value→Option (List SV)
 | []=>some []
 | v::r=>match constS v,zeroS r with
  | some x,some xs=>some (x::xs)
  | _,_=>none
def zeroT (P:Program)(t:TypeId):Option (List SV):=
 match P.info? t with
 | some i=>match i.zero with
  | some z=>zeroS z.cells.toList
  | none=>none
 | none=>none
def placesT (P:Program)(t:TypeId):Option (List (Nat × Nat)):=
 match P.underlying t with
 | some (.struct fields)=>fields.toList.mapM (fun f=>(P.info? f.type).map fun i=>(f.offset,i.size))
 | some (.array n e)=>(P.info? e).map fun i=>(List.range n).map fun k=>(k * i.size,i.size)
 | _=>none
def fillS (places:List (Nat × Nat))(X:Ctx)(g:Rd)(cells:List SV):List (Nat × Operand)→Option (List SV)
 | []=>some cells
 | (i,x)::rest=>
  match places[i]?,evl X g x with
  | some (off,size),some y=>
   if (cellsS y).length=size∧off+size≤cells.length then fillS places X g (put cells off (cellsS y)) rest else none
  | _,_=>none
def cellB:List DV→Bool
 | []=>true
 | c::r=>c.isCell && cellB r
def loadAt (X:Ctx)(g:Rd)(t:TypeId):SV→Option SV
 | .loc k off=>match layT X.P t,g (.loc k) with
  | some (agg,n),some (.row cs)=>readRow cs agg off n
  | _,_=>none
 | .dp els i off=>match layT X.P t,els[i]? with
  | some (agg,n),some e=>(readD e agg off n).map .v
  | _,_=>none
 | .v (.prim (.pointer (some ⟨b,off,none⟩)))=>match layT X.P t,g (.heap b) with
  | some (agg,n),some (.row cs)=>readRow cs agg off n
  | _,_=>none
 | .v (.ref cs)=>match layT X.P t with
  | some (agg,n)=>(readD cs agg 0 n).map .v
  | none=>none
 | _=>none
def slOf:SV→Option (List (List DV))
 | .v (.sl els)=>some els
 | .own _ els=>some els
 | _=>none
def bound (X:Ctx)(g:Rd)(d:Nat):Option Operand→Option Int
 | none=>some d
 | some x=>match evl X g x with
  | some (.v (.prim (.int _ n)))=>some n
  | _=>none
def pcall (X:Ctx)(g:Rd)(c:Call):Option (Prop × SV):=
 match c.callee,c.args.toList,c.argTypes.toList with
 | .builtin .len,[x],[t]=>
  match elemT X.P t,(evl X g x).bind slOf with
  | some _,some els=>some (True,.v (.prim (.int .i64 els.length)))
  | _,_=>match elemT X.P t,evl X g x with
   | some _,some (.v (.prim (.slice _ n _)))=>some (n≤BIG,.v (.prim (.int .i64 n)))
   | _,_=>none
 | .builtin .max,[x,y],_=>
  match evl X g x,evl X g y with
  | some (.v (.prim (.int k a))),some (.v (.prim (.int _ b)))=>some (intOK k b,.v (.prim (.int k (if b > a then b else a))))
  | _,_=>none
 | .builtin .min,[x,y],_=>
  match evl X g x,evl X g y with
  | some (.v (.prim (.int k a))),some (.v (.prim (.int _ b)))=>some (intOK k b,.v (.prim (.int k (if b<a then b else a))))
  | _,_=>none
 | _,_,_=>none
def pvls (X:Ctx)(g:Rd):List Operand→Option (List Value)
 | []=>some []
 | x::r=>match evl X g x,pvls X g r with
  | some (.v (.prim v)),some vs=>some (v::vs)
  | _,_=>none
def nilB (op:BinOp)(is:Bool):Option (Prop × SV):=
 match op with
 | .eql=>some (True,.v (.prim (.bool is)))
 | .neq=>some (True,.v (.prim (.bool (!is))))
 | _=>none
def zeroP (P:Program)(t:TypeId):Option Value:=
 match P.info? t with
 | some i=>match i.zero with
  | some (.int k n)=>if primB (.int k n) then some (.int k n) else none
  | some (.pointer none)=>some (.pointer none)
  | _=>none
 | none=>none
def taV (b:Bool)(asserted:TypeId)(ok:Bool)(z:Option Value)(x:Option SV):Option (Prop × SV):=
 match x with
 | some (.v (.iface t y))=>if b then
   if t=asserted then some (True,.v (if ok then .tup [y,.prim (.bool true)] else y))
   else if ok then match z with
    | some z=>some (True,.v (.tup [.prim z,.prim (.bool false)]))
    | none=>none
   else none
  else none
 | _=>none
def pval (X:Ctx)(g:Rd)(o:Oper):Option (Prop × SV):=
 match o.op with
 | .move x=>(evl X g x).map (True,·)
 | .assign x=>(evl X g x).map (True,·)
 | .pick c x y=>
  match evl X g c with
  | some (.v (.prim (.bool true)))=>(evl X g x).map (True,·)
  | some (.v (.prim (.bool false)))=>(evl X g y).map (True,·)
  | _=>none
 | .binOp op t x y _=>
  match evl X g x,evl X g y with
  | some (.v (.prim (.int k a))),some (.v (.prim (.int k' b)))=>if k=k' then intOp op k a b else none
  | some (.v (.prim (.bool a))),some (.v (.prim (.bool b)))=>
   if boolT X.P t then
    match op with
    | .eql=>some (True,.v (.prim (.bool (a == b))))
    | .neq=>some (True,.v (.prim (.bool (!(a == b)))))
    | _=>none
   else none
  | some (.v (.ref _)),some (.v (.prim (.pointer none)))=>if ptrT X.P t then nilB op false else none
  | some (.v (.prim (.pointer none))),some (.v (.prim (.pointer none)))=>if ptrT X.P t then nilB op true else none
  | _,_=>none
 | .unOp op _ x=>
  match op,evl X g x with
  | .not,some (.v (.prim (.bool b)))=>some (True,.v (.prim (.bool (!b))))
  | .neg,some (.v (.prim (.int k n)))=>some (intOK k (0 - n),.v (.prim (.int k (0 - n))))
  | _,_=>none
 | .extract x i=>
  match evl X g x with
  | some (.v (.tup cs))=>cs[i]?.map fun c=>(True,.v c)
  | _=>none
 | .field t x f=>
  match fieldT X.P t f,evl X g x with
  | some (agg,off,n),some (.v y)=>(readD (cellsD y) agg off n).map fun c=>(y.isAgg=true,.v c)
  | _,_=>none
 | .fieldAddr t x f=>
  match fieldT X.P t f,evl X g x with
  | some (_,foff,_),some (.loc k off)=>some (True,.loc k (off+foff))
  | some (_,foff,_),some (.dp els i off)=>some (True,.dp els i (off+foff))
  | some (_,foff,_),some (.v (.prim (.pointer (some ⟨b,off,none⟩))))=>some (True,.v (.prim (.pointer (some ⟨b,off+foff,none⟩))))
  | some (_,foff,_),some (.v (.ref cs))=>some (True,.dp [cs] 0 foff)
  | _,_=>none
 | .indexAddr t x i=>
  match evl X g x,evl X g i with
  | some y,some (.v (.prim (.int _ n)))=>
   match elemT X.P t,slOf y with
   | some E,some els=>match els[n.toNat]? with
    | some e=>some (0≤n∧e.length=E,.dp els n.toNat 0)
    | none=>none
   | _,_=>match arrT X.P t,y with
    | some (len,E),.loc k off=>some (0≤n∧n<len∧1<len,.loc k (off+n.toNat * E))
    | some (len,E),.dp els j 0=>match els[j+n.toNat]? with
     | some e=>some (0≤n∧n<len∧1<len∧e.length=E,.dp els (j+n.toNat) 0)
     | none=>none
    | some (len,E),.dp els j (off+1)=>some (0≤n∧n<len∧1<len,.dp els j (off+1+n.toNat * E))
    | some (len,E),.v (.prim (.pointer (some ⟨b,off,none⟩)))=>some (0≤n∧n<len∧1<len,.v (.prim (.pointer (some ⟨b,off+n.toNat * E,none⟩))))
    | _,.v (.prim (.slice (some ⟨b,off,none⟩) len _))=>match elemT X.P t with
     | some E=>some (0≤n∧n<len,.v (.prim (.pointer (some ⟨b,off+n.toNat * E,none⟩))))
     | none=>none
    | _,_=>none
  | _,_=>none
 | .load t x=>((evl X g x).bind (loadAt X g t)).map (True,·)
 | .build t parts=>
  match zeroT X.P t,placesT X.P t with
  | some z,some pl=>match fillS pl X g z parts.toList with
   | some cs=>match toDs cs with
    | some ds=>if cellB ds then some (True,.ag ds (nilsOf 0 cs)) else none
    | none=>none
   | none=>none
  | _,_=>none
 | .makeInterface t x=>
  match (evl X g x).bind toD with
  | some y=>if concT X.P t then some (True,.v (.iface t y)) else none
  | none=>none
 | .nilCheck x=>
  match evl X g x with
  | some (.loc k off)=>some (True,.loc k off)
  | some (.dp els i off)=>some (True,.dp els i off)
  | some (.v (.prim (.pointer (some a))))=>some (True,.v (.prim (.pointer (some a))))
  | some (.v (.prim (.func (.func f) x y)))=>some (True,.v (.prim (.func (.func f) x y)))
  | some (.v (.ref cs))=>some (True,.v (.ref cs))
  | _=>none
 | .convert s d x=>
  match evl X g x,intT X.P s,intT X.P d with
  | some (.v (.prim (.int _ n))),some _,some k=>some (intOK k n,.v (.prim (.int k n)))
  | _,_,_=>none
 | .slice t x lo hi none=>
  match elemT X.P t,(evl X g x).bind slOf with
  | some E,some els=>match bound X g 0 lo,bound X g els.length hi with
   | some l,some h=>some (0≤l∧l≤h∧h≤els.length∧∀ e ∈ els,e.length=E,.v (.sl ((els.take h.toNat).drop l.toNat)))
   | _,_=>none
  | _,_=>match elemT X.P t,evl X g x,bound X g 0 lo with
   | some _,some (.v (.prim (.slice (some ⟨b,o,none⟩) n cap))),some l=>match bound X g n hi with
    | some h=>some (l=0∧0≤h∧h≤cap,.v (.prim (.slice (some ⟨b,o,none⟩) h.toNat cap)))
    | none=>none
   | _,_,_=>none
 | .call c=>pcall X g c
 | .makeFunc fn fi ca=>
  match pvls X g fi.toList,pvls X g ca.toList with
  | some fi,some ca=>some (True,.v (.prim (.func fn fi.toArray ca.toArray)))
  | _,_=>none
 | .typeAssert x _ a ok=>taV (concT X.P a) a ok (zeroP X.P a) (evl X g x)
 | _=>none
section
variable {X:Ctx}{G:Gh}{s:St}{a:Act}{w:World}
theorem z9k {P:Program}{w:World}{t:TypeId}{b:Bool}{n:Nat}(h:layT P t=some (b,n)):(isAgg t).run P w = .ok b w∧(sizeOf t).run P w = .ok n w:=by
 unfold layT at h
 split at h
 ·rename_i d i hd hi
  simp only [Option.some.injEq,Prod.mk.injEq] at h
  obtain ⟨rfl,rfl⟩:=h
  refine ⟨?_,by simp [sizeOf,typeInfo,hi]⟩
  unfold isAgg
  rw [Sem.run_bind,run_underlying hd w]
  cases d <;> rfl
 ·cases h
theorem z27 (b o n:Nat):(⟨b,o,none⟩:Addr).add n=⟨b,o+n,none⟩:=by
 unfold Addr.add
 split <;> simp_all
theorem z9l {P:Program}{w:World}{t:TypeId}{agg:Bool}{n:Nat}(h:layT P t=some (agg,n))(b o:Nat)(cs:List Value)(hc:∀ j v,cs[j]? = some v→w.cell? ⟨b,o+j,none⟩=some v)
  (hn:agg=true→cs.length=n) (v:Value) (hv:if agg=true then v = .agg cs.toArray else cs[0]? = some v):(loadVar t ⟨b,o,none⟩).run P w = .ok v w:=by
 obtain ⟨h1,h2⟩:=z9k (w:=w) h
 unfold loadVar
 cases agg with
 | true=>
  simp only [if_true] at hv
  have:=run_loadCells_list (P:=P) w ⟨b,o,none⟩ cs (fun j v hj=>by rw [z27];exact hc j v hj)
  rw [hn rfl] at this
  simp [h1,h2,this,hv]
 | false=>
  simp only [Bool.false_eq_true,if_false] at hv
  have:=hc 0 v hv
  simp at this
  simp [h1,this]
theorem zew {w:World}{b:Nat}{cs:List SV}(hb:BlkAt G w b cs){P:Program}{t:TypeId}{agg:Bool}{n off:Nat}(hl:layT P t=some (agg,n)){y:SV}(h:readRow cs agg off n=some y) :
  ∃ v,(loadVar t ⟨b,off,none⟩).run P w = .ok v w∧RSV G w y v:=by
 obtain ⟨c,e,h1,h2,h3⟩:=hb
 unfold readRow at h
 have hcell:∀ (i:Nat) (v:Value),c[i]? = some v→w.cell? ⟨b,i,none⟩=some v:=fun i v hv=>by simp [World.cell?,h1,hv]
 cases agg with
 | true=>
  simp only [if_true] at h
  split at h
  ·rename_i ds hds
   split at h
   ·rename_i hlen
    cases h
    obtain ⟨k1,k2⟩:=z67 hds
    have hk:∀ i,i<n→∃ x c' v,cs[off+i]? = some x∧toD x=some c'∧ds[i]? = some c'∧c[off+i]? = some v∧RSV G w x v∧x.isCell=true:=by
     intro i hi
     have hc:ds[i]? = some (ds[i]'(by omega)):=List.getElem?_eq_getElem (by omega)
     obtain ⟨x,hx,hd⟩:=k2 i _ hc
     rw [List.getElem?_take_of_lt hi,List.getElem?_drop] at hx
     obtain ⟨hcl,v,hv,hr⟩:=h3 _ _ hx
     exact ⟨x,_,v,hx,hd,hc,hv,hr,hcl⟩
    have hsz:∀ i,i<n→off+i<c.size:=fun i hi=>by
     obtain ⟨x,c',v,-,-,-,hv,-⟩:=hk i hi
     exact (Array.getElem?_eq_some_iff.1 hv).1
    refine ⟨.agg ((c.toList.drop off).take n).toArray,?_,?_⟩
    ·refine z9l hl b off ((c.toList.drop off).take n) (fun j v hj=>?_) (fun _=>?_) _ (by simp)
     ·have hj':j<n:=by
       have:=(List.getElem?_eq_some_iff.1 hj).1
       simp at this;omega
      rw [List.getElem?_take_of_lt hj',List.getElem?_drop] at hj
      exact hcell _ _ (by simpa using hj)
     ·simp
      by_cases hn:n=0
      ·omega
      ·have:=hsz (n - 1) (by omega);omega
    ·refine .agg ds _ ?_ ?_ ?_
     ·simp
      by_cases hn:n=0
      ·subst hn;simp at hlen;simp [hlen]
      ·have:=hsz (n - 1) (by omega);omega
     ·intro c' hc'
      obtain ⟨i,hi,rfl⟩:=List.mem_iff_getElem.1 hc'
      obtain ⟨x,c'',v,hx,hd,hc,hv,hr,hcl⟩:=hk i (by omega)
      rw [List.getElem?_eq_getElem hi] at hc
      cases hc
      exact zll hd hcl
     ·intro i c' v hc' hv
      have hi:i<n:=by
       have:=(List.getElem?_eq_some_iff.1 hc').1;omega
      obtain ⟨x,c'',v',hx,hd,hc,hv',hr,hcl⟩:=hk i hi
      rw [hc'] at hc
      cases hc
      simp only [List.getElem?_toArray] at hv
      rw [List.getElem?_take_of_lt hi,List.getElem?_drop] at hv
      have hv2:c[off+i]? = some v:=by simpa using hv
      rw [hv'] at hv2
      cases hv2
      exact z4l hd hr
   ·cases h
  ·cases h
 | false=>
  simp only [Bool.false_eq_true,if_false] at h
  obtain ⟨hcl,v,hv,hr⟩:=h3 _ _ h
  refine ⟨v,z9l hl b off [v] (fun j u hj=>?_) (fun h=>by cases h) _ (by simp),hr⟩
  cases j with
  | zero=>simp at hj;subst hj;exact hcell _ _ hv
  | succ j=>simp at hj
theorem zex {w:World}{D:Nat→Nat→Prop}{els:List (List DV)}{b o cap E i off:Nat}(hr:RV D w (.sl els) (.slice (some ⟨b,o,none⟩) els.length cap))(hE:∀ e ∈ els,e.length=E){e:List DV}(he:els[i]? = some e)
  {P:Program} {t:TypeId} {agg:Bool} {n:Nat} (hl:layT P t=some (agg,n)) {y:DV} (h:readD e agg off n=some y) :
  ∃ v,(loadVar t ⟨b,o+(i * E+off),none⟩).run P w = .ok v w∧RV D w y v:=by
 have hi:i<els.length:=(List.getElem?_eq_some_iff.1 he).1
 have hel:e.length=E:=hE e (List.mem_of_getElem? he)
 cases hr with
 | sl0=>simp at hi
 | sl _ _ _ _ E' val hlen hcap hE' hcell hc hD hh=>
  have hEE:E' = E:=by rw [← hE' e (List.mem_of_getElem? he),hel]
  subst hEE
  unfold readD at h
  cases agg with
  | true=>
   simp only [if_true] at h
   split at h
   ·rename_i hlen'
    cases h
    simp at hlen'
    have hoff:n=0∨off+n≤E':=by omega
    refine ⟨.agg ((List.range n).map fun j=>val i (off+j)).toArray,?_,?_⟩
    ·refine z9l hl b _ ((List.range n).map fun j=>val i (off+j)) (fun j v hj=>?_) (fun _=>by simp) _ (by simp)
     have hj':j<n:=by
      have:=(List.getElem?_eq_some_iff.1 hj).1;simpa using this
     simp [hj'] at hj
     subst hj
     have:=hc i (off+j) hi (by omega)
     rw [← this];congr 2;omega
    ·refine .agg _ _ (by simp only [List.size_toArray,List.length_map,List.length_range,List.length_take,List.length_drop];omega) (fun c hc'=>?_) (fun j c v hc' hv=>?_)
     ·exact hcell e (List.mem_of_getElem? he) c (List.mem_of_mem_drop (List.mem_of_mem_take hc'))
     ·have hj':j<n:=by
       have:=(List.getElem?_eq_some_iff.1 hc').1;simp at this;omega
      rw [List.getElem?_take_of_lt hj',List.getElem?_drop] at hc'
      simp [hj'] at hv
      subst hv
      exact hh i (off+j) e c he hc'
   ·cases h
  | false=>
   simp only [Bool.false_eq_true,if_false] at h
   have ho:off<E':=by
    have:=(List.getElem?_eq_some_iff.1 h).1;omega
   refine ⟨val i off,z9l hl b _ [val i off] (fun j u hj=>?_) (fun h=>by cases h) _ (by simp),hh i off e y he h⟩
   cases j with
   | zero=>simp at hj;subst hj;simpa using hc i off hi ho
   | succ j=>simp at hj
theorem z9m {cs:List DV}{v:Value}(h:RV G.D w (.ref cs) v):∃ b o,v = .pointer (some ⟨b,o,none⟩)∧RV G.D w (.sl [cs]) (.slice (some ⟨b,o,none⟩) [cs].length 1):=by
 cases h with
 | ref _ b o val hcell hc hD hh=>
  refine ⟨b,o,rfl,.sl [cs] b o 1 cs.length (fun _ j=>val j) (show 1≤BIG by decide) (Nat.le_refl _) (fun e he=>by rw [List.mem_singleton.1 he]) (fun e he c hce=>?_) (fun i j hi hj=>?_) (fun i j hi hj=>?_) (fun i j e c he hce=>?_)⟩
  ·rw [List.mem_singleton.1 he] at hce;exact hcell c hce
  ·have hi:i<1:=hi
   obtain rfl:i=0:=by omega
   rw [Nat.zero_mul,Nat.zero_add];exact hc j hj
  ·have hi:i<1:=hi
   obtain rfl:i=0:=by omega
   rw [Nat.zero_mul,Nat.zero_add];exact hD j hj
  ·cases i with
   | zero=>simp at he;subst he;exact hh j c hce
   | succ i=>simp at he
theorem zey (R:Rel X G s a w){t:TypeId}{x y:SV}{v:Value}(hx:RSV G w x v)(h:loadAt X (get s) t x=some y) :
  ∃ u,(Instr.loadAt t v).run X.P w = .ok u w∧RSV G w y u:=by
 unfold loadAt at h
 split at h
 ·rename_i k off
  split at h
  ·rename_i agg n cs hl hg
   obtain rfl:=hx
   obtain ⟨u,h1,h2⟩:=zew (R.holds _ _ hg) hl h
   exact ⟨u,by simp [Instr.loadAt,Instr.sureAddr,h1],h2⟩
  ·cases h
 ·rename_i els i off
  split at h
  ·rename_i agg n e hl he
   obtain ⟨b,o,E,cap,hr,hE,hi,rfl⟩:=hx
   cases hd:readD e agg off n with
   | none=>simp [hd] at h
   | some y'=>
    simp [hd] at h
    subst h
    obtain ⟨u,h1,h2⟩:=zex hr hE he hl hd
    exact ⟨u,by simp [Instr.loadAt,Instr.sureAddr,h1],h2⟩
  ·cases h
 ·rename_i b off
  split at h
  ·rename_i agg n cs hl hg
   cases hx
   obtain ⟨u,h1,h2⟩:=zew (R.holds _ _ hg) hl h
   exact ⟨u,by simp [Instr.loadAt,Instr.sureAddr,h1],h2⟩
  ·cases h
 ·rename_i cs
  split at h
  ·rename_i agg n hl
   obtain ⟨b,o,rfl,hr⟩:=z9m hx
   cases hd:readD cs agg 0 n with
   | none=>simp [hd] at h
   | some y'=>
    simp [hd] at h
    subst h
    obtain ⟨u,h1,h2⟩:=zex hr (E:=cs.length) (i:=0) (off:=0) (fun e he=>by rw [List.mem_singleton.1 he]) rfl hl hd
    rw [Nat.zero_mul,Nat.zero_add,Nat.add_zero] at h1
    exact ⟨u,by simp [Instr.loadAt,Instr.sureAddr,h1],h2⟩
  ·cases h
 ·cases h
end
end
section
section
variable {X:Ctx}{G:Gh}{s:St}{a:Act}{w:World}
theorem z0o {D:Nat→Nat→Prop}{w:World}{u v:Value}(h:RV D w (.prim u) v):v=u∧primOK u:=by
 cases h with
 | prim _ h=>exact ⟨rfl,h⟩
theorem zln {op:BinOp}{k:IntKind}{x y:Int}{c:Prop}{r:SV}(h:intOp op k x y=some (c,r))(hc:c)(t:TypeId) :
  ∃ v,(binOp op t (.int k x) (.int k y)).run X.P w = .ok v w∧RSV G w r v:=by
 have ok:∀ n,intOK k n→RSV G w (.v (.prim (.int k n))) (.int k n):=fun n h=>.prim _ h
 have bk:∀ b,RSV G w (.v (.prim (.bool b))) (.bool b):=fun b=>.prim _ trivial
 cases op <;> simp only [intOp,Option.some.injEq,Prod.mk.injEq,reduceCtorEq] at h <;> obtain ⟨rfl,rfl⟩:=h
 ·exact ⟨_,by simp [binOp,Op.intArith,z66 hc],ok _ hc⟩
 ·exact ⟨_,by simp [binOp,Op.intArith,z66 hc],ok _ hc⟩
 ·exact ⟨_,by simp [binOp,Op.intArith,z66 hc],ok _ hc⟩
 ·exact ⟨_,by simp [binOp,Op.intDiv,hc.1,z66 hc.2],ok _ hc.2⟩
 ·exact ⟨_,by simp [binOp,Op.intDiv,hc.1],ok _ hc.2⟩
 all_goals exact ⟨_,by simp only [binOp,Op.intCmp,if_false,ne_eq,not_true_eq_false,Sem.run_pure],bk _⟩
theorem zlo (op:BinOp)(t:TypeId)(x y:Operand)(k k':IntKind)(p q:Int):(eqGuard op t x y (.int k p) (.int k' q)).run X.P w = .ok () w:=by
 unfold eqGuard
 cases op <;> simp
theorem zez (op:BinOp)(t:TypeId)(x y:Operand)(p q:Bool):(eqGuard op t x y (.bool p) (.bool q)).run X.P w = .ok () w:=by
 unfold eqGuard
 cases op <;> simp
theorem zbt (R:Rel X G s a w):∀ {l:List Operand} {ds:List DV},evlDs X (get s) l=some ds→l.length=ds.length∧∀ (i:Nat) (c:DV) (v:Value),ds[i]? = some c→(l.map a.eval)[i]? = some v→RV G.D w c v
 | [],ds,h=>by cases h;simp
 | x::r,ds,h=>by
  simp only [evlDs] at h
  split at h
  ·rename_i y ys hy hys
   cases h
   obtain ⟨h1,h2⟩:=zbt R hys
   obtain ⟨z,hz,hz'⟩:=Option.bind_eq_some_iff.1 hy
   refine ⟨by simp [h1],fun i c v hc hv=>?_⟩
   cases i with
   | zero=>
    simp at hc hv;subst hc hv
    exact z4l hz' (z0d R hz)
   | succ i=>exact h2 i c v (by simpa using hc) (by simpa using hv)
  ·cases h
theorem z68 (hn:G.τ 0=(none,0)){x:SV}{v:Value}(h:RSV G w x v):v.cells.size=(cellsS x).length∧∀ (i:Nat) (c:SV) (u:Value),(cellsS x)[i]? = some c→v.cells[i]? = some u→RSV G w c u:=by
 have one:∀ (x:SV) (v:Value),cellsS x=[x]→v.cells = #[v]→RSV G w x v→v.cells.size=(cellsS x).length∧∀ (i:Nat) (c:SV) (u:Value),(cellsS x)[i]? = some c→v.cells[i]? = some u→RSV G w c u:=by
  intro x v h1 h2 h3
  rw [h1,h2]
  refine ⟨rfl,fun i c u hc hu=>?_⟩
  cases i with
  | zero=>simp at hc hu;subst hc hu;exact h3
  | succ i=>simp at hc
 cases x with
 | v x=>
  cases x with
  | agg cs=>
   cases h with
   | agg _ vs hl hcell hh=>
    refine ⟨by simp [Value.cells,cellsS,cellsD,hl],fun i c u hc hu=>?_⟩
    simp only [cellsS,cellsD,List.getElem?_map] at hc
    cases hq:cs[i]? with
    | none=>simp [hq] at hc
    | some c'=>simp [hq] at hc;subst hc;exact hh i c' u hq hu
  | prim p=>
   refine one _ _ rfl ?_ h
   obtain ⟨rfl,hp⟩:=z0o h
   cases v <;> first|rfl|exact hp.elim
  | tup cs=>cases h;exact one _ _ rfl rfl (.tup _ _ ‹_› ‹_›)
  | sl els=>
   refine one _ _ rfl ?_ h
   cases h <;> rfl
  | iface t y=>
   refine one _ _ rfl ?_ h
   cases h;rfl
  | ref cs=>
   refine one _ _ rfl ?_ h
   cases h;rfl
 | loc k off=>obtain rfl:=h;exact one _ _ rfl rfl rfl
 | dp els i off=>have h':=h;obtain ⟨b,o,E,cap,-,-,-,rfl⟩:=h;exact one _ _ rfl rfl h'
 | own t els=>have h':=h;obtain ⟨rfl,-⟩:=h;exact one _ _ rfl rfl h'
 | ag cs ns=>
  obtain ⟨h1,h2⟩:=h
  cases h1 with
  | agg _ vs hl hcell hh=>
   refine ⟨by simp [Value.cells,cellsS,hl,(zbr ns cs 0).1],fun i c u hc hu=>?_⟩
   simp only [cellsS,(zbr ns cs 0).2] at hc
   cases hq:cs[i]? with
   | none=>simp [hq] at hc
   | some c'=>
    simp only [hq,Option.map_some,Option.some.injEq,Nat.zero_add] at hc
    split at hc
    ·rename_i hm
     subst hc
     obtain ⟨k1,k2⟩:=h2 i ((zlm _ _).1 hm)
     rw [hu] at k2
     cases k2
     show _=_∧_
     rw [hn]
     exact ⟨rfl,.sl0 _ _⟩
    ·subst hc;exact hh i c' u hq hu
end
end
section
section
variable {X:Ctx}{G:Gh}{s:St}{a:Act}{w:World}
def RowOf (G:Gh)(w:World)(cs:List SV)(c:Array Value):Prop:=
 c.size=cs.length∧∀ (i:Nat) (x:SV) (v:Value),cs[i]? = some x→c[i]? = some v→RSV G w x v
theorem zbu:∀ (off:Nat) (cs xs:List SV),off+xs.length≤cs.length→(put cs off xs).length=cs.length
 | 0,cs,xs,h=>by simp [put];omega
 | off+1,[],xs,h=>by simp [put]
 | off+1,c::r,xs,h=>by simp [put,zbu off r xs (by simp at h;omega)]
theorem z58:∀ (off:Nat) (cs xs:List SV) (k:Nat),off+xs.length≤cs.length→(put cs off xs)[k]? = if off≤k∧k<off+xs.length then xs[k - off]? else cs[k]?
 | 0,cs,xs,k,h=>by
  simp only [put,Nat.zero_le,true_and,Nat.zero_add,Nat.sub_zero]
  by_cases hk:k<xs.length
  ·rw [List.getElem?_append_left hk,if_pos hk]
  ·rw [List.getElem?_append_right (by omega),if_neg hk,List.getElem?_drop]
   congr 1;omega
 | off+1,[],xs,k,h=>by simp at h
 | off+1,c::r,xs,k,h=>by
  cases k with
  | zero=>simp [put]
  | succ k=>
   simp only [put,List.getElem?_cons_succ]
   rw [z58 off r xs k (by simp at h;omega)]
   by_cases hk:off≤k∧k<off+xs.length
   ·rw [if_pos hk,if_pos (by omega)];congr 1;omega
   ·rw [if_neg hk,if_neg (by omega)]
def setAll (c:Array Value)(off:Nat)(vs:Array Value):Array Value:=vs.zipIdx.foldl (fun cs (v,j)=>cs.setIfInBounds (off+j) v) c
theorem zf1 (off:Nat):∀ (l:List Value) (k:Nat) (c:Array Value),off+k+l.length≤c.size →
  ((l.zipIdx k).foldl (fun cs (p:Value × Nat)=>cs.setIfInBounds (off+p.2) p.1) c).size=c.size ∧
  ∀ i,((l.zipIdx k).foldl (fun cs (p:Value × Nat)=>cs.setIfInBounds (off+p.2) p.1) c)[i]? = if off+k≤i∧i<off+k+l.length then l[i - (off+k)]? else c[i]?
 | [],k,c,h=>by
  refine ⟨by simp,fun i=>?_⟩
  simp;intro h1 h2;omega
 | v::r,k,c,h=>by
  simp only [List.zipIdx_cons,List.foldl_cons]
  simp only [List.length_cons] at h
  obtain ⟨h1,h2⟩:=zf1 off r (k+1) (c.setIfInBounds (off+k) v) (by simp;omega)
  refine ⟨by rw [h1];simp,fun i=>?_⟩
  rw [h2]
  by_cases hi:off+(k+1)≤i∧i<off+(k+1)+r.length
  ·rw [if_pos hi,if_pos (by simp;omega)]
   rw [show i - (off+k)=(i - (off+(k+1)))+1 from by omega]
   simp
  ·rw [if_neg hi]
   by_cases he:i=off+k
   ·subst he
    rw [if_pos (by simp)]
    have:off+k<c.size:=by omega
    simp [this]
   ·rw [if_neg (by simp;omega),Array.getElem?_setIfInBounds_ne (by omega)]
theorem z9n (c:Array Value)(off:Nat)(vs:Array Value)(h:off+vs.size≤c.size):(setAll c off vs).size=c.size∧∀ i,(setAll c off vs)[i]? = if off≤i∧i<off+vs.size then vs[i - off]? else c[i]?:=by
 have:=zf1 off vs.toList 0 c (by simpa using h)
 unfold setAll
 rw [← Array.foldl_toList,Array.toList_zipIdx]
 simpa using this
theorem RowOf.put {cs xs:List SV}{c vs:Array Value}{off:Nat}(h:RowOf G w cs c)(k:RowOf G w xs vs)(hle:off+xs.length≤cs.length):RowOf G w (put cs off xs) (setAll c off vs):=by
 have hs:=z9n c off vs (by rw [k.1,h.1];exact hle)
 refine ⟨by rw [hs.1,zbu _ _ _ hle];exact h.1,fun i x v hx hv=>?_⟩
 rw [z58 _ _ _ _ hle] at hx
 rw [hs.2,k.1] at hv
 by_cases hi:off≤i∧i<off+xs.length
 ·rw [if_pos hi] at hx hv;exact k.2 _ _ _ hx hv
 ·rw [if_neg hi] at hx hv;exact h.2 _ _ _ hx hv
theorem z69 (hn:G.τ 0=(none,0)):∀ {l:List Value} {cs:List SV},zeroS l=some cs→RowOf G w cs l.toArray
 | [],cs,h=>by cases h;exact ⟨rfl,by simp⟩
 | v::r,cs,h=>by
  simp only [zeroS] at h
  split at h
  ·rename_i x xs hx hxs
   cases h
   have ih:=z69 hn hxs
   refine ⟨by simpa using ih.1,fun i c u hc hu=>?_⟩
   cases i with
   | zero=>simp at hc hu;subst hc hu;exact zeu hn hx
   | succ i=>exact ih.2 i c u (by simpa using hc) (by simpa using hu)
  ·cases h
theorem zf2 (R:Rel X G s a w)(pl:List (Nat × Nat))(place:Nat→Option (Nat × Nat))(hp:∀ i q,pl[i]? = some q→place i=some q):∀ (parts:List (Nat × Operand)) (cs:List SV) (c:Array Value) (cs':List SV),RowOf G w cs c→fillS pl X (get s) cs parts=some cs' →
  ∃ c',Instr.fill place c (parts.map fun q=>(q.1,a.eval q.2))=some c'∧RowOf G w cs' c'
 | [],cs,c,cs',hr,h=>by cases h;exact ⟨c,rfl,hr⟩
 | (i,x)::rest,cs,c,cs',hr,h=>by
  simp only [fillS] at h
  split at h
  ·rename_i off size y hpl hy
   split at h
   ·rename_i hc
    obtain ⟨hc1,hc2⟩:=hc
    have hv:=z68 R.nil (z0d R hy)
    have hrow:RowOf G w (cellsS y) (a.eval x).cells:=hv
    obtain ⟨c',h1,h2⟩:=zf2 R pl place hp rest _ _ cs' (hr.put hrow (by rw [hc1];exact hc2)) h
    refine ⟨c',?_,h2⟩
    simp only [List.map_cons,Instr.fill,hp _ _ hpl]
    rw [if_neg]
    ·exact h1
    ·have e1:=hr.1
     have e2:=hv.1
     simp only [Bool.or_eq_true,decide_eq_true_eq,not_or]
     omega
   ·cases h
  ·cases h
theorem z7h {cs:List SV}{c:Array Value}{ds:List DV}(h:RowOf G w cs c)(hd:toDs cs=some ds):c.size=ds.length∧∀ (i:Nat) (d:DV) (v:Value),ds[i]? = some d→c[i]? = some v→RV G.D w d v:=by
 obtain ⟨h1,h2⟩:=z67 hd
 refine ⟨h.1.trans h1,fun i d v hi hv=>?_⟩
 obtain ⟨x,hx,hxd⟩:=h2 i d hi
 exact z4l hxd (h.2 i x v hx hv)
theorem z6a (l:List DV):cellB l=true↔∀ c ∈ l,c.isCell=true:=by
 induction l with
 | nil=>simp [cellB]
 | cons c r ih=>simp [cellB,ih]
theorem zlp {P:Program}{t:TypeId}{z:List SV}{pl:List (Nat × Nat)}(hz:zeroT P t=some z)(hpl:placesT P t=some pl)(hn:G.τ 0=(none,0)) :
  ∃ zc place,RowOf G w z zc∧(∀ i q,pl[i]? = some q→place i=some q)∧∀ (parts:Array (Nat × Value)) (c':Array Value),Instr.fill place zc parts.toList=some c'→(Instr.build t parts).run P w = .ok (.agg c') w:=by
 unfold zeroT at hz
 split at hz
 ·rename_i it hit
  split at hz
  ·rename_i zv hzv
   have hrow:=z69 (w:=w) hn hz
   simp only [Array.toArray_toList] at hrow
   unfold placesT at hpl
   split at hpl
   ·rename_i fields hu
    refine ⟨zv.cells,(pl.toArray[·]?),hrow,fun i q hq=>by simpa using hq,fun parts c' hf=>run_build w t parts c' ?_⟩
    unfold Program.built
    simp only [hit,hu,hzv,hpl]
    exact hf
   ·rename_i n e hu
    cases hie:P.info? e with
    | none=>simp [hie] at hpl
    | some ie=>
     simp [hie] at hpl
     subst hpl
     refine ⟨zv.cells,(fun i=>some (i * ie.size,ie.size)),hrow,fun i q hq=>?_,fun parts c' hf=>run_build w t parts c' ?_⟩
     ·have hi:i<n:=by
       have:=(List.getElem?_eq_some_iff.1 hq).1;simpa using this
      simp [hi] at hq
      exact hq ▸ rfl
     ·unfold Program.built
      simp only [hit,hu,hzv,hie]
      exact hf
   ·cases hpl
  ·cases hz
 ·cases hz
theorem zlq {P:Program}{t:TypeId}(h:boolT P t=true):P.underlying t=some .bool:=by
 unfold boolT at h
 split at h
 ·assumption
 ·cases h
theorem z3i {P:Program}{t E:Nat}(h:elemT P t=some E):∃ e i,P.underlying t=some (.slice e)∧P.info? e=some i∧i.size=E:=by
 unfold elemT at h
 split at h
 ·rename_i e hu
  cases hi:P.info? e with
  | none=>simp [hi] at h
  | some i=>simp [hi] at h;exact ⟨e,i,hu,hi,h⟩
 ·cases h
theorem z9o {P:Program}{t n E:Nat}(h:arrT P t=some (n,E)):∃ e i,P.underlying t=some (.array n e)∧P.info? e=some i∧i.size=E:=by
 unfold arrT at h
 split at h
 ·rename_i n' e hu
  cases hi:P.info? e with
  | none=>simp [hi] at h
  | some i=>simp [hi] at h;obtain ⟨rfl,h⟩:=h;exact ⟨e,i,hu,hi,h⟩
 ·cases h
theorem z7i {P:Program}{t f:Nat}{agg:Bool}{off n:Nat}(h:fieldT P t f=some (agg,off,n)) :
  ∃ fs fl,P.underlying t=some (.struct fs)∧fs[f]? = some fl∧layT P fl.type=some (agg,n)∧n ≠ 0∧fl.offset=off:=by
 unfold fieldT at h
 split at h
 ·rename_i fs hu
  split at h
  ·rename_i fl hf
   split at h
   ·rename_i b m hl
    split at h
    ·cases h
    ·simp only [Option.some.injEq,Prod.mk.injEq] at h
     obtain ⟨rfl,rfl,rfl⟩:=h
     exact ⟨fs,fl,hu,hf,hl,by assumption,rfl⟩
   ·cases h
  ·cases h
 ·cases h
theorem z45 {x:SV}{els:List (List DV)}{v:Value}(h:slOf x=some els)(hr:RSV G w x v):∃ b cap,v = .slice b els.length cap∧RV G.D w (.sl els) v∧els.length≤cap:=by
 have key:RV G.D w (.sl els) v→∃ b cap,v = .slice b els.length cap∧RV G.D w (.sl els) v∧els.length≤cap:=by
  intro h
  have h':=h
  cases h with
  | sl0 b cap=>exact ⟨b,cap,rfl,h',Nat.zero_le _⟩
  | sl _ b o cap E val hlen hcap hE hcell hc hD hh=>exact ⟨_,cap,rfl,h',hcap⟩
 cases x with
 | v x=>
  cases x with
  | sl e=>cases h;exact key hr
  | _=>cases h
 | own t e=>cases h;exact key hr.2
 | loc=>cases h
 | dp=>cases h
 | ag=>cases h
theorem zlr {els:List (List DV)}{v:Value}(hr:RV G.D w (.sl els) v){i:Nat}{e:List DV}(he:els[i]? = some e) :
  ∃ b o cap,v = .slice (some ⟨b,o,none⟩) els.length cap∧RSV G w (.dp els i 0) (.pointer (some ⟨b,o+i * e.length,none⟩)):=by
 have hi:i<els.length:=(List.getElem?_eq_some_iff.1 he).1
 have hr':=hr
 cases hr with
 | sl0=>simp at hi
 | sl _ b o cap E val hlen hcap hE hcell hc hD hh=>
  have:e.length=E:=hE e (List.mem_of_getElem? he)
  subst this
  exact ⟨b,o,cap,rfl,b,o,e.length,cap,hr',hE,hi,rfl⟩
theorem zls {P:Program}{t f:Nat}{agg:Bool}{off n:Nat}(h:fieldT P t f=some (agg,off,n)){y c:DV}{v:Value}(hy:y.isAgg=true)(hv:RV G.D w y v)(hd:readD (cellsD y) agg off n=some c) :
  ∃ u,(Instr.field t v f).run P w = .ok u w∧RV G.D w c u:=by
 obtain ⟨fs,fl,hu,hf,hl,hn,rfl⟩:=z7i h
 obtain ⟨l1,l2⟩:=z9k (w:=w) hl
 cases hv with
 | prim=>cases hy
 | sl0=>cases hy
 | sl=>cases hy
 | iface=>cases hy
 | ref=>cases hy
 | tup=>cases hy
 | agg cs vs hl' hcell hh=>
  rw [show cellsD (DV.agg cs)=cs from rfl] at hd
  unfold readD at hd
  cases agg with
  | true=>
   simp only [if_true] at hd
   by_cases hlen:(List.take n (List.drop fl.offset cs)).length=n
   ·rw [if_pos hlen] at hd
    cases hd
    simp at hlen
    refine ⟨.agg (vs.extract fl.offset (fl.offset+n)),by simp [Instr.field,run_underlying hu,hf,part,asAgg,l1,l2],?_⟩
    refine .agg _ _ (by simp;omega) (fun c hc=>hcell c (List.mem_of_mem_drop (List.mem_of_mem_take hc))) (fun i c v hc hv=>?_)
    have hi:i<n:=by
     have:=(List.getElem?_eq_some_iff.1 hc).1;simp at this;omega
    rw [List.getElem?_take_of_lt hi,List.getElem?_drop] at hc
    have hv':vs[fl.offset+i]? = some v:=by
     have:=(Array.getElem?_eq_some_iff.1 hv).1
     simp at this
     rw [Array.getElem?_extract,if_pos (by omega)] at hv
     exact hv
    exact hh _ c v hc hv'
   ·rw [if_neg hlen] at hd;cases hd
  | false=>
   simp only [Bool.false_eq_true,if_false] at hd
   have hlt:fl.offset<vs.size:=by rw [hl'];exact (List.getElem?_eq_some_iff.1 hd).1
   have hv:vs[fl.offset]? = some vs[fl.offset]:=Array.getElem?_eq_getElem hlt
   exact ⟨vs[fl.offset],by simp [Instr.field,run_underlying hu,hf,part,asAgg,l1,hv],hh _ c _ hd hv⟩
end
end
section
section
variable {X:Ctx}{G:Gh}{s:St}{a:Act}{w:World}
theorem z7j {α:Type}{o:Option α}{c:Prop}{y:α}(h:o.map (True,·)=some (c,y)):o=some y:=by
 cases o with
 | none=>cases h
 | some z=>simp at h;rw [h.2]
theorem z59 (R:Rel X G s a w){d:Nat}{x:Option Operand}{n:Int}(h:bound X (get s) d x=some n) :
  (x=none∧n=d)∨∃ y k,x=some y∧a.eval y = .int k n:=by
 cases x with
 | none=>simp [bound] at h;exact .inl ⟨rfl,h.symm⟩
 | some y=>
  simp only [bound] at h
  split at h
  ·rename_i k m hy
   cases h
   exact .inr ⟨y,k,rfl,(z0o (z0d R hy)).1⟩
  ·cases h
theorem zf3 {P:Program}{w:World}{t e:TypeId}{i:TypeInfo}(hu:P.underlying t=some (.slice e))(hi:P.info? e=some i)(b:Option Addr)(len cap:Nat)(lo hi':Option Value)(l h:Int)
  (hlo:(lo=none∧l=0)∨∃ k,lo=some (.int k l)) (hhi:(hi' = none∧h=len)∨∃ k,hi' = some (.int k h)) (h0:0≤l) (h1:l≤h) (h2:h≤cap) :
  (Instr.sliceAt t (.slice b len cap) lo hi' none).run P w = .ok (.slice (if cap=l.toNat then b else b.map fun q=>q.add (l.toNat * i.size)) (h.toNat - l.toNat) (cap - l.toNat)) w:=by
 have hl':(l.toNat:Int)=l:=Int.toNat_of_nonneg h0
 have hh':(h.toNat:Int)=h:=Int.toNat_of_nonneg (by omega)
 have hsz:(sizeOf e).run P w = .ok i.size w:=by simp [sizeOf,typeInfo,hi]
 have c1:l≤(h.toNat:Int):=by omega
 rcases hlo with ⟨rfl,rfl⟩|⟨k,rfl⟩ <;> rcases hhi with ⟨rfl,rfl⟩|⟨k',rfl⟩
 all_goals simp [Instr.sliceAt,Instr.slice,run_underlying hu,Instr.sliceBounds,Instr.sliceBound,asIntOf,hsz]
 all_goals (try simp [h0,h1,h2])
 all_goals (try (rw [if_pos (by omega:(0:Int)≤h),if_pos (by omega)]))
 all_goals (try (intros;omega))
theorem zf4 {w:World}{D:Nat→Nat→Prop}{els:List (List DV)}{b:Option Addr}{cap:Nat}(hr:RV D w (.sl els) (.slice b els.length cap)){E:Nat}(hE:∀ e ∈ els,e.length=E)(l h:Nat)(h1:l≤h)(h2:h≤els.length)(hcap:els.length≤cap) :
  RV D w (.sl ((els.take h).drop l)) (.slice (if cap=l then b else b.map fun q=>q.add (l * E)) (h - l) (cap - l)):=by
 by_cases hlh:l=h
 ·subst hlh
  have:(els.take l).drop l=[]:=by simp
  rw [this,Nat.sub_self]
  exact .sl0 _ _
 ·have hlen:((els.take h).drop l).length=h - l:=by simp;omega
  generalize hL:(els.take h).drop l=L at *
  rw [← hlen]
  have hne:cap ≠ l:=by omega
  rw [if_neg hne]
  generalize hn:els.length=n at *
  cases hr with
  | sl0=>simp only [List.length_nil] at *;omega
  | sl _ b o _ E' val hl' hc' hE' hcell hc hD hh=>
   have hEE:E' = E:=by
    cases els with
    | nil=>simp only [List.length_nil] at *;omega
    | cons e r=>rw [← hE' e (by simp),hE e (by simp)]
   subst hEE
   simp only [Option.map_some,z27]
   have hmem:∀ e ∈ L,e ∈ els:=fun e he=>by rw [← hL] at he;exact List.mem_of_mem_take (List.mem_of_mem_drop he)
   have hget:∀ i,i<L.length→L[i]? = els[l+i]?:=fun i hi=>by
    rw [← hL,List.getElem?_drop,List.getElem?_take_of_lt (by omega)]
   refine .sl L b (o+l * E') (cap - l) E' (fun i j=>val (l+i) j) (by omega) (by omega) (fun e he=>hE' e (hmem e he)) (fun e he=>hcell e (hmem e he)) (fun i j hi hj=>?_) (fun i j hi hj=>?_) (fun i j e c he hc=>?_)
   ·have:=hc (l+i) j (by omega) hj
    rw [← this];congr 2;rw [Nat.add_mul];omega
   ·have:=hD (l+i) j (by omega) hj
    have e:o+((l+i) * E'+j)=o+l * E'+(i * E'+j):=by rw [Nat.add_mul];omega
    rw [← e];exact this
   ·rw [hget i (List.getElem?_eq_some_iff.1 he).1] at he
    exact hh _ _ _ _ he hc
theorem z9p {P:Program}{w:World}{fl:Field}{agg:Bool}{n b o:Nat}(hl:layT P fl.type=some (agg,n))(hn:n ≠ 0):(fieldPlace ⟨b,o,none⟩ fl).run P w = .ok ⟨b,o+fl.offset,none⟩ w:=by
 obtain ⟨-,l2⟩:=z9k (w:=w) hl
 simp [fieldPlace,l2,hn,z27]
theorem z4m {α:Type}{a:Array α}{l:List α}(h:a.toList=l):a=l.toArray:=by rw [← h]
theorem zlt (R:Rel X G s a w){k:Call}{t:TypeId}{c:Prop}{y:SV}(h:pcall X (get s) k=some (c,y))(hc:c) :
  ∃ v,(do let d ← resolve a.eval k t;invoke d.target d.args:Sem Next).run X.P w = .ok (.value v) w∧RSV G w y v:=by
 unfold pcall at h
 split at h
 case h_1 x t' hcal harg hty=>
  have hc':k = { callee:=.builtin .len,args:=#[x],argTypes:=#[t'] }:=by cases k;simp only at hcal harg hty;rw [hcal,z4m harg,z4m hty]
  split at h
  ·rename_i E els hE hs
   cases h
   obtain ⟨e',ie,hu,hie,hsz⟩:=z3i hE
   obtain ⟨q,hq,hq'⟩:=Option.bind_eq_some_iff.1 hs
   obtain ⟨b,cap,hv,hr,hcap⟩:=z45 hq' (z0d R hq)
   have hbig:els.length≤BIG:=by have:=RV.fit hr;simp only [DV.fit] at this;exact this.1
   refine ⟨_,?_,.prim _ ?_⟩
   ·simp [hc',hv,resolve,invoke,builtin,Builtin.len_,run_underlying hu,goInt]
   ·show intOK .i64 _
    rw [z57]
    unfold BIG at hbig
    omega
  ·split at h
   ·rename_i E q n cap hE hx
    cases h
    obtain ⟨e',ie,hu,hie,hsz⟩:=z3i hE
    have hv:=(z0o (z0d R hx)).1
    refine ⟨_,?_,.prim _ ?_⟩
    ·simp [hc',hv,resolve,invoke,builtin,Builtin.len_,run_underlying hu,goInt]
    ·show intOK .i64 _
     rw [z57]
     unfold BIG at hc
     omega
   ·cases h
 case h_2 x z hcal harg=>
  have hc':k = { callee:=.builtin .max,args:=#[x,z],argTypes:=k.argTypes }:=by cases k;simp only at hcal harg;rw [hcal,z4m harg]
  split at h
  ·rename_i k p k' q hx hy
   cases h
   have hx':=z0o (z0d R hx)
   have hy':=z0o (z0d R hy)
   refine ⟨.int k (if q > p then q else p),?_,.prim _ ?_⟩
   ·rw [hc']
    simp [hx'.1,hy'.1,resolve,invoke,builtin,run_max_int2]
   show intOK _ _
   split
   ·exact hc
   ·exact hx'.2
  ·cases h
 case h_3 x z hcal harg=>
  have hc':k = { callee:=.builtin .min,args:=#[x,z],argTypes:=k.argTypes }:=by cases k;simp only at hcal harg;rw [hcal,z4m harg]
  split at h
  ·rename_i k p k' q hx hy
   cases h
   have hx':=z0o (z0d R hx)
   have hy':=z0o (z0d R hy)
   refine ⟨.int k (if q<p then q else p),?_,.prim _ ?_⟩
   ·rw [hc']
    simp [hx'.1,hy'.1,resolve,invoke,builtin,run_min_int2]
   show intOK _ _
   split
   ·exact hc
   ·exact hx'.2
  ·cases h
 case h_4=>cases h
set_option maxHeartbeats 1000000 in
theorem zlu {P:Program}(d:Nat)(t e:TypeId)(p:Option Addr)(h:P.underlying t=some (.pointer e)) :
  (Op.equalIn (d+1) t (.pointer p) (.pointer none)).run P w = .ok p.isNone w:=by
 cases p <;> simp [Op.equalIn,run_underlying h]
theorem zf5 {P:Program}{t:TypeId}(hp:ptrT P t=true)(op:BinOp)(x y:Operand)(p:Option Addr){c:Prop}{r:SV}(h:nilB op p.isNone=some (c,r)) :
  ∃ v,(do eqGuard op t x y (.pointer p) (.pointer none);binOp op t (.pointer p) (.pointer none):Sem Value).run P w = .ok v w∧RSV G w r v:=by
 have hu:∃ e,P.underlying t=some (.pointer e):=by
  unfold ptrT at hp
  split at hp
  ·exact ⟨_,by assumption⟩
  ·cases hp
 obtain ⟨e,hu⟩:=hu
 have hq:=zlu (w:=w) 9999 t e p hu
 have hg:∀ op:BinOp,(eqGuard op t x y (.pointer p) (.pointer none)).run P w = .ok () w:=by
  intro op
  cases op <;> cases p <;> simp [eqGuard,run_underlying hu]
 unfold nilB at h
 split at h
 ·cases h
  refine ⟨.bool p.isNone,?_,.prim _ trivial⟩
  simp only [Sem.run_bind,hg,Result.andThen_ok,binOp]
  simp [Op.equal,Op.maxDepth,hq]
 ·cases h
  refine ⟨.bool (!p.isNone),?_,.prim _ trivial⟩
  simp only [Sem.run_bind,hg,Result.andThen_ok,binOp]
  simp [Op.equal,Op.maxDepth,hq]
 ·cases h
theorem pval_sound (R:Rel X G s a w){o:Oper}{c:Prop}{y:SV}(h:pval X (get s) o=some (c,y))(hc:c) :
  ∃ v,(execOp a.eval o).run X.P w = .ok (.value v) w∧RSV G w y v:=by
 unfold pval at h
 split at h
 case h_1 x hop=>exact ⟨a.eval x,by simp [execOp,hop],z0d R (z7j h)⟩
 case h_2 x hop=>exact ⟨a.eval x,by simp [execOp,hop],z0d R (z7j h)⟩
 case h_3 x p q hop=>
  split at h
  ·rename_i hx
   have hv:=(z0o (z0d R hx)).1
   exact ⟨a.eval p,by simp [execOp,hop,hv,asBool],z0d R (z7j h)⟩
  ·rename_i hx
   have hv:=(z0o (z0d R hx)).1
   exact ⟨a.eval q,by simp [execOp,hop,hv,asBool],z0d R (z7j h)⟩
  ·cases h
 case h_4 op t x z yt hop=>
  split at h
  ·rename_i k p k' q hx hy
   split at h
   ·subst_vars
    have hx':=(z0o (z0d R hx)).1
    have hy':=(z0o (z0d R hy)).1
    obtain ⟨v,h1,h2⟩:=zln (X:=X) (G:=G) (w:=w) h hc t
    exact ⟨v,by simp [execOp,hop,hx',hy',zlo,h1],h2⟩
   ·cases h
  ·rename_i p q hx hy
   have hx':=(z0o (z0d R hx)).1
   have hy':=(z0o (z0d R hy)).1
   split at h
   ·rename_i hb
    have hu:=zlq hb
    split at h
    ·cases h;exact ⟨_,by simp [execOp,hop,hx',hy',zez,run_eql_bool _ _ _ _ hu],.prim _ trivial⟩
    ·cases h;exact ⟨_,by simp [execOp,hop,hx',hy',zez,run_neq_bool _ _ _ _ hu],.prim _ trivial⟩
    ·cases h
   ·cases h
  ·rename_i cs hx hy
   have hy':=(z0o (z0d R hy)).1
   obtain ⟨b,o',hx',-⟩:=z9m (z0d R hx)
   split at h
   ·rename_i hp
    obtain ⟨v,h1,h2⟩:=zf5 (G:=G) (w:=w) hp op x z (some ⟨b,o',none⟩) h
    refine ⟨v,?_,h2⟩
    simp only [execOp,hop,hx',hy']
    simp only [Sem.run_bind] at h1 ⊢
    revert h1
    cases (eqGuard op t x z (.pointer (some ⟨b,o',none⟩)) (.pointer none)).run X.P w with
    | ok u w'=>
     simp only [Result.andThen_ok]
     intro h1
     rw [h1]
     rfl
    | _=>intro h1;cases h1
   ·cases h
  ·rename_i hx hy
   have hx':=(z0o (z0d R hx)).1
   have hy':=(z0o (z0d R hy)).1
   split at h
   ·rename_i hp
    obtain ⟨v,h1,h2⟩:=zf5 (G:=G) (w:=w) hp op x z none h
    refine ⟨v,?_,h2⟩
    simp only [execOp,hop,hx',hy']
    simp only [Sem.run_bind] at h1 ⊢
    revert h1
    cases (eqGuard op t x z (.pointer none) (.pointer none)).run X.P w with
    | ok u w'=>
     simp only [Result.andThen_ok]
     intro h1
     rw [h1]
     rfl
    | _=>intro h1;cases h1
   ·cases h
  ·cases h
 case h_5 op t x hop=>
  split at h
  ·rename_i b hx
   cases h
   have hx':=(z0o (z0d R hx)).1
   exact ⟨_,by simp [execOp,hop,hx',Op.unary],.prim _ trivial⟩
  ·rename_i k n hx
   cases h
   have hx':=(z0o (z0d R hx)).1
   exact ⟨_,by simp [execOp,hop,hx',Op.unary,Op.intArith,-Int.zero_sub,z66 hc],.prim _ hc⟩
  ·cases h
 case h_6 x i hop=>
  split at h
  ·rename_i cs hx
   cases hi:cs[i]? with
   | none=>simp [hi] at h
   | some d=>
    simp [hi] at h
    obtain ⟨-,rfl⟩:=h
    have hr:=z0d R hx
    generalize hv:a.eval x=v at hr
    cases hr with
    | tup _ vs hl hh=>
     have hlt:i<vs.size:=by rw [hl];exact (List.getElem?_eq_some_iff.1 hi).1
     have hv':vs[i]? = some vs[i]:=Array.getElem?_eq_getElem hlt
     exact ⟨vs[i],by simp [execOp,hop,hv,Instr.extract,hv'],hh i d _ hi hv'⟩
  ·cases h
 case h_7 t x f hop=>
  split at h
  ·rename_i agg off n y' hf hx
   cases hd:readD (cellsD y') agg off n with
   | none=>simp [hd] at h
   | some d=>
    rw [hd] at h
    simp only [Option.map_some,Option.some.injEq,Prod.mk.injEq] at h
    obtain ⟨rfl,rfl⟩:=h
    obtain ⟨u,h1,h2⟩:=zls hf hc (z0d R hx) hd
    exact ⟨u,by simp [execOp,hop,h1],h2⟩
  ·cases h
 case h_8 t x f hop=>
  split at h
  ·rename_i agg foff n k off hf hx
   cases h
   obtain ⟨fs,fl,hu,hfl,hl,hn,rfl⟩:=z7i hf
   have hv:a.eval x=_:=z0d R hx
   exact ⟨_,by simp [execOp,hop,hv,Instr.fieldAt,run_underlying hu,hfl,Instr.sureAddr,z9p hl hn],rfl⟩
  ·rename_i agg foff n els i off hf hx
   cases h
   obtain ⟨fs,fl,hu,hfl,hl,hn,rfl⟩:=z7i hf
   obtain ⟨b,o',E,cap,hr,hE,hi,hv⟩:=z0d R hx
   exact ⟨_,by simp [execOp,hop,hv,Instr.fieldAt,run_underlying hu,hfl,Instr.sureAddr,z9p hl hn];rfl,b,o',E,cap,hr,hE,hi,by congr 3;omega⟩
  ·rename_i agg foff n b off hf hx
   cases h
   obtain ⟨fs,fl,hu,hfl,hl,hn,rfl⟩:=z7i hf
   have hv:=(z0o (z0d R hx)).1
   exact ⟨_,by simp [execOp,hop,hv,Instr.fieldAt,run_underlying hu,hfl,Instr.sureAddr,z9p hl hn],.prim _ trivial⟩
  ·rename_i agg foff n cs hf hx
   cases h
   obtain ⟨fs,fl,hu,hfl,hl,hn,rfl⟩:=z7i hf
   obtain ⟨b,o',hv,hr⟩:=z9m (z0d R hx)
   refine ⟨_,by simp [execOp,hop,hv,Instr.fieldAt,run_underlying hu,hfl,Instr.sureAddr,z9p hl hn];rfl,b,o',cs.length,1,hr,fun e he=>by rw [List.mem_singleton.1 he],Nat.zero_lt_one,?_⟩
   congr 3
   omega
  ·cases h
 case h_9 t x i hop=>
  split at h
  ·rename_i yy k n hx hi
   have hn:=(z0o (z0d R hi)).1
   split at h
   ·rename_i E els hE hs
    split at h
    ·rename_i e he
     cases h
     obtain ⟨h0,rfl⟩:=hc
     obtain ⟨e',ie,hu,hie,hsz⟩:=z3i hE
     obtain ⟨b,cap,hv,hr,-⟩:=z45 hs (z0d R hx)
     obtain ⟨b',o',cap',hv',hdp⟩:=zlr hr he
     have hlt:n.toNat<els.length:=(List.getElem?_eq_some_iff.1 he).1
     have hn2:n<els.length:=by omega
     refine ⟨_,?_,hdp⟩
     simp [execOp,hop,hn,hv',Instr.indexAt,asIntOf,run_underlying hu,sizeOf,typeInfo,hie,hsz,h0,hn2,z27]
    ·cases h
   ·split at h
    ·rename_i len E k' off hA _
     cases h
     obtain ⟨h0,h1,h2⟩:=hc
     obtain ⟨e',ie,hu,hie,hsz⟩:=z9o hA
     have hv:a.eval x=_:=z0d R hx
     refine ⟨_,?_,rfl⟩
     simp [execOp,hop,hn,hv,Instr.indexAt,asIntOf,run_underlying hu,sizeOf,typeInfo,hie,hsz,h0,h1,z27,Instr.sureAddr]
    ·rename_i len E els j hA _
     split at h
     ·rename_i e he
      cases h
      obtain ⟨h0,h1,h2,rfl⟩:=hc
      obtain ⟨e',ie,hu,hie,hsz⟩:=z9o hA
      obtain ⟨b,o',E',cap,hr,hE',hj,hv⟩:=z0d R hx
      have hEE:e.length=E':=hE' e (List.mem_of_getElem? he)
      have hlt:j+n.toNat<els.length:=(List.getElem?_eq_some_iff.1 he).1
      refine ⟨_,?_,b,o',E',cap,hr,hE',hlt,rfl⟩
      simp [execOp,hop,hn,hv,Instr.indexAt,asIntOf,run_underlying hu,sizeOf,typeInfo,hie,hsz,h0,h1,z27,Instr.sureAddr]
      rw [hEE,Nat.add_mul];omega
     ·cases h
    ·rename_i len E els j off hA _
     cases h
     obtain ⟨h0,h1,h2⟩:=hc
     obtain ⟨e',ie,hu,hie,hsz⟩:=z9o hA
     obtain ⟨b,o',E',cap,hr,hE',hj,hv⟩:=z0d R hx
     refine ⟨_,?_,b,o',E',cap,hr,hE',hj,rfl⟩
     simp [execOp,hop,hn,hv,Instr.indexAt,asIntOf,run_underlying hu,sizeOf,typeInfo,hie,hsz,h0,h1,z27,Instr.sureAddr]
     try omega
    ·rename_i len E b off hA _
     cases h
     obtain ⟨h0,h1,h2⟩:=hc
     obtain ⟨e',ie,hu,hie,hsz⟩:=z9o hA
     have hv:=(z0o (z0d R hx)).1
     refine ⟨_,?_,.prim _ trivial⟩
     simp [execOp,hop,hn,hv,Instr.indexAt,asIntOf,run_underlying hu,sizeOf,typeInfo,hie,hsz,h0,h1,z27,Instr.sureAddr]
    ·rename_i b off len cap _ _
     split at h
     ·rename_i E hE
      cases h
      obtain ⟨h0,h1⟩:=hc
      obtain ⟨e',ie,hu,hie,hsz⟩:=z3i hE
      have hv:=(z0o (z0d R hx)).1
      refine ⟨_,?_,.prim _ trivial⟩
      simp [execOp,hop,hn,hv,Instr.indexAt,asIntOf,run_underlying hu,sizeOf,typeInfo,hie,hsz,h0,h1,z27]
     ·cases h
    ·cases h
  ·cases h
 case h_10 t x hop=>
  have h':=z7j h
  obtain ⟨z,hz,hz'⟩:=Option.bind_eq_some_iff.1 h'
  obtain ⟨u,h1,h2⟩:=zey R (z0d R hz) hz'
  exact ⟨u,by simp [execOp,hop,h1],h2⟩
 case h_11 t parts hop=>
  split at h
  ·rename_i z pl hz hpl
   split at h
   ·rename_i cs hcs
    split at h
    ·rename_i ds hds
     split at h
     case isFalse=>cases h
     rename_i hcb
     cases h
     obtain ⟨zc,place,hrow,hp,hrun⟩:=zlp (w:=w) hz hpl R.nil
     obtain ⟨c',h1,h2⟩:=zf2 R pl place hp parts.toList z zc cs hrow hcs
     have h3:=hrun (parts.map fun q=>(q.1,a.eval q.2)) c' (by simpa using h1)
     obtain ⟨k1,k2⟩:=z7h h2 hds
     refine ⟨.agg c',by simp [execOp,hop,h3],.agg ds c' k1 ((z6a ds).1 hcb) k2,fun i hi=>?_⟩
     obtain ⟨j,hij,hj⟩:=zbs hi
     obtain rfl:i=j:=by omega
     obtain ⟨t1,t2⟩:=z67 hds
     have hil:i<cs.length:=(List.getElem?_eq_some_iff.1 hj).1
     have hic:i<c'.size:=by rw [h2.1];exact hil
     have hdi:ds[i]? = some (ds[i]'(by omega)):=List.getElem?_eq_getElem (by omega)
     obtain ⟨z',hz1,hz2⟩:=t2 i _ hdi
     rw [hj] at hz1
     cases hz1
     have hz2':some (DV.sl [])=some (ds[i]'(by omega)):=hz2
     refine ⟨by rw [hdi,← hz2'],?_⟩
     have hr:=h2.2 i _ _ hj (Array.getElem?_eq_getElem hic)
     have hr1:c'[i] = .slice (G.τ 0).1 0 (G.τ 0).2:=hr.1
     rw [R.nil] at hr1
     show c'[i]? = _
     rw [Array.getElem?_eq_getElem hic,hr1]
    ·cases h
   ·cases h
  ·cases h
 case h_12 t x hop=>
  split at h
  ·rename_i z hz
   split at h
   ·rename_i hct
    cases h
    obtain ⟨q,hq,hq'⟩:=Option.bind_eq_some_iff.1 hz
    refine ⟨.iface t (a.eval x),?_,.iface t z _ (z4l hq' (z0d R hq))⟩
    unfold concT at hct
    split at hct
    ·cases hct
    ·rename_i d hd hu
     simp only [execOp,hop,Instr.makeInterface,Sem.run_bind,run_underlying hu,Result.andThen_ok]
     cases d <;> first|(exact (hd _ rfl).elim)|rfl
    ·cases hct
   ·cases h
  ·cases h
 case h_13 x hop=>
  split at h
  ·rename_i k off hx
   cases h
   have hv:a.eval x=_:=z0d R hx
   exact ⟨_,by simp [execOp,hop,hv],rfl⟩
  ·rename_i els i off hx
   cases h
   have hr:=z0d R hx
   obtain ⟨b,o',E,cap,hr',hE,hi,hv⟩:=hr
   exact ⟨_,by simp [execOp,hop,hv],b,o',E,cap,hr',hE,hi,rfl⟩
  ·rename_i ad hx
   cases h
   have hv:=(z0o (z0d R hx)).1
   exact ⟨_,by simp [execOp,hop,hv],.prim _ trivial⟩
  ·rename_i f p q hx
   cases h
   have hv:=(z0o (z0d R hx)).1
   exact ⟨_,by simp [execOp,hop,hv],.prim _ trivial⟩
  ·rename_i cs hx
   cases h
   have hr:=z0d R hx
   obtain ⟨b,o',hv,-⟩:=z9m hr
   rw [hv] at hr
   exact ⟨_,by simp [execOp,hop,hv],hr⟩
  ·cases h
 case h_14 sT dT x hop=>
  split at h
  ·rename_i k n ks kd hx hs hd
   cases h
   have hv:=(z0o (z0d R hx)).1
   have e1:∀ {t:TypeId} {k:IntKind},intT X.P t=some k→X.P.underlying t=some (.int k):=by
    intro t k h
    unfold intT at h
    split at h
    ·cases h;assumption
    ·cases h
   have u1:=e1 hs
   have u2:=e1 hd
   exact ⟨_,by simp [execOp,hop,hv,convert,run_underlying u1,run_underlying u2,Conv.intToInt,z66 hc],.prim _ hc⟩
  ·cases h
 case h_15 t x lo hi' hop=>
  split at h
  ·rename_i E els hE hs
   split at h
   ·rename_i l hh hlo hhi
    cases h
    obtain ⟨h0,h1,h2,h3⟩:=hc
    obtain ⟨e',ie,hu,hie,rfl⟩:=z3i hE
    obtain ⟨q,hq,hq'⟩:=Option.bind_eq_some_iff.1 hs
    obtain ⟨b,cap,hv,hr,hcap⟩:=z45 hq' (z0d R hq)
    have hlo':(lo.map a.eval=none∧l=0)∨∃ k,lo.map a.eval=some (.int k l):=by
     rcases z59 R hlo with ⟨rfl,h⟩|⟨z,k,rfl,h⟩
     ·exact .inl ⟨rfl,h⟩
     ·exact .inr ⟨k,by simp [h]⟩
    have hhi':(hi'.map a.eval=none∧hh=els.length)∨∃ k,hi'.map a.eval=some (.int k hh):=by
     rcases z59 R hhi with ⟨rfl,h⟩|⟨z,k,rfl,h⟩
     ·exact .inl ⟨rfl,h⟩
     ·exact .inr ⟨k,by simp [h]⟩
    have hrun:=zf3 (w:=w) hu hie b els.length cap _ _ l hh hlo' hhi' h0 h1 (by omega)
    have hsl:=zf4 (hv ▸ hr) h3 l.toNat hh.toNat (by omega) (by omega) hcap
    refine ⟨_,?_,hsl⟩
    simp only [execOp,hop,hv,Option.map_none,hrun,Sem.run_bind,Result.andThen_ok,Sem.run_pure]
   ·cases h
  ·split at h
   ·rename_i E b o n cap l hE hx hlo
    split at h
    ·rename_i hh hhi
     cases h
     obtain ⟨rfl,h1,h2⟩:=hc
     obtain ⟨e',ie,hu,hie,rfl⟩:=z3i hE
     have hv:=(z0o (z0d R hx)).1
     have hlo':(lo.map a.eval=none∧(0:Int)=0)∨∃ k,lo.map a.eval=some (.int k 0):=by
      rcases z59 R hlo with ⟨rfl,h⟩|⟨z,k,rfl,h⟩
      ·exact .inl ⟨rfl,rfl⟩
      ·exact .inr ⟨k,by simp [h]⟩
     have hhi':(hi'.map a.eval=none∧hh=n)∨∃ k,hi'.map a.eval=some (.int k hh):=by
      rcases z59 R hhi with ⟨rfl,h⟩|⟨z,k,rfl,h⟩
      ·exact .inl ⟨rfl,h⟩
      ·exact .inr ⟨k,by simp [h]⟩
     have hrun:=zf3 (w:=w) hu hie (some ⟨b,o,none⟩) n cap _ _ 0 hh hlo' hhi' (by omega) h1 (by omega)
     have he:(if cap=(0:Int).toNat then some (⟨b,o,none⟩:Addr) else (some (⟨b,o,none⟩:Addr)).map fun q=>q.add ((0:Int).toNat * ie.size))=some ⟨b,o,none⟩:=by
      split
      ·rfl
      ·simp [z27]
     rw [he,show hh.toNat - (0:Int).toNat=hh.toNat from by simp,show cap - (0:Int).toNat=cap from by simp] at hrun
     refine ⟨_,?_,.prim _ trivial⟩
     simp only [execOp,hop,hv,Option.map_none,hrun,Sem.run_bind,Result.andThen_ok,Sem.run_pure]
    ·cases h
   ·cases h
 case h_16 c' hop=>
  obtain ⟨v,h1,h2⟩:=zlt R h hc
  exact ⟨v,by simp only [execOp,hop];exact h1,h2⟩
 case h_17 fn fi ca hop=>
  have key:∀ {l:List Operand} {vs:List Value},pvls X (get s) l=some vs→l.map a.eval=vs:=by
   intro l
   induction l with
   | nil=>intro vs h;cases h;rfl
   | cons x r ih=>
    intro vs h
    simp only [pvls] at h
    split at h
    ·rename_i v us hx hr
     cases h
     rw [List.map_cons,ih hr,(z0o (z0d R hx)).1]
    ·cases h
  split at h
  ·rename_i f1 c1 h1 h2
   cases h
   have e1:fi.map a.eval=f1.toArray:=by rw [← key h1,← Array.toList_map]
   have e2:ca.map a.eval=c1.toArray:=by rw [← key h2,← Array.toList_map]
   exact ⟨_,by simp only [execOp,hop,e1,e2];simp [Instr.makeFunc,Sem.run_bind],.prim _ trivial⟩
  ·cases h
 case h_18 x xt at' ok hop=>
  unfold taV at h
  split at h
  ·rename_i tt y' hx
   split at h
   ·rename_i hct
    have hr:=z0d R hx
    obtain ⟨u,hv,hu⟩:∃ u,a.eval x = .iface tt u∧RV G.D w y' u:=by
     generalize a.eval x=v at hr
     cases hr with
     | iface _ _ u h=>exact ⟨u,rfl,h⟩
    have hcon:∃ d,X.P.underlying at' = some d∧∀ z,d ≠ .interface z:=by
     unfold concT at hct
     split at hct
     ·cases hct
     ·rename_i d hd hu
      exact ⟨d,hu,fun z e=>hd z e⟩
     ·cases hct
    obtain ⟨d,hd,hni⟩:=hcon
    split at h
    ·rename_i he
     subst he
     cases h
     cases ok with
     | true=>
      refine ⟨.tuple #[u,.bool true],?_,.tup [y',.prim (.bool true)] #[u,.bool true] rfl fun i c v hc hv=>?_⟩
      ·simp only [execOp,hop,hv,Instr.typeAssert,Sem.run_bind,run_underlying hd,Result.andThen_ok]
       cases d <;> first|(exact (hni _ rfl).elim)|simp
      ·match i with
       | 0=>simp at hc hv;subst hc hv;exact hu
       | 1=>simp at hc hv;subst hc hv;exact .prim _ trivial
       | i+2=>simp at hc
     | false=>
      refine ⟨u,?_,hu⟩
      simp only [execOp,hop,hv,Instr.typeAssert,Sem.run_bind,run_underlying hd,Result.andThen_ok]
      cases d <;> first|(exact (hni _ rfl).elim)|simp
    ·rename_i hne
     split at h
     ·rename_i hok
      subst hok
      split at h
      ·rename_i z hz
       cases h
       have hzz:∃ i,X.P.info? at' = some i∧i.zero=some z∧primOK z:=by
        unfold zeroP at hz
        split at hz
        ·rename_i i hi
         refine ⟨i,hi,?_⟩
         split at hz
         ·rename_i k n hzero
          split at hz
          ·rename_i hb
           cases hz
           exact ⟨hzero,zbq hb⟩
          ·cases hz
         ·rename_i hzero
          cases hz
          exact ⟨hzero,trivial⟩
         ·cases hz
        ·cases hz
       obtain ⟨i,hi,hzi,hzp⟩:=hzz
       refine ⟨.tuple #[z,.bool false],?_,.tup [.prim z,.prim (.bool false)] #[z,.bool false] rfl fun i c v hc hv=>?_⟩
       ·simp only [execOp,hop,hv,Instr.typeAssert,Sem.run_bind,run_underlying hd,Result.andThen_ok]
        cases d <;> first|(exact (hni _ rfl).elim)|simp [hne,zeroValue,typeInfo,hi,hzi]
       ·match i with
        | 0=>simp at hc hv;subst hc hv;exact .prim _ hzp
        | 1=>simp at hc hv;subst hc hv;exact .prim _ trivial
        | i+2=>simp at hc
      ·cases h
     ·cases h
   ·cases h
  ·cases h
 case h_19=>cases h
end
end
section
def hasLoc (d:Nat):SV→Bool
 | .loc k _=>k == d
 | _=>false
def hasTok (d:Nat):SV→Bool
 | .own t _=>t == d
 | _=>false
def anyLoc (d:Nat):List SV→Bool
 | []=>false
 | x::r=>hasLoc d x || anyLoc d r
def anyTok (d:Nat):List SV→Bool
 | []=>false
 | x::r=>hasTok d x || anyTok d r
def freshL (d:Nat):St→Bool
 | []=>true
 | (l,v)::r=>(match l with | .loc k=>k != d|_=>true) && (match v with | .one x=>!hasLoc d x | .row cs=>!anyLoc d cs | .tk _ _=>true | .ob _=>true | .mp _=>true) && freshL d r
def freshT (d:Nat):St→Bool
 | []=>true
 | (l,v)::r=>(match l with | .tok k=>k != d|_=>true) && (match v with | .one x=>!hasTok d x | .row cs=>!anyTok d cs | .tk _ _=>true | .ob _=>true | .mp _=>true) && freshT d r
theorem z7k {s:St}{l:Loc}{v:LV}(h:get s l=some v):(l,v) ∈ s:=by
 induction s with
 | nil=>cases h
 | cons p r ih=>
  obtain ⟨m,u⟩:=p
  simp only [get] at h
  split at h
  ·cases h;subst_vars;simp
  ·exact List.mem_cons_of_mem _ (ih h)
theorem zbv (d:Nat)(cs:List SV):anyLoc d cs=false↔d ∉ cs.flatMap SV.locs:=by
 induction cs with
 | nil=>simp [anyLoc]
 | cons x r ih=>cases x <;> simp [anyLoc,hasLoc,SV.locs,ih];exact fun _=>ne_comm
theorem zlv (d:Nat)(cs:List SV):anyTok d cs=false↔d ∉ cs.flatMap SV.toks:=by
 induction cs with
 | nil=>simp [anyTok]
 | cons x r ih=>cases x <;> simp [anyTok,hasTok,SV.toks,ih];exact fun _=>ne_comm
theorem zlw {d:Nat}{s:St}(h:freshL d s=true){l:Loc}{v:LV}(hg:get s l=some v):∀ k ∈ l.locs++v.locs,k ≠ d:=by
 have hm:=z7k hg
 induction s with
 | nil=>cases hm
 | cons p r ih=>
  obtain ⟨m,u⟩:=p
  simp only [freshL,Bool.and_eq_true] at h
  rcases List.mem_cons.1 hm with he|hm
  ·cases he
   intro k hk he
   subst he
   rcases List.mem_append.1 hk with hk|hk
   ·have h1:=h.1.1
    cases l <;> simp [Loc.locs] at hk
    subst hk
    simp at h1
   ·have h2:=h.1.2
    cases v with
    | one x=>cases x <;> simp [LV.locs,SV.locs] at hk;subst hk;simp [hasLoc] at h2
    | row cs=>
     simp only [Bool.not_eq_true'] at h2
     exact (zbv _ _).1 h2 hk
    | tk=>simp [LV.locs] at hk
    | ob=>simp [LV.locs] at hk
    | mp=>simp [LV.locs] at hk
  ·by_cases he:m=l
   ·subst he
    simp only [get,if_true] at hg
    cases hg
    intro k hk he
    subst he
    rcases List.mem_append.1 hk with hk|hk
    ·have h1:=h.1.1
     cases m <;> simp [Loc.locs] at hk
     subst hk
     simp at h1
    ·have h2:=h.1.2
     cases v with
     | one x=>cases x <;> simp [LV.locs,SV.locs] at hk;subst hk;simp [hasLoc] at h2
     | row cs=>
      simp only [Bool.not_eq_true'] at h2
      exact (zbv _ _).1 h2 hk
     | tk=>simp [LV.locs] at hk
     | ob=>simp [LV.locs] at hk
     | mp=>simp [LV.locs] at hk
   ·simp only [get,he,if_false] at hg
    exact ih h.2 hg hm
theorem zlx {d:Nat}{s:St}(h:freshT d s=true){l:Loc}{v:LV}(hg:get s l=some v):∀ k ∈ l.toks++v.toks,k ≠ d:=by
 induction s with
 | nil=>cases hg
 | cons p r ih=>
  obtain ⟨m,u⟩:=p
  simp only [freshT,Bool.and_eq_true] at h
  by_cases he:m=l
  ·subst he
   simp only [get,if_true] at hg
   cases hg
   intro k hk he
   subst he
   rcases List.mem_append.1 hk with hk|hk
   ·have h1:=h.1.1
    cases m <;> simp [Loc.toks] at hk
    subst hk
    simp at h1
   ·have h2:=h.1.2
    cases v with
    | one x=>cases x <;> simp [LV.toks,SV.toks] at hk;subst hk;simp [hasTok] at h2
    | row cs=>
     simp only [Bool.not_eq_true'] at h2
     exact (zlv _ _).1 h2 hk
    | tk=>simp [LV.toks] at hk
    | ob=>simp [LV.toks] at hk
    | mp=>simp [LV.toks] at hk
  ·simp only [get,he,if_false] at hg
   exact ih h.2 hg
def Ctx.F (X:Ctx):Fence:={ Fence.wide with round:=X.rd }
theorem zly {X:Ctx}{n:Nat}{P:Program}{f:FuncId}{args:Array Value}{w:World}{R:Ending→World→Prop}(h:Calls P f args w R):CallsIn X.F n P f args w R:=callsIn_wide.2 h
def upn (P:Program)(o:Oper)(a:Act)(next:Act→World→Prop)(Q:Exit→Act→World→Prop):Result Next→Prop
 | .ok (.value v) w'=>next (a.put o.dst v) w'
 | .ok .skip w'=>next (a.put o.dst undef) w'
 | .ok (.enter f args) w'=>Calls P f args w' fun
   | .returned v,w''=>next (a.put o.dst v) w''
   | .panicked chain,w''=>Q (.panic chain) a w''
   | .outgrown,_=>LetsOut Q
 | _=>False
theorem z1y (P:Program)(o:Oper)(a:Act)(next:Act→World→Prop)(Q:Exit→Act→World→Prop)(v:Value)(w:World):upn P o a next Q (.ok (.value v) w)=next (a.put o.dst v) w:=rfl
theorem zf6 (P:Program)(o:Oper)(a:Act)(next:Act→World→Prop)(Q:Exit→Act→World→Prop)(w:World):upn P o a next Q (.ok .skip w)=next (a.put o.dst undef) w:=rfl
theorem zlz (P:Program)(o:Oper)(a:Act)(next:Act→World→Prop)(Q:Exit→Act→World→Prop)(f:FuncId)(args:Array Value)(w:World):upn P o a next Q (.ok (.enter f args) w)=Calls P f args w fun
   | .returned v,w''=>next (a.put o.dst v) w''
   | .panicked chain,w''=>Q (.panic chain) a w''
   | .outgrown,_=>LetsOut Q:=rfl
theorem opIn {X:Ctx}{o:Oper}{a:Act}{w:World}{next:Act→World→Prop}{Q:Exit→Act→World→Prop}(hd:∀ c,o.op ≠ .defer c)(h:upn X.P o a next Q ((execOp a.eval o).run X.P w)):o.wpIn X.F 0 X.P a w next Q:=by
 refine ⟨fun _ _=>trivial,?_⟩
 rw [Oper.semAt_eq _ _ _ hd]
 generalize (execOp a.eval o).run X.P w=r at h
 cases r with
 | ok v w'=>
  cases v <;> simp only [upn,Oper.uponIn] at h ⊢
  all_goals first|exact h|exact h.elim|exact ⟨fun h=>(by cases h),zly h⟩
 | halt e w'=>exact h.elim
theorem z3j {X:Ctx}{g:Rd}{o:Oper}{p:Prop × SV}(h:pval X g o=some p)(c:Call):o.op ≠ .defer c:=by
 intro e
 simp [pval,e] at h
def StepOK (X:Ctx)(s:St)(o:Oper)(s':St):Prop:=
 ∀ (G:Gh) (a:Act) (w:World),Rel X G s a w→∀ (next:Act→World→Prop) (Q:Exit→Act→World→Prop),
  (∀ G' a' w',Rel X G' s' a' w'→next a' w')→o.wpIn X.F 0 X.P a w next Q
section
variable {X:Ctx}{G:Gh}{s:St}{a:Act}{w:World}
theorem z3k (a:Act)(dst:Option Tmp)(v:Value):(a.put dst v).tmps.size=a.tmps.size∧(a.put dst v).defers=a.defers:=by
 cases dst <;> simp [Act.put]
theorem z5a (a:Act)(d:Nat)(v:Value)(h:d<a.tmps.size):(a.put (some d) v).tmps.getD d undef=v:=by
 simp [Act.put,h]
theorem z5b (a:Act)(d n:Nat)(v:Value)(h:n ≠ d):(a.put (some d) v).tmps.getD n undef=a.tmps.getD n undef:=by
 simp [Act.put,Array.getElem?_setIfInBounds_ne (Ne.symm h)]
theorem z1t (w:World)(o:Obj)(b:Nat)(h:b<w.heap.size):(w.alloc o).heap[b]? = w.heap[b]?:=by
 simp only [World.alloc,Array.getElem?_push]
 rw [if_neg (by omega)]
theorem z6b (w:World)(o:Obj):(w.alloc o).heap[w.heap.size]? = some o:=by
 show (w.heap.push o)[w.heap.size]? = some o
 simp
theorem Rel.setSlot {G':Gh}{w':World}(R:Rel X G s a w){B:Nat→Prop}(T:Trans X G a w G' a w' B)(hν:G'.ν=G.ν)(hτ:G'.τ=G.τ)(hB:∀ b,¬ B b){d:Nat}(hd:d<X.n){x:SV}{v:Value}(hx:RSV G' w' x v) :
  Rel X G' (upd s (.slot d) (.one x)) (a.put (some d) v) w':=by
 have hp:=z3k a (some d) v
 have T':Trans X G a w G' (a.put (some d) v) w' B:=⟨hp.1,fun h=>(T.defers h).put hp.2,T.os,T.tape,T.output,T.size,T.keep,T.own,T.grow,T.new,T.nil⟩
 refine R.step T' (fun l u=>l = .slot d∧u = .one x) (fun l u h=>?_) (fun l u h=>?_) (fun l u l' u' b h h' hb hb'=>h.1.trans h'.1.symm)
 ·rw [z0h] at h
  by_cases hl:Loc.slot d=l
  ·rw [if_pos hl] at h
   cases h
   exact .inl ⟨hl.symm,rfl⟩
  ·rw [if_neg hl] at h
   exact .inr ⟨h,fun n hn=>z5b _ _ _ _ (fun e=>hl (by rw [hn,e])),fun b _=>hB b,fun k _=>by rw [hν],fun t _=>by rw [hτ]⟩
 ·obtain ⟨rfl,rfl⟩:=h
  refine ⟨?_,fun b hb=>by cases hb⟩
  show RSV G' w' x _
  rw [z5a _ _ _ (by rw [R.size];exact hd)]
  exact hx
theorem Trans.refl (X:Ctx)(G:Gh)(a:Act)(w:World)(hn:G.τ 0=(none,0)):Trans X G a w G a w (fun _=>False):=
 ⟨rfl,fun h=>h,rfl,rfl,rfl,Nat.le_refl _,fun _ _ _=>rfl,fun _ h=>h.elim,Grow.refl _ _,fun _ _ h k=>absurd h k,hn⟩
theorem zf7 {o:Oper}{c:Prop}{y:SV}(h:pval X (get s) o=some (c,y))(hc:c){d:Nat}(hd:o.dst=some d)(hn:d<X.n):StepOK X s o (upd s (.slot d) (.one y)):=by
 intro G a w R next Q hK
 obtain ⟨v,h1,h2⟩:=pval_sound R h hc
 refine opIn (by first|exact z3j h|(intro c e;rw [ho] at e;cases e)) ?_
 rw [h1,z1y,hd]
 exact hK G _ w (R.setSlot (Trans.refl X G a w R.nil) rfl rfl (fun _ h=>h) hn h2)
theorem zm0 {o:Oper}{c:Prop}{y:SV}(h:pval X (get s) o=some (c,y))(hc:c)(hd:o.dst=none):StepOK X s o s:=by
 intro G a w R next Q hK
 obtain ⟨v,h1,h2⟩:=pval_sound R h hc
 refine opIn (by first|exact z3j h|(intro c e;rw [ho] at e;cases e)) ?_
 rw [h1,z1y,hd]
 exact hK G _ w R
theorem zm1 (R:Rel X G s a w)(o:Obj){G':Gh}(hD:G'.D=G.D)(hn:G'.τ 0=(none,0)):Trans X G a w G' a (w.alloc o) (fun _=>False):=by
 have hcell:∀ b o',G.D b o'→(w.alloc o).cell? ⟨b,o',none⟩=w.cell? ⟨b,o',none⟩:=fun b o' hd=>World.cell?_alloc_lt _ _ _ (R.wf.lt hd)
 exact ⟨rfl,fun h=>h.heap fun b hb=>z1t w o b hb,rfl,rfl,rfl,by simp,fun b hb _=>z1t w o b hb,fun _ h=>h.elim,fun b o' hd=>⟨by rw [hD];exact hd,hcell b o' hd⟩,fun b o' h k=>absurd (hD ▸ h) k,hn⟩
def cellBS:List SV→Bool
 | []=>true
 | x::r=>x.isCell && cellBS r
theorem z9q (l:List SV):cellBS l=true↔∀ c ∈ l,c.isCell=true:=by
 induction l with
 | nil=>simp [cellBS]
 | cons c r ih=>simp [cellBS,ih]
theorem RSV.ren {G G':Gh}{w:World}{x:SV}{v:Value}(hD:G'.D=G.D)(hl:∀ k ∈ x.locs,G'.ν k=G.ν k)(ht:∀ t ∈ x.toks,G'.τ t=G.τ t)(h:RSV G w x v):RSV G' w x v:=
 h.mono (fun _ _ hd=>⟨hD ▸ hd,rfl⟩) hl ht
theorem Rel.newLoc (R:Rel X G s a w){d:Nat}(hd:d<X.n)(hf:freshL d s=true){cs:List SV}{c:Array Value}(hrow:RowOf G w cs c)(hcell:cellBS cs=true)(hcs:anyLoc d cs=false)(t:TypeId) :
  ∃ G',Rel X G' (upd (upd s (.slot d) (.one (.loc d 0))) (.loc d) (.row cs)) (a.put (some d) (.pointer (some ⟨w.heap.size,0,none⟩))) (w.alloc (.cells c t)):=by
 refine ⟨{ G with ν:=fun k=>if k=d then w.heap.size else G.ν k },?_⟩
 have hp:=z3k a (some d) (.pointer (some ⟨w.heap.size,0,none⟩))
 have T0:=zm1 R (.cells c t) (G':={ G with ν:=fun k=>if k=d then w.heap.size else G.ν k }) rfl R.nil
 have T:Trans X G a w { G with ν:=fun k=>if k=d then w.heap.size else G.ν k } (a.put (some d) (.pointer (some ⟨w.heap.size,0,none⟩))) (w.alloc (.cells c t)) (fun _=>False):=⟨hp.1,fun h=>(T0.defers h).put hp.2,T0.os,T0.tape,T0.output,T0.size,T0.keep,T0.own,T0.grow,T0.new,T0.nil⟩
 refine R.step T (fun l u=>(l = .slot d∧u = .one (.loc d 0))∨(l = .loc d∧u = .row cs)) (fun l u h=>?_) (fun l u h=>?_) (fun l u l' u' b h h' hb hb'=>?_)
 ·rw [z0h,z0h] at h
  by_cases h1:Loc.loc d=l
  ·rw [if_pos h1] at h;cases h;exact .inl (.inr ⟨h1.symm,rfl⟩)
  ·rw [if_neg h1] at h
   by_cases h2:Loc.slot d=l
   ·rw [if_pos h2] at h;cases h;exact .inl (.inl ⟨h2.symm,rfl⟩)
   ·rw [if_neg h2] at h
    refine .inr ⟨h,fun n hn=>z5b _ _ _ _ (fun e=>h2 (by rw [hn,e])),fun b _ h=>h,fun k hk=>?_,fun t _=>rfl⟩
    have:=zlw hf h k hk
    simp [this]
 ·rcases h with ⟨rfl,rfl⟩|⟨rfl,rfl⟩
  ·refine ⟨?_,fun b hb=>by cases hb⟩
   simp only [Holds,RSV]
   rw [z5a _ _ _ (by rw [R.size];exact hd)]
   simp
  ·refine ⟨⟨c,t,by simp only [if_true];exact z6b _ _,Nat.le_of_eq hrow.1.symm,fun i x hx=>?_⟩,fun b hb=>?_⟩
   ·have hm:=List.mem_of_getElem? hx
    refine ⟨(z9q cs).1 hcell x hm,?_⟩
    have hlt:i<c.size:=by rw [hrow.1];exact (List.getElem?_eq_some_iff.1 hx).1
    refine ⟨c[i],Array.getElem?_eq_getElem hlt,?_⟩
    have hr:=hrow.2 i x _ hx (Array.getElem?_eq_getElem hlt)
    refine hr.mono T0.grow (fun k hk=>?_) (fun t _=>rfl)
    have:k ≠ d:=fun e=>by
     subst e
     exact (zbv _ _).1 hcs (List.mem_flatMap.2 ⟨x,hm,hk⟩)
    simp [this]
   ·simp only [blkOf,if_true,Option.some.injEq] at hb
    subst hb
    refine ⟨.inl (Nat.le_refl _),.inl R.ext.size,fun _ o hD=>?_⟩
    exact absurd (R.wf.lt hD) (Nat.lt_irrefl _)
 ·rcases h with ⟨rfl,rfl⟩|⟨rfl,rfl⟩
  ·cases hb
  ·rcases h' with ⟨rfl,rfl⟩|⟨rfl,rfl⟩
   ·cases hb'
   ·rfl
theorem zf8 {o:Oper}{t:TypeId}(ho:o.op = .alloc t){d:Nat}(hd:o.dst=some d)(hn:d<X.n){cs:List SV}(hz:zeroT X.P t=some cs)(hc:cellBS cs=true)(hf:freshL d s=true) :
  StepOK X s o (upd (upd s (.slot d) (.one (.loc d 0))) (.loc d) (.row cs)):=by
 intro G a w R next Q hK
 unfold zeroT at hz
 split at hz
 ·rename_i i hi
  split at hz
  ·rename_i z hzv
   have hrow:=z69 (w:=w) R.nil hz
   simp only [Array.toArray_toList] at hrow
   have hnl:anyLoc d cs=false:=by
    have:∀ (l:List Value) (cs:List SV),zeroS l=some cs→anyLoc d cs=false:=by
     intro l
     induction l with
     | nil=>intro cs h;cases h;rfl
     | cons v r ih=>
      intro cs h
      simp only [zeroS] at h
      split at h
      ·rename_i x xs hx hxs
       cases h
       simp only [anyLoc,ih _ hxs,Bool.or_false]
       unfold constS at hx
       split at hx
       ·cases hx;rfl
       ·rename_i vs
        cases hq:constDs vs.toList with
        | none=>rw [hq] at hx;cases hx
        | some ds=>rw [hq] at hx;cases hx;rfl
       ·split at hx
        ·cases hx;rfl
        ·cases hx
      ·cases h
    exact this _ _ hz
   obtain ⟨G',R'⟩:=R.newLoc hn hf hrow hc hnl t
   refine opIn (by first|exact z3j h|(intro c e;rw [ho] at e;cases e)) ?_
   simp only [execOp,ho,Instr.alloc,zeroValue,typeInfo,run_program,hi,hzv,newVar,newRow,run_newObj,Sem.run_bind,Sem.run_pure,Result.andThen_ok,z1y,hd]
   exact hK G' _ _ R'
  ·cases hz
 ·cases hz
theorem zf9 {o:Oper}{t:TypeId}{x:Operand}(ho:o.op = .box t x){d:Nat}(hd:o.dst=some d)(hn:d<X.n){y:SV}(hy:evl X (get s) x=some y)(hc:cellBS (cellsS y)=true)(hf:freshL d s=true)(hnl:hasLoc d y=false) :
  StepOK X s o (upd (upd s (.slot d) (.one (.loc d 0))) (.loc d) (.row (cellsS y))):=by
 intro G a w R next Q hK
 have hrow:RowOf G w (cellsS y) (a.eval x).cells:=z68 R.nil (z0d R hy)
 have hnl':anyLoc d (cellsS y)=false:=by
  cases y with
  | v y=>
   have:∀ l:List DV,anyLoc d (l.map SV.v)=false:=by
    intro l
    induction l with
    | nil=>rfl
    | cons c r ih=>simp [anyLoc,hasLoc,ih]
   exact this _
  | loc k off=>simp [cellsS,anyLoc,hasLoc] at hnl ⊢;exact hnl
  | dp els i off=>rfl
  | own t els=>rfl
  | ag cs ns=>
   have:∀ (l:List DV) (k:Nat),anyLoc d (agC ns k l)=false:=by
    intro l
    induction l with
    | nil=>intro k;rfl
    | cons c r ih=>intro k;simp only [agC,anyLoc,ih,Bool.or_false];split <;> rfl
   exact this _ _
 obtain ⟨G',R'⟩:=R.newLoc hn hf hrow hc hnl' t
 refine opIn (by first|exact z3j h|(intro c e;rw [ho] at e;cases e)) ?_
 simp only [execOp,ho,Instr.box,newVar,newRow,run_newObj,Sem.run_bind,Sem.run_pure,Result.andThen_ok,z1y,hd]
 exact hK G' _ _ R'
end
end
section
section
variable {X:Ctx}{G:Gh}{s:St}{a:Act}{w:World}
theorem zm2 (w:World)(b:Nat)(c:Array Value)(e:TypeId)(h:w.heap[b]? = some (.cells c e (0,0))):w.setRow b c=w:=by
 have hlt:b<w.heap.size:=(Array.getElem?_eq_some_iff.1 h).1
 have hv:w.heap[b] = .cells c e (0,0):=(Array.getElem?_eq_some_iff.1 h).2
 unfold World.setRow
 cases w with
 | mk heap tape drawn os output=>
  congr 1
  apply Array.ext
  ·simp
  ·intro k h1 h2
   simp only [Array.getElem_modify]
   split
   ·rename_i hk;subst hk;simp at hv;simp [hv]
   ·rfl
abbrev foldSet (off:Nat)(l:List Value)(k:Nat)(c:Array Value):Array Value:=(l.zipIdx k).foldl (fun cs (p:Value × Nat)=>cs.setIfInBounds (off+p.2) p.1) c
theorem zbw {P:Program}(b off:Nat)(e:TypeId):∀ (vs:List Value) (k:Nat) (c:Array Value) (w:World),w.heap[b]? = some (.cells c e (0,0))→off+k+vs.length≤c.size→(∀ v ∈ vs,v.oneCell' = true) →
  (storeCells ⟨b,off,none⟩ vs k).run P w = .ok () (w.setRow b (foldSet off vs k c))
 | [],k,c,w,h,_,_=>by simp [storeCells,foldSet,zm2 w b c e h]
 | v::r,k,c,w,h,hle,h1=>by
  simp only [List.length_cons] at hle
  have hi:off+k<c.size:=by omega
  have hcell:w.cell? ⟨b,off+k,none⟩=some c[off+k]:=by simp [World.cell?,h,hi]
  have hfro:w.frozen? ⟨b,off+k,none⟩=false:=by simp [World.frozen?,h]
  have hst:(store ((⟨b,off,none⟩:Addr).add k) v).run P w = .ok () (w.setRow b (c.setIfInBounds (off+k) v)):=by
   rw [z27,run_store P w _ v _ (h1 v (by simp)),hcell]
   simp [hfro,setCell_eq_setRow w b (off+k) c e (0,0) v h]
  have ih:=zbw (P:=P) b off e r (k+1) (c.setIfInBounds (off+k) v) (w.setRow b (c.setIfInBounds (off+k) v)) (setRow_heap w b c _ e _ h) (by simp;omega) (fun x hx=>h1 x (by simp [hx]))
  simp only [storeCells,Sem.run_bind,hst,Result.andThen_ok,ih,setRow_setRow,foldSet,List.zipIdx_cons,List.foldl_cons]
theorem zfa (off:Nat)(vs c:Array Value):foldSet off vs.toList 0 c=setAll c off vs:=by
 unfold foldSet setAll
 rw [← Array.foldl_toList,Array.toList_zipIdx]
theorem zm3 {xs:List SV}{vs:Array Value}(h:RowOf G w xs vs)(hc:cellBS xs=true):∀ v ∈ vs.toList,v.oneCell' = true:=by
 intro v hv
 obtain ⟨i,hi,rfl⟩:=List.mem_iff_getElem.1 hv
 have hi':i<xs.length:=by rw [← h.1];simpa using hi
 have hx:xs[i]? = some xs[i]:=List.getElem?_eq_getElem hi'
 have hvv:vs[i]? = some (vs.toList[i]):=by simp
 exact RSV.one (h.2 i _ _ hx hvv) ((z9q xs).1 hc _ (List.getElem_mem hi'))
theorem Rel.storeRow (R:Rel X G s a w){l:Loc}{cs:List SV}(hl:get s l=some (.row cs))(hlt:l.isTok=false){b:Nat}(hb:blkOf G l (.row cs)=some b){off:Nat}{xs:List SV}{vs:Array Value}
  (hx:RowOf G w xs vs) (hc:cellBS xs=true) (hle:off+xs.length≤cs.length) :
  ∃ w',(storeCells ⟨b,off,none⟩ vs.toList 0).run X.P w = .ok () w'∧Rel X G (upd s l (.row (put cs off xs))) a w':=by
 have hB:BlkAt G w b cs:=by
  have:=R.holds _ _ hl
  cases l with
  | loc k=>simp only [blkOf,Option.some.injEq] at hb;subst hb;exact this
  | heap k=>simp only [blkOf,Option.some.injEq] at hb;subst hb;exact this
  | slot n=>cases hb
  | tok t=>cases hb
 obtain ⟨c,e,h1,h2,h3⟩:=hB
 have hsz:off+vs.size≤c.size:=by rw [hx.1];omega
 have hrun:=zbw (P:=X.P) b off e vs.toList 0 c w h1 (by simpa using hsz) (zm3 hx hc)
 rw [zfa] at hrun
 refine ⟨_,hrun,?_⟩
 have hnd:∀ o,¬ G.D b o:=fun o=>R.data l _ b o hl hb hlt
 have T:Trans X G a w G a (w.setRow b (setAll c off vs)) (fun b'=>b' = b):=by
  refine ⟨rfl,fun h=>h.but h1 fun b' hn=>setRow_other _ _ _ _ hn,rfl,rfl,rfl,by simp,fun b' hb' hn=>setRow_other _ _ _ _ hn,fun b' hb'=>?_,fun b' o hd=>⟨hd,?_⟩,fun _ _ h k=>absurd h k,R.nil⟩
  ·subst hb';exact (R.own l _ b' hl hb).imp id And.left
  ·exact cell_setRow_other _ _ _ _ (fun e=>by subst e;exact hnd o hd)
 refine R.step T (fun l' u=>l' = l∧u = .row (put cs off xs)) (fun l' u h=>?_) (fun l' u h=>?_) (fun l' u l'' u' b h h' _ _=>h.1.trans h'.1.symm)
 ·rw [z0h] at h
  by_cases hl':l=l'
  ·rw [if_pos hl'] at h;cases h;exact .inl ⟨hl'.symm,rfl⟩
  ·rw [if_neg hl'] at h
   refine .inr ⟨h,fun _ _=>rfl,fun b' hb' he=>?_,fun _ _=>rfl,fun _ _=>rfl⟩
   subst he
   exact hl' (R.sep _ _ _ _ b' hl h hb hb')
 ·obtain ⟨rfl,rfl⟩:=h
  have hsa:=z9n c off vs hsz
  have hnew:BlkAt G (w.setRow b (setAll c off vs)) b (put cs off xs):=by
   refine ⟨_,e,setRow_heap _ _ _ _ _ _ h1,?_,fun i x hi=>?_⟩
   ·rw [hsa.1,zbu _ _ _ hle];exact h2
   rw [z58 _ _ _ _ hle] at hi
   split at hi
   ·rename_i hin
    have hj:i - off<vs.size:=by rw [hx.1];exact (List.getElem?_eq_some_iff.1 hi).1
    refine ⟨(z9q xs).1 hc x (List.mem_of_getElem? hi),vs[i - off],?_,(hx.2 _ _ _ hi (Array.getElem?_eq_getElem hj)).mono T.grow (fun _ _=>rfl) (fun _ _=>rfl)⟩
    rw [hsa.2,if_pos ⟨hin.1,by omega⟩];exact Array.getElem?_eq_getElem hj
   ·rename_i hin
    obtain ⟨k1,v,k2,k3⟩:=h3 i x hi
    refine ⟨k1,v,?_,k3.mono T.grow (fun _ _=>rfl) (fun _ _=>rfl)⟩
    rw [hsa.2,if_neg (by rw [hx.1];exact hin)];exact k2
  refine ⟨?_,fun b' hb'=>?_⟩
  ·cases l' with
   | loc k=>simp only [blkOf,Option.some.injEq] at hb;subst hb;exact hnew
   | heap k=>simp only [blkOf,Option.some.injEq] at hb;subst hb;exact hnew
   | slot n=>cases hb
   | tok t=>cases hb
  ·have:b' = b:=by
    cases l' <;> simp_all [blkOf]
   subst this
   exact ⟨.inr rfl,R.own l' _ b' hl hb,fun _ o=>hnd o⟩
theorem zfb {P:Program}{t:TypeId}{agg:Bool}{n:Nat}(hl:layT P t=some (agg,n)){v:Value}(hv:v.cells.size=n){b off:Nat}{w':World}(h:(storeCells ⟨b,off,none⟩ v.cells.toList 0).run P w = .ok () w') :
  (Instr.storeAt t (.pointer (some ⟨b,off,none⟩)) v).run P w = .ok () w':=by
 obtain ⟨-,h2⟩:=z9k (w:=w) hl
 simp [Instr.storeAt,Instr.sureAddr,storeVar,h2,hv,h]
theorem zfc {o:Oper}{t:TypeId}{p x:Operand}(ho:o.op = .store t p x)(hd:o.dst=none){k off:Nat}(hp:evl X (get s) p=some (.loc k off)){cs:List SV}(hg:get s (.loc k)=some (.row cs))
  {agg:Bool} {n:Nat} (hl:layT X.P t=some (agg,n)) {y:SV} (hy:evl X (get s) x=some y) (hc:(cellsS y).length=n∧off+n≤cs.length) (hcell:cellBS (cellsS y)=true) :
  StepOK X s o (upd s (.loc k) (.row (put cs off (cellsS y)))):=by
 intro G a w R next Q hK
 have hrow:RowOf G w (cellsS y) (a.eval x).cells:=z68 R.nil (z0d R hy)
 obtain ⟨w',h1,h2⟩:=R.storeRow hg rfl (b:=G.ν k) rfl hrow hcell (by rw [hc.1];exact hc.2)
 have hpv:a.eval p = .pointer (some ⟨G.ν k,off,none⟩):=z0d R hp
 refine opIn (by first|exact z3j h|(intro c e;rw [ho] at e;cases e)) ?_
 have h3:=zfb (w:=w) hl (by rw [hrow.1,hc.1]) h1
 rw [← hpv] at h3
 simp only [execOp,ho,Sem.run_bind,h3,Result.andThen_ok,Sem.run_pure,zf6,hd]
 exact hK G _ w' h2
def asV:SV→Option SV
 | .v x=>some (.v x)
 | .own _ els=>some (.v (.sl els))
 | _=>none
def asVs:List SV→Option (List SV)
 | []=>some []
 | x::r=>match asV x,asVs r with
  | some y,some ys=>some (y::ys)
  | _,_=>none
theorem zfd:∀ {xs ys:List SV},asVs xs=some ys→xs.length=ys.length∧∀ (i:Nat) (y:SV),ys[i]? = some y→∃ x,xs[i]? = some x∧asV x=some y
 | [],ys,h=>by cases h;simp
 | x::r,ys,h=>by
  simp only [asVs] at h
  split at h
  ·rename_i y zs hy hzs
   cases h
   obtain ⟨h1,h2⟩:=zfd hzs
   refine ⟨by simp [h1],fun i c hc=>?_⟩
   cases i with
   | zero=>simp at hc;subst hc;exact ⟨x,rfl,hy⟩
   | succ i=>obtain ⟨z,hz⟩:=h2 i c (by simpa using hc);exact ⟨z,by simpa using hz.1,hz.2⟩
  ·cases h
theorem RowOf.asV {xs ys:List SV}{c:Array Value}(h:RowOf G w xs c)(hy:asVs xs=some ys):RowOf G w ys c:=by
 obtain ⟨h1,h2⟩:=zfd hy
 refine ⟨h.1.trans h1,fun i y v hi hv=>?_⟩
 obtain ⟨x,hx,hxy⟩:=h2 i y hi
 have hr:=h.2 i x v hx hv
 cases x with
 | v x=>cases hxy;exact hr
 | own t els=>cases hxy;exact hr.2
 | loc=>cases hxy
 | dp=>cases hxy
 | ag=>cases hxy
theorem z9r {o:Oper}{t:TypeId}{p x:Operand}(ho:o.op = .store t p x)(hd:o.dst=none){b off:Nat}(hp:evl X (get s) p=some (.v (.prim (.pointer (some ⟨b,off,none⟩))))){cs:List SV}(hg:get s (.heap b)=some (.row cs))
  {agg:Bool} {n:Nat} (hl:layT X.P t=some (agg,n)) {y:SV} (hy:evl X (get s) x=some y) {ys:List SV} (hys:asVs (cellsS y)=some ys) (hc:ys.length=n∧off+n≤cs.length) (hcell:cellBS ys=true) :
  StepOK X s o (upd s (.heap b) (.row (put cs off ys))):=by
 intro G a w R next Q hK
 have hrow0:RowOf G w (cellsS y) (a.eval x).cells:=z68 R.nil (z0d R hy)
 have hrow:=hrow0.asV hys
 obtain ⟨w',h1,h2⟩:=R.storeRow hg rfl (b:=b) rfl hrow hcell (by rw [hc.1];exact hc.2)
 have hpv:a.eval p = .pointer (some ⟨b,off,none⟩):=(z0o (z0d R hp)).1
 refine opIn (by first|exact z3j h|(intro c e;rw [ho] at e;cases e)) ?_
 have h3:=zfb (w:=w) hl (by rw [hrow.1,hc.1]) h1
 rw [← hpv] at h3
 simp only [execOp,ho,Sem.run_bind,h3,Result.andThen_ok,Sem.run_pure,zf6,hd]
 exact hK G _ w' h2
def elemZ (P:Program)(t:TypeId):Option (Nat × Nat):=
 match P.underlying t with
 | some (.slice e)=>
  match P.info? e with
  | some i=>match i.zero with
   | some z=>if z.cells.size=i.size then some (i.size,i.bytes) else none
   | none=>none
  | none=>none
 | _=>none
theorem z6c {P:Program}{t E B:Nat}(h:elemZ P t=some (E,B)):∃ e i z,P.underlying t=some (.slice e)∧P.info? e=some i∧i.zero=some z∧z.cells.size=E∧i.size=E∧i.bytes=B:=by
 unfold elemZ at h
 split at h
 ·rename_i e hu
  split at h
  ·rename_i i hi
   split at h
   ·rename_i z hz
    split at h
    ·rename_i hs
     simp only [Option.some.injEq,Prod.mk.injEq] at h
     exact ⟨e,i,z,hu,hi,hz,by omega,h.1,h.2⟩
    ·cases h
   ·cases h
  ·cases h
 ·cases h
def litEls (X:Ctx)(g:Rd)(E:Nat):Nat→List (Nat × Operand)→Option (List (List DV))
 | _,[]=>some []
 | n,(i,x)::r=>
  if i=n then
   match evl X g x with
   | some y=>match toDs (cellsS y) with
    | some ds=>if ds.length=E then if cellB ds then
      match litEls X g E (n+1) r with
      | some rest=>some (ds::rest)
      | none=>none
     else none else none
    | none=>none
   | none=>none
  else none
theorem zbx (R:Rel X G s a w)(E:Nat):∀ (parts:List (Nat × Operand)) (n:Nat) (els:List (List DV)) (c:Array Value),litEls X (get s) E n parts=some els→(n+els.length) * E≤c.size →
  (∀ e ∈ els,e.length=E)∧(∀ e ∈ els,∀ d ∈ e,DV.isCell d=true)∧parts.length=els.length ∧
  ∃ c',Instr.fill (fun i=>some (i * E,E)) c (parts.map fun q=>(q.1,a.eval q.2))=some c'∧c'.size=c.size∧(∀ k,k<n * E→c'[k]? = c[k]?) ∧
   ∀ (i j:Nat) (e:List DV) (d:DV),els[i]? = some e→e[j]? = some d→∃ v,c'[(n+i) * E+j]? = some v∧RV G.D w d v
 | [],n,els,c,h,hle=>by cases h;exact ⟨by simp,by simp,rfl,c,rfl,rfl,fun _ _=>rfl,by simp⟩
 | (i,x)::r,n,els,c,h,hle=>by
  simp only [litEls] at h
  split at h
  ·rename_i hin
   subst hin
   split at h
   ·rename_i y hy
    split at h
    ·rename_i ds hds
     split at h
     ·rename_i hlen
      split at h
      ·rename_i hcb
       split at h
       ·rename_i rest hrest
        cases h
        have hrow:RowOf G w (cellsS y) (a.eval x).cells:=z68 R.nil (z0d R hy)
        obtain ⟨t1,t2⟩:=z67 hds
        have hvs:(a.eval x).cells.size=E:=by rw [hrow.1,t1,hlen]
        have hm:(i+(rest.length+1)) * E=i * E+E+rest.length * E:=by rw [Nat.add_mul,Nat.add_mul,Nat.one_mul];omega
        simp only [List.length_cons] at hle
        rw [hm] at hle
        have hsa:=z9n c (i * E) (a.eval x).cells (by rw [hvs];omega)
        obtain ⟨q1,q2,q3,c',f1,f2,f3,f4⟩:=zbx R E r (i+1) rest (setAll c (i * E) (a.eval x).cells) hrest (by rw [hsa.1,Nat.add_mul,Nat.add_mul,Nat.one_mul];omega)
        refine ⟨fun e he=>?_,fun e he=>?_,by simp [q3],c',?_,by rw [f2,hsa.1],fun k hk=>?_,fun j l e d he hd=>?_⟩
        ·rcases List.mem_cons.1 he with rfl|he
         ·exact hlen
         ·exact q1 e he
        ·rcases List.mem_cons.1 he with rfl|he
         ·exact (z6a _).1 hcb
         ·exact q2 e he
        ·simp only [List.map_cons,Instr.fill]
         rw [if_neg]
         ·exact f1
         ·simp only [Bool.or_eq_true,decide_eq_true_eq,not_or];omega
        ·rw [f3 k (by rw [Nat.add_mul];omega),hsa.2,if_neg (by omega)]
        ·cases j with
         | zero=>
          simp at he
          subst he
          have hl:l<E:=by rw [← hlen];exact (List.getElem?_eq_some_iff.1 hd).1
          obtain ⟨z,hz,hzd⟩:=t2 l d hd
          have hlv:l<(a.eval x).cells.size:=by omega
          refine ⟨(a.eval x).cells[l],?_,z4l hzd (hrow.2 l z _ hz (Array.getElem?_eq_getElem hlv))⟩
          rw [Nat.add_zero,f3 _ (by rw [Nat.add_mul,Nat.one_mul];omega),hsa.2,if_pos (by omega),Nat.add_sub_cancel_left,Array.getElem?_eq_getElem hlv]
         | succ j=>
          obtain ⟨v,hv,hr⟩:=f4 j l e d (by simpa using he) hd
          exact ⟨v,by rw [show i+(j+1)=i+1+j from by omega];exact hv,hr⟩
       ·cases h
      ·cases h
     ·cases h
    ·cases h
   ·cases h
  ·cases h
def withData (D:Nat→Nat→Prop)(b lo hi:Nat):Nat→Nat→Prop:=fun b' o=>D b' o∨(b' = b∧lo≤o∧o<hi)
theorem zfe (R:Rel X G s a w){t E B len:Nat}(he:elemZ X.P t=some (E,B)){parts:Array (Nat × Operand)}{els:List (List DV)}(h:litEls X (get s) E 0 parts.toList=some els)(hlen:els.length=len)(hb:len * E≤16777216)(hb2:len≤BIG) :
  ∃ c e,(Instr.buildSlice t len (parts.map fun (i,x)=>(i,a.eval x))).run X.P w = .ok (.slice (some ⟨w.heap.size,0,none⟩) len len) (w.alloc (.cells c e))∧c.size=len * E ∧
   RV (withData G.D w.heap.size 0 (len * E)) (w.alloc (.cells c e)) (.sl els) (.slice (some ⟨w.heap.size,0,none⟩) els.length len):=by
 obtain ⟨e,i,z,hu,hi,hz,hzs,his,hib⟩:=z6c he
 subst hlen
 have hsz0:((Array.range (els.length * E)).map fun k=>(if els.length * E=0 then #[] else z.cells)[k % (if els.length * E=0 then #[] else z.cells).size]!).size=els.length * E:=by simp
 obtain ⟨q1,q2,q3,c',f1,f2,f3,f4⟩:=zbx R E parts.toList 0 els ((Array.range (els.length * E)).map fun k=>(if els.length * E=0 then #[] else z.cells)[k % (if els.length * E=0 then #[] else z.cells).size]!) h (by rw [hsz0,Nat.zero_add];exact Nat.le_refl _)
 rw [hsz0] at f2
 refine ⟨c',e,?_,f2,?_⟩
 ·have hne:¬ (els.length * E > 2 ^ 24):=by omega
  have hf:Instr.fill (fun k=>some (k * E,E)) ((Array.range (els.length * E)).map fun k=>(if els.length * E=0 then #[] else z.cells)[k % (if els.length * E=0 then #[] else z.cells).size]!) ((parts.map fun (q:Nat × Operand)=>(q.1,a.eval q.2)).toList)=some c':=by
   rw [Array.toList_map];exact f1
  unfold Instr.buildSlice
  simp only [run_underlying hu,sizeOf,typeInfo,hi,his,Sem.run_bind,Sem.run_pure,run_program,Result.andThen_ok,hne,if_false]
  by_cases h0:els.length * E=0
  ·simp only [if_pos h0] at hf ⊢
   simp only [Sem.run_bind,Sem.run_pure,Result.andThen_ok,hf,newRow,run_newObj]
   rfl
  ·simp only [if_neg h0] at hf ⊢
   simp only [zeroValue,typeInfo,run_program,hi,hz,Sem.run_bind,Sem.run_pure,Result.andThen_ok,hf,newRow,run_newObj]
   rfl
 ·refine .sl els w.heap.size 0 els.length E (fun i j=>(c'[i * E+j]?).getD undef) hb2 (Nat.le_refl _) q1 q2 (fun i j hi' hj=>?_) (fun i j hi' hj=>.inr ⟨rfl,Nat.zero_le _,?_⟩) (fun i j e' d he' hd=>?_)
  ·have hlt:i * E+j<c'.size:=by
    rw [f2]
    calc i * E+j<i * E+E:=by omega
     _=(i+1) * E:=by rw [Nat.add_mul,Nat.one_mul]
     _≤els.length * E:=Nat.mul_le_mul_right _ hi'
   simp [World.cell?_alloc_new,hlt]
  ·calc 0+(i * E+j)<i * E+E:=by omega
     _=(i+1) * E:=by rw [Nat.add_mul,Nat.one_mul]
     _≤els.length * E:=Nat.mul_le_mul_right _ hi'
  ·obtain ⟨v,hv,hr⟩:=f4 i j e' d he' hd
   rw [Nat.zero_add] at hv
   simp only [hv,Option.getD_some]
   exact hr.mono (fun b o hd=>⟨.inl hd,World.cell?_alloc_lt _ _ _ (R.wf.lt hd)⟩)
theorem zby (R:Rel X G s a w){c:Array Value}{e:TypeId}{hi:Nat}(hh:hi≤c.size){G':Gh}(hD:G'.D=withData G.D w.heap.size 0 hi)(hn:G'.τ 0=(none,0)):Trans X G a w G' a (w.alloc (.cells c e)) (fun _=>False):=by
 refine ⟨rfl,fun h=>h.heap fun b hb=>z1t w _ b hb,rfl,rfl,rfl,by simp,fun b hb _=>z1t w _ b hb,fun _ h=>h.elim,fun b o hd=>⟨by rw [hD];exact .inl hd,World.cell?_alloc_lt _ _ _ (R.wf.lt hd)⟩,fun b o h k=>?_,hn⟩
 rw [hD] at h
 rcases h with h|⟨rfl,h1,h2⟩
 ·exact absurd h k
 ·refine ⟨.inl (Nat.le_refl _),c[o]'(by omega),?_⟩
  rw [World.cell?_alloc_new]
  exact Array.getElem?_eq_getElem (by omega)
theorem zff {o:Oper}{t len E B:Nat}{parts:Array (Nat × Operand)}(ho:o.op = .buildSlice t len parts){d:Nat}(hd:o.dst=some d)(hn:d<X.n)(he:elemZ X.P t=some (E,B)){els:List (List DV)}
  (h:litEls X (get s) E 0 parts.toList=some els) (hc:els.length=len∧len * E≤16777216∧len≤BIG):StepOK X s o (upd s (.slot d) (.one (.v (.sl els)))):=by
 intro G a w R next Q hK
 obtain ⟨c,e,h1,h2,h3⟩:=zfe R he h hc.1 hc.2.1 hc.2.2
 refine opIn (by first|exact z3j h|(intro c e;rw [ho] at e;cases e)) ?_
 simp only [execOp,ho,Sem.run_bind,h1,Result.andThen_ok,Sem.run_pure,z1y,hd]
 have T:Trans X G a w { G with D:=withData G.D w.heap.size 0 (len * E) } a (w.alloc (.cells c e)) (fun _=>False):=zby R (hi:=len * E) (by omega) rfl R.nil
 refine hK { G with D:=withData G.D w.heap.size 0 (len * E) } _ _ (R.setSlot T rfl rfl (fun _ h=>h) hn ?_)
 show RV (withData G.D w.heap.size 0 (len * E)) _ _ _
 rw [← hc.1] at h3 ⊢
 exact h3
end
end
section
section
variable {X:Ctx}{G:Gh}{s:St}{a:Act}{w:World}
def Laid (D:Nat→Nat→Prop)(w:World)(E:Nat)(els:List (List DV))(f:Nat→Value):Prop:=
 ∀ (i j:Nat) (e:List DV) (d:DV),els[i]? = some e→e[j]? = some d→RV D w d (f (i * E+j))
theorem Laid.mono {D D':Nat→Nat→Prop}{w w':World}{E:Nat}{els:List (List DV)}{f:Nat→Value}(g:Grow D w D' w')(h:Laid D w E els f):Laid D' w' E els f:=
 fun i j e d he hd=>(h i j e d he hd).mono g
theorem z2u {n E i j:Nat}(hi:i<n)(hj:j<E):i * E+j<n * E:=by
 calc i * E+j<i * E+E:=by omega
  _=(i+1) * E:=by rw [Nat.add_mul,Nat.one_mul]
  _≤n * E:=Nat.mul_le_mul_right _ hi
theorem z6d {D:Nat→Nat→Prop}{w:World}{els:List (List DV)}{v:Value}{E:Nat}(h:RV D w (.sl els) v)(hE:∀ e ∈ els,e.length=E) :
  (∀ e ∈ els,∀ c ∈ e,DV.isCell c=true)∧∃ f,Laid D w E els f∧(∀ k,k<els.length * E→(f k).oneCell' = true) ∧
   (els=[]∧(∃ b cap,v = .slice b 0 cap)∨∃ b o cap,v = .slice (some ⟨b,o,none⟩) els.length cap∧∀ k,k<els.length * E→w.cell? ⟨b,o+k,none⟩=some (f k)∧D b (o+k)):=by
 cases h with
 | sl0 b cap=>exact ⟨by simp,fun _=>undef,by intro _ _ e d he;simp at he,by simp,.inl ⟨rfl,b,cap,rfl⟩⟩
 | sl _ b o cap E' val hlen hcap hE' hcell hc hD hh=>
  refine ⟨hcell,fun k=>val (k / E) (k % E),fun i j e d he hd=>?_,fun k hk=>?_,?_⟩
  ·have hj:j<E:=by rw [← hE e (List.mem_of_getElem? he)];exact (List.getElem?_eq_some_iff.1 hd).1
   have h1:(i * E+j) / E=i:=by rw [Nat.mul_comm,Nat.mul_add_div (by omega)];simp [Nat.div_eq_of_lt hj]
   have h2:(i * E+j) % E=j:=by rw [Nat.mul_comm,Nat.mul_add_mod];exact Nat.mod_eq_of_lt hj
   simp only [h1,h2]
   exact hh i j e d he hd
  ·have hE0:0<E:=by rcases Nat.eq_zero_or_pos E with h0|h0 <;> simp_all
   have hi:k / E<els.length:=(Nat.div_lt_iff_lt_mul hE0).2 hk
   have he:els[k / E]? = some els[k / E]:=List.getElem?_eq_getElem hi
   have hel:=hE _ (List.getElem_mem hi)
   have hj:k % E<els[k / E].length:=by rw [hel];exact Nat.mod_lt _ hE0
   have hd:els[k / E][k % E]? = some els[k / E][k % E]:=List.getElem?_eq_getElem hj
   exact RV.one (hh _ _ _ _ he hd) (hcell _ (List.getElem_mem hi) _ (List.getElem_mem hj))
  ·cases hels:els with
   | nil=>exact .inl ⟨rfl,_,cap,by simp;rfl⟩
   | cons e0 r=>
    rw [← hels]
    have hEE:E' = E:=by rw [← hE' e0 (by simp [hels]),hE e0 (by simp [hels])]
    subst hEE
    refine .inr ⟨b,o,cap,rfl,fun k hk=>?_⟩
    have hE0:0<E':=by rcases Nat.eq_zero_or_pos E' with h0|h0 <;> simp_all
    have hi:k / E'<els.length:=(Nat.div_lt_iff_lt_mul hE0).2 hk
    have hj:k % E'<E':=Nat.mod_lt _ hE0
    have e1:k / E' * E'+k % E' = k:=by rw [Nat.mul_comm];exact Nat.div_add_mod k E'
    have:=hc _ _ hi hj
    have hd:=hD _ _ hi hj
    rw [e1] at this hd
    exact ⟨this,hd⟩
def arr (f:Nat→Value)(n:Nat):Array Value:=((List.range n).map f).toArray
theorem z46 (f:Nat→Value)(n:Nat):(arr f n).size=n:=by simp [arr]
theorem z47 (f:Nat→Value)(n k:Nat)(h:k<n):(arr f n)[k]? = some (f k):=by simp [arr,h]
theorem zbz {P:Program}{w:World}(b o n:Nat)(f:Nat→Value)(h:∀ k,k<n→w.cell? ⟨b,o+k,none⟩=some (f k)):(loadCells ⟨b,o,none⟩ n).run P w = .ok (arr f n) w:=by
 have:=run_loadCells_list (P:=P) w ⟨b,o,none⟩ ((List.range n).map f) (fun j v hj=>by
  have hj':j<n:=by have:=(List.getElem?_eq_some_iff.1 hj).1;simpa using this
  rw [z27]
  simp [hj'] at hj
  rw [← hj];exact h j hj')
 simpa [arr] using this
theorem z48 {P:Program}{D:Nat→Nat→Prop}{w:World}{els:List (List DV)}{v:Value}{E:Nat}{f:Nat→Value}
  (h:els=[]∧(∃ b cap,v = .slice b 0 cap)∨∃ b o cap,v = .slice (some ⟨b,o,none⟩) els.length cap∧∀ k,k<els.length * E→w.cell? ⟨b,o+k,none⟩=some (f k)∧D b (o+k)) :
  (Builtin.firstCells E els.length v).run P w = .ok (arr f (els.length * E)) w:=by
 rcases h with ⟨rfl,b,cap,rfl⟩|⟨b,o,cap,rfl,hc⟩
 ·cases b with
  | none=>simp [Builtin.firstCells,arr]
  | some p=>simp [Builtin.firstCells,arr,loadCells,loadCellsFrom]
 ·simp only [Builtin.firstCells]
  exact zbz b o _ f (fun k hk=>(hc k hk).1)
theorem Laid.join {D:Nat→Nat→Prop}{w:World}{E:Nat}{els ys:List (List DV)}{f g h:Nat→Value}(hf:Laid D w E els f)(hg:Laid D w E ys g)(hE:∀ e ∈ els,e.length=E)(hE':∀ e ∈ ys,e.length=E)
  (h1:∀ k,k<els.length * E→h k=f k) (h2:∀ k,k<ys.length * E→h (els.length * E+k)=g k):Laid D w E (els++ys) h:=by
 intro i j e d he hd
 by_cases hi:i<els.length
 ·rw [List.getElem?_append_left hi] at he
  have hj:j<E:=by rw [← hE e (List.mem_of_getElem? he)];exact (List.getElem?_eq_some_iff.1 hd).1
  rw [h1 _ (z2u hi hj)]
  exact hf i j e d he hd
 ·rw [List.getElem?_append_right (by omega)] at he
  have hj:j<E:=by rw [← hE' e (List.mem_of_getElem? he)];exact (List.getElem?_eq_some_iff.1 hd).1
  have hi':i - els.length<ys.length:=(List.getElem?_eq_some_iff.1 he).1
  have e1:i * E+j=els.length * E+((i - els.length) * E+j):=by
   have:i=els.length+(i - els.length):=by omega
   conv=>lhs;rw [this,Nat.add_mul]
   omega
  rw [e1,h2 _ (z2u hi' hj)]
  exact hg _ j e d he hd
theorem z9s {D:Nat→Nat→Prop}{w:World}{E b o cap:Nat}{els:List (List DV)}{f:Nat→Value}(hb:els.length≤BIG)(hcap:els.length≤cap)(hE:∀ e ∈ els,e.length=E)(hcell:∀ e ∈ els,∀ c ∈ e,DV.isCell c=true)
  (hc:∀ k,k<els.length * E→w.cell? ⟨b,o+k,none⟩=some (f k)∧D b (o+k)) (h:Laid D w E els f):RV D w (.sl els) (.slice (some ⟨b,o,none⟩) els.length cap):=
 .sl els b o cap E (fun i j=>f (i * E+j)) hb hcap hE hcell (fun i j hi hj=>(hc _ (z2u hi hj)).1) (fun i j hi hj=>(hc _ (z2u hi hj)).2) h
theorem Rel.ownNew (R:Rel X G s a w){t d E n:Nat}(hd:d<X.n)(hf:freshT d s=true){G':Gh}{w':World}{B:Nat→Prop}(T:Trans X G a w G' a w' B)(hν:G'.ν=G.ν)(hτ:∀ k,k ≠ d→G'.τ k=G.τ k)
  (hB:∀ b,B b→∃ E len,get s (.tok t)=some (.tk E len)∧tokBlk G t len=some b) {els:List (List DV)} {v:Value} (hv:RSV G' w' (.own d els) v) (htok:TokAt G' w' d E n)
  (hblk:∀ b,tokBlk G' d n=some b→w.heap.size≤b∨B b):Rel X G' (upd (upd (del s (.tok t)) (.slot d) (.one (.own d els))) (.tok d) (.tk E n)) (a.put (some d) v) w':=by
 have hp:=z3k a (some d) v
 have T':Trans X G a w G' (a.put (some d) v) w' B:=⟨hp.1,fun h=>(T.defers h).put hp.2,T.os,T.tape,T.output,T.size,T.keep,T.own,T.grow,T.new,T.nil⟩
 refine R.step T' (fun l u=>(l = .slot d∧u = .one (.own d els))∨(l = .tok d∧u = .tk E n)) (fun l u h=>?_) (fun l u h=>?_) (fun l u l' u' b h h' hb hb'=>?_)
 ·rw [z0h,z0h,z26] at h
  by_cases h1:Loc.tok d=l
  ·rw [if_pos h1] at h;cases h;exact .inl (.inr ⟨h1.symm,rfl⟩)
  ·rw [if_neg h1] at h
   by_cases h2:Loc.slot d=l
   ·rw [if_pos h2] at h;cases h;exact .inl (.inl ⟨h2.symm,rfl⟩)
   ·rw [if_neg h2] at h
    by_cases h3:Loc.tok t=l
    ·rw [if_pos h3] at h;cases h
    ·rw [if_neg h3] at h
     refine .inr ⟨h,fun n hn=>z5b _ _ _ _ (fun e=>h2 (by rw [hn,e])),fun b hb hBb=>?_,fun k _=>by rw [hν],fun k hk=>hτ k (zlx hf h k hk)⟩
     obtain ⟨E',len,hg,hb'⟩:=hB b hBb
     exact h3 (R.sep _ _ _ _ b hg h hb' hb)
 ·rcases h with ⟨rfl,rfl⟩|⟨rfl,rfl⟩
  ·refine ⟨?_,fun b hb=>by cases hb⟩
   show RSV G' w' (.own d els) _
   rw [z5a _ _ _ (by rw [R.size];exact hd)]
   exact hv
  ·refine ⟨htok,fun b hb=>?_⟩
   have h1:=hblk b hb
   refine ⟨h1,.inl ?_,fun h=>by cases h⟩
   rcases h1 with h1|h1
   ·exact Nat.le_trans R.ext.size h1
   ·obtain ⟨E',len,hg,hb'⟩:=hB b h1
    rcases R.own _ _ b hg hb' with h2|⟨_,h2⟩
    ·exact h2
    ·cases h2
 ·rcases h with ⟨rfl,rfl⟩|⟨rfl,rfl⟩
  ·cases hb
  ·rcases h' with ⟨rfl,rfl⟩|⟨rfl,rfl⟩
   ·cases hb'
   ·rfl
theorem zfg (n:Nat):∀ (r c:Nat),c<n→Builtin.growBy n r c≤2 * n+200
 | 0,c,h=>by simp [Builtin.growBy];omega
 | r+1,c,h=>by
  simp only [Builtin.growBy]
  rw [if_neg (by omega)]
  by_cases h2:c+(c+768) / 4<n
  ·exact zfg n r _ h2
  ·cases r with
   | zero=>simp [Builtin.growBy];omega
   | succ r=>simp only [Builtin.growBy];rw [if_pos (by omega)];omega
theorem zfh {need cap:Nat}(h:cap<need):Builtin.nextslicecap need cap≤2 * need+600:=by
 unfold Builtin.nextslicecap
 split
 ·omega
 ·split
  ·omega
  ·have:=zfg need 4 cap h;omega
def setτ (G:Gh)(D:Nat→Nat→Prop)(d:Nat)(h:Option Addr × Nat):Gh:={ D:=D,ν:=G.ν,τ:=fun k=>if k=d then h else G.τ k }
theorem z9t {P:Program}{w:World}{t ty t2 E B:Nat}(he:elemZ P t=some (E,B))(h2:(elemT P t2).isSome=true){base:Option Addr}{len cap:Nat}{x:Value}{n:Nat}{new:Array Value}
  (hx:(Builtin.lenOf x).run P w = .ok n w) (hn:(Builtin.firstCells E n x).run P w = .ok new w) (hle:len+n≤cap) {w':World} (hst:match base with|some a=>(storeCells (a.add (len * E)) new.toList 0).run P w = .ok () w' | none=>w' = w) :
  (Builtin.append_ #[t,t2] ty #[.slice base len cap,x]).run P w = .ok (.slice base (len+n) cap) w':=by
 obtain ⟨e,i,z,hu,hi,hz,hzs,his,hib⟩:=z6c he
 obtain ⟨E2,hE2⟩:=Option.isSome_iff_exists.1 h2
 obtain ⟨e2,i2,hu2,-,-⟩:=z3i hE2
 unfold Builtin.append_
 cases base with
 | none=>
  subst hst
  simp [run_underlying hu,run_underlying hu2,sizeOf,typeInfo,hi,his,hx,hn,hle]
 | some p=>
  simp only at hst
  simp [run_underlying hu,run_underlying hu2,sizeOf,typeInfo,hi,his,hx,hn,hle,hst]
theorem zfi {P:Program}{w:World}{t ty t2 E B:Nat}(he:elemZ P t=some (E,B))(hB:0<B∧B≤1024)(h2:(elemT P t2).isSome=true){base:Option Addr}{len cap:Nat}{x:Value}{n:Nat}{old new:Array Value}
  (hx:∀ w',w'.heap=w.heap→(Builtin.lenOf x).run P w' = .ok n w') (hn:∀ w',w'.heap=w.heap→(Builtin.firstCells E n x).run P w' = .ok new w') (ho:∀ w',w'.heap=w.heap→(Builtin.firstCells E len (.slice base len cap)).run P w' = .ok old w')
  (hle:¬ len+n≤cap) (hbig:len+n≤BIG) (h1:old.size=len * E) (h3:new.size=n * E) :
  ∃ c e nc,(Builtin.append_ #[t,t2] ty #[.slice base len cap,x]).run P w = .ok (.slice (some ⟨w.heap.size,0,none⟩) (len+n) nc) (w.drew.alloc (.cells c e))∧len+n≤nc∧c.size=nc * E∧(∀ k,k<len * E→c[k]? = old[k]?)∧(∀ k,k<n * E→c[len * E+k]? = new[k]?):=by
 obtain ⟨e,i,z,hu,hi,hz,hzs,his,hib⟩:=z6c he
 obtain ⟨E2,hE2⟩:=Option.isSome_iff_exists.1 h2
 obtain ⟨e2,i2,hu2,-,-⟩:=z3i hE2
 unfold BIG at hbig
 have hcap:¬ (Builtin.nextslicecap (len+n) cap * B > 2 ^ 48):=by
  have:=zfh (need:=len+n) (cap:=cap) (by omega)
  have:Builtin.nextslicecap (len+n) cap * B≤(2 * (len+n)+600) * 1024:=Nat.mul_le_mul this hB.2
  omega
 have hmax:¬ ((((len+n:Nat):Int) > IntKind.i64.max)∧(False∨i.bytes=0)):=by
  rintro ⟨_,h|h⟩
  ·exact h
  ·omega
 let q:Question:=.appendCap (len+n) cap e
 let nc:=q.cut (w.tape w.drawn q)
 have hnc:len+n≤nc:=by show len+n≤_;simp [nc,q,Question.cut]
 refine ⟨old++new++Builtin.zeroCells z.cells (nc - (len+n)),e,nc,?_,hnc,?_,fun k hk=>?_,fun k hk=>?_⟩
 ·unfold Builtin.append_
  have hc':¬ (2 ^ 48<Builtin.nextslicecap (len+n) cap * B):=hcap
  simp [run_underlying hu,run_underlying hu2,sizeOf,typeInfo,hi,his,hx w rfl,hle,hib,hc',Question.forced,ho (w.drew) rfl,hn (w.drew) rfl,zeroValue,hz,newRow,nc,q]
  intro h
  omega
 ·simp [h1,h3,Builtin.zeroCells,hzs]
  rw [← Nat.add_mul,← Nat.add_mul]
  congr 1;omega
 ·rw [Array.getElem?_append_left (by simp [h1,h3];omega),Array.getElem?_append_left (by omega)]
 ·rw [Array.getElem?_append_left (by simp [h1,h3];omega),Array.getElem?_append_right (by omega),h1]
  congr 1;omega
end
end
section
section
variable {X:Ctx}{G:Gh}{s:St}{a:Act}{w:World}
theorem z4n {P:Program}{w:World}{els:List (List DV)}{v:Value}(hr:RV G.D w (.sl els) v)(w':World):(Builtin.lenOf v).run P w' = .ok els.length w':=by
 cases hr <;> simp [Builtin.lenOf]
theorem z5c {w w':World}(h:w'.heap=w.heap)(ad:Addr):w'.cell? ad=w.cell? ad:=by simp [World.cell?,h]
theorem zfj (R:Rel X G s a w){x:Operand}{t:Nat}{els:List (List DV)}(h:evl X (get s) x=some (.own t els)):a.eval x = .slice (G.τ t).1 els.length (G.τ t).2∧RV G.D w (.sl els) (a.eval x):=z0d R h
def hasRoom (g:Rd)(t E len:Nat):Prop:=t=0∨g (.tok t)=some (.tk E len)
set_option maxHeartbeats 1000000 in
theorem zfk {o:Oper}{x y:Operand}{T T2:TypeId}(ho:o.op = .call { callee:=.builtin .append,args:=#[x,y],argTypes:=#[T,T2] }){d:Nat}(hd:o.dst=some d)(hn:d<X.n)(hd0:d ≠ 0)(hf:freshT d s=true)
  {E B:Nat} (he:elemZ X.P T=some (E,B)) (hB:0<B∧B≤1024) (h2:(elemT X.P T2).isSome=true) {t:Nat} {els ys:List (List DV)} (hx:evl X (get s) x=some (.own t els)) (hy:(evl X (get s) y).bind slOf=some ys)
  (htok:hasRoom (get s) t E els.length) (hbig:els.length+ys.length≤BIG) (hE1:∀ e ∈ els,e.length=E) (hE2:∀ e ∈ ys,e.length=E) :
  StepOK X s o (upd (upd (del s (.tok t)) (.slot d) (.one (.own d (els++ys)))) (.tok d) (.tk E (els.length+ys.length))):=by
 intro G a w R next Q hK
 obtain ⟨hv,hr⟩:=zfj R hx
 obtain ⟨q,hq,hq'⟩:=Option.bind_eq_some_iff.1 hy
 obtain ⟨yb,ycap,hyv,hyr,-⟩:=z45 hq' (z0d R hq)
 obtain ⟨c1,f,f1,f2,f3⟩:=z6d hr hE1
 obtain ⟨c2,g,g1,g2,g3⟩:=z6d hyr hE2
 have hEall:∀ e ∈ els++ys,e.length=E:=fun e h=>(List.mem_append.1 h).elim (hE1 e) (hE2 e)
 have hCall:∀ e ∈ els++ys,∀ c ∈ e,DV.isCell c=true:=fun e h=>(List.mem_append.1 h).elim (c1 e) (c2 e)
 have hlen:(els++ys).length=els.length+ys.length:=List.length_append
 have hexec:∀ (v:Value) (w':World),(Builtin.append_ #[T,T2] o.type #[a.eval x,a.eval y]).run X.P w = .ok v w'→(execOp a.eval o).run X.P w = .ok (.value v) w':=by
  intro v w' h
  simp [execOp,ho,resolve,invoke,builtin,h]
 have hfin:∀ (v:Value) (w':World) (G':Gh),(Builtin.append_ #[T,T2] o.type #[a.eval x,a.eval y]).run X.P w = .ok v w' →
   Rel X G' (upd (upd (del s (.tok t)) (.slot d) (.one (.own d (els++ys)))) (.tok d) (.tk E (els.length+ys.length))) (a.put (some d) v) w'→o.wpIn X.F 0 X.P a w next Q:=by
  intro v w' G' h hR
  refine opIn (by first|exact z3j h|(intro c e;rw [ho] at e;cases e)) ?_
  rw [hexec v w' h,z1y,hd]
  exact hK G' _ w' hR
 have hTok:TokAt G w t E els.length:=by
  rcases htok with rfl|h
  ·have h0:=R.nil
   rw [h0] at hv
   simp only [TokAt,h0,and_true]
   rw [hv] at hr
   cases hr;rfl
  ·exact R.holds _ _ h
 have hτ0:∀ D h,(setτ G D d h).τ 0=(none,0):=fun D h=>by
  simp only [setτ,if_neg (Ne.symm hd0)];exact R.nil
 have hBt:∀ b,(∃ n,t ≠ 0∧n=els.length∧tokBlk G t n=some b)→∃ E len,get s (.tok t)=some (.tk E len)∧tokBlk G t len=some b:=by
  rintro b ⟨n,ht,rfl,hb⟩
  exact ⟨E,_,htok.resolve_left ht,hb⟩
 by_cases hle:els.length+ys.length≤(G.τ t).2
 ·
  cases hh:G.τ t with
  | mk base cap=>
   rw [hh] at hv hle
   simp only at hv hle
   cases base with
   | none=>
    have hcap:els.length=0∧cap=0:=by simpa [TokAt,hh] using hTok
    have hys:ys=[]:=List.eq_nil_of_length_eq_zero (by omega)
    have hels:els=[]:=List.eq_nil_of_length_eq_zero hcap.1
    subst hys hels
    obtain ⟨-,rfl⟩:=hcap
    have hrun:=z9t (ty:=o.type) (w:=w) he h2 (base:=none) (len:=0) (cap:=0) (z4n (P:=X.P) hyr w) (z48 (P:=X.P) g3) hle (w':=w) rfl
    refine hfin _ _ (setτ G G.D d (none,0)) (by rw [hv];exact hrun) ?_
    have T0:=Trans.refl X G a w R.nil
    have T1:Trans X G a w (setτ G G.D d (none,0)) a w (fun _=>False):=⟨T0.tmps,T0.defers,T0.os,T0.tape,T0.output,T0.size,T0.keep,T0.own,T0.grow,T0.new,hτ0 _ _⟩
    refine R.ownNew hn hf T1 rfl (fun k hk=>by simp [setτ,hk]) (fun b h=>h.elim) ?_ ?_ (fun b hb=>?_)
    ·simp only [RSV,setτ,if_true]
     exact ⟨rfl,.sl0 _ _⟩
    ·simp [TokAt,setτ]
    ·simp [tokBlk,setτ] at hb
   | some p=>
    have htk:els.length≤cap∧(els.length<cap→p.spot=none∧∃ c e,w.heap[p.block]? = some (.cells c e (0,0))∧p.off+cap * E≤c.size∧∀ j,p.off+els.length * E≤j→j<p.off+cap * E→¬ G.D p.block j):=by
     simpa [TokAt,hh] using hTok
    obtain ⟨hlc,hroom⟩:=htk
    obtain ⟨pb,po,ps⟩:=p
    simp only at hroom
    have ht0:t ≠ 0:=fun e=>by subst e;rw [R.nil] at hh;cases hh
    rcases Nat.lt_or_ge els.length cap with hlt|hge
    ·obtain ⟨rfl,c,e,k1,k2,k3⟩:=hroom hlt
     have hnew1:(arr g (ys.length * E)).size=ys.length * E:=z46 _ _
     have hmul:els.length * E+ys.length * E≤cap * E:=by rw [← Nat.add_mul];exact Nat.mul_le_mul_right _ hle
     have hst:=zbw (P:=X.P) pb (po+els.length * E) e (arr g (ys.length * E)).toList 0 c w k1 (by simp [hnew1];omega) (fun v hv'=>by
      simp only [arr,List.mem_map,List.mem_range] at hv'
      obtain ⟨k,hk,rfl⟩:=hv'
      exact g2 k hk)
     rw [zfa] at hst
     have hrun:=z9t (ty:=o.type) (w:=w) he h2 (base:=some ⟨pb,po,none⟩) (len:=els.length) (cap:=cap) (z4n (P:=X.P) hyr w) (z48 (P:=X.P) g3) hle (w':=w.setRow pb (setAll c (po+els.length * E) (arr g (ys.length * E)))) (by simp only [z27];exact hst)
     have hsa:=z9n c (po+els.length * E) (arr g (ys.length * E)) (by rw [hnew1];omega)
     rw [hnew1] at hsa
     have hblk:tokBlk G t els.length=some pb:=by simp [tokBlk,hh,hlt]
     have hbase:X.w0.heap.size≤pb:=by
      rcases R.own _ _ pb (htok.resolve_left ht0) hblk with h|⟨_,h⟩
      ·exact h
      ·cases h
     have hcellw:∀ k,(w.setRow pb (setAll c (po+els.length * E) (arr g (ys.length * E)))).cell? ⟨pb,k,none⟩=(setAll c (po+els.length * E) (arr g (ys.length * E)))[k]?:=fun k=>cell_setRow_same _ _ _ _ _ _ _ k1
     have hcell0:∀ k,w.cell? ⟨pb,k,none⟩=c[k]?:=fun k=>by simp [World.cell?,k1]
     refine hfin _ _ (setτ G (withData G.D pb (po+els.length * E) (po+(els.length+ys.length) * E)) d (some ⟨pb,po,none⟩,cap)) (by rw [hv];exact hrun) ?_
     have T:Trans X G a w (setτ G (withData G.D pb (po+els.length * E) (po+(els.length+ys.length) * E)) d (some ⟨pb,po,none⟩,cap)) a (w.setRow pb (setAll c (po+els.length * E) (arr g (ys.length * E)))) (fun b=>b=pb):=by
      refine ⟨rfl,fun h=>h.but k1 fun b hnb=>setRow_other _ _ _ _ hnb,rfl,rfl,rfl,by simp,fun b hb hnb=>setRow_other _ _ _ _ hnb,fun b hb=>by subst hb;exact .inl hbase,fun b k hD=>⟨.inl hD,?_⟩,fun b k hD hnD=>?_,hτ0 _ _⟩
      ·by_cases hb:b=pb
       ·subst hb
        rw [hcellw,hcell0,hsa.2]
        have:¬ (po+els.length * E≤k∧k<po+els.length * E+ys.length * E):=fun ⟨q1,q2⟩=>k3 k q1 (by omega) hD
        rw [if_neg this]
       ·exact cell_setRow_other _ _ _ _ hb
      ·rcases hD with hD|⟨rfl,q1,q2⟩
       ·exact absurd hD hnD
       ·refine ⟨.inr ⟨rfl,hbase⟩,_,(hcellw k).trans (Array.getElem?_eq_getElem ?_)⟩
        rw [hsa.1]
        rw [Nat.add_mul] at q2
        omega
     refine R.ownNew hn hf T rfl (fun k hk=>by simp [setτ,hk]) (fun b hb=>by subst hb;exact ⟨E,_,htok.resolve_left ht0,hblk⟩) ?_ ?_ (fun b hb=>?_)
     ·simp only [RSV,setτ,if_true,hlen]
      refine ⟨trivial,?_⟩
      have hj:Laid (withData G.D pb (po+els.length * E) (po+(els.length+ys.length) * E)) (w.setRow pb (setAll c (po+els.length * E) (arr g (ys.length * E)))) E (els++ys) (fun k=>if k<els.length * E then f k else g (k - els.length * E)):=
       Laid.join (f1.mono T.grow) (g1.mono T.grow) hE1 hE2 (fun k hk=>by rw [if_pos hk]) (fun k hk=>by rw [if_neg (by omega),Nat.add_sub_cancel_left])
      have:=z9s (cap:=cap) (b:=pb) (o:=po) (by rw [hlen];exact hbig) (by rw [hlen];exact hle) hEall hCall (fun k hk=>?_) hj
      ·rw [hlen] at this;exact this
      ·rw [hlen,Nat.add_mul] at hk
       by_cases hk1:k<els.length * E
       ·rw [if_pos hk1]
        rcases f3 with ⟨rfl,-⟩|⟨b',o',cap',hv',hc'⟩
        ·simp at hk1
        ·rw [hv] at hv'
         cases hv'
         obtain ⟨m1,m2⟩:=hc' k hk1
         exact ⟨(T.grow _ _ m2).2.trans m1,.inl m2⟩
       ·rw [if_neg hk1]
        refine ⟨?_,.inr ⟨rfl,by omega,by rw [Nat.add_mul];omega⟩⟩
        rw [hcellw,hsa.2,if_pos (by omega),show po+k - (po+els.length * E)=k - els.length * E from by omega]
        exact z47 _ _ _ (by omega)
     ·simp only [TokAt,setτ,if_true]
      refine ⟨hle,fun hc=>⟨trivial,_,e,setRow_heap _ _ _ _ _ _ k1,by rw [hsa.1];exact k2,fun j j1 j2 hD=>?_⟩⟩
      rcases hD with hD|⟨-,q1,q2⟩
      ·exact k3 j (by rw [Nat.add_mul] at j1;omega) j2 hD
      ·omega
     ·simp only [tokBlk,setτ,if_true] at hb
      split at hb
      ·cases hb;exact .inr rfl
      ·cases hb
    ·have hys:ys=[]:=List.eq_nil_of_length_eq_zero (by omega)
     subst hys
     have hcl:cap=els.length:=by omega
     subst hcl
     have hrun:=z9t (ty:=o.type) (w:=w) he h2 (base:=some ⟨pb,po,ps⟩) (len:=els.length) (cap:=els.length) (z4n (P:=X.P) hyr w) (z48 (P:=X.P) g3) hle (w':=w) (by simp [arr,storeCells])
     refine hfin _ _ (setτ G G.D d (some ⟨pb,po,ps⟩,els.length)) (by rw [hv];exact hrun) ?_
     have T0:=Trans.refl X G a w R.nil
     have T1:Trans X G a w (setτ G G.D d (some ⟨pb,po,ps⟩,els.length)) a w (fun _=>False):=⟨T0.tmps,T0.defers,T0.os,T0.tape,T0.output,T0.size,T0.keep,T0.own,T0.grow,T0.new,hτ0 _ _⟩
     refine R.ownNew hn hf T1 rfl (fun k hk=>by simp [setτ,hk]) (fun b h=>h.elim) ?_ ?_ (fun b hb=>?_)
     ·simp only [RSV,setτ,if_true,List.append_nil,List.length_nil,Nat.add_zero]
      refine ⟨trivial,?_⟩
      rw [hv] at hr
      exact hr
     ·simp [TokAt,setτ]
     ·simp [tokBlk,setτ] at hb
 ·
  have hdr:∀ w':World,w'.heap=w.heap→(Builtin.firstCells E ys.length (a.eval y)).run X.P w' = .ok (arr g (ys.length * E)) w':=fun w' hw=>by
   refine z48 (D:=G.D) ?_
   rcases g3 with h|⟨b,o',cap,h,hc⟩
   ·exact .inl h
   ·exact .inr ⟨b,o',cap,h,fun k hk=>by rw [z5c hw];exact hc k hk⟩
  have hdo:∀ w':World,w'.heap=w.heap→(Builtin.firstCells E els.length (.slice (G.τ t).1 els.length (G.τ t).2)).run X.P w' = .ok (arr f (els.length * E)) w':=fun w' hw=>by
   rw [← hv]
   refine z48 (D:=G.D) ?_
   rcases f3 with h|⟨b,o',cap,h,hc⟩
   ·exact .inl h
   ·exact .inr ⟨b,o',cap,h,fun k hk=>by rw [z5c hw];exact hc k hk⟩
  obtain ⟨c,e,nc,r1,r2,r3,r4,r5⟩:=zfi (ty:=o.type) (w:=w) he hB h2 (fun w' _=>z4n (P:=X.P) hyr w') hdr hdo hle hbig (z46 _ _) (z46 _ _)
  rw [← hv] at r1
  refine hfin _ _ (setτ G (withData G.D w.heap.size 0 ((els.length+ys.length) * E)) d (some ⟨w.heap.size,0,none⟩,nc)) r1 ?_
  have hcsz:(els.length+ys.length) * E≤c.size:=by rw [r3];exact Nat.mul_le_mul_right _ r2
  have hcn:∀ k,(w.drew.alloc (.cells c e)).cell? ⟨w.heap.size,k,none⟩=c[k]?:=fun k=>World.cell?_alloc_new w.drew c e k
  have T:Trans X G a w (setτ G (withData G.D w.heap.size 0 ((els.length+ys.length) * E)) d (some ⟨w.heap.size,0,none⟩,nc)) a (w.drew.alloc (.cells c e)) (fun _=>False):=by
   refine ⟨rfl,fun h=>h.heap fun b hb=>z1t w.drew _ b hb,rfl,rfl,rfl,by simp,fun b hb _=>z1t w.drew _ b hb,fun _ h=>h.elim,fun b k hD=>⟨.inl hD,World.cell?_alloc_lt w.drew _ _ (R.wf.lt hD)⟩,fun b k hD hnD=>?_,hτ0 _ _⟩
   rcases hD with hD|⟨rfl,q1,q2⟩
   ·exact absurd hD hnD
   ·exact ⟨.inl (Nat.le_refl _),_,(hcn k).trans (Array.getElem?_eq_getElem (by omega))⟩
  refine R.ownNew hn hf T rfl (fun k hk=>by simp [setτ,hk]) (fun b h=>h.elim) ?_ ?_ (fun b hb=>?_)
  ·simp only [RSV,setτ,if_true,hlen]
   refine ⟨trivial,?_⟩
   have hj:Laid (withData G.D w.heap.size 0 ((els.length+ys.length) * E)) (w.drew.alloc (.cells c e)) E (els++ys) (fun k=>if k<els.length * E then f k else g (k - els.length * E)):=
    Laid.join (f1.mono T.grow) (g1.mono T.grow) hE1 hE2 (fun k hk=>by rw [if_pos hk]) (fun k hk=>by rw [if_neg (by omega),Nat.add_sub_cancel_left])
   have:=z9s (cap:=nc) (b:=w.heap.size) (o:=0) (by rw [hlen];exact hbig) (by rw [hlen];exact r2) hEall hCall (fun k hk=>?_) hj
   ·rw [hlen] at this;exact this
   ·rw [hlen] at hk
    refine ⟨?_,.inr ⟨rfl,by omega,by omega⟩⟩
    rw [Nat.zero_add,hcn]
    rw [Nat.add_mul] at hk
    by_cases hk1:k<els.length * E
    ·rw [if_pos hk1,r4 k hk1];exact z47 _ _ _ hk1
    ·rw [if_neg hk1,show k=els.length * E+(k - els.length * E) from by omega,r5 _ (by omega),Nat.add_sub_cancel_left]
     exact z47 _ _ _ (by omega)
  ·simp only [TokAt,setτ,if_true]
   refine ⟨r2,fun _=>⟨trivial,c,e,z6b w.drew _,by rw [r3];omega,fun j j1 j2 hD=>?_⟩⟩
   rcases hD with hD|⟨-,q1,q2⟩
   ·exact absurd (R.wf.lt hD) (Nat.lt_irrefl _)
   ·omega
  ·simp only [tokBlk,setτ,if_true] at hb
   split at hb
   ·cases hb;exact .inl (Nat.le_refl _)
   ·cases hb
theorem zfl {o:Oper}{T:TypeId}{x m:Operand}{lo hi:Option Operand}(ho:o.op = .slice T x lo hi (some m)){d:Nat}(hd:o.dst=some d)(hn:d<X.n)(hd0:d ≠ 0)(hf:freshT d s=true){E:Nat}(hE:elemT X.P T=some E){els:List (List DV)}
  (hx:(evl X (get s) x).bind slOf=some els) {l h k:Int} (hlo:bound X (get s) 0 lo=some l) (hhi:bound X (get s) els.length hi=some h) (hm:bound X (get s) 0 (some m)=some k) (hsome:hi.isSome=true)
  (hc:0≤l∧l≤h∧h≤els.length∧h=k∧∀ e ∈ els,e.length=E) :
  StepOK X s o (upd (upd (del s (.tok 0)) (.slot d) (.one (.own d ((els.take h.toNat).drop l.toNat)))) (.tok d) (.tk E (h.toNat - l.toNat))):=by
 intro G a w R next Q hK
 obtain ⟨h0,h1,h2,rfl,h3⟩:=hc
 obtain ⟨e',ie,hu,hie,rfl⟩:=z3i hE
 obtain ⟨q,hq,hq'⟩:=Option.bind_eq_some_iff.1 hx
 obtain ⟨b,cap,hv,hr,hcap⟩:=z45 hq' (z0d R hq)
 have hlo':(lo.map a.eval=none∧l=0)∨∃ k,lo.map a.eval=some (.int k l):=by
  rcases z59 R hlo with ⟨rfl,h⟩|⟨z,k,rfl,h⟩
  ·exact .inl ⟨rfl,h⟩
  ·exact .inr ⟨k,by simp [h]⟩
 obtain ⟨hio,rfl⟩:=Option.isSome_iff_exists.1 hsome
 have hhi':∃ k,a.eval hio = .int k h:=by
  rcases z59 R hhi with ⟨h,_⟩|⟨z,k,hz,h⟩
  ·cases h
  ·cases hz;exact ⟨k,h⟩
 have hm':∃ k,a.eval m = .int k h:=by
  rcases z59 R hm with ⟨h,_⟩|⟨z,k,hz,h⟩
  ·cases h
  ·cases hz;exact ⟨k,h⟩
 obtain ⟨k1,hk1⟩:=hhi'
 obtain ⟨k2,hk2⟩:=hm'
 have hh':(h.toNat:Int)=h:=Int.toNat_of_nonneg (by omega)
 have hsz:(sizeOf e').run X.P w = .ok ie.size w:=by simp [sizeOf,typeInfo,hie]
 have hrun:(Instr.sliceAt T (.slice b els.length cap) (lo.map a.eval) (some (a.eval hio)) (some (a.eval m))).run X.P w =
   .ok (.slice (if h.toNat=l.toNat then b else b.map fun q=>q.add (l.toNat * ie.size)) (h.toNat - l.toNat) (h.toNat - l.toNat)) w:=by
  have b1:0≤h∧h≤(cap:Int):=⟨by omega,by omega⟩
  have b2:0≤h∧h≤(h.toNat:Int):=⟨by omega,by omega⟩
  have b3:0≤l∧l≤(h.toNat:Int):=⟨h0,by omega⟩
  rcases hlo' with ⟨hl,rfl⟩|⟨k,hl⟩
  ·rw [hl,hk1,hk2]
   simp only [Instr.sliceAt,Instr.slice,run_underlying hu,Instr.sliceBounds,Instr.sliceBound,asIntOf,Sem.run_bind,Sem.run_pure,Result.andThen_ok,if_pos b1,if_pos b2,hsz]
   simp
  ·rw [hl,hk1,hk2]
   simp only [Instr.sliceAt,Instr.slice,run_underlying hu,Instr.sliceBounds,Instr.sliceBound,asIntOf,Sem.run_bind,Sem.run_pure,Result.andThen_ok,if_pos b1,if_pos b2,if_pos b3,hsz]
 have hsl:=zf4 (w:=w) (E:=ie.size) (hv ▸ hr) h3 l.toNat h.toNat (by omega) (by omega) hcap
 have hlen:((els.take h.toNat).drop l.toNat).length=h.toNat - l.toNat:=by simp;omega
 obtain ⟨base,hbase,hsl'⟩:∃ base:Option Addr,base=(if h.toNat=l.toNat then b else b.map fun q=>q.add (l.toNat * ie.size))∧RV G.D w (.sl ((els.take h.toNat).drop l.toNat)) (.slice base (h.toNat - l.toNat) (h.toNat - l.toNat)):=by
  refine ⟨_,rfl,?_⟩
  by_cases he:h.toNat=l.toNat
  ·have:(els.take h.toNat).drop l.toNat=[]:=by rw [he];simp
   rw [this,he,Nat.sub_self];exact .sl0 _ _
  ·have hne:cap ≠ l.toNat:=by omega
   rw [if_neg hne] at hsl
   rw [if_neg he]
   generalize (els.take h.toNat).drop l.toNat=L at *
   generalize hb:b.map (fun q=>q.add (l.toNat * ie.size))=bb at *
   rw [← hlen] at hsl ⊢
   cases hsl with
   | sl0=>simp at hlen;omega
   | sl _ b' o' _ E' val q1 q2 q3 q4 q5 q6 q7=>exact .sl L b' o' _ E' val q1 (Nat.le_refl _) q3 q4 q5 q6 q7
 rw [← hbase] at hrun
 have hτ0:(setτ G G.D d (base,h.toNat - l.toNat)).τ 0=(none,0):=by simp only [setτ,if_neg (Ne.symm hd0)];exact R.nil
 have T0:=Trans.refl X G a w R.nil
 have T1:Trans X G a w (setτ G G.D d (base,h.toNat - l.toNat)) a w (fun _=>False):=⟨T0.tmps,T0.defers,T0.os,T0.tape,T0.output,T0.size,T0.keep,T0.own,T0.grow,T0.new,hτ0⟩
 refine opIn (by first|exact z3j h|(intro c e;rw [ho] at e;cases e)) ?_
 simp only [execOp,ho,hv,Option.map_some,hrun,Sem.run_bind,Result.andThen_ok,Sem.run_pure,z1y,hd]
 refine hK (setτ G G.D d (base,h.toNat - l.toNat)) _ w (R.ownNew (t:=0) hn hf T1 rfl (fun k hk=>by simp [setτ,hk]) (fun b h=>h.elim) ?_ ?_ (fun b hb=>?_))
 ·simp only [RSV,setτ,if_true,hlen]
  exact ⟨trivial,hsl'⟩
 ·simp only [TokAt,setτ,if_true]
  cases base with
  | none=>
   have:h.toNat - l.toNat=0:=by
    rw [← hlen] at hsl' ⊢
    generalize (els.take h.toNat).drop l.toNat=L at *
    cases hsl' with
    | sl0=>rfl
   exact ⟨this,this⟩
  | some p=>exact ⟨Nat.le_refl _,fun h=>absurd h (Nat.lt_irrefl _)⟩
 ·cases base <;> simp [tokBlk,setτ] at hb
end
end
section
abbrev Objs:=List (Nat × List DV)
structure HeapOK (D:Nat→Nat→Prop)(w:World)(φ:Objs):Prop where
 rows:∀ b cs,(b,cs) ∈ φ→∃ c e,w.heap[b]? = some (.cells c e (0,0))∧cs.length≤c.size∧∀ (i:Nat) (x:DV),cs[i]? = some x→x.isCell=true∧∃ v,c[i]? = some v∧RV D w x v
 nodata:∀ b cs,(b,cs) ∈ φ→∀ o,¬ D b o
 nodup:(φ.map (·.1)).Nodup
def LC (P:Program)(gl:Globs)(f:FuncId)(args:List DV)(φ:Objs)(R:DV→Objs→Prop):Prop:=
 ∀ (D:Nat→Nat→Prop) (w:World) (vs:Array Value),Wf gl D w→vs.size=args.length→(∀ (i:Nat) (x:DV) (v:Value),args[i]? = some x→vs[i]? = some v→RV D w x v)→HeapOK D w φ →
  Calls P f vs w fun e w'=>∃ v D' r φ',e = .returned v∧R r φ'∧Ext (φ.map (·.1)) D w D' w'∧Wf gl D' w'∧RV D' w' r v∧HeapOK D' w' φ'∧∀ b ∈ φ'.map (·.1),b ∈ φ.map (·.1)∨w.heap.size≤b
def Aft (X:Ctx)(D':Nat→Nat→Prop)(w':World)(φ':Objs):Prop:=
 Ext X.ids X.D0 X.w0 D' w'∧Wf X.gl D' w'∧HeapOK D' w' φ'∧∀ b ∈ φ'.map (·.1),b ∈ X.ids∨X.w0.heap.size≤b
def Ctx.Post (X:Ctx)(v:Value)(w':World):Prop:=
 ∃ D' r φ',X.R r φ'∧Ext X.ids X.D0 X.w0 D' w'∧Wf X.gl D' w'∧RV D' w' r v∧HeapOK D' w' φ'∧∀ b ∈ φ'.map (·.1),b ∈ X.ids∨X.w0.heap.size≤b
def REnd:Option Code→List Item→Prop
 | none,k=>k=[]
 | some .ret,k=>∃ k1,k = .code .ret::k1
 | some (.exit id),k=>∃ k1,k = .code (.exit id)::k1∧exitTo id k1=none
 | some (.goto l),k=>∃ k1,k = .code (.goto l)::k1∧gotoIn l k1=none
 | _,_=>False
def Fin (X:Ctx)(b fr:Frame)(w':World):Prop:=
 match X.md with
 | .fn=>∃ v,X.Post v w'∧fr.fn=X.f∧fr.leaving X.P w' (.returned v)
 | .it l R=>∃ v D' φ' r',R φ' r'∧Aft X D' w' φ'∧w'.heap[l]? = some (.loop r')∧fr.fn=X.f∧fr.leaving X.P w' (.returned v)
 | .rd l r R=>∃ a k j D' φ',fr=b.atR a k∧REnd j k∧R j φ'∧Aft X D' w' φ'∧w'.heap[l]? = some (.loop { r with state:=.busy })
def W (X:Ctx)(k:List Item)(s:St):Prop:=
 ∀ (G:Gh) (a:Act) (w:World) (b:Frame) (cs:List Frame),b.fn=X.f→b.kind = .normal→b.roundOf=X.rd→Rel X G s a w →
  ∃ w' fr,Fin X b fr w'∧Steps X.P (lone (b.atR a k) cs w) (lone fr cs w')
section
variable {X:Ctx}{s:St}{k:List Item}
theorem z49 {k k':List Item}(h:∀ (a:Act) (w:World) (b:Frame) (cs:List Frame),step X.P (lone (b.atR a k) cs w) = .next (lone (b.atR a k') cs w))(hw:W X k' s):W X k s:=by
 intro G a w b cs hf hk hr R
 obtain ⟨w',fr,h1,h2⟩:=hw G a w b cs hf hk hr R
 exact ⟨w',fr,h1,.head (h a w b cs) h2⟩
theorem z0a {x y:Code}(h:W X (.code x::.code y::k) s):W X (.code (.seq x y)::k) s:=z49 (fun _ _ _ _=>stepR_seq) h
theorem z01 (h:W X k s):W X (.code .skip::k) s:=z49 (fun _ _ _ _=>stepR_skip) h
theorem z02 {l:Nat}(h:W X k s):W X (.code (.label l)::k) s:=z49 (fun _ _ _ _=>stepR_label) h
theorem z0b {id:Nat}{c:Code}(h:W X (.code c::.inBlock id::k) s):W X (.code (.block id c)::k) s:=z49 (fun _ _ _ _=>stepR_block) h
theorem z03 {id:Nat}(h:W X k s):W X (.inBlock id::k) s:=z49 (fun _ _ _ _=>stepR_inBlock) h
theorem z0n {c:Code}(h:W X (.code c::.inLoop c::k) s):W X (.code (.loop c)::k) s:=z49 (fun _ _ _ _=>stepR_loop) h
theorem z0j {c:Code}(h:W X (.code c::.inLoop c::k) s):W X (.inLoop c::k) s:=z49 (fun _ _ _ _=>stepR_inLoop) h
theorem z04 {id:Nat}{k':List Item}(he:exitTo id k=some k')(h:W X k' s):W X (.code (.exit id)::k) s:=z49 (fun _ _ _ _=>stepR_exit he) h
theorem z0f {c:Operand}{x y:Code}{t:Bool}(hc:evl X (get s) c=some (.v (.prim (.bool t))))(ht:t=true→W X (.code x::k) s)(hf:t=false→W X (.code y::k) s):W X (.code (.cond c x y)::k) s:=by
 intro G a w b cs hbf hbk hr R
 have hv:=(z0o (z0d R hc)).1
 cases t with
 | true=>
  obtain ⟨w',fr,h1,h2⟩:=ht rfl G a w b cs hbf hbk hr R
  exact ⟨w',fr,h1,.head (by have:=stepR_cond (P:=X.P) (b:=b) (k:=k) (cs:=cs) (w:=w) (x:=x) (y:=y) hv;simpa using this) h2⟩
 | false=>
  obtain ⟨w',fr,h1,h2⟩:=hf rfl G a w b cs hbf hbk hr R
  exact ⟨w',fr,h1,.head (by have:=stepR_cond (P:=X.P) (b:=b) (k:=k) (cs:=cs) (w:=w) (x:=x) (y:=y) hv;simpa using this) h2⟩
def retOne (X:Ctx)(g:Rd):ResultVar→Option DV
 | .tmp t=>match g (.slot t) with
  | some (.one x)=>toD x
  | _=>none
 | .cell t ty=>match g (.slot t) with
  | some (.one x)=>(loadAt X g ty x).bind toD
  | _=>none
def retL (X:Ctx)(g:Rd):List ResultVar→Option (List DV)
 | []=>some []
 | r::l=>match retOne X g r,retL X g l with
  | some x,some xs=>some (x::xs)
  | _,_=>none
def retD (X:Ctx)(g:Rd)(l:List ResultVar):Option DV:=
 match retL X g l with
 | some [x]=>some x
 | some xs=>some (.tup xs)
 | none=>none
def retM (tmps:Array Value):ResultVar→Sem Value
 | .tmp t=>pure (tmps.getD t undef)
 | .cell p t=>do loadVar t (← asAddr (tmps.getD p undef))
theorem zfm (fn:Func)(tmps:Array Value):results fn tmps=(do let vs ← fn.results.mapM (retM tmps);pure (if h:vs.size=1 then vs[0] else .tuple vs)):=by
 unfold results
 congr 1
theorem zfn {G:Gh}{a:Act}{w:World}(R:Rel X G s a w):∀ {l:List ResultVar} {xs:List DV},retL X (get s) l=some xs →
  ∃ vs:List Value,(l.mapM (retM a.tmps)).run X.P w = .ok vs w∧vs.length=xs.length∧∀ (i:Nat) (x:DV) (v:Value),xs[i]? = some x→vs[i]? = some v→RV G.D w x v
 | [],xs,h=>by cases h;exact ⟨[],by simp,rfl,by simp⟩
 | r::l,xs,h=>by
  simp only [retL] at h
  split at h
  ·rename_i x ys hx hys
   cases h
   obtain ⟨vs,h1,h2,h3⟩:=zfn R hys
   have key:∃ v,(retM a.tmps r).run X.P w = .ok v w∧RV G.D w x v:=by
    cases r with
    | tmp t=>
     simp only [retOne] at hx
     split at hx
     ·rename_i y hy
      exact ⟨_,rfl,z4l hx (R.holds _ _ hy)⟩
     ·cases hx
    | cell p t=>
     simp only [retOne] at hx
     split at hx
     ·rename_i y hy
      obtain ⟨z,hz,hz'⟩:=Option.bind_eq_some_iff.1 hx
      obtain ⟨u,q1,q2⟩:=zey R (R.holds _ _ hy) hz
      refine ⟨u,?_,z4l hz' q2⟩
      simp only [Instr.loadAt,Sem.run_bind] at q1
      simp only [retM,Sem.run_bind]
      cases hv:a.tmps.getD p undef with
      | pointer o=>
       cases o with
       | none=>simp [hv,Instr.sureAddr] at q1
       | some ad=>simpa [hv,Instr.sureAddr,asAddr] using q1
      | _=>simp [hv,Instr.sureAddr] at q1
     ·cases hx
   obtain ⟨v,k1,k2⟩:=key
   refine ⟨v::vs,?_,by simp [h2],fun i c u hc hu=>?_⟩
   ·rw [List.mapM_cons]
    simp only [Sem.run_bind]
    rw [k1]
    simp only [Result.andThen_ok,h1,Sem.run_pure]
   ·cases i with
    | zero=>simp at hc hu;subst hc hu;exact k2
    | succ i=>exact h3 i c u (by simpa using hc) (by simpa using hu)
  ·cases h
theorem zfo {G:Gh}{a:Act}{w:World}(R:Rel X G s a w){fn:Func}{r:DV}(h:retD X (get s) fn.results.toList=some r):∃ v,(results fn a.tmps).run X.P w = .ok v w∧RV G.D w r v:=by
 unfold retD at h
 have main:∀ xs,retL X (get s) fn.results.toList=some xs→∃ vs:Array Value,(fn.results.mapM (retM a.tmps)).run X.P w = .ok vs w∧vs.size=xs.length∧∀ (i:Nat) (x:DV) (v:Value),xs[i]? = some x→vs[i]? = some v→RV G.D w x v:=by
  intro xs hx
  obtain ⟨vs,h1,h2,h3⟩:=zfn R hx
  refine ⟨vs.toArray,?_,by simpa using h2,fun i x v hx hv=>h3 i x v hx (by simpa using hv)⟩
  rw [Array.mapM_eq_mapM_toList]
  simp only [Sem.run_map,h1,Result.andThen_ok]
 split at h
 ·rename_i x hx
  cases h
  obtain ⟨vs,h1,h2,h3⟩:=main _ hx
  have hs:vs.size=1:=by simpa using h2
  refine ⟨vs[0],?_,h3 0 _ _ rfl (by simp [hs])⟩
  rw [zfm,Sem.run_bind,h1]
  simp [hs]
 ·rename_i xs hne hx
  cases h
  obtain ⟨vs,h1,h2,h3⟩:=main _ hx
  have hs:vs.size ≠ 1:=by
   intro e
   rw [h2] at e
   match xs,e with
   | [x],_=>exact hne x rfl
  refine ⟨.tuple vs,?_,.tup _ _ h2 h3⟩
  rw [zfm,Sem.run_bind,h1]
  simp [hs]
 ·cases h
def objsIn (g:Rd)(φ:Objs):Prop:=∀ b cs,(b,cs) ∈ φ→g (.heap b)=some (.row (cs.map SV.v))
theorem z9u {G:Gh}{a:Act}{w:World}(R:Rel X G s a w){φ:Objs}(h:objsIn (get s) φ)(hn:(φ.map (·.1)).Nodup):HeapOK G.D w φ:=by
 refine ⟨fun b cs hm=>?_,fun b cs hm o=>?_,hn⟩
 ·obtain ⟨c,e,h1,h2,h3⟩:=R.holds _ _ (h b cs hm)
  refine ⟨c,e,h1,by simpa using h2,fun i x hx=>?_⟩
  obtain ⟨k1,v,k2,k3⟩:=h3 i (.v x) (by simp [hx])
  exact ⟨k1,v,k2,k3⟩
 ·exact R.data _ _ b o (h b cs hm) rfl rfl
theorem zm4 {Ds Es:List Nat}(h:Ds.map mark=Es.map mark):Ds=Es:=by
 induction Ds generalizing Es with
 | nil=>cases Es <;> simp_all
 | cons d r ih=>
  cases Es with
  | nil=>simp at h
  | cons e t=>
   simp only [List.map_cons,List.cons.injEq] at h
   have h1:d=e:=by have:=h.1;simp only [mark,Deferred.mk.injEq,Target.collected.injEq,and_true] at this;exact this
   rw [h1,ih h.2]
theorem Rel.pop {G:Gh}{a:Act}{w:World}(R:Rel X G s a w){D:Nat}{Ds:List Nat}(ha:a.defers=mark D::Ds.map mark) :
  (Instr.takeDeferred D).run X.P w = .ok [] (w.putObj D (.deferred none))∧Rel X G s { a with defers:=Ds.map mark } (w.putObj D (.deferred none)):=by
 obtain ⟨Ds',h1,h2,h3⟩:=R.defers
 obtain rfl:Ds' = D::Ds:=zm4 (by rw [← h1,ha];rfl)
 obtain ⟨hD,hlt⟩:=h3 D (by simp)
 have hne:∀ b,b ≠ D→(w.putObj D (.deferred none)).heap[b]? = w.heap[b]?:=fun b hb=>World.putObj_heap_other hb
 have hnot:∀ b o,G.D b o→b ≠ D:=fun b o hd e=>by
  subst e
  obtain ⟨v,hv⟩:=R.wf.there b o hd
  simp [World.cell?,hD] at hv
 refine ⟨run_takeDeferred hD,?_⟩
 have T:Trans X G a w G { a with defers:=Ds.map mark } (w.putObj D (.deferred none)) (fun b=>b=D):=by
  refine ⟨rfl,fun _=>⟨Ds,rfl,(List.nodup_cons.1 h2).2,fun E hE=>?_⟩,rfl,rfl,rfl,by simp,fun b _ hb=>hne b hb,fun b hb=>by subst hb;exact .inl hlt,fun b o hd=>⟨hd,?_⟩,fun _ _ h k=>absurd h k,R.nil⟩
  ·have hED:E ≠ D:=fun e=>by subst e;exact (List.nodup_cons.1 h2).1 hE
   exact ⟨(hne E hED).trans (h3 E (by simp [hE])).1,(h3 E (by simp [hE])).2⟩
  ·simp only [World.cell?]
   rw [hne b (hnot b o hd)]
 refine R.step T (fun _ _=>False) (fun l v h=>.inr ⟨h,fun _ _=>rfl,fun b hb he=>?_,fun _ _=>rfl,fun _ _=>rfl⟩) (fun _ _ h=>h.elim) (fun _ _ _ _ _ h=>h.elim)
 subst he
 have hh:=R.holds _ _ h
 cases l with
 | slot n=>cases v <;> cases hb
 | loc n=>
  cases v with
  | row cs=>simp only [blkOf,Option.some.injEq] at hb;subst hb;obtain ⟨c,e,h4,_⟩:=hh;rw [hD] at h4;cases h4
  | _=>first|exact hh.elim|cases hb
 | heap n=>
  cases v with
  | row cs=>simp only [blkOf,Option.some.injEq] at hb;subst hb;obtain ⟨c,e,h4,_⟩:=hh;rw [hD] at h4;cases h4
  | ob r=>simp only [blkOf,Option.some.injEq] at hb;subst hb;simp only [Holds] at hh;rw [hD] at hh;cases hh
  | mp l=>simp only [blkOf,Option.some.injEq] at hb;subst hb;obtain ⟨es,cl,h4,_⟩:=hh;rw [hD] at h4;cases h4
  | _=>first|exact hh.elim|cases hb
 | tok n=>
  cases v with
  | tk E len=>
   simp only [blkOf,tokBlk,Holds,TokAt] at hb hh
   split at hb
   ·rename_i aa cap heq
    rw [heq] at hh
    split at hb
    ·rename_i hlt'
     obtain ⟨-,c,e,h4,_⟩:=hh.2 hlt'
     cases hb
     rw [hD] at h4
     cases h4
    ·cases hb
   ·cases hb
  | _=>first|exact hh.elim|cases hb
theorem zfp {G:Gh}{cs:List Frame}:∀ (Ds:List Nat) (a:Act) (w:World) (fr:Frame),a.defers=Ds.map mark→Rel X G s a w→fr.mode = .returning→fr.defers=a.defers →
  ∃ w' fr',Steps X.P (lone fr cs w) (lone fr' cs w')∧Rel X G s { a with defers:=[] } w'∧fr'.mode = .returning∧fr'.defers=[]∧fr'.fn=fr.fn∧fr'.kind=fr.kind∧fr'.tmps=fr.tmps:=by
 intro Ds
 induction Ds with
 | nil=>
  intro a w fr ha R hm hd
  refine ⟨w,fr,.refl _ _,?_,hm,by rw [hd,ha];rfl,rfl,rfl,rfl⟩
  have:{ a with defers:=[] } = a:=by cases a;simp only at ha;rw [ha];rfl
  rw [this]
  exact R
 | cons D Ds ih=>
  intro a w fr ha R hm hd
  obtain ⟨h1,h2⟩:=R.pop ha
  have hs:=step_collected (P:=X.P) (cs:=cs) (by rw [hm];simp) (hd.trans ha) rfl h1
  obtain ⟨w',fr',k1,k2,k3,k4,k5,k6,k7⟩:=ih _ _ { fr with defers:=[]++Ds.map mark } rfl h2 hm rfl
  exact ⟨w',fr',.head hs k1,k2,k3,k4,k5,k6,k7⟩
theorem zfq (h:X.md = .fn):X.rd=none:=by simp [Ctx.rd,h]
theorem zm5 {l:Nat}{R:Objs→Loop→Prop}(h:X.md = .it l R):X.rd=none:=by simp [Ctx.rd,h]
theorem zc0 {G:Gh}{a:Act}{w:World}(R:Rel X G s a w){φ:Objs}(hφ:objsIn (get s) φ)(hn:(φ.map (·.1)).Nodup):Aft X G.D w φ:=by
 refine ⟨R.ext,R.wf,z9u R hφ hn,fun b hb=>?_⟩
 obtain ⟨⟨b',cs'⟩,hm,rfl⟩:=List.mem_map.1 hb
 rcases R.own _ _ b' (hφ b' cs' hm) rfl with h|⟨h,_⟩
 ·exact .inr h
 ·exact .inl h
def Outs (X:Ctx)(m:List Item):Prop:=
 ∀ (a:Act) (w:World) (b:Frame) (cs:List Frame),b.roundOf=none→step X.P (lone (b.atR a m) cs w) = .next (lone { b.atR a m with mode:=.returning } cs w)
theorem zc1:Outs X (.code .ret::k):=fun _ _ _ _ h=>stepR_ret h
theorem z9v:Outs X []:=fun _ _ _ _ h=>stepR_end h
theorem zfr (hmd:X.md = .fn)(hff:X.P.funcs[X.f]? = some X.fn){r:DV}(hr:retD X (get s) X.fn.results.toList=some r){φ:Objs}(hφ:objsIn (get s) φ)(hn:(φ.map (·.1)).Nodup)(hR:X.R r φ){m:List Item}(hstep:Outs X m):W X m s:=by
 intro G a w b cs hf hk hro R
 obtain ⟨Ds,hDs,-⟩:=R.defers
 obtain ⟨w',fr',k1,R',k3,k4,k5,k6,k7⟩:=zfp (cs:=cs) Ds a w { b.atR a m with mode:=.returning } hDs R rfl rfl
 obtain ⟨v,h1,h2⟩:=zfo R' hr
 obtain ⟨q1,q2,q3,q4⟩:=zc0 R' hφ hn
 refine ⟨w',fr',?_,.head (hstep a w b cs (hro.trans (zfq hmd))) k1⟩
 simp only [Fin,hmd]
 exact ⟨v,⟨G.D,r,φ,hR,q1,q2,h2,q3,q4⟩,k5.trans hf,k3,k4,k6.trans hk,X.fn,by rw [k5];exact (congrArg _ hf).trans hff,by rw [k7];exact h1⟩
theorem zfs (hmd:X.md = .fn)(hff:X.P.funcs[X.f]? = some X.fn){r:DV}(hr:retD X (get s) X.fn.results.toList=some r){φ:Objs}(hφ:objsIn (get s) φ)(hn:(φ.map (·.1)).Nodup)(hR:X.R r φ):W X (.code .ret::k) s:=
 zfr hmd hff hr hφ hn hR zc1
theorem zft (hmd:X.md = .fn)(hff:X.P.funcs[X.f]? = some X.fn){r:DV}(hr:retD X (get s) X.fn.results.toList=some r){φ:Objs}(hφ:objsIn (get s) φ)(hn:(φ.map (·.1)).Nodup)(hR:X.R r φ):W X [] s:=
 zfr hmd hff hr hφ hn hR z9v
theorem z7l {l:Nat}{Q:Objs→Loop→Prop}(hmd:X.md = .it l Q)(hff:X.P.funcs[X.f]? = some X.fn){r:DV}(hr:retD X (get s) X.fn.results.toList=some r){φ:Objs}(hφ:objsIn (get s) φ)(hn:(φ.map (·.1)).Nodup){q:Loop}(hl:get s (.heap l)=some (.ob q))(hR:Q φ q){m:List Item}(hstep:Outs X m):W X m s:=by
 intro G a w b cs hf hk hro R
 obtain ⟨Ds,hDs,-⟩:=R.defers
 obtain ⟨w',fr',k1,R',k3,k4,k5,k6,k7⟩:=zfp (cs:=cs) Ds a w { b.atR a m with mode:=.returning } hDs R rfl rfl
 obtain ⟨v,h1,h2⟩:=zfo R' hr
 refine ⟨w',fr',?_,.head (hstep a w b cs (hro.trans (zm5 hmd))) k1⟩
 simp only [Fin,hmd]
 exact ⟨v,G.D,φ,q,hR,zc0 R' hφ hn,R'.holds _ _ hl,k5.trans hf,k3,k4,k6.trans hk,X.fn,by rw [k5];exact (congrArg _ hf).trans hff,by rw [k7];exact h1⟩
theorem z7m {l:Nat}{r:Loop}{Q:Option Code→Objs→Prop}(hmd:X.md = .rd l r Q){φ:Objs}(hφ:objsIn (get s) φ)(hn:(φ.map (·.1)).Nodup)(hl:get s (.heap l)=some (.ob { r with state:=.busy }))(j:Option Code){m:List Item}(hj:REnd j m)(hR:Q j φ):W X m s:=by
 intro G a w b cs hf hk hro R
 refine ⟨w,b.atR a m,?_,.refl _ _⟩
 simp only [Fin,hmd]
 exact ⟨a,m,j,G.D,φ,rfl,hj,hR,zc0 R hφ hn,R.holds _ _ hl⟩
def Nrm (X:Ctx)(K:St→Prop):Exit→Act→World→Prop:=fun e a w=>e = .normal∧∃ G s,K s∧Rel X G s a w
def VL (X:Ctx)(ops:Array Oper)(l:List Oper)(s:St)(K:St→Prop):Prop:=
 ∀ n,ops.toList.drop n=l→∀ (G:Gh) (a:Act) (w:World),Rel X G s a w→wpOpsIn X.F 0 X.P ops (Nrm X K) (List.range' n l.length) a w
theorem zm6 {ops:Array Oper}{K:St→Prop}(h:K s):VL X ops [] s K:=fun _ _ G _ _ R=>⟨rfl,G,s,h,R⟩
theorem z2g {ops:Array Oper}{n:Nat}{o:Oper}{l:List Oper}(h:ops.toList.drop n=o::l):ops[n]? = some o∧ops.toList.drop (n+1)=l:=by
 constructor
 ·have:(ops.toList.drop n)[0]? = some o:=by rw [h];rfl
  rw [List.getElem?_drop] at this
  simpa using this
 ·rw [← List.drop_drop,h];rfl
theorem z4o {ops:Array Oper}{o:Oper}{l:List Oper}{K:St→Prop}{s':St}(hg:o.guard=none)(ho:StepOK X s o s')(h:VL X ops l s' K):VL X ops (o::l) s K:=by
 intro n hn G a w R
 obtain ⟨h1,h2⟩:=z2g hn
 simp only [List.length_cons,List.range'_succ,wpOpsIn,h1,Region.wanted,hg,if_true]
 exact (ho G a w R _ _ fun G' a' w' R'=>h (n+1) h2 G' a' w' R')
theorem Rel.congr {G:Gh}{a:Act}{w:World}(R:Rel X G s a w){s':St}(h:∀ l,get s' l=get s l):Rel X G s' a w:=
 ⟨R.size,R.defers,R.ext,R.wf,R.nil,fun l v hl=>R.holds l v (by rw [← h];exact hl),fun l v l' v' b h1 h2=>R.sep l v l' v' b (by rw [← h];exact h1) (by rw [← h];exact h2),fun l v b h1=>R.own l v b (by rw [← h];exact h1),fun l v b o h1=>R.data l v b o (by rw [← h];exact h1)⟩
abbrev unv:LV:=.one (.v (.tup []))
theorem z9w {G:Gh}{w:World}:RSV G w (.v (.tup [])) undef:=.tup [] #[] rfl (by simp)
theorem zfu {ops:Array Oper}{G:Gh}{a:Act}{w:World}(R:Rel X G s a w){j dj:Nat}(hj:(ops[j]?).bind (·.dst)=some dj)(hb:get s (.slot dj)=some unv):yielded ops a.tmps j=none:=by
 have hv:RV G.D w (.tup []) (a.tmps.getD dj undef):=R.holds _ _ hb
 unfold yielded
 rw [hj]
 simp only [Option.bind_some]
 cases hq:a.tmps[dj]? with
 | none=>rfl
 | some v=>
  have:a.tmps.getD dj undef=v:=by simp [Array.getD_eq_getD_getElem?,hq]
  rw [this] at hv
  cases hv
  rfl
theorem zm7 {ops:Array Oper}{o:Oper}{l:List Oper}{K:St→Prop}{j dj:Nat}{want b:Bool}(hg:o.guard=some (j,want))(hj:(ops[j]?).bind (·.dst)=some dj)(hjn:dj<X.n)(hb:get s (.slot dj)=some (.one (.v (.prim (.bool b)))))
  (hyes:b=want→∃ s',StepOK X (upd s (.slot dj) (.one (.v (.prim (.bool want))))) o s'∧VL X ops l s' K)
  {d:Nat} (hd:o.dst=some d) (hdn:d<X.n) (hno:b = !want→VL X ops l (upd (upd s (.slot dj) (.one (.v (.prim (.bool (!want)))))) (.slot d) unv) K):VL X ops (o::l) s K:=by
 intro n hn G a w R
 obtain ⟨h1,h2⟩:=z2g hn
 have hv:=(z0o (R.holds _ _ hb)).1
 have hlt:dj<a.tmps.size:=by rw [R.size];exact hjn
 have hv':a.tmps[dj]? = some (.bool b):=by
  have h3:a.tmps.getD dj undef=a.tmps[dj]:=by simp [hlt]
  rw [Array.getElem?_eq_getElem hlt,← h3,hv]
 have hy:yielded ops a.tmps j=some b:=by
  unfold yielded
  rw [hj]
  simp [hv']
 have R':∀ c,b=c→Rel X G (upd s (.slot dj) (.one (.v (.prim (.bool c))))) a w:=fun c hc=>R.congr fun l=>by
  rw [z0h]
  split
  ·subst_vars;exact hb.symm
  ·rfl
 simp only [List.length_cons,List.range'_succ,wpOpsIn,h1,Region.wanted,hg,hy]
 by_cases hbw:b=want
 ·subst hbw
  simp only [beq_self_eq_true,if_true]
  obtain ⟨s',k1,k2⟩:=hyes rfl
  exact (k1 G a w (R' _ rfl) _ _ fun G' a' w' R'=>k2 (n+1) h2 G' a' w' R')
 ·have hb2:b = !want:=by cases b <;> cases want <;> simp_all
  have:(some b == some want)=false:=by simp [hbw]
  simp only [this,Bool.false_eq_true,if_false,hd]
  exact ⟨fun _ _=>trivial,hno hb2 (n+1) h2 G _ w ((R' _ hb2).setSlot (Trans.refl X G a w R.nil) rfl rfl (fun _ h=>h) hdn (x:=.v (.tup [])) z9w)⟩
theorem zm8 {ops:Array Oper}{o:Oper}{l:List Oper}{K:St→Prop}{j dj:Nat}{want:Bool}(hg:o.guard=some (j,want))(hj:(ops[j]?).bind (·.dst)=some dj)(hb:get s (.slot dj)=some unv)
  {d:Nat} (hd:o.dst=some d) (hdn:d<X.n) (hno:VL X ops l (upd s (.slot d) unv) K):VL X ops (o::l) s K:=by
 intro n hn G a w R
 obtain ⟨h1,h2⟩:=z2g hn
 have hy:=zfu (ops:=ops) R hj hb
 simp only [List.length_cons,List.range'_succ,wpOpsIn,h1,Region.wanted,hg,hy,hd]
 have:(none == some want)=false:=by cases want <;> rfl
 simp only [this,Bool.false_eq_true,if_false]
 exact ⟨fun _ _=>trivial,hno (n+1) h2 G _ w (R.setSlot (Trans.refl X G a w R.nil) rfl rfl (fun _ h=>h) hdn (x:=.v (.tup [])) z9w)⟩
theorem z9x (n:Nat):X.F.room n:=fun _ h=>by simp [Ctx.F,Fence.wide] at h
theorem zm9 {id:Nat}{ops:Array Oper}(h:∀ K:St→Prop,(∀ s',W X k s'→K s')→VL X ops ops.toList s K):W X (.code (.region id ops false)::k) s:=by
 intro G a w b cs hf hk hr R
 have hv:=h (fun s'=>W X k s') (fun _ h=>h) 0 rfl G a w R
 have e:List.range' 0 ops.toList.length=List.range ops.size:=by rw [List.range_eq_range'];simp
 rw [e] at hv
 obtain ⟨e',a',w',⟨rfl,G',s',hK,R'⟩,harr⟩:=wp_opsIn _ a w hv b k cs hr trivial (z9x _)
 obtain ⟨w'',fr,h1,h2⟩:=hK G' a' w' b cs hf hk hr R'
 exact ⟨w'',fr,h1,.head stepR_region (Steps.trans (StepsIn.steps harr) h2)⟩
end
end
section
def Callable (P:Program)(f:FuncId):Prop:=
 ∃ fn, P.funcs[f]? = some fn ∧ fn.body.isSome = true ∧ (fn.name == "runtime.NumGoroutine") = false
def Con (P:Program)(gl:Globs)(f:FuncId)(args:List DV)(φ:Objs)(R:DV→Objs→Prop):Prop:=Callable P f∧LC P gl f args φ R
def Con1 (P:Program)(gl:Globs)(f:FuncId)(args:List DV)(φ:Objs)(r:DV)(φ':Objs):Prop:=Con P gl f args φ fun x ψ=>x=r∧ψ=φ'
theorem LC.mono {P:Program}{gl:Globs}{f:FuncId}{args:List DV}{φ:Objs}{R R':DV→Objs→Prop}(h:LC P gl f args φ R)(hr:∀ r ψ,R r ψ→R' r ψ):LC P gl f args φ R':=
 fun D w vs h1 h2 h3 h4=>(h D w vs h1 h2 h3 h4).mono fun _ _ ⟨v,D',r,ψ,k1,k2,k3⟩=>⟨v,D',r,ψ,k1,hr _ _ k2,k3⟩
theorem Con.mono {P:Program}{gl:Globs}{f:FuncId}{args:List DV}{φ:Objs}{R R':DV→Objs→Prop}(h:Con P gl f args φ R)(hr:∀ r ψ,R r ψ→R' r ψ):Con P gl f args φ R':=⟨h.1,h.2.mono hr⟩
def heapSt:Objs→St
 | []=>[]
 | (b,cs)::r=>(.heap b,.row (cs.map SV.v))::heapSt r
def argSt:Nat→List DV→St
 | _,[]=>[]
 | n,x::r=>(.slot n,.one (.v x))::argSt (n+1) r
def entry (args:List DV)(φ:Objs):St:=argSt 0 args++heapSt φ
def delObjs (s:St):Objs→St
 | []=>s
 | (b,_)::r=>delObjs (del s (.heap b)) r
def addObjs (s:St):Objs→St
 | []=>s
 | (b,cs)::r=>upd (addObjs s r) (.heap b) (.row (cs.map SV.v))
theorem z3l (s t:St)(l:Loc):get (s++t) l=(get s l).or (get t l):=by
 induction s with
 | nil=>simp [get]
 | cons p r ih=>
  obtain ⟨m,v⟩:=p
  simp only [List.cons_append,get]
  split <;> simp [ih]
theorem z5d {φ:Objs}{l:Loc}{v:LV}(h:get (heapSt φ) l=some v):∃ b cs,l = .heap b∧v = .row (cs.map SV.v)∧(b,cs) ∈ φ:=by
 induction φ with
 | nil=>cases h
 | cons p r ih=>
  obtain ⟨b,cs⟩:=p
  simp only [heapSt,get] at h
  split at h
  ·rename_i hl;cases h;exact ⟨b,cs,hl.symm,rfl,by simp⟩
  ·obtain ⟨b',cs',h1,h2,h3⟩:=ih h
   exact ⟨b',cs',h1,h2,List.mem_cons_of_mem _ h3⟩
theorem zc2 {l:Loc}{v:LV}:∀ {args:List DV} {n:Nat},get (argSt n args) l=some v→∃ i x,l = .slot (n+i)∧v = .one (.v x)∧args[i]? = some x
 | [],_,h=>by cases h
 | x::r,n,h=>by
  simp only [argSt,get] at h
  split at h
  ·rename_i hl;cases h;exact ⟨0,x,by rw [← hl];rfl,rfl,rfl⟩
  ·obtain ⟨i,y,h1,h2,h3⟩:=zc2 h
   exact ⟨i+1,y,by rw [h1];congr 1;omega,h2,by simpa using h3⟩
theorem zc3 (φ:Objs):∀ (s:St) (l:Loc) (v:LV),get (delObjs s φ) l=some v→get s l=some v∧∀ b ∈ φ.map (·.1),l ≠ .heap b:=by
 induction φ with
 | nil=>intro s l v h;exact ⟨h,by simp⟩
 | cons p r ih=>
  obtain ⟨b,cs⟩:=p
  intro s l v h
  obtain ⟨h1,h2⟩:=ih _ l v h
  rw [z26] at h1
  by_cases hl:Loc.heap b=l
  ·rw [if_pos hl] at h1;cases h1
  ·rw [if_neg hl] at h1
   refine ⟨h1,fun b' hb'=>?_⟩
   simp only [List.map_cons,List.mem_cons] at hb'
   rcases hb' with rfl|hb'
   ·exact fun e=>hl e.symm
   ·exact h2 b' hb'
theorem z9y (s:St):∀ (φ:Objs) (l:Loc) (v:LV),get (addObjs s φ) l=some v→(∃ b cs,l = .heap b∧v = .row (cs.map SV.v)∧(b,cs) ∈ φ)∨(get s l=some v∧∀ b ∈ φ.map (·.1),l ≠ .heap b)
 | [],l,v,h=>.inr ⟨h,by simp⟩
 | (b,cs)::r,l,v,h=>by
  simp only [addObjs,z0h] at h
  split at h
  ·rename_i hl;cases h;exact .inl ⟨b,cs,hl.symm,rfl,by simp⟩
  ·rename_i hl
   rcases z9y s r l v h with ⟨b',cs',h1,h2,h3⟩|⟨h1,h2⟩
   ·exact .inl ⟨b',cs',h1,h2,List.mem_cons_of_mem _ h3⟩
   ·refine .inr ⟨h1,fun b' hb'=>?_⟩
    simp only [List.map_cons,List.mem_cons] at hb'
    rcases hb' with rfl|hb'
    ·exact fun e=>hl e.symm
    ·exact h2 b' hb'
section
variable {X:Ctx}{s:St}{k:List Item}
theorem z6e {G:Gh}{D':Nat→Nat→Prop}{w':World}{φ:Objs}(h:HeapOK D' w' φ){b:Nat}{cs:List DV}(hm:(b,cs) ∈ φ):BlkAt { D:=D',ν:=G.ν,τ:=G.τ } w' b (cs.map SV.v):=by
 obtain ⟨c,e,h1,h2,h3⟩:=h.rows b cs hm
 refine ⟨c,e,h1,by simpa using h2,fun i x hx=>?_⟩
 rw [List.getElem?_map] at hx
 cases hq:cs[i]? with
 | none=>simp [hq] at hx
 | some y=>
  simp [hq] at hx
  subst hx
  exact h3 i y hq
theorem Rel.call {G:Gh}{a:Act}{w:World}(R:Rel X G s a w){φ φ':Objs}(hφ:objsIn (get s) φ){D':Nat→Nat→Prop}{w':World}(hx:Ext (φ.map (·.1)) G.D w D' w')(hwf:Wf X.gl D' w'){r:DV}{v:Value}(hr:RV D' w' r v)
  (hh:HeapOK D' w' φ') (hids:∀ b ∈ φ'.map (·.1),b ∈ φ.map (·.1)∨w.heap.size≤b) {d:Nat} (hd:d<X.n) :
  Rel X { D:=D',ν:=G.ν,τ:=G.τ } (addObjs (delObjs (upd s (.slot d) (.one (.v r))) φ) φ') (a.put (some d) v) w':=by
 have hp:=z3k a (some d) v
 have hφb:∀ b ∈ φ.map (·.1),∃ cs,get s (.heap b)=some (.row (List.map SV.v cs)):=by
  intro b hb
  obtain ⟨⟨b',cs'⟩,hm,rfl⟩:=List.mem_map.1 hb
  exact ⟨cs',hφ b' cs' hm⟩
 have T:Trans X G a w { D:=D',ν:=G.ν,τ:=G.τ } (a.put (some d) v) w' (fun b=>b ∈ φ.map (·.1)):=by
  refine ⟨hp.1,fun h=>h.keep hp.2 fun D hD=>(hx.block D (Array.getElem?_eq_some_iff.1 hD).1 fun hm=>?_).trans hD,hx.os,hx.tape,hx.output,hx.size,fun b hb hn=>hx.block b hb hn,fun b hb=>?_,hx.grow,fun b o hD hn=>⟨.inl (hx.new b o hD hn),hwf.there b o hD⟩,R.nil⟩
  ·obtain ⟨cs,hg⟩:=hφb D hm
   obtain ⟨c,e,h4,_⟩:=R.holds _ _ hg
   rw [hD] at h4;cases h4
  ·obtain ⟨cs,hg⟩:=hφb b hb
   exact (R.own _ _ b hg rfl).imp id And.left
 refine R.step T (fun l u=>(l = .slot d∧u = .one (.v r))∨∃ b cs,l = .heap b∧u = .row (cs.map SV.v)∧(b,cs) ∈ φ') (fun l u h=>?_) (fun l u h=>?_) (fun l u l' u' b h h' hb hb'=>?_)
 ·rcases z9y _ _ _ _ h with h|⟨h,hne⟩
  ·exact .inl (.inr h)
  ·obtain ⟨h,hn⟩:=zc3 _ _ _ _ h
   ·rw [z0h] at h
    split at h
    ·rename_i hl;cases h;exact .inl (.inl ⟨hl.symm,rfl⟩)
    ·rename_i hl
     refine .inr ⟨h,fun n hn=>z5b _ _ _ _ (fun e=>hl (by rw [hn,e])),fun b hb hB=>?_,fun _ _=>rfl,fun _ _=>rfl⟩
     obtain ⟨cs,hg⟩:=hφb b hB
     exact hn b hB (R.sep _ _ _ _ b hg h rfl hb).symm
 ·rcases h with ⟨rfl,rfl⟩|⟨b,cs,rfl,rfl,hm⟩
  ·refine ⟨?_,fun b hb=>by cases hb⟩
   show RV D' w' r _
   rw [z5a _ _ _ (by rw [R.size];exact hd)]
   exact hr
  ·refine ⟨z6e hh hm,fun b' hb'=>?_⟩
   simp only [blkOf,Option.some.injEq] at hb'
   subst hb'
   have hmm:b ∈ φ'.map (·.1):=List.mem_map.2 ⟨_,hm,rfl⟩
   refine ⟨(hids b hmm).symm,?_,fun _ o=>hh.nodata b cs hm o⟩
   rcases hids b hmm with h1|h1
   ·obtain ⟨cs',hg⟩:=hφb b h1
    exact R.own _ _ b hg rfl
   ·exact .inl (Nat.le_trans R.ext.size h1)
 ·rcases h with ⟨rfl,rfl⟩|⟨b1,cs,rfl,rfl,hm⟩
  ·cases hb
  ·rcases h' with ⟨rfl,rfl⟩|⟨b2,cs',rfl,rfl,hm'⟩
   ·cases hb'
   ·simp only [blkOf,Option.some.injEq] at hb hb'
    rw [hb,hb']
theorem zfv {P:Program}{f:FuncId}(h:Callable P f)(args:Array Value)(w:World):(callFunc f args).run P w = .ok (.enter f args) w:=by
 obtain ⟨fn,h1,h2,h3⟩:=h
 have h4:fn.body.isNone=false:=by cases hb:fn.body <;> simp_all
 simp only [callFunc,Sem.run_bind,run_program,Result.andThen_ok,h1,h3,h4,Bool.false_eq_true,if_false,Sem.run_pure]
theorem z9z {o:Oper}{f:FuncId}{x:Operand}{args:Array Operand}{ats:Array TypeId}(ho:o.op = .call { callee:=.value x,args:=args,argTypes:=ats }){fi ca:Array Value}
  (hx:evl X (get s) x=some (.v (.prim (.func (.func f) fi ca)))) {ds:List DV} (hargs:∃ d0,evlDs X (get s) args.toList=some d0∧ds=fi.toList.map DV.prim++d0++ca.toList.map DV.prim) (hprim:∀ v ∈ fi.toList++ca.toList,primOK v)
  {φ:Objs} {R:DV→Objs→Prop} (hc:Con X.P X.gl f ds φ R) (hφ:objsIn (get s) φ) (hnd:(φ.map (·.1)).Nodup) {d:Nat} (hd:o.dst=some d) (hdn:d<X.n) {G:Gh} {a:Act} {w:World} (R0:Rel X G s a w) (next:Act→World→Prop) (Q:Exit→Act→World→Prop)
  (hk:∀ r φ' G' a' w',R r φ'→(∀ b ∈ φ'.map (·.1),b ∈ φ.map (·.1)∨∀ l v,get s l=some v→blkOf G l v ≠ some b)→Rel X G' (addObjs (delObjs (upd s (.slot d) (.one (.v r))) φ) φ') a' w'→next a' w'):o.wpIn X.F 0 X.P a w next Q:=by
 obtain ⟨d0,hd0,rfl⟩:=hargs
 have hxv:=(z0o (z0d R0 hx)).1
 obtain ⟨q1,q2⟩:=zbt R0 hd0
 have q1':args.size=d0.length:=by simpa using q1
 refine opIn (by intro c e;rw [ho] at e;cases e) ?_
 have hrun:(execOp a.eval o).run X.P w = .ok (.enter f (fi++args.map a.eval++ca)) w:=by
  simp [execOp,ho,resolve,hxv,Deferred.ofValue,invoke,zfv hc.1]
 rw [hrun,zlz]
 have hpr:∀ v ∈ fi.toList++ca.toList,RV G.D w (.prim v) v:=fun v hv=>.prim v (hprim v hv)
 refine (hc.2 G.D w _ R0.wf ?_ ?_ (z9u R0 hφ hnd)).mono ?_
 ·simp [← q1]
 ·intro i x v hx hv
  have hl:(fi++args.map a.eval++ca).toList=fi.toList++args.toList.map a.eval++ca.toList:=by simp
  have hv':(fi.toList++args.toList.map a.eval++ca.toList)[i]? = some v:=by rw [← hl,Array.getElem?_toList];exact hv
  by_cases h1:i<fi.size
  ·rw [List.append_assoc,List.getElem?_append_left (by simpa using h1)] at hx hv'
   rw [List.getElem?_map] at hx
   rw [hv'] at hx
   cases hx
   exact hpr v (List.mem_append.2 (.inl (List.mem_of_getElem? hv')))
  ·by_cases h2:i<fi.size+args.size
   ·rw [List.append_assoc,List.getElem?_append_right (by simp;omega),List.getElem?_append_left (by simp;omega)] at hx hv'
    simp only [List.length_map,Array.length_toList] at hx hv'
    exact q2 _ _ _ hx hv'
   ·rw [List.getElem?_append_right (by simp;omega)] at hx hv'
    simp only [List.length_append,List.length_map,Array.length_toList,← q1'] at hx hv'
    rw [List.getElem?_map] at hx
    rw [hv'] at hx
    cases hx
    exact hpr v (List.mem_append.2 (.inr (List.mem_of_getElem? hv')))
 ·rintro e w' ⟨v,D',r,φ',rfl,hR,hext,hwf,hrv,hh,hids⟩
  rw [hd]
  refine hk r φ' _ _ w' hR (fun b hb=>?_) (R0.call hφ hext hwf hrv hh hids hdn)
  rcases hids b hb with h|h
  ·exact .inl h
  ·exact .inr fun l v hg hbl=>by
    have:=z1x (R0.holds l v hg) hbl
    omega
theorem za0 {o:Oper}{f:FuncId}{args:Array Operand}{ats:Array TypeId}(ho:o.op = .call { callee:=.value (.func f),args:=args,argTypes:=ats })
  {ds:List DV} (hargs:evlDs X (get s) args.toList=some ds) {φ φ':Objs} {r:DV} (hc:Con1 X.P X.gl f ds φ r φ') (hφ:objsIn (get s) φ) (hnd:(φ.map (·.1)).Nodup) {d:Nat} (hd:o.dst=some d) (hdn:d<X.n) :
  StepOK X s o (addObjs (delObjs (upd s (.slot d) (.one (.v r))) φ) φ'):=by
 intro G a w R next Q hK
 refine z9z (fi:=#[]) (ca:=#[]) ho rfl ⟨ds,hargs,by simp⟩ (by simp) hc hφ hnd hd hdn R next Q ?_
 rintro r' ψ G' a' w' ⟨rfl,rfl⟩ _ R'
 exact hK G' a' w' R'
theorem zma {P : Program} {gl : Globs} {f : FuncId} {args : List DV} {φ : Objs} {R : DV → Objs → Prop} {fn : Func} {body : Code} (hf : P.funcs[f]? = some fn) (hb : fn.body = some body) (hname : (fn.name == "runtime.NumGoroutine") = false)
  (hn:args.length≤fn.ntmps)
  (h:∀ X:Ctx,X.P=P→X.gl=gl→X.f=f→X.fn=fn→X.n=fn.ntmps→X.R=R∧X.md = .fn→X.ids=φ.map (·.1)→(∀ x ∈ args,DV.fit x)→W X [.code body] (entry args φ)):Con P gl f args φ R:=by
 refine ⟨⟨fn,hf,by simp [hb],hname⟩,?_⟩
 intro D w vs hwf hsz hargs hheap cs
 let X:Ctx:={ P:=P,gl:=gl,f:=f,fn:=fn,n:=fn.ntmps,ids:=φ.map (·.1),D0:=D,w0:=w,R:=R,md:=.fn }
 have hfit:∀ x ∈ args,DV.fit x:=by
  intro x hx
  obtain ⟨i,hi,rfl⟩:=List.mem_iff_getElem.1 hx
  exact RV.fit (hargs i _ vs[i] (List.getElem?_eq_getElem hi) (Array.getElem?_eq_getElem (by omega)))
 have hW:=h X rfl rfl rfl rfl rfl ⟨rfl,rfl⟩ rfl hfit
 let a:Act:={ tmps:=vs++Array.replicate (fn.ntmps - vs.size) undef,defers:=[] }
 have Rl:Rel X { D:=D,ν:=fun _=>0,τ:=fun _=>(none,0) } (entry args φ) a w:=by
  have hget:∀ l v,get (entry args φ) l=some v→(∃ i x,l = .slot i∧v = .one (.v x)∧args[i]? = some x)∨∃ b cs,l = .heap b∧v = .row (cs.map SV.v)∧(b,cs) ∈ φ:=by
   intro l v hl
   unfold entry at hl
   rw [z3l] at hl
   rcases Option.or_eq_some_iff.1 hl with hl|⟨-,hl⟩
   ·obtain ⟨i,x,h1,h2,h3⟩:=zc2 hl
    exact .inl ⟨i,x,by simpa using h1,h2,h3⟩
   ·exact .inr (z5d hl)
  refine ⟨by simp [a,X];omega,⟨[],rfl,List.nodup_nil,by simp⟩,Ext.refl _ _ _,hwf,rfl,fun l v hl=>?_,fun l v l' v' b hl hl' hb hb'=>?_,fun l v b hl hb=>?_,fun l v b o hl hb _=>?_⟩
  ·rcases hget l v hl with ⟨i,x,rfl,rfl,hx⟩|⟨b,cs,rfl,rfl,hm⟩
   ·have hi:i<vs.size:=by rw [hsz];exact (List.getElem?_eq_some_iff.1 hx).1
    have hv:vs[i]? = some vs[i]:=Array.getElem?_eq_getElem hi
    show RV D w x _
    have:a.tmps.getD i undef=vs[i]:=by
     simp [a,Array.getElem?_append_left hi,hv]
    rw [this]
    exact hargs i x _ hx hv
   ·exact z6e (G:={ D:=D,ν:=fun _=>0,τ:=fun _=>(none,0) }) hheap hm
  ·rcases hget l v hl with ⟨i,x,rfl,rfl,hx⟩|⟨b1,cs,rfl,rfl,hm⟩
   ·cases hb
   ·rcases hget l' v' hl' with ⟨i,x,rfl,rfl,hx⟩|⟨b2,cs',rfl,rfl,hm'⟩
    ·cases hb'
    ·simp only [blkOf,Option.some.injEq] at hb hb'
     rw [hb,hb']
  ·rcases hget l v hl with ⟨i,x,rfl,rfl,hx⟩|⟨b1,cs,rfl,rfl,hm⟩
   ·cases hb
   ·simp only [blkOf,Option.some.injEq] at hb
    subst hb
    exact .inr ⟨List.mem_map.2 ⟨_,hm,rfl⟩,rfl⟩
  ·rcases hget l v hl with ⟨i,x,rfl,rfl,hx⟩|⟨b1,cs,rfl,rfl,hm⟩
   ·cases hb
   ·simp only [blkOf,Option.some.injEq] at hb
    subst hb
    exact hheap.nodata _ _ hm o
 let b:Frame:={ (default:Frame) with fn:=f,kind:=.normal }
 have henter:Frame.enter P f vs .normal=b.atR a [.code body]:=by
  simp [Frame.enter,Frame.atR,hf,hb,b,a];rfl
 obtain ⟨w',fr,⟨v,⟨D',r,φ',k1,k2,k3,k4,k5,k6⟩,h3,h4⟩,h2⟩:=hW _ a w b cs rfl rfl rfl Rl
 rw [← henter] at h2
 exact ⟨.returned v,w',fr,⟨v,D',r,φ',rfl,k1,k2,k3,k4,k5,k6⟩,h2,h3,h4⟩
def svLe (σ:Nat→Nat):SV→SV→Prop
 | .v x,.v y=>x=y
 | .v x,.own _ els=>x = .sl els
 | .loc k off,.loc k' off'=>k=k'∧off=off'
 | .dp els i off,.dp els' i' off'=>els=els'∧i=i'∧off=off'
 | .own t els,.own t' els'=>σ t=t'∧els=els'
 | .v x,.ag cs _=>x = .agg cs
 | .ag cs ns,.ag cs' ns'=>cs=cs'∧ns=ns'
 | _,_=>False
def rowLe (σ:Nat→Nat):List SV→List SV→Prop
 | [],[]=>True
 | x::r,y::t=>svLe σ x y∧rowLe σ r t
 | _,_=>False
def lvLe (σ:Nat→Nat):LV→Option LV→Prop
 | .one x,some (.one y)=>svLe σ x y
 | .row cs,some (.row ds)=>rowLe σ cs ds
 | .ob r,some (.ob q)=>r=q
 | .mp l,some (.mp q)=>l=q
 | _,_=>False
def factLe (σ:Nat→Nat)(s:St)(l:Loc)(v:LV):Prop:=
 match l,v with
 | .tok t,.tk E n=>(σ t=0∧n=0)∨(σ t ≠ 0∧get s (.tok (σ t))=some (.tk E n))
 | l,v=>lvLe σ v (get s l)
def subLe (σ:Nat→Nat)(s:St):St→Prop
 | []=>True
 | (l,v)::r=>factLe σ s l v∧subLe σ s r
def ren:List (Nat × Nat)→Nat→Nat
 | [],n=>n
 | (x,y)::r,n=>if n=x then y else ren r n
def toksOf:St→List Nat
 | []=>[]
 | (.tok t,_)::r=>t::toksOf r
 | _::r=>toksOf r
theorem zfw {G:Gh}{w:World}{σ:Nat→Nat}{x y:SV}{v:Value}(h:svLe σ x y)(hr:RSV G w y v):RSV { D:=G.D,ν:=G.ν,τ:=fun t=>G.τ (σ t) } w x v:=by
 cases x <;> cases y <;> simp only [svLe] at h
 ·subst h;exact hr
 ·subst h;exact hr.2
 ·subst h;exact hr.1
 ·obtain ⟨rfl,rfl⟩:=h;exact hr
 ·obtain ⟨rfl,rfl,rfl⟩:=h;exact hr
 ·obtain ⟨rfl,rfl⟩:=h;exact hr
 ·obtain ⟨rfl,rfl⟩:=h;exact hr
theorem zmb {σ:Nat→Nat}{x y:SV}(h:svLe σ x y)(hc:y.isCell=true):x.isCell=true:=by
 cases x <;> cases y <;> simp only [svLe] at h
 ·subst h;exact hc
 ·subst h;rfl
 ·cases hc
 ·rfl
 ·rfl
 ·rfl
 ·cases hc
theorem zfx {σ:Nat→Nat}:∀ {cs ds:List SV},rowLe σ cs ds→cs.length=ds.length∧∀ (i:Nat) (x:SV),cs[i]? = some x→∃ y,ds[i]? = some y∧svLe σ x y
 | [],[],_=>⟨rfl,by simp⟩
 | x::r,y::t,h=>by
  obtain ⟨h1,h2⟩:=h
  obtain ⟨k1,k2⟩:=zfx h2
  refine ⟨by simp [k1],fun i z hz=>?_⟩
  cases i with
  | zero=>simp at hz;subst hz;exact ⟨y,rfl,h1⟩
  | succ i=>obtain ⟨q,hq⟩:=k2 i z (by simpa using hz);exact ⟨q,by simpa using hq.1,hq.2⟩
 | [],_::_,h=>h.elim
 | _::_,[],h=>h.elim
theorem zfy {σ:Nat→Nat}{s:St}:∀ {s':St},subLe σ s s'→∀ l v,get s' l=some v→factLe σ s l v
 | [],_,l,v,h=>by cases h
 | (m,u)::r,h,l,v,hg=>by
  simp only [get] at hg
  split at hg
  ·cases hg;subst_vars;exact h.1
  ·exact zfy h.2 l v hg
theorem zfz {s:St}{t:Nat}{v:LV}(h:get s (.tok t)=some v):t ∈ toksOf s:=by
 induction s with
 | nil=>cases h
 | cons p r ih=>
  obtain ⟨m,u⟩:=p
  simp only [get] at h
  split at h
  ·subst_vars;simp [toksOf]
  ·cases m <;> simp only [toksOf] <;> first|exact ih h|exact List.mem_cons_of_mem _ (ih h)
def tokInj (σ:Nat→Nat):List Nat→Prop
 | []=>True
 | t::r=>(σ t=0∨∀ t' ∈ r,t' = t∨σ t' ≠ σ t)∧tokInj σ r
theorem zg0 {σ:Nat→Nat}:∀ {l:List Nat},tokInj σ l→∀ t ∈ l,∀ t' ∈ l,σ t ≠ 0→σ t=σ t'→t=t'
 | [],_,t,h,_,_,_,_=>by cases h
 | x::r,h,t,ht,t',ht',hne,he=>by
  obtain ⟨h1,h2⟩:=h
  rcases List.mem_cons.1 ht with e1|m1
  ·rcases List.mem_cons.1 ht' with e2|m2
   ·rw [e1,e2]
   ·rw [e1] at hne he
    rcases h1 with h1|h1
    ·exact absurd h1 hne
    ·rcases h1 t' m2 with h|h
     ·rw [e1,h]
     ·exact absurd he.symm h
  ·rcases List.mem_cons.1 ht' with e2|m2
   ·rw [e2] at he
    rcases h1 with h1|h1
    ·exact absurd (he.trans h1) hne
    ·rcases h1 t m1 with h|h
     ·rw [e2,h]
     ·exact absurd he h
   ·exact zg0 h2 t m1 t' m2 hne he
theorem Rel.sub {G:Gh}{a:Act}{w:World}(R:Rel X G s a w)(l:List (Nat × Nat)){s':St}(h0:ren l 0=0)(hs:subLe (ren l) s s')(hi:tokInj (ren l) (toksOf s')):Rel X { D:=G.D,ν:=G.ν,τ:=fun t=>G.τ (ren l t) } s' a w:=by
 have key:∀ m v,get s' m=some v→(∃ t E n,m = .tok t∧v = .tk E n∧((ren l t=0∧n=0)∨(ren l t ≠ 0∧get s (.tok (ren l t))=some (.tk E n))))∨(m.isTok=false∧∃ u,get s m=some u∧lvLe (ren l) v (some u)):=by
  intro m v hg
  have hf:=zfy hs m v hg
  unfold factLe at hf
  split at hf
  ·rename_i t E n;exact .inl ⟨t,E,n,rfl,rfl,hf⟩
  ·rename_i hne
   cases hu:get s m with
   | none=>rw [hu] at hf;cases v <;> exact hf.elim
   | some u=>
    rw [hu] at hf
    refine .inr ⟨?_,u,rfl,hf⟩
    cases m with
    | tok t=>
     cases v with
     | tk E n=>exact (hne t E n rfl rfl).elim
     | one x=>
      have:=R.holds _ _ hu
      cases u with
      | tk E n=>exact hf.elim
      | one y=>exact this.elim
      | row cs=>exact this.elim
      | ob r=>exact this.elim
      | mp l=>exact this.elim
     | row cs=>
      have:=R.holds _ _ hu
      cases u with
      | tk E n=>exact hf.elim
      | one y=>exact this.elim
      | row cs=>exact this.elim
      | ob r=>exact this.elim
      | mp l=>exact this.elim
     | mp l=>
      have:=R.holds _ _ hu
      cases u with
      | tk E n=>exact hf.elim
      | one y=>exact this.elim
      | row cs=>exact this.elim
      | ob r=>exact this.elim
      | mp l=>exact this.elim
     | ob r=>
      have:=R.holds _ _ hu
      cases u with
      | tk E n=>exact hf.elim
      | one y=>exact this.elim
      | row cs=>exact this.elim
      | ob r=>exact this.elim
      | mp l=>exact this.elim
    | _=>rfl
 have hblk:∀ m v b,get s' m=some v→blkOf { D:=G.D,ν:=G.ν,τ:=fun t=>G.τ (ren l t) } m v=some b→(∃ t E n,m = .tok t∧v = .tk E n∧ren l t ≠ 0∧get s (.tok (ren l t))=some (.tk E n)∧blkOf G (.tok (ren l t)) (.tk E n)=some b)∨(m.isTok=false∧∃ u,get s m=some u∧blkOf G m u=some b):=by
  intro m v b hg hb
  rcases key m v hg with ⟨t,E,n,rfl,rfl,h⟩|⟨h1,u,h2,h3⟩
  ·rcases h with ⟨h1,rfl⟩|⟨h1,h2⟩
   ·simp only [blkOf,tokBlk,h1,R.nil] at hb
    cases hb
   ·exact .inl ⟨t,E,n,rfl,rfl,h1,h2,hb⟩
  ·refine .inr ⟨h1,u,h2,?_⟩
   cases m with
   | slot n=>cases v <;> cases hb
   | tok t=>cases h1
   | loc q=>cases v with
    | row cs=>cases u with
     | row ds=>exact hb
     | _=>exact h3.elim
    | ob r=>cases u with
     | ob q=>exact hb
     | _=>exact h3.elim
    | mp r=>cases u with
     | mp q=>exact hb
     | _=>exact h3.elim
    | _=>cases hb
   | heap q=>cases v with
    | row cs=>cases u with
     | row ds=>exact hb
     | _=>exact h3.elim
    | ob r=>cases u with
     | ob q=>exact hb
     | _=>exact h3.elim
    | mp r=>cases u with
     | mp q=>exact hb
     | _=>exact h3.elim
    | _=>cases hb
 have hrow:∀ b cs ds,rowLe (ren l) cs ds→BlkAt G w b ds→BlkAt { D:=G.D,ν:=G.ν,τ:=fun t=>G.τ (ren l t) } w b cs:=by
  rintro b cs ds hle ⟨c,e,h1,h2,h3⟩
  obtain ⟨k1,k2⟩:=zfx hle
  refine ⟨c,e,h1,by omega,fun i x hx=>?_⟩
  obtain ⟨y,hy,hxy⟩:=k2 i x hx
  obtain ⟨q1,v,q2,q3⟩:=h3 i y hy
  exact ⟨zmb hxy q1,v,q2,zfw hxy q3⟩
 refine ⟨R.size,R.defers,R.ext,R.wf,by simp only [h0];exact R.nil,fun m v hg=>?_,fun m v m' v' b hg hg' hb hb'=>?_,fun m v b hg hb=>?_,fun m v b o hg hb ht=>?_⟩
 ·rcases key m v hg with ⟨t,E,n,rfl,rfl,h⟩|⟨h1,u,h2,h3⟩
  ·rcases h with ⟨h1,rfl⟩|⟨h1,h2⟩
   ·simp only [Holds,TokAt,h1,R.nil,and_self]
   ·exact R.holds _ _ h2
  ·have hh:=R.holds _ _ h2
   cases m with
   | tok t=>cases h1
   | slot n=>cases v with
    | one x=>cases u with
     | one y=>exact zfw h3 hh
     | _=>exact h3.elim
    | _=>cases u <;> first|exact hh.elim|exact h3.elim
   | loc q=>cases v with
    | row cs=>cases u with
     | row ds=>exact hrow _ _ _ h3 hh
     | _=>exact h3.elim
    | _=>cases u <;> first|exact hh.elim|exact h3.elim
   | heap q=>cases v with
    | row cs=>cases u with
     | row ds=>exact hrow _ _ _ h3 hh
     | _=>exact h3.elim
    | ob r=>cases u with
     | ob q=>obtain rfl:r=q:=h3;exact hh
     | _=>exact h3.elim
    | mp r=>cases u with
     | mp q=>obtain rfl:r=q:=h3;exact hh
     | _=>exact h3.elim
    | _=>cases u <;> first|exact hh.elim|exact h3.elim
 ·rcases hblk m v b hg hb with ⟨t,E,n,rfl,rfl,h1,h2,h3⟩|⟨h1,u,h2,h3⟩
  ·rcases hblk m' v' b hg' hb' with ⟨t',E',n',rfl,rfl,k1,k2,k3⟩|⟨k1,u',k2,k3⟩
   ·have:=R.sep _ _ _ _ b h2 k2 h3 k3
    simp only [Loc.tok.injEq] at this
    rw [zg0 hi t (zfz hg) t' (zfz hg') h1 this]
   ·have:=R.sep _ _ _ _ b h2 k2 h3 k3
    subst this
    cases k1
  ·rcases hblk m' v' b hg' hb' with ⟨t',E',n',rfl,rfl,k1,k2,k3⟩|⟨k1,u',k2,k3⟩
   ·have:=R.sep _ _ _ _ b h2 k2 h3 k3
    subst this
    cases h1
   ·exact R.sep _ _ _ _ b h2 k2 h3 k3
 ·rcases hblk m v b hg hb with ⟨t,E,n,rfl,rfl,h1,h2,h3⟩|⟨h1,u,h2,h3⟩
  ·rcases R.own _ _ b h2 h3 with h|⟨_,h⟩
   ·exact .inl h
   ·cases h
  ·rcases R.own _ _ b h2 h3 with h|⟨h,_⟩
   ·exact .inl h
   ·exact .inr ⟨h,h1⟩
 ·rcases hblk m v b hg hb with ⟨t,E,n,rfl,rfl,h1,h2,h3⟩|⟨h1,u,h2,h3⟩
  ·cases ht
  ·exact R.data _ _ b o h2 h3 h1
theorem z0c (l:List (Nat × Nat)){s':St}(h0:ren l 0=0)(hs:subLe (ren l) s s')(hi:tokInj (ren l) (toksOf s'))(h:W X k s'):W X k s:=
 fun _ a w b cs hf hk hr R=>h _ a w b cs hf hk hr (R.sub l h0 hs hi)
theorem z1k {α:Type}(I:α→Prop)(S:α→St)(μ:α→Nat){c:Code}(x0:α)(h0:I x0)
  (round:∀ x,I x→(∀ y,I y→μ y<μ x→W X (.inLoop c::k) (S y))→W X (.code c::.inLoop c::k) (S x)):W X (.code (.loop c)::k) (S x0):=by
 refine z0n ?_
 have key:∀ n x,μ x=n→I x→W X (.code c::.inLoop c::k) (S x):=by
  intro n
  induction n using Nat.strongRecOn with
  | _ n ih=>
   intro x hx hi
   exact round x hi fun y hy hlt=>z0j (ih (μ y) (hx ▸ hlt) y rfl hy)
 exact key _ x0 rfl h0
end
end
end Go.Proofs.YtoamlfmdkbmmpaaGreatDoor.Lift
