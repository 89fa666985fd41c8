import Derived.WalkKit
import Derived.OrdersIn
import Derived.RangeFuncLeaves
import Derived.RangeFuncIn
import Derived.RangeFuncRecord
set_option maxHeartbeats 8000000
set_option maxRecDepth 100000
set_option linter.unusedSimpArgs false
set_option linter.unusedVariables false
set_option linter.unnecessarySimpa false
namespace Go.Proofs.YtoniciijokeidaaGreatDoor.Lift
open Go
theorem oO {p:Prop}(h:p:=by omega):p:=h
theorem dD {p:Prop}(h:p:=by decide):p:=h
theorem sS {p:Prop}(h:p:=by simp):p:=h
theorem kK {p:Prop}(h:p:=by kernel_rfl):p:=h
theorem tT:True:=True.intro
theorem uA {α:Type _}{l:List α}{i:Nat}{a:α}(h:l[i]? = some a):∃h:i<l.length,l[i]=a:=List.getElem?_eq_some_iff.1 h
theorem uB {α:Type _}{l:List α}{i:Nat}(h:i<l.length):l[i]? = some l[i]:=List.getElem?_eq_getElem h
theorem uC {α:Type _}(a b:α):(some a=some b)=(a=b):=Option.some.injEq a b
theorem uD {α:Type _}{β:Type _}(a:α)(b:β)(c:α)(d:β):((a,b)=(c,d))=(a=c/\b=d):=Prod.mk.injEq a b c d
theorem uE {α:Type _}{l:List α}{i:Nat}{a:α}(h:l[i]? = some a):a∈l:=List.mem_of_getElem? h
theorem uF {a b:Nat}(h:Nat.ble a b=true):a<=b:=Nat.le_of_ble_eq_true h
theorem uG {α:Type _}{l:Array α}{i:Nat}(h:i<l.size):l[i]? = some l[i]:=Array.getElem?_eq_getElem h
theorem uH (a b:Bool):((a&&b)=true)=(a=true/\b=true):=Bool.and_eq_true a b
section
inductive DV where
 | prim (v:Value)
 | agg (cs:List DV)
 | tup (cs:List DV)
 | sl (els:List (List DV))
 | iface (t:TypeId) (x:DV)
 | ref (cs:List DV)
def HL:Nat:=2147483648
def FR:Value->Prop
 | .int k n=>k.min<=n/\n<=k.max
 | .agg _=>False
 | .tuple _=>False
 | .slice none n c=>n=0/\c=0
 | .iface _ _=>False
 | _=>True
def DV.isCell:DV->Bool
 | .agg _=>false
 | .tup _=>false
 | _=>true
def DV.isAgg:DV->Bool
 | .agg _=>true
 | _=>false
inductive RV (D:Nat->Nat->Prop)(w:World):DV->Value->Prop
 | prim (v:Value) (h:FR v):RV D w (.prim v) v
 | agg (cs:List DV) (vs:Array Value) (hl:vs.size=cs.length) (Aj:∀c∈cs,c.isCell=true)
   (h:∀(i:Nat) (c:DV) (v:Value),cs[i]? = some c->vs[i]? = some v->RV D w c v):RV D w (.agg cs) (.agg vs)
 | tup (cs:List DV) (vs:Array Value) (hl:vs.size=cs.length)
   (h:∀(i:Nat) (c:DV) (v:Value),cs[i]? = some c->vs[i]? = some v->RV D w c v):RV D w (.tup cs) (.tuple vs)
 | sl0 (b:Option Addr) (cap:Nat):RV D w (.sl []) (.slice b 0 cap)
 | sl (els:List (List DV)) (b o cap E:Nat) (val:Nat->Nat->Value) (hlen:els.length<=HL) (Bj:els.length<=cap) (hE:∀e∈els,e.length=E)
   (Aj:∀e∈els,∀c∈e,DV.isCell c=true)
   (hc:∀i j,i<els.length->j<E->w.cell? ⟨b,o+(i * E+j),none⟩=some (val i j))
   (hD:∀i j,i<els.length->j<E->D b (o+(i * E+j)))
   (h:∀(i j:Nat) (e:List DV) (c:DV),els[i]? = some e->e[j]? = some c->RV D w c (val i j)) :
   RV D w (.sl els) (.slice (some ⟨b,o,none⟩) els.length cap)
 | iface (t:TypeId) (x:DV) (v:Value) (h:RV D w x v):RV D w (.iface t x) (.iface t v)
 | ref (cs:List DV) (b o:Nat) (val:Nat->Value) (Aj:∀c∈cs,DV.isCell c=true)
   (hc:∀j,j<cs.length->w.cell? ⟨b,o+j,none⟩=some (val j)) (hD:∀j,j<cs.length->D b (o+j))
   (h:∀(j:Nat) (c:DV),cs[j]? = some c->RV D w c (val j)):RV D w (.ref cs) (.pointer (some ⟨b,o,none⟩))
def OJ (D:Nat->Nat->Prop)(w:World)(D':Nat->Nat->Prop)(w':World):Prop:=
 ∀b o,D b o->D' b o/\w'.cell? ⟨b,o,none⟩=w.cell? ⟨b,o,none⟩
theorem OJ.refl (D:Nat->Nat->Prop)(w:World):OJ D w D w:=fun _ _ h=>⟨h,rfl⟩
theorem OJ.trans {D D' D'':Nat->Nat->Prop}{w w' Lk:World}(h:OJ D w D' w')(k:OJ D' w' D'' Lk):OJ D w D'' Lk:=
 fun b o hd=>let ⟨h1,h2⟩:=h b o hd;let ⟨k1,k2⟩:=k b o h1;⟨k1,k2.trans h2⟩
theorem RV.mono {D D':Nat->Nat->Prop}{w w':World}{x:DV}{v:Value}(g:OJ D w D' w')(h:RV D w x v):RV D' w' x v:=by
 induction h with
 | prim v h=>exact .prim v h
 | agg cs vs hl Aj h ih=>exact .agg cs vs hl Aj ih
 | tup cs vs hl h ih=>exact .tup cs vs hl ih
 | sl0 b cap=>exact .sl0 b cap
 | sl els b o cap E val hlen Bj hE Aj hc hD h ih=>
  exact .sl els b o cap E val hlen Bj hE Aj (fun i j hi hj=>by rw[(g _ _ (hD i j hi hj)).2];exact hc i j hi hj) (fun i j hi hj=>(g _ _ (hD i j hi hj)).1) ih
 | iface t x v h ih=>exact .iface t x v ih
 | ref cs b o val Aj hc hD h ih=>exact .ref cs b o val Aj (fun j hj=>by rw[(g _ _ (hD j hj)).2];exact hc j hj) (fun j hj=>(g _ _ (hD j hj)).1) ih
def DV.fit:DV->Prop
 | .prim v=>FR v
 | .agg cs=>fits cs
 | .tup cs=>fits cs
 | .sl els=>els.length<=HL/\fitss els
 | .iface _ x=>x.fit
 | .ref cs=>fits cs
where
 fits:List DV->Prop
  | []=>True
  | c::r=>c.fit/\fits r
 fitss:List (List DV)->Prop
  | []=>True
  | e::r=>fits e/\fitss r
theorem fits_iff (cs:List DV):DV.fit.fits cs↔∀(i:Nat) (c:DV),cs[i]? = some c->c.fit:=by
 induction cs with
 | nil=>simp[DV.fit.fits]
 | cons a r ih=>
  simp only[DV.fit.fits,ih];constructor
  ·rintro⟨h,k⟩ i c hc;cases i with
   | zero=>simp at hc;exact hc ▸ h
   | succ i=>exact k i c (by simpa using hc)
  ·intro h;exact⟨h 0 a rfl,fun i c hc=>h (i+1) c (by simpa using hc)⟩
theorem eZ (els:List (List DV)):DV.fit.fitss els↔∀(i j:Nat) (e:List DV) (c:DV),els[i]? = some e->e[j]? = some c->c.fit:=by
 induction els with
 | nil=>simp[DV.fit.fitss]
 | cons a r ih=>
  simp only[DV.fit.fitss,ih,fits_iff];constructor
  ·rintro⟨h,k⟩ i j e c he hc;cases i with
   | zero=>simp at he;subst he;exact h j c hc
   | succ i=>exact k i j e c (by simpa using he) hc
  ·intro h;exact⟨fun j c hc=>h 0 j a c rfl hc,fun i j e c he hc=>h (i+1) j e c (by simpa using he) hc⟩
theorem RV.fit {D:Nat->Nat->Prop}{w:World}{x:DV}{v:Value}(h:RV D w x v):x.fit:=by
 induction h with
 | prim v h=>exact h
 | agg cs vs hl Aj h ih=>
  simp only[DV.fit,fits_iff];intro i c hc;have hi:i<vs.size:=by rw[hl];exact (uA hc).1
  exact ih i c _ hc (uG hi)
 | tup cs vs hl h ih=>
  simp only[DV.fit,fits_iff];intro i c hc;have hi:i<vs.size:=by rw[hl];exact (uA hc).1
  exact ih i c _ hc (uG hi)
 | sl0 b cap=>simp[DV.fit,DV.fit.fitss]
 | sl els b o cap E val hlen Bj hE Aj hc hD h ih=>
  simp only[DV.fit,eZ];exact⟨hlen,ih⟩
 | iface t x v h ih=>exact ih
 | ref cs b o val Aj hc hD h ih=>
  simp only[DV.fit,fits_iff];exact ih
theorem pO {v:Value}(h:FR v):v.oneCell' = true:=by
 cases v <;> first|rfl|exact h.elim
theorem RV.one {D:Nat->Nat->Prop}{w:World}{x:DV}{v:Value}(h:RV D w x v)(hx:x.isCell=true):v.oneCell' = true:=by
 cases h with
 | prim v h=>exact pO h
 | agg=>cases hx
 | tup=>cases hx
 | sl0=>rfl
 | sl=>rfl
 | iface=>rfl
 | ref=>rfl
inductive SV where
 | v (x:DV)
 | loc (k off:Nat)
 | dp (els:List (List DV)) (i off:Nat)
 | own (t:Nat) (els:List (List DV))
 | ag (cs:List DV) (nils:List Nat)
inductive Loc where
 | slot (n:Nat)
 | loc (n:Nat)
 | heap (b:Nat)
 | tok (t:Nat)
 deriving DecidableEq
inductive LV where
 | one (x:SV)
 | row (cs:List SV)
 | tk (E len:Nat)
 | ob (r:Loop)
 | mp (l:List (Int × DV))
abbrev St:=List (Loc × LV)
def get:St->Loc->Option LV
 | [],_=>none
 | (m,v)::r,l=>if m=l then some v else get r l
def OU:St->Loc->St
 | [],_=>[]
 | (m,v)::r,l=>if m=l then OU r l else (m,v)::OU r l
def CV (s:St)(l:Loc)(v:LV):St:=(l,v)::OU s l
theorem LH (s:St)(l m:Loc):get (OU s l) m=if l=m then none else get s m:=by
 induction s with
 | nil=>simp[OU,get]
 | cons p r ih=>
  obtain⟨k,v⟩:=p;by_cases h:k=l
  ·simp only[OU,h,if_true,ih,get];by_cases h':l=m <;> simp[h']
  ·by_cases h':l=m;· subst h';simp[OU,h,get,ih]
   ·simp only[OU,h,if_false,get,ih,h']
theorem C1 (s:St)(l m:Loc)(v:LV):get (CV s l v) m=if l=m then some v else get s m:=by
 simp only[CV,get,LH];by_cases h:l=m <;> simp[h]
abbrev UT:=List (Loc × Option LV)
def apply (s:St):UT->St
 | []=>s
 | (l,some v)::e=>apply (CV s l v) e
 | (l,none)::e=>apply (OU s l) e
def UT.says:UT->Loc->Option (Option LV)
 | [],_=>none
 | (m,v)::e,l=>match UT.says e l with
  | some x=>some x
  | none=>if m=l then some v else none
theorem MR (e:UT):∀(s:St) (l:Loc),get (apply s e) l=(e.says l).getD (get s l):=by
 induction e with
 | nil=>intro s l;rfl
 | cons p e ih=>
  intro s l;obtain⟨m,v⟩:=p;cases v with
  | none=>
   simp only[apply,ih,UT.says,LH];cases h:UT.says e l with
   | some x=>rfl
   | none=>by_cases hm:m=l <;> simp[hm]
  | some v=>
   simp only[apply,ih,UT.says,C1];cases h:UT.says e l with
   | some x=>rfl
   | none=>by_cases hm:m=l <;> simp[hm]
structure Gh where
 D:Nat->Nat->Prop
 ν:Nat->Nat
 τ:Nat->Option Addr × Nat
def LX (G:Gh)(w:World):SV->Value->Prop
 | .v x,v=>RV G.D w x v
 | .loc k off,v=>v = .pointer (some ⟨G.ν k,off,none⟩)
 | .dp els i off,v=>∃b o E cap,RV G.D w (.sl els) (.slice (some ⟨b,o,none⟩) els.length cap)/\(∀e∈els,e.length=E)/\i<els.length/\v = .pointer (some ⟨b,o+(i * E+off),none⟩)
 | .own t els,v=>v = .slice (G.τ t).1 els.length (G.τ t).2/\RV G.D w (.sl els) v
 | .ag cs ns,v=>RV G.D w (.agg cs) v/\∀i∈ns,cs[i]? = some (.sl [])/\v.cells[i]? = some (.slice none 0 0)
def SV.isCell:SV->Bool
 | .v x=>x.isCell
 | .ag _ _=>false
 | _=>true
theorem LX.one {G:Gh}{w:World}{x:SV}{v:Value}(h:LX G w x v)(hx:x.isCell=true):v.oneCell' = true:=by
 cases x with
 | v x=>exact RV.one h hx
 | loc k off=>obtain rfl:=h;rfl
 | dp els i off=>obtain⟨b,o,E,cap,-,-,-,rfl⟩:=h;rfl
 | own t els=>obtain⟨rfl,-⟩:=h;rfl
 | ag cs ns=>cases hx
def KM (G:Gh)(w:World)(b:Nat)(cs:List SV):Prop:=
 ∃c e,w.heap[b]? = some (.cells c e (0,0))/\cs.length<=c.size/\∀(i:Nat) (x:SV),cs[i]? = some x->x.isCell=true/\∃v,c[i]? = some v/\LX G w x v
def MB (G:Gh)(w:World)(t E len:Nat):Prop:=
 match G.τ t with
 | (none,cap)=>len=0/\cap=0
 | (some a,cap)=>len<=cap/\(len<cap->a.spot=none/\∃c e,w.heap[a.block]? = some (.cells c e (0,0))/\a.off+cap * E<=c.size/\∀j,a.off+len * E<=j->j<a.off+cap * E->¬G.D a.block j)
def HA (G:Gh)(t len:Nat):Option Nat:=
 match G.τ t with
 | (some a,cap)=>if len<cap then some a.block else none
 | _=>none
def zod (G:Gh)(w:World)(b:Nat)(l:List (Int × DV)):Prop:=
 ∃es cl,w.heap[b]? = some (.map es cl)/\es.size=l.length/\∀(i:Nat) (k:Int) (d:DV) (e:MapEntry),l[i]? = some (k,d)->es[i]? = some e->e.key = .int .i64 k/\RV G.D w d e.val
def MC (G:Gh)(w:World)(a:Act):Loc->LV->Prop
 | .slot s,.one x=>LX G w x (a.tmps.getD s undef)
 | .loc k,.row cs=>KM G w (G.ν k) cs
 | .heap b,.row cs=>KM G w b cs
 | .tok t,.tk E len=>MB G w t E len
 | .heap b,.ob r=>w.heap[b]? = some (.loop r)
 | .heap b,.mp l=>zod G w b l
 | _,_=>False
def BI (G:Gh):Loc->LV->Option Nat
 | .loc k,.row _=>some (G.ν k)
 | .heap b,.row _=>some b
 | .heap b,.ob _=>some b
 | .loc k,.ob _=>some (G.ν k)
 | .heap b,.mp _=>some b
 | .loc k,.mp _=>some (G.ν k)
 | .tok t,.tk _ len=>HA G t len
 | _,_=>none
def Loc.isTok:Loc->Bool
 | .tok _=>true
 | _=>false
abbrev AF:=List (Nat × List (List DV))
structure Wf (gl:AF)(D:Nat->Nat->Prop)(w:World):Prop where
 there:∀b o,D b o->∃v,w.cell? ⟨b,o,none⟩=some v
 globs:∀g els,(g,els)∈gl->∃cap,RV D w (.sl els) (.slice (some ⟨g,0,none⟩) els.length cap)
theorem Wf.lt {gl:AF}{D:Nat->Nat->Prop}{w:World}(h:Wf gl D w){b o:Nat}(hd:D b o):b<w.heap.size:=by
 obtain⟨v,hv⟩:=h.there b o hd;exact World.block_lt_of_cell? w _ hv
structure Ext (ids:List Nat)(D:Nat->Nat->Prop)(w:World)(D':Nat->Nat->Prop)(w':World):Prop where
 os:w'.os=w.os
 tape:w'.tape=w.tape
 output:w'.output=w.output
 size:w.heap.size<=w'.heap.size
 block:∀b,b<w.heap.size->b∉ids->w'.heap[b]? = w.heap[b]?
 grow:OJ D w D' w'
 new:∀b o,D' b o->¬D b o->w.heap.size<=b
theorem Ext.refl (ids:List Nat)(D:Nat->Nat->Prop)(w:World):Ext ids D w D w:=
 ⟨rfl,rfl,rfl,Nat.le_refl _,fun _ _ _=>rfl,OJ.refl _ _,fun _ _ h k=>absurd h k⟩
inductive Md where
 | fn
 | it (l:Nat) (R:List (Nat × List DV)->Loop->Prop)
 | rd (l:Nat) (r:Loop) (R:Option Code->List (Nat × List DV)->Prop)
def TG (D:Nat):Deferred:={ target:=.collected D,args:=#[] }
structure Ctx where
 P:Program
 gl:AF
 f:FuncId
 fn:Func
 n:Nat
 ids:List Nat
 D0:Nat->Nat->Prop
 w0:World
 R:DV->List (Nat × List DV)->Prop
 md:Md
def Ctx.rd (X:Ctx):Option Nat:=match X.md with
 | .rd l _ _=>some l
 | _=>none
def U3 (w0:World)(a:Act)(w:World):Prop:=∃Ds:List Nat,a.defers=Ds.map TG/\Ds.Nodup/\∀D∈Ds,w.heap[D]? = some (.deferred (some []))/\w0.heap.size<=D
theorem U3.keep {w0:World}{a a':Act}{w w':World}(h:U3 w0 a w)(hd:a'.defers=a.defers)(hw:∀D:Nat,w.heap[D]? = some (Obj.deferred (some []))->w'.heap[D]? = some (Obj.deferred (some []))):U3 w0 a' w':=by
 obtain⟨Ds,h1,h2,h3⟩:=h;exact⟨Ds,hd.trans h1,h2,fun D hD=>⟨hw D (h3 D hD).1,(h3 D hD).2⟩⟩
theorem U3.put {w0:World}{a a':Act}{w:World}(hd:a'.defers=a.defers)(h:U3 w0 a w):U3 w0 a' w:=h.keep hd fun _ h=>h
theorem U3.heap {w0:World}{a:Act}{w w':World}(h:U3 w0 a w)(hw:∀b,b<w.heap.size->w'.heap[b]? = w.heap[b]?):U3 w0 a w':=
 h.keep rfl fun D hD=>(hw D (Array.getElem?_eq_some_iff.1 hD).1).trans hD
theorem U3.but {w0:World}{a:Act}{w w':World}(h:U3 w0 a w){b:Nat}{c:Array Value}{e:TypeId}{f:Nat × Nat}(hc:w.heap[b]? = some (.cells c e f))(hw:∀b',b'≠b->w'.heap[b']? = w.heap[b']?):U3 w0 a w':=
 h.keep rfl fun D hD=>(hw D (fun e=>by subst e;rw[hc]at hD;cases hD)).trans hD
structure Rel (X:Ctx)(G:Gh)(s:St)(a:Act)(w:World):Prop where
 size:a.tmps.size=X.n
 defers:U3 X.w0 a w
 ext:Ext X.ids X.D0 X.w0 G.D w
 wf:Wf X.gl G.D w
 nil:G.τ 0=(none,0)
 holds:∀l v,get s l=some v->MC G w a l v
 sep:∀l v l' v' b,get s l=some v->get s l' = some v'->BI G l v=some b->BI G l' v' = some b->l=l'
 own:∀l v b,get s l=some v->BI G l v=some b->X.w0.heap.size<=b\/(b∈X.ids/\l.isTok=false)
 data:∀l v b o,get s l=some v->BI G l v=some b->l.isTok=false->¬G.D b o
def SV.locs:SV->List Nat
 | .loc k _=>[k]
 | _=>[]
def SV.toks:SV->List Nat
 | .own t _=>[t]
 | _=>[]
def LV.locs:LV->List Nat
 | .one x=>x.locs
 | .row cs=>cs.flatMap SV.locs
 | .tk _ _=>[]
 | .ob _=>[]
 | .mp _=>[]
def LV.toks:LV->List Nat
 | .one x=>x.toks
 | .row cs=>cs.flatMap SV.toks
 | .tk _ _=>[]
 | .ob _=>[]
 | .mp _=>[]
def Loc.locs:Loc->List Nat
 | .loc k=>[k]
 | _=>[]
def Loc.toks:Loc->List Nat
 | .tok t=>[t]
 | _=>[]
structure Trans (X:Ctx)(G:Gh)(a:Act)(w:World)(G':Gh)(a':Act)(w':World)(B:Nat->Prop):Prop where
 tmps:a'.tmps.size=a.tmps.size
 defers:U3 X.w0 a w->U3 X.w0 a' w'
 os:w'.os=w.os
 tape:w'.tape=w.tape
 output:w'.output=w.output
 size:w.heap.size<=w'.heap.size
 keep:∀b,b<w.heap.size->¬B b->w'.heap[b]? = w.heap[b]?
 own:∀b,B b->X.w0.heap.size<=b\/b∈X.ids
 grow:OJ G.D w G'.D w'
 new:∀b o,G'.D b o->¬G.D b o->(w.heap.size<=b\/(B b/\X.w0.heap.size<=b))/\∃v,w'.cell? ⟨b,o,none⟩=some v
 nil:G'.τ 0=(none,0)
theorem LX.mono {G G':Gh}{w w':World}{x:SV}{v:Value}(g:OJ G.D w G'.D w')(hl:∀k∈x.locs,G'.ν k=G.ν k)(ht:∀t∈x.toks,G'.τ t=G.τ t)(h:LX G w x v):LX G' w' x v:=by
 cases x with
 | v x=>exact RV.mono g h
 | loc k off=>have e:=hl k (by simp[SV.locs]);simp only[LX]at *;rw[e];exact h
 | dp els i off=>obtain⟨b,o,E,cap,h1,h2⟩:=h;exact⟨b,o,E,cap,RV.mono g h1,h2⟩
 | own t els=>have e:=ht t (by simp[SV.toks]);simp only[LX]at *;rw[e];exact⟨h.1,RV.mono g h.2⟩
 | ag cs ns=>exact⟨RV.mono g h.1,h.2⟩
theorem KM.mono {G G':Gh}{w w':World}{b:Nat}{cs:List SV}(g:OJ G.D w G'.D w')(hb:w'.heap[b]? = w.heap[b]?)(hl:∀k∈cs.flatMap SV.locs,G'.ν k=G.ν k)(ht:∀t∈cs.flatMap SV.toks,G'.τ t=G.τ t)(h:KM G w b cs):KM G' w' b cs:=by
 obtain⟨c,e,h1,h2,h3⟩:=h;refine⟨c,e,hb.trans h1,h2,fun i x hx=>?_⟩;obtain⟨hc,v,hv,hr⟩:=h3 i x hx;have hm:x∈cs:=uE hx;exact⟨hc,v,hv,hr.mono g (fun k hk=>hl k (List.mem_flatMap.2 ⟨x,hm,hk⟩)) (fun t hk=>ht t (List.mem_flatMap.2 ⟨x,hm,hk⟩))⟩
theorem JE {G:Gh}{w:World}{a:Act}{l:Loc}{v:LV}{b:Nat}(h:MC G w a l v)(hb:BI G l v=some b):b<w.heap.size:=by
 have key:∀{o:Obj},w.heap[b]? = some o->b<w.heap.size:=fun h=>(Array.getElem?_eq_some_iff.1 h).1;cases l with
 | slot s=>cases v <;> cases hb
 | loc k=>
  cases v with
  | row cs=>simp only[BI,uC]at hb;subst hb;obtain⟨c,e,h1,_⟩:=h;exact key h1
  | one x=>cases hb
  | tk E len=>cases hb
  | ob r=>exact h.elim
  | mp l=>exact h.elim
 | heap k=>
  cases v with
  | row cs=>simp only[BI,uC]at hb;subst hb;obtain⟨c,e,h1,_⟩:=h;exact key h1
  | one x=>cases hb
  | tk E len=>cases hb
  | ob r=>simp only[BI,uC]at hb;subst hb;exact key h
  | mp l=>simp only[BI,uC]at hb;subst hb;obtain⟨es,cl,h1,_⟩:=h;exact key h1
 | tok t=>
  cases v with
  | row cs=>cases hb
  | one x=>cases hb
  | ob r=>cases hb
  | mp l=>cases hb
  | tk E len=>
   simp only[BI,HA,MC,MB]at hb h;split at hb
   ·rename_i aa cap heq;rw[heq]at h;obtain⟨h2,h3⟩:=h;split at hb
    ·rename_i Ag;obtain⟨-,c,e,h4,_⟩:=h3 Ag;cases hb;exact key h4
    ·cases hb
   ·cases hb
theorem Trans.kept {X:Ctx}{G G':Gh}{a a':Act}{w w':World}{B:Nat->Prop}(T:Trans X G a w G' a' w' B){l:Loc}{v:LV}
  (Xo:∀s,l = .slot s->a'.tmps.getD s undef=a.tmps.getD s undef) (hB:∀b,BI G l v=some b->¬B b)
  (hl:∀k∈l.locs++v.locs,G'.ν k=G.ν k) (ht:∀t∈l.toks++v.toks,G'.τ t=G.τ t) (h:MC G w a l v) :
  MC G' w' a' l v/\BI G' l v=BI G l v:=by
 cases l with
 | slot s=>
  cases v with
  | one x=>
   refine⟨?_,rfl⟩;simp only[MC]at *;rw[Xo s rfl];exact h.mono T.grow (fun k hk=>hl k (by simp[LV.locs,hk])) (fun t hk=>ht t (by simp[LV.toks,hk]))
  | row cs=>exact h.elim
  | tk E len=>exact h.elim
  | ob r=>exact h.elim
  | mp l=>exact h.elim
 | loc k=>
  cases v with
  | row cs=>
   have e:G'.ν k=G.ν k:=hl k (by simp[Loc.locs]);have Ag:=JE (l:=.loc k) (v:=.row cs) h rfl;refine⟨?_,by simp[BI,e]⟩;simp only[MC]at *;rw[e];exact h.mono T.grow (T.keep _ Ag (hB _ rfl)) (fun j hj=>hl j (by simp only[LV.locs,List.mem_append];exact .inr hj)) (fun t hj=>ht t (by simp only[LV.toks,List.mem_append];exact .inr hj))
  | one x=>exact h.elim
  | tk E len=>exact h.elim
  | ob r=>exact h.elim
  | mp l=>exact h.elim
 | heap k=>
  cases v with
  | row cs=>
   have Ag:=JE (l:=.heap k) (v:=.row cs) h rfl;refine⟨?_,by simp[BI]⟩;simp only[MC]at *;exact h.mono T.grow (T.keep _ Ag (hB _ rfl)) (fun j hj=>hl j (by simp only[LV.locs,List.mem_append];exact .inr hj)) (fun t hj=>ht t (by simp only[LV.toks,List.mem_append];exact .inr hj))
  | one x=>exact h.elim
  | tk E len=>exact h.elim
  | ob r=>
   have Ag:=JE (l:=.heap k) (v:=.ob r) h rfl;refine⟨?_,by simp[BI]⟩;simp only[MC]at *;exact (T.keep _ Ag (hB _ rfl)).trans h
  | mp l=>
   have Ag:=JE (l:=.heap k) (v:=.mp l) h rfl;refine⟨?_,by simp[BI]⟩;obtain⟨es,cl,h1,h2,h3⟩:=h;exact⟨es,cl,(T.keep _ Ag (hB _ rfl)).trans h1,h2,fun i k d e hi he=>⟨(h3 i k d e hi he).1,(h3 i k d e hi he).2.mono T.grow⟩⟩
 | tok t=>
  cases v with
  | row cs=>exact h.elim
  | one x=>exact h.elim
  | ob r=>exact h.elim
  | mp l=>exact h.elim
  | tk E len=>
   have e:G'.τ t=G.τ t:=ht t (by simp[Loc.toks]);refine⟨?_,by simp[BI,HA,e]⟩;have Ag:=fun b=>JE (l:=.tok t) (v:=.tk E len) (b:=b) h;simp only[MC,MB,BI,HA]at *;rw[e];cases hh:G.τ t with
   | mk o cap=>
    cases o with
    | none=>rw[hh]at h;exact h
    | some p=>
     rw[hh]at h Ag hB;obtain⟨h2,h3⟩:=h;refine⟨h2,fun hc=>?_⟩;obtain⟨h1,c,e',h4,h5,h6⟩:=h3 hc;have Cx:=Ag p.block (by simp[hc]);have Bt:=hB p.block (by simp[hc]);refine⟨h1,c,e',(T.keep _ Cx Bt).trans h4,h5,fun j Wo To hD=>?_⟩;have Ai:=h6 j Wo To;rcases (T.new _ _ hD Ai).1 with Un|⟨hbb,_⟩;· omega
     ·exact Bt hbb
theorem Ext.step {X:Ctx}{G G':Gh}{a a':Act}{w w':World}{B:Nat->Prop}(T:Trans X G a w G' a' w' B)(h:Ext X.ids X.D0 X.w0 G.D w):Ext X.ids X.D0 X.w0 G'.D w':=by
 refine⟨T.os.trans h.os,T.tape.trans h.tape,T.output.trans h.output,Nat.le_trans h.size T.size,fun b hb hn=>?_,h.grow.trans T.grow,fun b o hd hn=>?_⟩
 ·have hnB:¬B b:=fun hB=>by
   rcases T.own b hB with h1|h1;· omega
   ·exact hn h1
  exact (T.keep b (by have:=h.size;omega) hnB).trans (h.block b hb hn)
 ·by_cases hg:G.D b o;· exact h.new b o hg hn
  ·rcases (T.new b o hd hg).1 with h1|⟨_,h1⟩;· have:=h.size;omega
   ·exact h1
theorem Wf.step {X:Ctx}{G G':Gh}{a a':Act}{w w':World}{B:Nat->Prop}(T:Trans X G a w G' a' w' B)(h:Wf X.gl G.D w):Wf X.gl G'.D w':=by
 refine⟨fun b o hd=>?_,fun g els hg=>?_⟩
 ·by_cases hg:G.D b o
  ·obtain⟨v,hv⟩:=h.there b o hg;exact⟨v,(T.grow b o hg).2.trans hv⟩
  ·exact (T.new b o hd hg).2
 ·obtain⟨cap,hr⟩:=h.globs g els hg;exact⟨cap,hr.mono T.grow⟩
theorem Rel.step {X:Ctx}{G G':Gh}{a a':Act}{w w':World}{B:Nat->Prop}{s s':St}(R:Rel X G s a w)(T:Trans X G a w G' a' w' B)(New:Loc->LV->Prop)
  (Tk:∀l v,get s' l=some v->New l v\/(get s l=some v/\(∀n,l = .slot n->a'.tmps.getD n undef=a.tmps.getD n undef)/\(∀b,BI G l v=some b->¬B b) /\
   (∀k∈l.locs++v.locs,G'.ν k=G.ν k)/\(∀t∈l.toks++v.toks,G'.τ t=G.τ t)))
  (Kb:∀l v,New l v->MC G' w' a' l v/\∀b,BI G' l v=some b->(w.heap.size<=b\/B b)/\(X.w0.heap.size<=b\/(b∈X.ids/\l.isTok=false))/\(l.isTok=false->∀o,¬G'.D b o))
  (hsep:∀l v l' v' b,New l v->New l' v'->BI G' l v=some b->BI G' l' v' = some b->l=l'):Rel X G' s' a' w':=by
 have hk:∀l v,get s' l=some v->New l v\/(get s l=some v/\MC G' w' a' l v/\BI G' l v=BI G l v/\∀b,BI G l v=some b->b<w.heap.size/\¬B b):=by
  intro l v h;rcases Tk l v h with h|⟨h1,h2,h3,h4,h5⟩;· exact .inl h
  ·have hh:=R.holds l v h1;obtain⟨k1,k2⟩:=T.kept h2 h3 h4 h5 hh;exact .inr ⟨h1,k1,k2,fun b hb=>⟨JE hh hb,h3 b hb⟩⟩
 refine⟨T.tmps.trans R.size,T.defers R.defers,R.ext.step T,R.wf.step T,T.nil,fun l v h=>?_,fun l v l' v' b h h' hb Ab=>?_,fun l v b h hb=>?_,fun l v b o h hb ht=>?_⟩
 ·rcases hk l v h with h|⟨_,h,_⟩;· exact (Kb l v h).1
  ·exact h
 ·rcases hk l v h with h|⟨h1,_,h3,h4⟩
  ·rcases hk l' v' h' with h' | ⟨k1,_,k3,k4⟩;· exact hsep l v l' v' b h h' hb Ab
   ·obtain⟨q,-,-⟩:=(Kb l v h).2 b hb;obtain⟨q1,q2⟩:=k4 b (k3 ▸ Ab);rcases q with q|q;· omega
    ·exact absurd q q2
  ·rcases hk l' v' h' with h' | ⟨k1,_,k3,k4⟩
   ·obtain⟨q,-,-⟩:=(Kb l' v' h').2 b Ab;obtain⟨q1,q2⟩:=h4 b (h3 ▸ hb);rcases q with q|q;· omega
    ·exact absurd q q2
   ·exact R.sep l v l' v' b h1 k1 (h3 ▸ hb) (k3 ▸ Ab)
 ·rcases hk l v h with h|⟨h1,_,h3,h4⟩;· exact ((Kb l v h).2 b hb).2.1
  ·exact R.own l v b h1 (h3 ▸ hb)
 ·rcases hk l v h with h|⟨h1,_,h3,h4⟩;· exact ((Kb l v h).2 b hb).2.2 ht o
  ·intro hD;have hn:=R.data l v b o h1 (h3 ▸ hb) ht;obtain⟨q1,q2⟩:=h4 b (h3 ▸ hb);rcases (T.new b o hD hn).1 with h5|⟨h5,_⟩;· omega
   ·exact q2 h5
end
section
def zr7:TypeDesc->Bool
 | .struct _ | .array _ _=>true
 | _=>false
def E9 (P:Program)(t:TypeId):Option (Bool × Nat):=
 match P.underlying t,P.info? t with
 | some d,some i=>some (zr7 d,i.size)
 | _,_=>none
def DB (P:Program)(t:TypeId):Option Nat:=
 match P.underlying t with
 | some (.slice e)=>(P.info? e).map (·.size)
 | _=>none
def kQ (P:Program)(t:TypeId):Option (Nat × Nat):=
 match P.underlying t with
 | some (.array n e)=>(P.info? e).map fun i=>(n,i.size)
 | _=>none
def BG (P:Program)(t f:Nat):Option (Bool × Nat × Nat):=
 match P.underlying t with
 | some (.struct fs)=>
  match fs[f]? with
  | some fl=>
   match E9 P fl.type with
   | some (b,n)=>if n=0 then none else some (b,fl.offset,n)
   | none=>none
  | none=>none
 | _=>none
def xQ (P:Program)(t:TypeId):Bool:=
 match P.underlying t with
 | some .bool=>true
 | _=>false
def RE (P:Program)(t:TypeId):Bool:=
 match P.underlying t with
 | some (.interface _)=>false
 | some _=>true
 | none=>false
def zde (P:Program)(t:TypeId):Option IntKind:=
 match P.underlying t with
 | some (.int k)=>some k
 | _=>none
def eB (P:Program)(t:TypeId):Bool:=
 match P.underlying t with
 | some (.pointer _)=>true
 | _=>false
def CM (k:IntKind)(n:Int):Prop:=k.min<=n/\n<=k.max
instance (k:IntKind) (n:Int):Decidable (CM k n):=inferInstanceAs (Decidable (_/\_))
theorem MS (n:Int):CM .i64 n↔-9223372036854775808<=n/\n<=9223372036854775807:=by
 have h1:IntKind.i64.min = -9223372036854775808:=dD;have h2:IntKind.i64.max=9223372036854775807:=dD;rw[CM,h1,h2]
theorem KU {k:IntKind}{n:Int}(h:CM k n):k.wrap n=n:=by
 obtain⟨h1,h2⟩:=h;cases k <;> simp[IntKind.min,IntKind.max,IntKind.signed,IntKind.bits]at h1 h2 <;> simp[IntKind.wrap,IntKind.signed,IntKind.bits] <;> (try split) <;> omega
def ZI:Value->Bool
 | .int k n=>decide (CM k n)
 | .agg _=>false
 | .tuple _=>false
 | .slice _ _ _=>false
 | .iface _ _=>false
 | _=>true
theorem ZJ {v:Value}(h:ZI v=true):FR v:=by
 cases v <;> first|trivial|(simp[ZI]at h;exact h)|(simp[ZI]at h)
def pP:Value->Option DV
 | .slice none 0 0=>some (.sl [])
 | v=>if ZI v then some (.prim v) else none
def SM:List Value->Option (List DV)
 | []=>some []
 | v::r=>match pP v,SM r with
  | some x,some xs=>some (x::xs)
  | _,_=>none
def JF:Value->Option SV
 | .slice none 0 0=>some (.own 0 [])
 | .agg cs=>(SM cs.toList).map fun ds=>.v (.agg ds)
 | v=>if ZI v then some (.v (.prim v)) else none
theorem gV {G:Gh}{w:World}{v:Value}{x:DV}(h:pP v=some x):RV G.D w x v/\x.isCell=true:=by
 unfold pP at h;split at h;· cases h;exact⟨.sl0 _ _,rfl⟩
 ·split at h;· cases h;exact⟨.prim _ (ZJ ‹_›),rfl⟩
  ·cases h
theorem TJ {G:Gh}{w:World}:∀{l:List Value} {ds:List DV},SM l=some ds->l.length=ds.length/\(∀c∈ds,c.isCell=true) /\
  ∀(i:Nat) (c:DV) (v:Value),ds[i]? = some c->l[i]? = some v->RV G.D w c v
 | [],ds,h=>by cases h;simp
 | v::r,ds,h=>by
  simp only[SM]at h;split at h
  ·rename_i x xs hx Sx;cases h;obtain⟨h1,h2,h3⟩:=TJ (G:=G) (w:=w) Sx;obtain⟨k1,k2⟩:=gV (G:=G) (w:=w) hx;refine⟨by simp[h1],fun c hc=>?_,fun i c v hc hv=>?_⟩
   ·rcases List.mem_cons.1 hc with rfl|hc;· exact k2
    ·exact h2 c hc
   ·cases i with
    | zero=>simp at hc hv;subst hc hv;exact k1
    | succ i=>exact h3 i c v (by simpa using hc) (by simpa using hv)
  ·cases h
theorem UU {G:Gh}{w:World}(hn:G.τ 0=(none,0)){v:Value}{x:SV}(h:JF v=some x):LX G w x v:=by
 unfold JF at h;split at h
 ·cases h;simp only[LX,hn];exact⟨rfl,.sl0 _ _⟩
 ·rename_i cs;cases hd:SM cs.toList with
  | none=>rw[hd]at h;cases h
  | some ds=>
   rw[hd]at h;cases h;obtain⟨h1,h2,h3⟩:=TJ (G:=G) (w:=w) hd;exact .agg ds cs (by simpa using h1) h2 (fun i c v hc hv=>h3 i c v hc (by simpa using hv))
 ·split at h;· cases h;exact .prim _ (ZJ ‹_›)
  ·cases h
def ET:AF->Nat->Option (List (List DV))
 | [],_=>none
 | (g,els)::r,n=>if g=n then some els else ET r n
theorem pQ {gl:AF}{n:Nat}{els:List (List DV)}(h:ET gl n=some els):(n,els)∈gl:=by
 induction gl with
 | nil=>cases h
 | cons p r ih=>
  obtain⟨g,e⟩:=p;simp only[ET]at h;split at h;· cases h;subst_vars;simp
  ·exact List.mem_cons_of_mem _ (ih h)
def wide:List (List DV)->Option Nat
 | []=>none
 | e::_=>some e.length
abbrev Rd:=Loc->Option LV
def D4 (X:Ctx)(g:Rd):Operand->Option SV
 | .tmp t=>match g (.slot t) with
  | some (.one x)=>some x
  | _=>none
 | .const v=>JF v
 | .global b=>match ET X.gl b with
  | some (e::r)=>some (.dp (e::r) 0 0)
  | _=>none
 | .func f=>some (.v (.prim (.func (.func f) #[] #[])))
theorem AD {X:Ctx}{G:Gh}{s:St}{a:Act}{w:World}(R:Rel X G s a w){x:Operand}{y:SV}(h:D4 X (get s) x=some y):LX G w y (a.eval x):=by
 cases x with
 | tmp t=>
  simp only[D4]at h;split at h;· rename_i z hz;cases h;exact R.holds _ _ hz
  ·cases h
 | const v=>exact UU R.nil h
 | global b=>
  simp only[D4]at h;split at h
  ·rename_i e r hg;cases h;obtain⟨cap,hr⟩:=R.wf.globs b _ (pQ hg);have Sy:=hr;cases hr with
   | sl els b' o Au E val hlen Bj hE Aj hc hD hh=>
    exact⟨b,0,E,cap,Sy,hE,sS,by simp[Act.eval]⟩
  ·cases h
 | func f=>
  cases h;exact .prim _ tT
def dW:SV->Option DV
 | .v x=>some x
 | .own _ els=>some (.sl els)
 | .ag cs _=>some (.agg cs)
 | .dp els i 0=>(els[i]?).map .ref
 | _=>none
theorem zje {G:Gh}{w:World}{els:List (List DV)}{i:Nat}{e:List DV}{v:Value}(he:els[i]? = some e)(hr:LX G w (.dp els i 0) v):RV G.D w (.ref e) v:=by
 obtain⟨b,o,E,cap,h1,h2,h3,rfl⟩:=hr;have Cq:e.length=E:=h2 e (uE he);cases h1 with
 | sl0=>simp at h3
 | sl _ _ _ _ E' val hlen Bj Lz Aj hc hD hh=>
  have Rh:E' = E:=by rw[<- Lz e (uE he),Cq]
  subst Rh;refine .ref e b (o+(i * E'+0)) (fun j=>val i j) (Aj e (uE he)) (fun j hj=>?_) (fun j hj=>?_) (fun j c hj=>hh i j e c he hj);· rw[Nat.add_zero,Nat.add_assoc];exact hc i j h3 oO
  ·rw[Nat.add_zero,Nat.add_assoc];exact hD i j h3 oO
theorem JM {G:Gh}{w:World}{x:SV}{y:DV}{v:Value}(h:dW x=some y)(hr:LX G w x v):RV G.D w y v:=by
 cases x with
 | v x=>cases h;exact hr
 | own t els=>cases h;exact hr.2
 | ag cs ns=>cases h;exact hr.1
 | loc=>cases h
 | dp els i off=>
  cases off with
  | zero=>
   obtain⟨e,he,rfl⟩:=Option.map_eq_some_iff.1 h;exact zje he hr
  | succ off=>cases h
theorem z5o {x:SV}{y:DV}(h:dW x=some y)(hc:x.isCell=true):y.isCell=true:=by
 cases x with
 | v x=>cases h;exact hc
 | own t els=>cases h;rfl
 | ag cs ns=>cases hc
 | loc=>cases h
 | dp els i off=>
  cases off with
  | zero=>obtain⟨e,he,rfl⟩:=Option.map_eq_some_iff.1 h;rfl
  | succ off=>cases h
def GZ:List SV->Option (List DV)
 | []=>some []
 | x::r=>match dW x,GZ r with
  | some y,some ys=>some (y::ys)
  | _,_=>none
theorem OV:∀{l:List SV} {ds:List DV},GZ l=some ds->l.length=ds.length/\∀(i:Nat) (c:DV),ds[i]? = some c->∃x,l[i]? = some x/\dW x=some c
 | [],ds,h=>by cases h;simp
 | x::r,ds,h=>by
  simp only[GZ]at h;split at h
  ·rename_i y ys hy Ko;cases h;obtain⟨h1,h2⟩:=OV Ko;refine⟨by simp[h1],fun i c hc=>?_⟩;cases i with
   | zero=>simp at hc;subst hc;exact⟨x,rfl,hy⟩
   | succ i=>obtain⟨z,hz⟩:=h2 i c (by simpa using hc);exact⟨z,by simpa using hz.1,hz.2⟩
  ·cases h
theorem kR (cs:List DV):GZ (cs.map SV.v)=some cs:=by
 induction cs with
 | nil=>rfl
 | cons c r ih=>simp[GZ,dW,ih]
def HP (X:Ctx)(g:Rd):List Operand->Option (List DV)
 | []=>some []
 | x::r=>match (D4 X g x).bind dW,HP X g r with
  | some y,some ys=>some (y::ys)
  | _,_=>none
def MD (op:BinOp)(k:IntKind)(a b:Int):Option (Prop × SV):=
 match op with
 | .add=>some (CM k (a+b),.v (.prim (.int k (a+b))))
 | .sub=>some (CM k (a - b),.v (.prim (.int k (a - b))))
 | .mul=>some (CM k (a * b),.v (.prim (.int k (a * b))))
 | .rem=>some (b≠0/\CM k (a.tmod b),.v (.prim (.int k (a.tmod b))))
 | .quo=>some (b≠0/\CM k (a.tdiv b),.v (.prim (.int k (a.tdiv b))))
 | .eql=>some (True,.v (.prim (.bool (a==b))))
 | .neq=>some (True,.v (.prim (.bool (a != b))))
 | .lss=>some (True,.v (.prim (.bool (decide (a<b)))))
 | .leq=>some (True,.v (.prim (.bool (decide (a<=b)))))
 | .gtr=>some (True,.v (.prim (.bool (decide (a > b)))))
 | .geq=>some (True,.v (.prim (.bool (decide (a>=b)))))
 | _=>none
def MJ (cs:List SV)(agg:Bool)(off n:Nat):Option SV:=
 if agg then
  match GZ ((cs.drop off).take n) with
  | some ds=>if ds.length=n then some (.v (.agg ds)) else none
  | none=>none
 else cs[off]?
def ME (cs:List DV)(agg:Bool)(off n:Nat):Option DV:=
 if agg then if ((cs.drop off).take n).length=n then some (.agg ((cs.drop off).take n)) else none
 else cs[off]?
def D6:DV->List DV
 | .agg cs=>cs
 | x=>[x]
def I7 (d:Nat):List Nat->Bool
 | []=>false
 | x::r=>d==x||I7 d r
def xR (ns:List Nat):Nat->List DV->List SV
 | _,[]=>[]
 | k,d::r=>(if I7 k ns then .own 0 [] else .v d)::xR ns (k+1) r
theorem gW (ns:List Nat):∀(cs:List DV) (k:Nat),(xR ns k cs).length=cs.length/\∀i:Nat,(xR ns k cs)[i]? = cs[i]?.map fun d=>if I7 (k+i) ns then SV.own 0 [] else .v d
 | [],k=>by simp[xR]
 | d::r,k=>by
  obtain⟨h1,h2⟩:=gW ns r (k+1);refine⟨by simp[xR,h1],fun i=>?_⟩;cases i with
  | zero=>simp[xR]
  | succ i=>simp only[xR,List.getElem?_cons_succ,h2];rw[show k+1+i=k+(i+1) from oO]
theorem z5p (d:Nat)(l:List Nat):I7 d l=true↔d∈l:=by
 induction l with
 | nil=>simp[I7]
 | cons x r ih=>simp[I7,ih]
def GJ:Nat->List SV->List Nat
 | _,[]=>[]
 | k,.own 0 []::r=>k::GJ (k+1) r
 | k,_::r=>GJ (k+1) r
theorem U4 {i:Nat}:∀{cs:List SV} {k:Nat},i∈GJ k cs->∃j,i=k+j/\cs[j]? = some (.own 0 [])
 | [],_,h=>by cases h
 | c::r,k,h=>by
  unfold GJ at h;split at h;· cases h
  ·rename_i heq;cases heq;rcases List.mem_cons.1 h with rfl|h;· exact⟨0,rfl,rfl⟩
   ·obtain⟨j,h1,h2⟩:=U4 h;exact⟨j+1,oO,by simpa using h2⟩
  ·rename_i heq;cases heq;obtain⟨j,h1,h2⟩:=U4 h;exact⟨j+1,oO,by simpa using h2⟩
def BV:SV->List SV
 | .v x=>(D6 x).map .v
 | .ag cs ns=>xR ns 0 cs
 | x=>[x]
def put (cs:List SV):Nat->List SV->List SV
 | 0,xs=>xs++cs.drop xs.length
 | n+1,xs=>match cs with
  | []=>[]
  | c::r=>c::put r n xs
def XL:List Value->Option (List SV)
 | []=>some []
 | v::r=>match JF v,XL r with
  | some x,some xs=>some (x::xs)
  | _,_=>none
def DK (P:Program)(t:TypeId):Option (List SV):=
 match P.info? t with
 | some i=>match i.zero with
  | some z=>XL z.cells.toList
  | none=>none
 | none=>none
def CU (P:Program)(t:TypeId):Option (List (Nat × Nat)):=
 match P.underlying t with
 | some (.struct fields)=>fields.toList.mapM (fun f=>(P.info? f.type).map fun i=>(f.offset,i.size))
 | some (.array n e)=>(P.info? e).map fun i=>(List.range n).map fun k=>(k * i.size,i.size)
 | _=>none
def TK (places:List (Nat × Nat))(X:Ctx)(g:Rd)(cells:List SV):List (Nat × Operand)->Option (List SV)
 | []=>some cells
 | (i,x)::rest=>
  match places[i]?,D4 X g x with
  | some (off,size),some y=>
   if (BV y).length=size/\off+size<=cells.length then TK places X g (put cells off (BV y)) rest else none
  | _,_=>none
def HE:List DV->Bool
 | []=>true
 | c::r=>c.isCell&&HE r
def loadAt (X:Ctx)(g:Rd)(t:TypeId):SV->Option SV
 | .loc k off=>match E9 X.P t,g (.loc k) with
  | some (agg,n),some (.row cs)=>MJ cs agg off n
  | _,_=>none
 | .dp els i off=>match E9 X.P t,els[i]? with
  | some (agg,n),some e=>(ME e agg off n).map .v
  | _,_=>none
 | .v (.prim (.pointer (some ⟨b,off,none⟩)))=>match E9 X.P t,g (.heap b) with
  | some (agg,n),some (.row cs)=>MJ cs agg off n
  | _,_=>none
 | .v (.ref cs)=>match E9 X.P t with
  | some (agg,n)=>(ME cs agg 0 n).map .v
  | none=>none
 | _=>none
def LJ:SV->Option (List (List DV))
 | .v (.sl els)=>some els
 | .own _ els=>some els
 | _=>none
def EZ (X:Ctx)(g:Rd)(d:Nat):Option Operand->Option Int
 | none=>some d
 | some x=>match D4 X g x with
  | some (.v (.prim (.int _ n)))=>some n
  | _=>none
def QT (X:Ctx)(g:Rd)(c:Call):Option (Prop × SV):=
 match c.callee,c.args.toList,c.argTypes.toList with
 | .builtin .len,[x],[t]=>
  match DB X.P t,(D4 X g x).bind LJ with
  | some _,some els=>some (True,.v (.prim (.int .i64 els.length)))
  | _,_=>match DB X.P t,D4 X g x with
   | some _,some (.v (.prim (.slice _ n _)))=>some (n<=HL,.v (.prim (.int .i64 n)))
   | _,_=>none
 | .builtin .max,[x,y],_=>
  match D4 X g x,D4 X g y with
  | some (.v (.prim (.int k a))),some (.v (.prim (.int _ b)))=>some (CM k b,.v (.prim (.int k (if b > a then b else a))))
  | _,_=>none
 | .builtin .min,[x,y],_=>
  match D4 X g x,D4 X g y with
  | some (.v (.prim (.int k a))),some (.v (.prim (.int _ b)))=>some (CM k b,.v (.prim (.int k (if b<a then b else a))))
  | _,_=>none
 | _,_,_=>none
def ZK (X:Ctx)(g:Rd):List Operand->Option (List Value)
 | []=>some []
 | x::r=>match D4 X g x,ZK X g r with
  | some (.v (.prim v)),some vs=>some (v::vs)
  | _,_=>none
def kS (op:BinOp)(is:Bool):Option (Prop × SV):=
 match op with
 | .eql=>some (True,.v (.prim (.bool is)))
 | .neq=>some (True,.v (.prim (.bool (!is))))
 | _=>none
def ZL (P:Program)(t:TypeId):Option Value:=
 match P.info? t with
 | some i=>match i.zero with
  | some (.int k n)=>if ZI (.int k n) then some (.int k n) else none
  | some (.pointer none)=>some (.pointer none)
  | _=>none
 | none=>none
def taV (b:Bool)(asserted:TypeId)(ok:Bool)(z:Option Value)(x:Option SV):Option (Prop × SV):=
 match x with
 | some (.v (.iface t y))=>if b then
   if t=asserted then some (True,.v (if ok then .tup [y,.prim (.bool true)] else y))
   else if ok then match z with
    | some z=>some (True,.v (.tup [.prim z,.prim (.bool false)]))
    | none=>none
   else none
  else none
 | _=>none
def HB (X:Ctx)(g:Rd)(o:Oper):Option (Prop × SV):=
 match o.op with
 | .move x=>(D4 X g x).map (True,·)
 | .assign x=>(D4 X g x).map (True,·)
 | .pick c x y=>
  match D4 X g c with
  | some (.v (.prim (.bool true)))=>(D4 X g x).map (True,·)
  | some (.v (.prim (.bool false)))=>(D4 X g y).map (True,·)
  | _=>none
 | .binOp op t x y _=>
  match D4 X g x,D4 X g y with
  | some (.v (.prim (.int k a))),some (.v (.prim (.int k' b)))=>if k=k' then MD op k a b else none
  | some (.v (.prim (.bool a))),some (.v (.prim (.bool b)))=>
   if xQ X.P t then
    match op with
    | .eql=>some (True,.v (.prim (.bool (a==b))))
    | .neq=>some (True,.v (.prim (.bool (!(a==b)))))
    | _=>none
   else none
  | some (.v (.ref _)),some (.v (.prim (.pointer none)))=>if eB X.P t then kS op false else none
  | some (.v (.prim (.pointer none))),some (.v (.prim (.pointer none)))=>if eB X.P t then kS op true else none
  | _,_=>none
 | .unOp op _ x=>
  match op,D4 X g x with
  | .not,some (.v (.prim (.bool b)))=>some (True,.v (.prim (.bool (!b))))
  | .neg,some (.v (.prim (.int k n)))=>some (CM k (0 - n),.v (.prim (.int k (0 - n))))
  | _,_=>none
 | .extract x i=>
  match D4 X g x with
  | some (.v (.tup cs))=>cs[i]?.map fun c=>(True,.v c)
  | _=>none
 | .field t x f=>
  match BG X.P t f,D4 X g x with
  | some (agg,off,n),some (.v y)=>(ME (D6 y) agg off n).map fun c=>(y.isAgg=true,.v c)
  | _,_=>none
 | .fieldAddr t x f=>
  match BG X.P t f,D4 X g x with
  | some (_,Bs,_),some (.loc k off)=>some (True,.loc k (off+Bs))
  | some (_,Bs,_),some (.dp els i off)=>some (True,.dp els i (off+Bs))
  | some (_,Bs,_),some (.v (.prim (.pointer (some ⟨b,off,none⟩))))=>some (True,.v (.prim (.pointer (some ⟨b,off+Bs,none⟩))))
  | some (_,Bs,_),some (.v (.ref cs))=>some (True,.dp [cs] 0 Bs)
  | _,_=>none
 | .indexAddr t x i=>
  match D4 X g x,D4 X g i with
  | some y,some (.v (.prim (.int _ n)))=>
   match DB X.P t,LJ y with
   | some E,some els=>match els[n.toNat]? with
    | some e=>some (0<=n/\e.length=E,.dp els n.toNat 0)
    | none=>none
   | _,_=>match kQ X.P t,y with
    | some (len,E),.loc k off=>some (0<=n/\n<len/\1<len,.loc k (off+n.toNat * E))
    | some (len,E),.dp els j 0=>match els[j+n.toNat]? with
     | some e=>some (0<=n/\n<len/\1<len/\e.length=E,.dp els (j+n.toNat) 0)
     | none=>none
    | some (len,E),.dp els j (off+1)=>some (0<=n/\n<len/\1<len,.dp els j (off+1+n.toNat * E))
    | some (len,E),.v (.prim (.pointer (some ⟨b,off,none⟩)))=>some (0<=n/\n<len/\1<len,.v (.prim (.pointer (some ⟨b,off+n.toNat * E,none⟩))))
    | _,.v (.prim (.slice (some ⟨b,off,none⟩) len _))=>match DB X.P t with
     | some E=>some (0<=n/\n<len,.v (.prim (.pointer (some ⟨b,off+n.toNat * E,none⟩))))
     | none=>none
    | _,_=>none
  | _,_=>none
 | .load t x=>((D4 X g x).bind (loadAt X g t)).map (True,·)
 | .build t parts=>
  match DK X.P t,CU X.P t with
  | some z,some pl=>match TK pl X g z parts.toList with
   | some cs=>match GZ cs with
    | some ds=>if HE ds then some (True,.ag ds (GJ 0 cs)) else none
    | none=>none
   | none=>none
  | _,_=>none
 | .makeInterface t x=>
  match (D4 X g x).bind dW with
  | some y=>if RE X.P t then some (True,.v (.iface t y)) else none
  | none=>none
 | .nilCheck x=>
  match D4 X g x with
  | some (.loc k off)=>some (True,.loc k off)
  | some (.dp els i off)=>some (True,.dp els i off)
  | some (.v (.prim (.pointer (some a))))=>some (True,.v (.prim (.pointer (some a))))
  | some (.v (.prim (.func (.func f) x y)))=>some (True,.v (.prim (.func (.func f) x y)))
  | some (.v (.ref cs))=>some (True,.v (.ref cs))
  | _=>none
 | .convert s d x=>
  match D4 X g x,zde X.P s,zde X.P d with
  | some (.v (.prim (.int _ n))),some _,some k=>some (CM k n,.v (.prim (.int k n)))
  | _,_,_=>none
 | .slice t x lo hi none=>
  match DB X.P t,(D4 X g x).bind LJ with
  | some E,some els=>match EZ X g 0 lo,EZ X g els.length hi with
   | some l,some h=>some (0<=l/\l<=h/\h<=els.length/\∀e∈els,e.length=E,.v (.sl ((els.take h.toNat).drop l.toNat)))
   | _,_=>none
  | _,_=>match DB X.P t,D4 X g x,EZ X g 0 lo with
   | some _,some (.v (.prim (.slice (some ⟨b,o,none⟩) n cap))),some l=>match EZ X g n hi with
    | some h=>some (l=0/\0<=h/\h<=cap,.v (.prim (.slice (some ⟨b,o,none⟩) h.toNat cap)))
    | none=>none
   | _,_,_=>none
 | .call c=>QT X g c
 | .makeFunc fn fi ca=>
  match ZK X g fi.toList,ZK X g ca.toList with
  | some fi,some ca=>some (True,.v (.prim (.func fn fi.toArray ca.toArray)))
  | _,_=>none
 | .typeAssert x _ a ok=>taV (RE X.P a) a ok (ZL X.P a) (D4 X g x)
 | _=>none
section
variable {X:Ctx}{G:Gh}{s:St}{a:Act}{w:World}
theorem Z5 {P:Program}{w:World}{t:TypeId}{b:Bool}{n:Nat}(h:E9 P t=some (b,n)):(isAgg t).run P w = .ok b w/\(sizeOf t).run P w = .ok n w:=by
 unfold E9 at h;split at h
 ·rename_i d i hd hi;simp only[uC,uD]at h;obtain⟨rfl,rfl⟩:=h;refine⟨?_,by simp[sizeOf,typeInfo,hi]⟩;unfold isAgg;rw[Sem.run_bind,run_underlying hd w];cases d <;> rfl
 ·cases h
theorem F0 (b o n:Nat):(⟨b,o,none⟩:Addr).add n=⟨b,o+n,none⟩:=by
 unfold Addr.add;split <;> simp_all
theorem HF {P:Program}{w:World}{t:TypeId}{agg:Bool}{n:Nat}(h:E9 P t=some (agg,n))(b o:Nat)(cs:List Value)(hc:∀j v,cs[j]? = some v->w.cell? ⟨b,o+j,none⟩=some v)
  (hn:agg=true->cs.length=n) (v:Value) (hv:if agg=true then v = .agg cs.toArray else cs[0]? = some v):(loadVar t ⟨b,o,none⟩).run P w = .ok v w:=by
 obtain⟨h1,h2⟩:=Z5 (w:=w) h;unfold loadVar;cases agg with
 | true=>
  simp only[if_true]at hv;have:=run_loadCells_list (P:=P) w ⟨b,o,none⟩ cs (fun j v hj=>by rw[F0];exact hc j v hj);rw[hn rfl]at this;simp[h1,h2,this,hv]
 | false=>
  simp only[Bool.false_eq_true,if_false]at hv;have:=hc 0 v hv;simp at this;simp[h1,this]
theorem TL {w:World}{b:Nat}{cs:List SV}(hb:KM G w b cs){P:Program}{t:TypeId}{agg:Bool}{n off:Nat}(hl:E9 P t=some (agg,n)){y:SV}(h:MJ cs agg off n=some y) :
  ∃v,(loadVar t ⟨b,off,none⟩).run P w = .ok v w/\LX G w y v:=by
 obtain⟨c,e,h1,h2,h3⟩:=hb;unfold MJ at h;have Aj:∀(i:Nat) (v:Value),c[i]? = some v->w.cell? ⟨b,i,none⟩=some v:=fun i v hv=>by simp[World.cell?,h1,hv]
 cases agg with
 | true=>
  simp only[if_true]at h;split at h
  ·rename_i ds Fs;split at h
   ·rename_i hlen;cases h;obtain⟨k1,k2⟩:=OV Fs;have hk:∀i,i<n->∃x c' v,cs[off+i]? = some x/\dW x=some c'/\ds[i]? = some c'/\c[off+i]? = some v/\LX G w x v/\x.isCell=true:=by
     intro i hi;have hc:ds[i]? = some (ds[i]'oO):=uB oO;obtain⟨x,hx,hd⟩:=k2 i _ hc;rw[List.getElem?_take_of_lt hi,List.getElem?_drop]at hx;obtain⟨Ci,v,hv,hr⟩:=h3 _ _ hx;exact⟨x,_,v,hx,hd,hc,hv,hr,Ci⟩
    have Bb:∀i,i<n->off+i<c.size:=fun i hi=>by
     obtain⟨x,c',v,-,-,-,hv,-⟩:=hk i hi;exact (Array.getElem?_eq_some_iff.1 hv).1
    refine⟨.agg ((c.toList.drop off).take n).toArray,?_,?_⟩
    ·refine HF hl b off ((c.toList.drop off).take n) (fun j v hj=>?_) (fun _=>?_) _ sS
     ·have Lb:j<n:=by
       have:=(uA hj).1;simp at this;omega
      rw[List.getElem?_take_of_lt Lb,List.getElem?_drop]at hj;exact Aj _ _ (by simpa using hj)
     ·simp;by_cases hn:n=0;· omega
      ·have:=Bb (n - 1) oO;omega
    ·refine .agg ds _ ?_ ?_ ?_
     ·simp;by_cases hn:n=0;· subst hn;simp at hlen;simp[hlen]
      ·have:=Bb (n - 1) oO;omega
     ·intro c' Eu;obtain⟨i,hi,rfl⟩:=List.mem_iff_getElem.1 Eu;obtain⟨x,Ws,v,hx,hd,hc,hv,hr,Ci⟩:=hk i oO;rw[uB hi]at hc;cases hc;exact z5o hd Ci
     ·intro i c' v Eu hv;have hi:i<n:=by
       have:=(uA Eu).1;omega
      obtain⟨x,Ws,v',hx,hd,hc,Di,hr,Ci⟩:=hk i hi;rw[Eu]at hc;cases hc;simp only[List.getElem?_toArray]at hv;rw[List.getElem?_take_of_lt hi,List.getElem?_drop]at hv;have Su:c[off+i]? = some v:=by simpa using hv
      rw[Di]at Su;cases Su;exact JM hd hr
   ·cases h
  ·cases h
 | false=>
  simp only[Bool.false_eq_true,if_false]at h;obtain⟨Ci,v,hv,hr⟩:=h3 _ _ h;refine⟨v,HF hl b off [v] (fun j u hj=>?_) (fun h=>by cases h) _ sS,hr⟩;cases j with
  | zero=>simp at hj;subst hj;exact Aj _ _ hv
  | succ j=>simp at hj
theorem XM {w:World}{D:Nat->Nat->Prop}{els:List (List DV)}{b o cap E i off:Nat}(hr:RV D w (.sl els) (.slice (some ⟨b,o,none⟩) els.length cap))(hE:∀e∈els,e.length=E){e:List DV}(he:els[i]? = some e)
  {P:Program} {t:TypeId} {agg:Bool} {n:Nat} (hl:E9 P t=some (agg,n)) {y:DV} (h:ME e agg off n=some y) :
  ∃v,(loadVar t ⟨b,o+(i * E+off),none⟩).run P w = .ok v w/\RV D w y v:=by
 have hi:i<els.length:=(uA he).1;have Cq:e.length=E:=hE e (uE he);cases hr with
 | sl0=>simp at hi
 | sl _ _ _ _ E' val hlen Bj Lz Aj hc hD hh=>
  have Rh:E' = E:=by rw[<- Lz e (uE he),Cq]
  subst Rh;unfold ME at h;cases agg with
  | true=>
   simp only[if_true]at h;split at h
   ·rename_i Yu;cases h;simp at Yu;have hoff:n=0\/off+n<=E':=oO;refine⟨.agg ((List.range n).map fun j=>val i (off+j)).toArray,?_,?_⟩
    ·refine HF hl b _ ((List.range n).map fun j=>val i (off+j)) (fun j v hj=>?_) (fun _=>sS) _ sS;have Lb:j<n:=by
      have:=(uA hj).1;simpa using this
     simp[Lb]at hj;subst hj;have:=hc i (off+j) hi oO;rw[<- this];congr 2;omega
    ·refine .agg _ _ (by simp only[List.size_toArray,List.length_map,List.length_range,List.length_take,List.length_drop];omega) (fun c Eu=>?_) (fun j c v Eu hv=>?_);· exact Aj e (uE he) c (List.mem_of_mem_drop (List.mem_of_mem_take Eu))
     ·have Lb:j<n:=by
       have:=(uA Eu).1;simp at this;omega
      rw[List.getElem?_take_of_lt Lb,List.getElem?_drop]at Eu;simp[Lb]at hv;subst hv;exact hh i (off+j) e c he Eu
   ·cases h
  | false=>
   simp only[Bool.false_eq_true,if_false]at h;have ho:off<E':=by
    have:=(uA h).1;omega
   refine⟨val i off,HF hl b _ [val i off] (fun j u hj=>?_) (fun h=>by cases h) _ sS,hh i off e y he h⟩;cases j with
   | zero=>simp at hj;subst hj;simpa using hc i off hi ho
   | succ j=>simp at hj
theorem gX {cs:List DV}{v:Value}(h:RV G.D w (.ref cs) v):∃b o,v = .pointer (some ⟨b,o,none⟩)/\RV G.D w (.sl [cs]) (.slice (some ⟨b,o,none⟩) [cs].length 1):=by
 cases h with
 | ref _ b o val Aj hc hD hh=>
  refine⟨b,o,rfl,.sl [cs] b o 1 cs.length (fun _ j=>val j) (show 1<=HL from dD) (Nat.le_refl _) (fun e he=>by rw[List.mem_singleton.1 he]) (fun e he c hce=>?_) (fun i j hi hj=>?_) (fun i j hi hj=>?_) (fun i j e c he hce=>?_)⟩;· rw[List.mem_singleton.1 he]at hce;exact Aj c hce
  ·have hi:i<1:=hi;obtain rfl:i=0:=oO;rw[Nat.zero_mul,Nat.zero_add];exact hc j hj
  ·have hi:i<1:=hi;obtain rfl:i=0:=oO;rw[Nat.zero_mul,Nat.zero_add];exact hD j hj
  ·cases i with
   | zero=>simp at he;subst he;exact hh j c hce
   | succ i=>simp at he
theorem UV (R:Rel X G s a w){t:TypeId}{x y:SV}{v:Value}(hx:LX G w x v)(h:loadAt X (get s) t x=some y) :
  ∃u,(Instr.loadAt t v).run X.P w = .ok u w/\LX G w y u:=by
 unfold loadAt at h;split at h
 ·rename_i k off;split at h
  ·rename_i agg n cs hl hg;obtain rfl:=hx;obtain⟨u,h1,h2⟩:=TL (R.holds _ _ hg) hl h;exact⟨u,by simp[Instr.loadAt,Instr.sureAddr,h1],h2⟩
  ·cases h
 ·rename_i els i off;split at h
  ·rename_i agg n e hl he;obtain⟨b,o,E,cap,hr,hE,hi,rfl⟩:=hx;cases hd:ME e agg off n with
   | none=>simp[hd]at h
   | some y'=>
    simp[hd]at h;subst h;obtain⟨u,h1,h2⟩:=XM hr hE he hl hd;exact⟨u,by simp[Instr.loadAt,Instr.sureAddr,h1],h2⟩
  ·cases h
 ·rename_i b off;split at h
  ·rename_i agg n cs hl hg;cases hx;obtain⟨u,h1,h2⟩:=TL (R.holds _ _ hg) hl h;exact⟨u,by simp[Instr.loadAt,Instr.sureAddr,h1],h2⟩
  ·cases h
 ·rename_i cs;split at h
  ·rename_i agg n hl;obtain⟨b,o,rfl,hr⟩:=gX hx;cases hd:ME cs agg 0 n with
   | none=>simp[hd]at h
   | some y'=>
    simp[hd]at h;subst h;obtain⟨u,h1,h2⟩:=XM hr (E:=cs.length) (i:=0) (off:=0) (fun e he=>by rw[List.mem_singleton.1 he]) rfl hl hd;rw[Nat.zero_mul,Nat.zero_add,Nat.add_zero]at h1;exact⟨u,by simp[Instr.loadAt,Instr.sureAddr,h1],h2⟩
  ·cases h
 ·cases h
end
end
section
section
variable {X:Ctx}{G:Gh}{s:St}{a:Act}{w:World}
theorem BT {D:Nat->Nat->Prop}{w:World}{u v:Value}(h:RV D w (.prim u) v):v=u/\FR u:=by
 cases h with
 | prim _ h=>exact⟨rfl,h⟩
theorem kT {op:BinOp}{k:IntKind}{x y:Int}{c:Prop}{r:SV}(h:MD op k x y=some (c,r))(hc:c)(t:TypeId) :
  ∃v,(binOp op t (.int k x) (.int k y)).run X.P w = .ok v w/\LX G w r v:=by
 have ok:∀n,CM k n->LX G w (.v (.prim (.int k n))) (.int k n):=fun n h=>.prim _ h;have bk:∀b,LX G w (.v (.prim (.bool b))) (.bool b):=fun b=>.prim _ tT;cases op <;> simp only[MD,uC,uD,reduceCtorEq]at h <;> obtain⟨rfl,rfl⟩:=h;· exact⟨_,by simp[binOp,Op.intArith,KU hc],ok _ hc⟩
 ·exact⟨_,by simp[binOp,Op.intArith,KU hc],ok _ hc⟩
 ·exact⟨_,by simp[binOp,Op.intArith,KU hc],ok _ hc⟩
 ·exact⟨_,by simp[binOp,Op.intDiv,hc.1,KU hc.2],ok _ hc.2⟩
 ·exact⟨_,by simp[binOp,Op.intDiv,hc.1],ok _ hc.2⟩
 all_goals exact⟨_,by simp only[binOp,Op.intCmp,if_false,ne_eq,not_true_eq_false,Sem.run_pure],bk _⟩
theorem kU (op:BinOp)(t:TypeId)(x y:Operand)(k k':IntKind)(p q:Int):(eqGuard op t x y (.int k p) (.int k' q)).run X.P w = .ok () w:=by
 unfold eqGuard;cases op <;> simp
theorem UW (op:BinOp)(t:TypeId)(x y:Operand)(p q:Bool):(eqGuard op t x y (.bool p) (.bool q)).run X.P w = .ok () w:=by
 unfold eqGuard;cases op <;> simp
theorem RF (R:Rel X G s a w):∀{l:List Operand} {ds:List DV},HP X (get s) l=some ds->l.length=ds.length/\∀(i:Nat) (c:DV) (v:Value),ds[i]? = some c->(l.map a.eval)[i]? = some v->RV G.D w c v
 | [],ds,h=>by cases h;simp
 | x::r,ds,h=>by
  simp only[HP]at h;split at h
  ·rename_i y ys hy Ko;cases h;obtain⟨h1,h2⟩:=RF R Ko;obtain⟨z,hz,Wd⟩:=Option.bind_eq_some_iff.1 hy;refine⟨by simp[h1],fun i c v hc hv=>?_⟩;cases i with
   | zero=>
    simp at hc hv;subst hc hv;exact JM Wd (AD R hz)
   | succ i=>exact h2 i c v (by simpa using hc) (by simpa using hv)
  ·cases h
theorem I8 (hn:G.τ 0=(none,0)){x:SV}{v:Value}(h:LX G w x v):v.cells.size=(BV x).length/\∀(i:Nat) (c:SV) (u:Value),(BV x)[i]? = some c->v.cells[i]? = some u->LX G w c u:=by
 have one:∀(x:SV) (v:Value),BV x=[x]->v.cells = #[v]->LX G w x v->v.cells.size=(BV x).length/\∀(i:Nat) (c:SV) (u:Value),(BV x)[i]? = some c->v.cells[i]? = some u->LX G w c u:=by
  intro x v h1 h2 h3;rw[h1,h2];refine⟨rfl,fun i c u hc hu=>?_⟩;cases i with
  | zero=>simp at hc hu;subst hc hu;exact h3
  | succ i=>simp at hc
 cases x with
 | v x=>
  cases x with
  | agg cs=>
   cases h with
   | agg _ vs hl Aj hh=>
    refine⟨by simp[Value.cells,BV,D6,hl],fun i c u hc hu=>?_⟩;simp only[BV,D6,List.getElem?_map]at hc;cases hq:cs[i]? with
    | none=>simp[hq]at hc
    | some c'=>simp[hq]at hc;subst hc;exact hh i c' u hq hu
  | prim p=>
   refine one _ _ rfl ?_ h;obtain⟨rfl,hp⟩:=BT h;cases v <;> first|rfl|exact hp.elim
  | tup cs=>cases h;exact one _ _ rfl rfl (.tup _ _ ‹_› ‹_›)
  | sl els=>
   refine one _ _ rfl ?_ h;cases h <;> rfl
  | iface t y=>
   refine one _ _ rfl ?_ h;cases h;rfl
  | ref cs=>
   refine one _ _ rfl ?_ h;cases h;rfl
 | loc k off=>obtain rfl:=h;exact one _ _ rfl rfl rfl
 | dp els i off=>have h':=h;obtain⟨b,o,E,cap,-,-,-,rfl⟩:=h;exact one _ _ rfl rfl h'
 | own t els=>have h':=h;obtain⟨rfl,-⟩:=h;exact one _ _ rfl rfl h'
 | ag cs ns=>
  obtain⟨h1,h2⟩:=h;cases h1 with
  | agg _ vs hl Aj hh=>
   refine⟨by simp[Value.cells,BV,hl,(gW ns cs 0).1],fun i c u hc hu=>?_⟩;simp only[BV,(gW ns cs 0).2]at hc;cases hq:cs[i]? with
   | none=>simp[hq]at hc
   | some c'=>
    simp only[hq,Option.map_some,uC,Nat.zero_add]at hc;split at hc
    ·rename_i hm;subst hc;obtain⟨k1,k2⟩:=h2 i ((z5p _ _).1 hm);rw[hu]at k2;cases k2;show _=_/\_;rw[hn];exact⟨rfl,.sl0 _ _⟩
    ·subst hc;exact hh i c' u hq hu
end
end
section
section
variable {X:Ctx}{G:Gh}{s:St}{a:Act}{w:World}
def H0 (G:Gh)(w:World)(cs:List SV)(c:Array Value):Prop:=
 c.size=cs.length/\∀(i:Nat) (x:SV) (v:Value),cs[i]? = some x->c[i]? = some v->LX G w x v
theorem U5:∀(off:Nat) (cs xs:List SV),off+xs.length<=cs.length->(put cs off xs).length=cs.length
 | 0,cs,xs,h=>by simp[put];omega
 | off+1,[],xs,h=>by simp[put]
 | off+1,c::r,xs,h=>by simp[put,U5 off r xs (by simp at h;omega)]
theorem UX:∀(off:Nat) (cs xs:List SV) (k:Nat),off+xs.length<=cs.length->(put cs off xs)[k]? = if off<=k/\k<off+xs.length then xs[k - off]? else cs[k]?
 | 0,cs,xs,k,h=>by
  simp only[put,Nat.zero_le,true_and,Nat.zero_add,Nat.sub_zero];by_cases hk:k<xs.length;· rw[List.getElem?_append_left hk,if_pos hk]
  ·rw[List.getElem?_append_right oO,if_neg hk,List.getElem?_drop]
   congr 1;omega
 | off+1,[],xs,k,h=>by simp at h
 | off+1,c::r,xs,k,h=>by
  cases k with
  | zero=>simp[put]
  | succ k=>
   simp only[put,List.getElem?_cons_succ];rw[UX off r xs k (by simp at h;omega)];by_cases hk:off<=k/\k<off+xs.length;· rw[if_pos hk,if_pos oO];congr 1;omega
   ·rw[if_neg hk,if_neg oO]
def K1 (c:Array Value)(off:Nat)(vs:Array Value):Array Value:=vs.zipIdx.foldl (fun cs (v,j)=>cs.setIfInBounds (off+j) v) c
theorem XN (off:Nat):∀(l:List Value) (k:Nat) (c:Array Value),off+k+l.length<=c.size ->
  ((l.zipIdx k).foldl (fun cs (p:Value × Nat)=>cs.setIfInBounds (off+p.2) p.1) c).size=c.size /\
  ∀i,((l.zipIdx k).foldl (fun cs (p:Value × Nat)=>cs.setIfInBounds (off+p.2) p.1) c)[i]? = if off+k<=i/\i<off+k+l.length then l[i - (off+k)]? else c[i]?
 | [],k,c,h=>by
  refine⟨sS,fun i=>?_⟩
  simp;intro h1 h2;omega
 | v::r,k,c,h=>by
  simp only[List.zipIdx_cons,List.foldl_cons];simp only[List.length_cons]at h;obtain⟨h1,h2⟩:=XN off r (k+1) (c.setIfInBounds (off+k) v) (by simp;omega);refine⟨by rw[h1];simp,fun i=>?_⟩;rw[h2];by_cases hi:off+(k+1)<=i/\i<off+(k+1)+r.length
  ·rw[if_pos hi,if_pos (by simp;omega)];rw[show i - (off+k)=(i - (off+(k+1)))+1 from oO];simp
  ·rw[if_neg hi];by_cases he:i=off+k
   ·subst he;rw[if_pos sS];have:off+k<c.size:=oO;simp[this]
   ·rw[if_neg (by simp;omega),Array.getElem?_setIfInBounds_ne oO]
theorem O2 (c:Array Value)(off:Nat)(vs:Array Value)(h:off+vs.size<=c.size):(K1 c off vs).size=c.size/\∀i,(K1 c off vs)[i]? = if off<=i/\i<off+vs.size then vs[i - off]? else c[i]?:=by
 have:=XN off vs.toList 0 c (by simpa using h);unfold K1;rw[<- Array.foldl_toList,Array.toList_zipIdx]
 simpa using this
theorem H0.put {cs xs:List SV}{c vs:Array Value}{off:Nat}(h:H0 G w cs c)(k:H0 G w xs vs)(hle:off+xs.length<=cs.length):H0 G w (put cs off xs) (K1 c off vs):=by
 have hs:=O2 c off vs (by rw[k.1,h.1];exact hle);refine⟨by rw[hs.1,U5 _ _ _ hle];exact h.1,fun i x v hx hv=>?_⟩;rw[UX _ _ _ _ hle]at hx;rw[hs.2,k.1]at hv;by_cases hi:off<=i/\i<off+xs.length;· rw[if_pos hi]at hx hv;exact k.2 _ _ _ hx hv
 ·rw[if_neg hi]at hx hv;exact h.2 _ _ _ hx hv
theorem JN (hn:G.τ 0=(none,0)):∀{l:List Value} {cs:List SV},XL l=some cs->H0 G w cs l.toArray
 | [],cs,h=>by cases h;exact⟨rfl,sS⟩
 | v::r,cs,h=>by
  simp only[XL]at h;split at h
  ·rename_i x xs hx Sx;cases h;have ih:=JN hn Sx;refine⟨by simpa using ih.1,fun i c u hc hu=>?_⟩;cases i with
   | zero=>simp at hc hu;subst hc hu;exact UU hn hx
   | succ i=>exact ih.2 i c u (by simpa using hc) (by simpa using hu)
  ·cases h
theorem XO (R:Rel X G s a w)(pl:List (Nat × Nat))(place:Nat->Option (Nat × Nat))(hp:∀i q,pl[i]? = some q->place i=some q):∀(parts:List (Nat × Operand)) (cs:List SV) (c:Array Value) (Dh:List SV),H0 G w cs c->TK pl X (get s) cs parts=some Dh ->
  ∃c',Instr.fill place c (parts.map fun q=>(q.1,a.eval q.2))=some c'/\H0 G w Dh c'
 | [],cs,c,Dh,hr,h=>by cases h;exact⟨c,rfl,hr⟩
 | (i,x)::rest,cs,c,Dh,hr,h=>by
  simp only[TK]at h;split at h
  ·rename_i off size y Fe hy;split at h
   ·rename_i hc;obtain⟨Km,Jn⟩:=hc;have hv:=I8 R.nil (AD R hy);have Ak:H0 G w (BV y) (a.eval x).cells:=hv;obtain⟨c',h1,h2⟩:=XO R pl place hp rest _ _ Dh (hr.put Ak (by rw[Km];exact Jn)) h;refine⟨c',?_,h2⟩;simp only[List.map_cons,Instr.fill,hp _ _ Fe];rw[if_neg];· exact h1
    ·have e1:=hr.1;have e2:=hv.1;simp only[Bool.or_eq_true,decide_eq_true_eq,not_or];omega
   ·cases h
  ·cases h
theorem RG {cs:List SV}{c:Array Value}{ds:List DV}(h:H0 G w cs c)(hd:GZ cs=some ds):c.size=ds.length/\∀(i:Nat) (d:DV) (v:Value),ds[i]? = some d->c[i]? = some v->RV G.D w d v:=by
 obtain⟨h1,h2⟩:=OV hd;refine⟨h.1.trans h1,fun i d v hi hv=>?_⟩;obtain⟨x,hx,hxd⟩:=h2 i d hi;exact JM hxd (h.2 i x v hx hv)
theorem MT (l:List DV):HE l=true↔∀c∈l,c.isCell=true:=by
 induction l with
 | nil=>simp[HE]
 | cons c r ih=>simp[HE,ih]
theorem WM {P:Program}{t:TypeId}{z:List SV}{pl:List (Nat × Nat)}(hz:DK P t=some z)(Fe:CU P t=some pl)(hn:G.τ 0=(none,0)) :
  ∃zc place,H0 G w z zc/\(∀i q,pl[i]? = some q->place i=some q)/\∀(parts:Array (Nat × Value)) (c':Array Value),Instr.fill place zc parts.toList=some c'->(Instr.build t parts).run P w = .ok (.agg c') w:=by
 unfold DK at hz;split at hz
 ·rename_i it Sb;split at hz
  ·rename_i zv Qn;have Ak:=JN (w:=w) hn hz;simp only[Array.toArray_toList]at Ak;unfold CU at Fe;split at Fe
   ·rename_i fields hu;refine⟨zv.cells,(pl.toArray[·]?),Ak,fun i q hq=>by simpa using hq,fun parts c' hf=>run_build w t parts c' ?_⟩;unfold Program.built;simp only[Sb,hu,Qn,Fe];exact hf
   ·rename_i n e hu;cases Fr:P.info? e with
    | none=>simp[Fr]at Fe
    | some ie=>
     simp[Fr]at Fe;subst Fe;refine⟨zv.cells,(fun i=>some (i * ie.size,ie.size)),Ak,fun i q hq=>?_,fun parts c' hf=>run_build w t parts c' ?_⟩
     ·have hi:i<n:=by
       have:=(uA hq).1;simpa using this
      simp[hi]at hq;exact hq ▸ rfl
     ·unfold Program.built;simp only[Sb,hu,Qn,Fr];exact hf
   ·cases Fe
  ·cases hz
 ·cases hz
theorem z5q {P:Program}{t:TypeId}(h:xQ P t=true):P.underlying t=some .bool:=by
 unfold xQ at h;split at h
 ·assumption
 ·cases h
theorem IQ {P:Program}{t E:Nat}(h:DB P t=some E):∃e i,P.underlying t=some (.slice e)/\P.info? e=some i/\i.size=E:=by
 unfold DB at h;split at h
 ·rename_i e hu;cases hi:P.info? e with
  | none=>simp[hi]at h
  | some i=>simp[hi]at h;exact⟨e,i,hu,hi,h⟩
 ·cases h
theorem Z6 {P:Program}{t n E:Nat}(h:kQ P t=some (n,E)):∃e i,P.underlying t=some (.array n e)/\P.info? e=some i/\i.size=E:=by
 unfold kQ at h;split at h
 ·rename_i n' e hu;cases hi:P.info? e with
  | none=>simp[hi]at h
  | some i=>simp[hi]at h;obtain⟨rfl,h⟩:=h;exact⟨e,i,hu,hi,h⟩
 ·cases h
theorem OW {P:Program}{t f:Nat}{agg:Bool}{off n:Nat}(h:BG P t f=some (agg,off,n)) :
  ∃fs fl,P.underlying t=some (.struct fs)/\fs[f]? = some fl/\E9 P fl.type=some (agg,n)/\n≠0/\fl.offset=off:=by
 unfold BG at h;split at h
 ·rename_i fs hu;split at h
  ·rename_i fl hf;split at h
   ·rename_i b m hl;split at h;· cases h
    ·simp only[uC,uD]at h;obtain⟨rfl,rfl,rfl⟩:=h;exact⟨fs,fl,hu,hf,hl,by assumption,rfl⟩
   ·cases h
  ·cases h
 ·cases h
theorem HQ {x:SV}{els:List (List DV)}{v:Value}(h:LJ x=some els)(hr:LX G w x v):∃b cap,v = .slice b els.length cap/\RV G.D w (.sl els) v/\els.length<=cap:=by
 have key:RV G.D w (.sl els) v->∃b cap,v = .slice b els.length cap/\RV G.D w (.sl els) v/\els.length<=cap:=by
  intro h;have h':=h;cases h with
  | sl0 b cap=>exact⟨b,cap,rfl,h',Nat.zero_le _⟩
  | sl _ b o cap E val hlen Bj hE Aj hc hD hh=>exact⟨_,cap,rfl,h',Bj⟩
 cases x with
 | v x=>
  cases x with
  | sl e=>cases h;exact key hr
  | _=>cases h
 | own t e=>cases h;exact key hr.2
 | loc=>cases h
 | dp=>cases h
 | ag=>cases h
theorem z5r {els:List (List DV)}{v:Value}(hr:RV G.D w (.sl els) v){i:Nat}{e:List DV}(he:els[i]? = some e) :
  ∃b o cap,v = .slice (some ⟨b,o,none⟩) els.length cap/\LX G w (.dp els i 0) (.pointer (some ⟨b,o+i * e.length,none⟩)):=by
 have hi:i<els.length:=(uA he).1;have Sy:=hr;cases hr with
 | sl0=>simp at hi
 | sl _ b o cap E val hlen Bj hE Aj hc hD hh=>
  have:e.length=E:=hE e (uE he);subst this;exact⟨b,o,cap,rfl,b,o,e.length,cap,Sy,hE,hi,rfl⟩
theorem pR {P:Program}{t f:Nat}{agg:Bool}{off n:Nat}(h:BG P t f=some (agg,off,n)){y c:DV}{v:Value}(hy:y.isAgg=true)(hv:RV G.D w y v)(hd:ME (D6 y) agg off n=some c) :
  ∃u,(Instr.field t v f).run P w = .ok u w/\RV G.D w c u:=by
 obtain⟨fs,fl,hu,hf,hl,hn,rfl⟩:=OW h;obtain⟨l1,l2⟩:=Z5 (w:=w) hl;cases hv with
 | prim=>cases hy
 | sl0=>cases hy
 | sl=>cases hy
 | iface=>cases hy
 | ref=>cases hy
 | tup=>cases hy
 | agg cs vs Ha Aj hh=>
  rw[show D6 (DV.agg cs)=cs from rfl]at hd;unfold ME at hd;cases agg with
  | true=>
   simp only[if_true]at hd;by_cases hlen:(List.take n (List.drop fl.offset cs)).length=n
   ·rw[if_pos hlen]at hd;cases hd;simp at hlen;refine⟨.agg (vs.extract fl.offset (fl.offset+n)),by simp[Instr.field,run_underlying hu,hf,part,asAgg,l1,l2],?_⟩;refine .agg _ _ (by simp;omega) (fun c hc=>Aj c (List.mem_of_mem_drop (List.mem_of_mem_take hc))) (fun i c v hc hv=>?_);have hi:i<n:=by
     have:=(uA hc).1;simp at this;omega
    rw[List.getElem?_take_of_lt hi,List.getElem?_drop]at hc;have Di:vs[fl.offset+i]? = some v:=by
     have:=(Array.getElem?_eq_some_iff.1 hv).1;simp at this;rw[Array.getElem?_extract,if_pos oO]at hv;exact hv
    exact hh _ c v hc Di
   ·rw[if_neg hlen]at hd;cases hd
  | false=>
   simp only[Bool.false_eq_true,if_false]at hd;have Ag:fl.offset<vs.size:=by rw[Ha];exact (uA hd).1
   have hv:vs[fl.offset]? = some vs[fl.offset]:=uG Ag;exact⟨vs[fl.offset],by simp[Instr.field,run_underlying hu,hf,part,asAgg,l1,hv],hh _ c _ hd hv⟩
end
end
section
section
variable {X:Ctx}{G:Gh}{s:St}{a:Act}{w:World}
theorem RH {α:Type}{o:Option α}{c:Prop}{y:α}(h:o.map (True,·)=some (c,y)):o=some y:=by
 cases o with
 | none=>cases h
 | some z=>simp at h;rw[h.2]
theorem HR (R:Rel X G s a w){d:Nat}{x:Option Operand}{n:Int}(h:EZ X (get s) d x=some n) :
  (x=none/\n=d)\/∃y k,x=some y/\a.eval y = .int k n:=by
 cases x with
 | none=>simp[EZ]at h;exact .inl ⟨rfl,h.symm⟩
 | some y=>
  simp only[EZ]at h;split at h
  ·rename_i k m hy;cases h;exact .inr ⟨y,k,rfl,(BT (AD R hy)).1⟩
  ·cases h
theorem fA {P:Program}{w:World}{t e:TypeId}{i:TypeInfo}(hu:P.underlying t=some (.slice e))(hi:P.info? e=some i)(b:Option Addr)(len cap:Nat)(lo Gg:Option Value)(l h:Int)
  (Im:(lo=none/\l=0)\/∃k,lo=some (.int k l)) (La:(Gg=none/\h=len)\/∃k,Gg=some (.int k h)) (h0:0<=l) (h1:l<=h) (h2:h<=cap) :
  (Instr.sliceAt t (.slice b len cap) lo Gg none).run P w = .ok (.slice (if cap=l.toNat then b else b.map fun q=>q.add (l.toNat * i.size)) (h.toNat - l.toNat) (cap - l.toNat)) w:=by
 have Ha:(l.toNat:Int)=l:=Int.toNat_of_nonneg h0;have hh':(h.toNat:Int)=h:=Int.toNat_of_nonneg oO;have Bb:(sizeOf e).run P w = .ok i.size w:=by simp[sizeOf,typeInfo,hi]
 have c1:l<=(h.toNat:Int):=oO;rcases Im with⟨rfl,rfl⟩|⟨k,rfl⟩ <;> rcases La with⟨rfl,rfl⟩|⟨k',rfl⟩;all_goals simp[Instr.sliceAt,Instr.slice,run_underlying hu,Instr.sliceBounds,Instr.sliceBound,asIntOf,Bb]
 all_goals (try simp[h0,h1,h2])
 all_goals (try (rw[if_pos (by omega:(0:Int)<=h),if_pos oO]))
 all_goals (try (intros;omega))
theorem kV {w:World}{D:Nat->Nat->Prop}{els:List (List DV)}{b:Option Addr}{cap:Nat}(hr:RV D w (.sl els) (.slice b els.length cap)){E:Nat}(hE:∀e∈els,e.length=E)(l h:Nat)(h1:l<=h)(h2:h<=els.length)(Bj:els.length<=cap) :
  RV D w (.sl ((els.take h).drop l)) (.slice (if cap=l then b else b.map fun q=>q.add (l * E)) (h - l) (cap - l)):=by
 by_cases hlh:l=h
 ·subst hlh;have:(els.take l).drop l=[]:=sS;rw[this,Nat.sub_self];exact .sl0 _ _
 ·have hlen:((els.take h).drop l).length=h - l:=by simp;omega
  generalize hL:(els.take h).drop l=L at *;rw[<- hlen];have Ba:cap≠l:=oO;rw[if_neg Ba];generalize hn:els.length=n at *;cases hr with
  | sl0=>simp only[List.length_nil]at *;omega
  | sl _ b o _ E' val Ha Eu Lz Aj hc hD hh=>
   have Rh:E' = E:=by
    cases els with
    | nil=>simp only[List.length_nil]at *;omega
    | cons e r=>rw[<- Lz e sS,hE e sS]
   subst Rh;simp only[Option.map_some,F0];have Em:∀e∈L,e∈els:=fun e he=>by rw[<- hL]at he;exact List.mem_of_mem_take (List.mem_of_mem_drop he)
   have Bq:∀i,i<L.length->L[i]? = els[l+i]?:=fun i hi=>by
    rw[<- hL,List.getElem?_drop,List.getElem?_take_of_lt oO]
   refine .sl L b (o+l * E') (cap - l) E' (fun i j=>val (l+i) j) oO oO (fun e he=>Lz e (Em e he)) (fun e he=>Aj e (Em e he)) (fun i j hi hj=>?_) (fun i j hi hj=>?_) (fun i j e c he hc=>?_)
   ·have:=hc (l+i) j oO hj;rw[<- this];congr 2;rw[Nat.add_mul];omega
   ·have:=hD (l+i) j oO hj;have e:o+((l+i) * E'+j)=o+l * E'+(i * E'+j):=by rw[Nat.add_mul];omega
    rw[<- e];exact this
   ·rw[Bq i (uA he).1]at he;exact hh _ _ _ _ he hc
theorem K2 {P:Program}{w:World}{fl:Field}{agg:Bool}{n b o:Nat}(hl:E9 P fl.type=some (agg,n))(hn:n≠0):(fieldPlace ⟨b,o,none⟩ fl).run P w = .ok ⟨b,o+fl.offset,none⟩ w:=by
 obtain⟨-,l2⟩:=Z5 (w:=w) hl;simp[fieldPlace,l2,hn,F0]
theorem GF {α:Type}{a:Array α}{l:List α}(h:a.toList=l):a=l.toArray:=by rw[<- h]
theorem kX (R:Rel X G s a w){k:Call}{t:TypeId}{c:Prop}{y:SV}(h:QT X (get s) k=some (c,y))(hc:c) :
  ∃v,(do let d <- resolve a.eval k t;invoke d.target d.args:Sem Next).run X.P w = .ok (.value v) w/\LX G w y v:=by
 unfold QT at h;split at h
 case h_1 x t' Ki Kd Be=>
  have Eu:k = { callee:=.builtin .len,args:=#[x],argTypes:=#[t'] }:=by cases k;simp only at Ki Kd Be;rw[Ki,GF Kd,GF Be]
  split at h
  ·rename_i E els hE hs;cases h;obtain⟨e',ie,hu,Fr,Bb⟩:=IQ hE;obtain⟨q,hq,Ju⟩:=Option.bind_eq_some_iff.1 hs;obtain⟨b,cap,hv,hr,Bj⟩:=HQ Ju (AD R hq);have Al:els.length<=HL:=by have:=RV.fit hr;simp only[DV.fit]at this;exact this.1
   refine⟨_,?_,.prim _ ?_⟩;· simp[Eu,hv,resolve,invoke,builtin,Builtin.len_,run_underlying hu,goInt]
   ·show CM .i64 _;rw[MS];unfold HL at Al;omega
  ·split at h
   ·rename_i E q n cap hE hx;cases h;obtain⟨e',ie,hu,Fr,Bb⟩:=IQ hE;have hv:=(BT (AD R hx)).1;refine⟨_,?_,.prim _ ?_⟩;· simp[Eu,hv,resolve,invoke,builtin,Builtin.len_,run_underlying hu,goInt]
    ·show CM .i64 _;rw[MS];unfold HL at hc;omega
   ·cases h
 case h_2 x z Ki Kd=>
  have Eu:k = { callee:=.builtin .max,args:=#[x,z],argTypes:=k.argTypes }:=by cases k;simp only at Ki Kd;rw[Ki,GF Kd]
  split at h
  ·rename_i k p k' q hx hy;cases h;have Cp:=BT (AD R hx);have Dm:=BT (AD R hy);refine⟨.int k (if q > p then q else p),?_,.prim _ ?_⟩
   ·rw[Eu];simp[Cp.1,Dm.1,resolve,invoke,builtin,run_max_int2]
   show CM _ _;split;· exact hc
   ·exact Cp.2
  ·cases h
 case h_3 x z Ki Kd=>
  have Eu:k = { callee:=.builtin .min,args:=#[x,z],argTypes:=k.argTypes }:=by cases k;simp only at Ki Kd;rw[Ki,GF Kd]
  split at h
  ·rename_i k p k' q hx hy;cases h;have Cp:=BT (AD R hx);have Dm:=BT (AD R hy);refine⟨.int k (if q<p then q else p),?_,.prim _ ?_⟩
   ·rw[Eu];simp[Cp.1,Dm.1,resolve,invoke,builtin,run_min_int2]
   show CM _ _;split;· exact hc
   ·exact Cp.2
  ·cases h
 case h_4=>cases h
theorem TH {P:Program}(d:Nat)(t e:TypeId)(p:Option Addr)(h:P.underlying t=some (.pointer e)) :
  (Op.equalIn (d+1) t (.pointer p) (.pointer none)).run P w = .ok p.isNone w:=by
 cases p <;> simp[Op.equalIn,run_underlying h]
theorem kY {P:Program}{t:TypeId}(hp:eB P t=true)(op:BinOp)(x y:Operand)(p:Option Addr){c:Prop}{r:SV}(h:kS op p.isNone=some (c,r)) :
  ∃v,(do eqGuard op t x y (.pointer p) (.pointer none);binOp op t (.pointer p) (.pointer none):Sem Value).run P w = .ok v w/\LX G w r v:=by
 have hu:∃e,P.underlying t=some (.pointer e):=by
  unfold eB at hp;split at hp;· exact⟨_,by assumption⟩
  ·cases hp
 obtain⟨e,hu⟩:=hu;have hq:=TH (w:=w) 9999 t e p hu;have hg:∀op:BinOp,(eqGuard op t x y (.pointer p) (.pointer none)).run P w = .ok () w:=by
  intro op;cases op <;> cases p <;> simp[eqGuard,run_underlying hu]
 unfold kS at h;split at h
 ·cases h;refine⟨.bool p.isNone,?_,.prim _ tT⟩;simp only[Sem.run_bind,hg,Result.andThen_ok,binOp];simp[Op.equal,Op.maxDepth,hq]
 ·cases h;refine⟨.bool (!p.isNone),?_,.prim _ tT⟩;simp only[Sem.run_bind,hg,Result.andThen_ok,binOp];simp[Op.equal,Op.maxDepth,hq]
 ·cases h
theorem PS (R:Rel X G s a w){o:Oper}{c:Prop}{y:SV}(h:HB X (get s) o=some (c,y))(hc:c) :
  ∃v,(execOp a.eval o).run X.P w = .ok (.value v) w/\LX G w y v:=by
 unfold HB at h;split at h
 case h_1 x Bn=>exact⟨a.eval x,by simp[execOp,Bn],AD R (RH h)⟩
 case h_2 x Bn=>exact⟨a.eval x,by simp[execOp,Bn],AD R (RH h)⟩
 case h_3 x p q Bn=>
  split at h
  ·rename_i hx;have hv:=(BT (AD R hx)).1;exact⟨a.eval p,by simp[execOp,Bn,hv,asBool],AD R (RH h)⟩
  ·rename_i hx;have hv:=(BT (AD R hx)).1;exact⟨a.eval q,by simp[execOp,Bn,hv,asBool],AD R (RH h)⟩
  ·cases h
 case h_4 op t x z yt Bn=>
  split at h
  ·rename_i k p k' q hx hy;split at h
   ·subst_vars
    have Cp:=(BT (AD R hx)).1;have Dm:=(BT (AD R hy)).1;obtain⟨v,h1,h2⟩:=kT (X:=X) (G:=G) (w:=w) h hc t;exact⟨v,by simp[execOp,Bn,Cp,Dm,kU,h1],h2⟩
   ·cases h
  ·rename_i p q hx hy;have Cp:=(BT (AD R hx)).1;have Dm:=(BT (AD R hy)).1;split at h
   ·rename_i hb;have hu:=z5q hb;split at h;· cases h;exact⟨_,by simp[execOp,Bn,Cp,Dm,UW,run_eql_bool _ _ _ _ hu],.prim _ tT⟩
    ·cases h;exact⟨_,by simp[execOp,Bn,Cp,Dm,UW,run_neq_bool _ _ _ _ hu],.prim _ tT⟩
    ·cases h
   ·cases h
  ·rename_i cs hx hy;have Dm:=(BT (AD R hy)).1;obtain⟨b,o',Cp,-⟩:=gX (AD R hx);split at h
   ·rename_i hp;obtain⟨v,h1,h2⟩:=kY (G:=G) (w:=w) hp op x z (some ⟨b,o',none⟩) h;refine⟨v,?_,h2⟩;simp only[execOp,Bn,Cp,Dm];simp only[Sem.run_bind]at h1 ⊢
    revert h1
    cases (eqGuard op t x z (.pointer (some ⟨b,o',none⟩)) (.pointer none)).run X.P w with
    | ok u w'=>
     simp only[Result.andThen_ok];intro h1;rw[h1];rfl
    | _=>intro h1;cases h1
   ·cases h
  ·rename_i hx hy;have Cp:=(BT (AD R hx)).1;have Dm:=(BT (AD R hy)).1;split at h
   ·rename_i hp;obtain⟨v,h1,h2⟩:=kY (G:=G) (w:=w) hp op x z none h;refine⟨v,?_,h2⟩;simp only[execOp,Bn,Cp,Dm];simp only[Sem.run_bind]at h1 ⊢
    revert h1
    cases (eqGuard op t x z (.pointer none) (.pointer none)).run X.P w with
    | ok u w'=>
     simp only[Result.andThen_ok];intro h1;rw[h1];rfl
    | _=>intro h1;cases h1
   ·cases h
  ·cases h
 case h_5 op t x Bn=>
  split at h
  ·rename_i b hx;cases h;have Cp:=(BT (AD R hx)).1;exact⟨_,by simp[execOp,Bn,Cp,Op.unary],.prim _ tT⟩
  ·rename_i k n hx;cases h;have Cp:=(BT (AD R hx)).1;exact⟨_,by simp[execOp,Bn,Cp,Op.unary,Op.intArith,-Int.zero_sub,KU hc],.prim _ hc⟩
  ·cases h
 case h_6 x i Bn=>
  split at h
  ·rename_i cs hx;cases hi:cs[i]? with
   | none=>simp[hi]at h
   | some d=>
    simp[hi]at h;obtain⟨-,rfl⟩:=h;have hr:=AD R hx;generalize hv:a.eval x=v at hr;cases hr with
    | tup _ vs hl hh=>
     have Ag:i<vs.size:=by rw[hl];exact (uA hi).1
     have Di:vs[i]? = some vs[i]:=uG Ag;exact⟨vs[i],by simp[execOp,Bn,hv,Instr.extract,Di],hh i d _ hi Di⟩
  ·cases h
 case h_7 t x f Bn=>
  split at h
  ·rename_i agg off n y' hf hx;cases hd:ME (D6 y') agg off n with
   | none=>simp[hd]at h
   | some d=>
    rw[hd]at h;simp only[Option.map_some,uC,uD]at h;obtain⟨rfl,rfl⟩:=h;obtain⟨u,h1,h2⟩:=pR hf hc (AD R hx) hd;exact⟨u,by simp[execOp,Bn,h1],h2⟩
  ·cases h
 case h_8 t x f Bn=>
  split at h
  ·rename_i agg Bs n k off hf hx;cases h;obtain⟨fs,fl,hu,Ew,hl,hn,rfl⟩:=OW hf;have hv:a.eval x=_:=AD R hx;exact⟨_,by simp[execOp,Bn,hv,Instr.fieldAt,run_underlying hu,Ew,Instr.sureAddr,K2 hl hn],rfl⟩
  ·rename_i agg Bs n els i off hf hx;cases h;obtain⟨fs,fl,hu,Ew,hl,hn,rfl⟩:=OW hf;obtain⟨b,o',E,cap,hr,hE,hi,hv⟩:=AD R hx;exact⟨_,by simp[execOp,Bn,hv,Instr.fieldAt,run_underlying hu,Ew,Instr.sureAddr,K2 hl hn];rfl,b,o',E,cap,hr,hE,hi,by congr 3;omega⟩
  ·rename_i agg Bs n b off hf hx;cases h;obtain⟨fs,fl,hu,Ew,hl,hn,rfl⟩:=OW hf;have hv:=(BT (AD R hx)).1;exact⟨_,by simp[execOp,Bn,hv,Instr.fieldAt,run_underlying hu,Ew,Instr.sureAddr,K2 hl hn],.prim _ tT⟩
  ·rename_i agg Bs n cs hf hx;cases h;obtain⟨fs,fl,hu,Ew,hl,hn,rfl⟩:=OW hf;obtain⟨b,o',hv,hr⟩:=gX (AD R hx);refine⟨_,by simp[execOp,Bn,hv,Instr.fieldAt,run_underlying hu,Ew,Instr.sureAddr,K2 hl hn];rfl,b,o',cs.length,1,hr,fun e he=>by rw[List.mem_singleton.1 he],Nat.zero_lt_one,?_⟩
   congr 3
   omega
  ·cases h
 case h_9 t x i Bn=>
  split at h
  ·rename_i yy k n hx hi;have hn:=(BT (AD R hi)).1;split at h
   ·rename_i E els hE hs;split at h
    ·rename_i e he;cases h;obtain⟨h0,rfl⟩:=hc;obtain⟨e',ie,hu,Fr,Bb⟩:=IQ hE;obtain⟨b,cap,hv,hr,-⟩:=HQ hs (AD R hx);obtain⟨b',o',Au,Di,hdp⟩:=z5r hr he;have Ag:n.toNat<els.length:=(uA he).1;have Qc:n<els.length:=oO;refine⟨_,?_,hdp⟩;simp[execOp,Bn,hn,Di,Instr.indexAt,asIntOf,run_underlying hu,sizeOf,typeInfo,Fr,Bb,h0,Qc,F0]
    ·cases h
   ·split at h
    ·rename_i len E k' off hA _;cases h;obtain⟨h0,h1,h2⟩:=hc;obtain⟨e',ie,hu,Fr,Bb⟩:=Z6 hA;have hv:a.eval x=_:=AD R hx;refine⟨_,?_,rfl⟩;simp[execOp,Bn,hn,hv,Instr.indexAt,asIntOf,run_underlying hu,sizeOf,typeInfo,Fr,Bb,h0,h1,F0,Instr.sureAddr]
    ·rename_i len E els j hA _;split at h
     ·rename_i e he;cases h;obtain⟨h0,h1,h2,rfl⟩:=hc;obtain⟨e',ie,hu,Fr,Bb⟩:=Z6 hA;obtain⟨b,o',E',cap,hr,Lz,hj,hv⟩:=AD R hx;have Rh:e.length=E':=Lz e (uE he);have Ag:j+n.toNat<els.length:=(uA he).1;refine⟨_,?_,b,o',E',cap,hr,Lz,Ag,rfl⟩;simp[execOp,Bn,hn,hv,Instr.indexAt,asIntOf,run_underlying hu,sizeOf,typeInfo,Fr,Bb,h0,h1,F0,Instr.sureAddr];rw[Rh,Nat.add_mul];omega
     ·cases h
    ·rename_i len E els j off hA _;cases h;obtain⟨h0,h1,h2⟩:=hc;obtain⟨e',ie,hu,Fr,Bb⟩:=Z6 hA;obtain⟨b,o',E',cap,hr,Lz,hj,hv⟩:=AD R hx;refine⟨_,?_,b,o',E',cap,hr,Lz,hj,rfl⟩;simp[execOp,Bn,hn,hv,Instr.indexAt,asIntOf,run_underlying hu,sizeOf,typeInfo,Fr,Bb,h0,h1,F0,Instr.sureAddr];try omega
    ·rename_i len E b off hA _;cases h;obtain⟨h0,h1,h2⟩:=hc;obtain⟨e',ie,hu,Fr,Bb⟩:=Z6 hA;have hv:=(BT (AD R hx)).1;refine⟨_,?_,.prim _ tT⟩;simp[execOp,Bn,hn,hv,Instr.indexAt,asIntOf,run_underlying hu,sizeOf,typeInfo,Fr,Bb,h0,h1,F0,Instr.sureAddr]
    ·rename_i b off len cap _ _;split at h
     ·rename_i E hE;cases h;obtain⟨h0,h1⟩:=hc;obtain⟨e',ie,hu,Fr,Bb⟩:=IQ hE;have hv:=(BT (AD R hx)).1;refine⟨_,?_,.prim _ tT⟩;simp[execOp,Bn,hn,hv,Instr.indexAt,asIntOf,run_underlying hu,sizeOf,typeInfo,Fr,Bb,h0,h1,F0]
     ·cases h
    ·cases h
  ·cases h
 case h_10 t x Bn=>
  have h':=RH h;obtain⟨z,hz,Wd⟩:=Option.bind_eq_some_iff.1 h';obtain⟨u,h1,h2⟩:=UV R (AD R hz) Wd;exact⟨u,by simp[execOp,Bn,h1],h2⟩
 case h_11 t parts Bn=>
  split at h
  ·rename_i z pl hz Fe;split at h
   ·rename_i cs Dp;split at h
    ·rename_i ds Fs;split at h
     case isFalse=>cases h
     rename_i Sf;cases h;obtain⟨zc,place,Ak,hp,Bf⟩:=WM (w:=w) hz Fe R.nil;obtain⟨c',h1,h2⟩:=XO R pl place hp parts.toList z zc cs Ak Dp;have h3:=Bf (parts.map fun q=>(q.1,a.eval q.2)) c' (by simpa using h1);obtain⟨k1,k2⟩:=RG h2 Fs;refine⟨.agg c',by simp[execOp,Bn,h3],.agg ds c' k1 ((MT ds).1 Sf) k2,fun i hi=>?_⟩;obtain⟨j,Ii,hj⟩:=U4 hi;obtain rfl:i=j:=oO;obtain⟨t1,t2⟩:=OV Fs;have Bz:i<cs.length:=(uA hj).1;have Ao:i<c'.size:=by rw[h2.1];exact Bz
     have Yt:ds[i]? = some (ds[i]'oO):=uB oO;obtain⟨z',Oh,Hb⟩:=t2 i _ Yt;rw[hj]at Oh;cases Oh;have hz2':some (DV.sl [])=some (ds[i]'oO):=Hb;refine⟨by rw[Yt,<- hz2'],?_⟩;have hr:=h2.2 i _ _ hj (uG Ao);have Do:c'[i] = .slice (G.τ 0).1 0 (G.τ 0).2:=hr.1;rw[R.nil]at Do;show c'[i]? = _;rw[uG Ao,Do]
    ·cases h
   ·cases h
  ·cases h
 case h_12 t x Bn=>
  split at h
  ·rename_i z hz;split at h
   ·rename_i Dg;cases h;obtain⟨q,hq,Ju⟩:=Option.bind_eq_some_iff.1 hz;refine⟨.iface t (a.eval x),?_,.iface t z _ (JM Ju (AD R hq))⟩;unfold RE at Dg;split at Dg;· cases Dg
    ·rename_i d hd hu;simp only[execOp,Bn,Instr.makeInterface,Sem.run_bind,run_underlying hu,Result.andThen_ok];cases d <;> first|(exact (hd _ rfl).elim)|rfl
    ·cases Dg
   ·cases h
  ·cases h
 case h_13 x Bn=>
  split at h
  ·rename_i k off hx;cases h;have hv:a.eval x=_:=AD R hx;exact⟨_,by simp[execOp,Bn,hv],rfl⟩
  ·rename_i els i off hx;cases h;have hr:=AD R hx;obtain⟨b,o',E,cap,Sy,hE,hi,hv⟩:=hr;exact⟨_,by simp[execOp,Bn,hv],b,o',E,cap,Sy,hE,hi,rfl⟩
  ·rename_i ad hx;cases h;have hv:=(BT (AD R hx)).1;exact⟨_,by simp[execOp,Bn,hv],.prim _ tT⟩
  ·rename_i f p q hx;cases h;have hv:=(BT (AD R hx)).1;exact⟨_,by simp[execOp,Bn,hv],.prim _ tT⟩
  ·rename_i cs hx;cases h;have hr:=AD R hx;obtain⟨b,o',hv,-⟩:=gX hr;rw[hv]at hr;exact⟨_,by simp[execOp,Bn,hv],hr⟩
  ·cases h
 case h_14 sT dT x Bn=>
  split at h
  ·rename_i k n ks kd hx hs hd;cases h;have hv:=(BT (AD R hx)).1;have e1:∀{t:TypeId} {k:IntKind},zde X.P t=some k->X.P.underlying t=some (.int k):=by
    intro t k h;unfold zde at h;split at h;· cases h;assumption
    ·cases h
   have u1:=e1 hs;have u2:=e1 hd;exact⟨_,by simp[execOp,Bn,hv,convert,run_underlying u1,run_underlying u2,Conv.intToInt,KU hc],.prim _ hc⟩
  ·cases h
 case h_15 t x lo Gg Bn=>
  split at h
  ·rename_i E els hE hs;split at h
   ·rename_i l hh Im La;cases h;obtain⟨h0,h1,h2,h3⟩:=hc;obtain⟨e',ie,hu,Fr,rfl⟩:=IQ hE;obtain⟨q,hq,Ju⟩:=Option.bind_eq_some_iff.1 hs;obtain⟨b,cap,hv,hr,Bj⟩:=HQ Ju (AD R hq);have Pa:(lo.map a.eval=none/\l=0)\/∃k,lo.map a.eval=some (.int k l):=by
     rcases HR R Im with⟨rfl,h⟩|⟨z,k,rfl,h⟩;· exact .inl ⟨rfl,h⟩
     ·exact .inr ⟨k,by simp[h]⟩
    have Pv:(Gg.map a.eval=none/\hh=els.length)\/∃k,Gg.map a.eval=some (.int k hh):=by
     rcases HR R La with⟨rfl,h⟩|⟨z,k,rfl,h⟩;· exact .inl ⟨rfl,h⟩
     ·exact .inr ⟨k,by simp[h]⟩
    have Bf:=fA (w:=w) hu Fr b els.length cap _ _ l hh Pa Pv h0 h1 oO;have Je:=kV (hv ▸ hr) h3 l.toNat hh.toNat oO oO Bj;refine⟨_,?_,Je⟩;simp only[execOp,Bn,hv,Option.map_none,Bf,Sem.run_bind,Result.andThen_ok,Sem.run_pure]
   ·cases h
  ·split at h
   ·rename_i E b o n cap l hE hx Im;split at h
    ·rename_i hh La;cases h;obtain⟨rfl,h1,h2⟩:=hc;obtain⟨e',ie,hu,Fr,rfl⟩:=IQ hE;have hv:=(BT (AD R hx)).1;have Pa:(lo.map a.eval=none/\(0:Int)=0)\/∃k,lo.map a.eval=some (.int k 0):=by
      rcases HR R Im with⟨rfl,h⟩|⟨z,k,rfl,h⟩;· exact .inl ⟨rfl,rfl⟩
      ·exact .inr ⟨k,by simp[h]⟩
     have Pv:(Gg.map a.eval=none/\hh=n)\/∃k,Gg.map a.eval=some (.int k hh):=by
      rcases HR R La with⟨rfl,h⟩|⟨z,k,rfl,h⟩;· exact .inl ⟨rfl,h⟩
      ·exact .inr ⟨k,by simp[h]⟩
     have Bf:=fA (w:=w) hu Fr (some ⟨b,o,none⟩) n cap _ _ 0 hh Pa Pv oO h1 oO;have he:(if cap=(0:Int).toNat then some (⟨b,o,none⟩:Addr) else (some (⟨b,o,none⟩:Addr)).map fun q=>q.add ((0:Int).toNat * ie.size))=some ⟨b,o,none⟩:=by
      split;· rfl
      ·simp[F0]
     rw[he,show hh.toNat - (0:Int).toNat=hh.toNat from sS,show cap - (0:Int).toNat=cap from sS]at Bf;refine⟨_,?_,.prim _ tT⟩;simp only[execOp,Bn,hv,Option.map_none,Bf,Sem.run_bind,Result.andThen_ok,Sem.run_pure]
    ·cases h
   ·cases h
 case h_16 c' Bn=>
  obtain⟨v,h1,h2⟩:=kX R h hc;exact⟨v,by simp only[execOp,Bn];exact h1,h2⟩
 case h_17 fn fi ca Bn=>
  have key:∀{l:List Operand} {vs:List Value},ZK X (get s) l=some vs->l.map a.eval=vs:=by
   intro l
   induction l with
   | nil=>intro vs h;cases h;rfl
   | cons x r ih=>
    intro vs h;simp only[ZK]at h;split at h
    ·rename_i v us hx hr;cases h;rw[List.map_cons,ih hr,(BT (AD R hx)).1]
    ·cases h
  split at h
  ·rename_i f1 c1 h1 h2;cases h;have e1:fi.map a.eval=f1.toArray:=by rw[<- key h1,<- Array.toList_map]
   have e2:ca.map a.eval=c1.toArray:=by rw[<- key h2,<- Array.toList_map]
   exact⟨_,by simp only[execOp,Bn,e1,e2];simp[Instr.makeFunc,Sem.run_bind],.prim _ tT⟩
  ·cases h
 case h_18 x xt at' ok Bn=>
  unfold taV at h;split at h
  ·rename_i tt y' hx;split at h
   ·rename_i Dg;have hr:=AD R hx
    obtain⟨u,hv,hu⟩:∃u,a.eval x = .iface tt u/\RV G.D w y' u:=by
     generalize a.eval x=v at hr;cases hr with
     | iface _ _ u h=>exact⟨u,rfl,h⟩
    have Rj:∃d,X.P.underlying at' = some d/\∀z,d≠.interface z:=by
     unfold RE at Dg;split at Dg;· cases Dg
     ·rename_i d hd hu;exact⟨d,hu,fun z e=>hd z e⟩
     ·cases Dg
    obtain⟨d,hd,hni⟩:=Rj;split at h
    ·rename_i he;subst he;cases h;cases ok with
     | true=>
      refine⟨.tuple #[u,.bool true],?_,.tup [y',.prim (.bool true)] #[u,.bool true] rfl fun i c v hc hv=>?_⟩
      ·simp only[execOp,Bn,hv,Instr.typeAssert,Sem.run_bind,run_underlying hd,Result.andThen_ok];cases d <;> first|(exact (hni _ rfl).elim)|simp
      ·match i with
       | 0=>simp at hc hv;subst hc hv;exact hu
       | 1=>simp at hc hv;subst hc hv;exact .prim _ tT
       | i+2=>simp at hc
     | false=>
      refine⟨u,?_,hu⟩;simp only[execOp,Bn,hv,Instr.typeAssert,Sem.run_bind,run_underlying hd,Result.andThen_ok];cases d <;> first|(exact (hni _ rfl).elim)|simp
    ·rename_i Ba;split at h
     ·rename_i Ej;subst Ej;split at h
      ·rename_i z hz;cases h;have hzz:∃i,X.P.info? at' = some i/\i.zero=some z/\FR z:=by
        unfold ZL at hz;split at hz
        ·rename_i i hi;refine⟨i,hi,?_⟩;split at hz
         ·rename_i k n hzero;split at hz
          ·rename_i hb;cases hz;exact⟨hzero,ZJ hb⟩
          ·cases hz
         ·rename_i hzero;cases hz;exact⟨hzero,trivial⟩
         ·cases hz
        ·cases hz
       obtain⟨i,hi,hzi,hzp⟩:=hzz;refine⟨.tuple #[z,.bool false],?_,.tup [.prim z,.prim (.bool false)] #[z,.bool false] rfl fun i c v hc hv=>?_⟩
       ·simp only[execOp,Bn,hv,Instr.typeAssert,Sem.run_bind,run_underlying hd,Result.andThen_ok];cases d <;> first|(exact (hni _ rfl).elim)|simp[Ba,zeroValue,typeInfo,hi,hzi]
       ·match i with
        | 0=>simp at hc hv;subst hc hv;exact .prim _ hzp
        | 1=>simp at hc hv;subst hc hv;exact .prim _ tT
        | i+2=>simp at hc
      ·cases h
     ·cases h
   ·cases h
  ·cases h
 case h_19=>cases h
end
end
section
def GK (d:Nat):SV->Bool
 | .loc k _=>k==d
 | _=>false
def LZ (d:Nat):SV->Bool
 | .own t _=>t==d
 | _=>false
def ED (d:Nat):List SV->Bool
 | []=>false
 | x::r=>GK d x||ED d r
def N8 (d:Nat):List SV->Bool
 | []=>false
 | x::r=>LZ d x||N8 d r
def DJ (d:Nat):St->Bool
 | []=>true
 | (l,v)::r=>(match l with | .loc k=>k != d|_=>true)&&(match v with | .one x=>!GK d x | .row cs=>!ED d cs | .tk _ _=>true | .ob _=>true | .mp _=>true)&&DJ d r
def DQ (d:Nat):St->Bool
 | []=>true
 | (l,v)::r=>(match l with | .tok k=>k != d|_=>true)&&(match v with | .one x=>!LZ d x | .row cs=>!N8 d cs | .tk _ _=>true | .ob _=>true | .mp _=>true)&&DQ d r
theorem UY {s:St}{l:Loc}{v:LV}(h:get s l=some v):(l,v)∈s:=by
 induction s with
 | nil=>cases h
 | cons p r ih=>
  obtain⟨m,u⟩:=p;simp only[get]at h;split at h;· cases h;subst_vars;simp
  ·exact List.mem_cons_of_mem _ (ih h)
theorem U6 (d:Nat)(cs:List SV):ED d cs=false↔d∉cs.flatMap SV.locs:=by
 induction cs with
 | nil=>simp[ED]
 | cons x r ih=>cases x <;> simp[ED,GK,SV.locs,ih];exact fun _=>ne_comm
theorem pS (d:Nat)(cs:List SV):N8 d cs=false↔d∉cs.flatMap SV.toks:=by
 induction cs with
 | nil=>simp[N8]
 | cons x r ih=>cases x <;> simp[N8,LZ,SV.toks,ih];exact fun _=>ne_comm
theorem pT {d:Nat}{s:St}(h:DJ d s=true){l:Loc}{v:LV}(hg:get s l=some v):∀k∈l.locs++v.locs,k≠d:=by
 have hm:=UY hg
 induction s with
 | nil=>cases hm
 | cons p r ih=>
  obtain⟨m,u⟩:=p;simp only[DJ,uH]at h;rcases List.mem_cons.1 hm with he|hm
  ·cases he;intro k hk he;subst he;rcases List.mem_append.1 hk with hk|hk
   ·have h1:=h.1.1;cases l <;> simp[Loc.locs]at hk;subst hk;simp at h1
   ·have h2:=h.1.2;cases v with
    | one x=>cases x <;> simp[LV.locs,SV.locs]at hk;subst hk;simp[GK]at h2
    | row cs=>
     simp only[Bool.not_eq_true']at h2;exact (U6 _ _).1 h2 hk
    | tk=>simp[LV.locs]at hk
    | ob=>simp[LV.locs]at hk
    | mp=>simp[LV.locs]at hk
  ·by_cases he:m=l
   ·subst he;simp only[get,if_true]at hg;cases hg;intro k hk he;subst he;rcases List.mem_append.1 hk with hk|hk
    ·have h1:=h.1.1;cases m <;> simp[Loc.locs]at hk;subst hk;simp at h1
    ·have h2:=h.1.2;cases v with
     | one x=>cases x <;> simp[LV.locs,SV.locs]at hk;subst hk;simp[GK]at h2
     | row cs=>
      simp only[Bool.not_eq_true']at h2;exact (U6 _ _).1 h2 hk
     | tk=>simp[LV.locs]at hk
     | ob=>simp[LV.locs]at hk
     | mp=>simp[LV.locs]at hk
   ·simp only[get,he,if_false]at hg;exact ih h.2 hg hm
theorem pU {d:Nat}{s:St}(h:DQ d s=true){l:Loc}{v:LV}(hg:get s l=some v):∀k∈l.toks++v.toks,k≠d:=by
 induction s with
 | nil=>cases hg
 | cons p r ih=>
  obtain⟨m,u⟩:=p;simp only[DQ,uH]at h;by_cases he:m=l
  ·subst he;simp only[get,if_true]at hg;cases hg;intro k hk he;subst he;rcases List.mem_append.1 hk with hk|hk
   ·have h1:=h.1.1;cases m <;> simp[Loc.toks]at hk;subst hk;simp at h1
   ·have h2:=h.1.2;cases v with
    | one x=>cases x <;> simp[LV.toks,SV.toks]at hk;subst hk;simp[LZ]at h2
    | row cs=>
     simp only[Bool.not_eq_true']at h2;exact (pS _ _).1 h2 hk
    | tk=>simp[LV.toks]at hk
    | ob=>simp[LV.toks]at hk
    | mp=>simp[LV.toks]at hk
  ·simp only[get,he,if_false]at hg;exact ih h.2 hg
def Ctx.F (X:Ctx):Fence:={ Fence.wide with round:=X.rd }
theorem zjf {X:Ctx}{n:Nat}{P:Program}{f:FuncId}{args:Array Value}{w:World}{R:Ending->World->Prop}(h:Calls P f args w R):CallsIn X.F n P f args w R:=callsIn_wide.2 h
def upn (P:Program)(o:Oper)(a:Act)(next:Act->World->Prop)(Q:Exit->Act->World->Prop):Result Next->Prop
 | .ok (.value v) w'=>next (a.put o.dst v) w'
 | .ok .skip w'=>next (a.put o.dst undef) w'
 | .ok (.enter f args) w'=>Calls P f args w' fun
   | .returned v,Lk=>next (a.put o.dst v) Lk
   | .panicked chain,Lk=>Q (.panic chain) a Lk
   | .outgrown,_=>LetsOut Q
 | _=>False
theorem E8 (P:Program)(o:Oper)(a:Act)(next:Act->World->Prop)(Q:Exit->Act->World->Prop)(v:Value)(w:World):upn P o a next Q (.ok (.value v) w)=next (a.put o.dst v) w:=rfl
theorem kZ (P:Program)(o:Oper)(a:Act)(next:Act->World->Prop)(Q:Exit->Act->World->Prop)(w:World):upn P o a next Q (.ok .skip w)=next (a.put o.dst undef) w:=rfl
theorem zW (P:Program)(o:Oper)(a:Act)(next:Act->World->Prop)(Q:Exit->Act->World->Prop)(f:FuncId)(args:Array Value)(w:World):upn P o a next Q (.ok (.enter f args) w)=Calls P f args w fun
   | .returned v,Lk=>next (a.put o.dst v) Lk
   | .panicked chain,Lk=>Q (.panic chain) a Lk
   | .outgrown,_=>LetsOut Q:=rfl
theorem PT {X:Ctx}{o:Oper}{a:Act}{w:World}{next:Act->World->Prop}{Q:Exit->Act->World->Prop}(hd:∀c,o.op≠.defer c)(h:upn X.P o a next Q ((execOp a.eval o).run X.P w)):o.wpIn X.F 0 X.P a w next Q:=by
 refine⟨fun _ _=>trivial,?_⟩;rw[Oper.semAt_eq _ _ _ hd];generalize (execOp a.eval o).run X.P w=r at h;cases r with
 | ok v w'=>
  cases v <;> simp only[upn,Oper.uponIn]at h ⊢;all_goals first|exact h|exact h.elim|exact⟨fun h=>(by cases h),zjf h⟩
 | halt e w'=>exact h.elim
theorem DU {X:Ctx}{g:Rd}{o:Oper}{p:Prop × SV}(h:HB X g o=some p)(c:Call):o.op≠.defer c:=by
 intro e;simp[HB,e]at h
def EU (X:Ctx)(s:St)(o:Oper)(s':St):Prop:=
 ∀(G:Gh) (a:Act) (w:World),Rel X G s a w->∀(next:Act->World->Prop) (Q:Exit->Act->World->Prop),
  (∀G' a' w',Rel X G' s' a' w'->next a' w')->o.wpIn X.F 0 X.P a w next Q
section
variable {X:Ctx}{G:Gh}{s:St}{a:Act}{w:World}
theorem IR (a:Act)(dst:Option Tmp)(v:Value):(a.put dst v).tmps.size=a.tmps.size/\(a.put dst v).defers=a.defers:=by
 cases dst <;> simp[Act.put]
theorem I9 (a:Act)(d:Nat)(v:Value)(h:d<a.tmps.size):(a.put (some d) v).tmps.getD d undef=v:=by
 simp[Act.put,h]
theorem KW (a:Act)(d n:Nat)(v:Value)(h:n≠d):(a.put (some d) v).tmps.getD n undef=a.tmps.getD n undef:=by
 simp[Act.put,Array.getElem?_setIfInBounds_ne (Ne.symm h)]
theorem DL (w:World)(o:Obj)(b:Nat)(h:b<w.heap.size):(w.alloc o).heap[b]? = w.heap[b]?:=by
 simp only[World.alloc,Array.getElem?_push];rw[if_neg oO]
theorem OX (w:World)(o:Obj):(w.alloc o).heap[w.heap.size]? = some o:=by
 show (w.heap.push o)[w.heap.size]? = some o;simp
theorem Rel.setSlot {G':Gh}{w':World}(R:Rel X G s a w){B:Nat->Prop}(T:Trans X G a w G' a w' B)(hν:G'.ν=G.ν)(hτ:G'.τ=G.τ)(hB:∀b,¬B b){d:Nat}(hd:d<X.n){x:SV}{v:Value}(hx:LX G' w' x v) :
  Rel X G' (CV s (.slot d) (.one x)) (a.put (some d) v) w':=by
 have hp:=IR a (some d) v;have T':Trans X G a w G' (a.put (some d) v) w' B:=⟨hp.1,fun h=>(T.defers h).put hp.2,T.os,T.tape,T.output,T.size,T.keep,T.own,T.grow,T.new,T.nil⟩;refine R.step T' (fun l u=>l = .slot d/\u = .one x) (fun l u h=>?_) (fun l u h=>?_) (fun l u l' u' b h h' hb Ab=>h.1.trans h'.1.symm)
 ·rw[C1]at h;by_cases hl:Loc.slot d=l
  ·rw[if_pos hl]at h;cases h;exact .inl ⟨hl.symm,rfl⟩
  ·rw[if_neg hl]at h;exact .inr ⟨h,fun n hn=>KW _ _ _ _ (fun e=>hl (by rw[hn,e])),fun b _=>hB b,fun k _=>by rw[hν],fun t _=>by rw[hτ]⟩
 ·obtain⟨rfl,rfl⟩:=h;refine⟨?_,fun b hb=>by cases hb⟩;show LX G' w' x _;rw[I9 _ _ _ (by rw[R.size];exact hd)];exact hx
theorem Trans.refl (X:Ctx)(G:Gh)(a:Act)(w:World)(hn:G.τ 0=(none,0)):Trans X G a w G a w (fun _=>False):=
 ⟨rfl,fun h=>h,rfl,rfl,rfl,Nat.le_refl _,fun _ _ _=>rfl,fun _ h=>h.elim,OJ.refl _ _,fun _ _ h k=>absurd h k,hn⟩
theorem zX {o:Oper}{c:Prop}{y:SV}(h:HB X (get s) o=some (c,y))(hc:c){d:Nat}(hd:o.dst=some d)(hn:d<X.n):EU X s o (CV s (.slot d) (.one y)):=by
 intro G a w R next Q hK
 obtain⟨v,h1,h2⟩:=PS R h hc;refine PT (by first|exact DU h|(intro c e;rw[ho]at e;cases e)) ?_;rw[h1,E8,hd];exact hK G _ w (R.setSlot (Trans.refl X G a w R.nil) rfl rfl (fun _ h=>h) hn h2)
theorem ZM {o:Oper}{c:Prop}{y:SV}(h:HB X (get s) o=some (c,y))(hc:c)(hd:o.dst=none):EU X s o s:=by
 intro G a w R next Q hK
 obtain⟨v,h1,h2⟩:=PS R h hc;refine PT (by first|exact DU h|(intro c e;rw[ho]at e;cases e)) ?_;rw[h1,E8,hd];exact hK G _ w R
theorem l5 (R:Rel X G s a w)(o:Obj){G':Gh}(hD:G'.D=G.D)(hn:G'.τ 0=(none,0)):Trans X G a w G' a (w.alloc o) (fun _=>False):=by
 have Aj:∀b o',G.D b o'->(w.alloc o).cell? ⟨b,o',none⟩=w.cell? ⟨b,o',none⟩:=fun b o' hd=>World.cell?_alloc_lt _ _ _ (R.wf.lt hd);exact⟨rfl,fun h=>h.heap fun b hb=>DL w o b hb,rfl,rfl,rfl,sS,fun b hb _=>DL w o b hb,fun _ h=>h.elim,fun b o' hd=>⟨by rw[hD];exact hd,Aj b o' hd⟩,fun b o' h k=>absurd (hD ▸ h) k,hn⟩
def EV:List SV->Bool
 | []=>true
 | x::r=>x.isCell&&EV r
theorem PU (l:List SV):EV l=true↔∀c∈l,c.isCell=true:=by
 induction l with
 | nil=>simp[EV]
 | cons c r ih=>simp[EV,ih]
theorem Rel.newLoc (R:Rel X G s a w){d:Nat}(hd:d<X.n)(hf:DJ d s=true){cs:List SV}{c:Array Value}(Ak:H0 G w cs c)(Aj:EV cs=true)(Dp:ED d cs=false)(t:TypeId) :
  ∃G',Rel X G' (CV (CV s (.slot d) (.one (.loc d 0))) (.loc d) (.row cs)) (a.put (some d) (.pointer (some ⟨w.heap.size,0,none⟩))) (w.alloc (.cells c t)):=by
 refine⟨{ G with ν:=fun k=>if k=d then w.heap.size else G.ν k },?_⟩;have hp:=IR a (some d) (.pointer (some ⟨w.heap.size,0,none⟩));have T0:=l5 R (.cells c t) (G':={ G with ν:=fun k=>if k=d then w.heap.size else G.ν k }) rfl R.nil;have T:Trans X G a w { G with ν:=fun k=>if k=d then w.heap.size else G.ν k } (a.put (some d) (.pointer (some ⟨w.heap.size,0,none⟩))) (w.alloc (.cells c t)) (fun _=>False):=⟨hp.1,fun h=>(T0.defers h).put hp.2,T0.os,T0.tape,T0.output,T0.size,T0.keep,T0.own,T0.grow,T0.new,T0.nil⟩;refine R.step T (fun l u=>(l = .slot d/\u = .one (.loc d 0))\/(l = .loc d/\u = .row cs)) (fun l u h=>?_) (fun l u h=>?_) (fun l u l' u' b h h' hb Ab=>?_)
 ·rw[C1,C1]at h;by_cases h1:Loc.loc d=l;· rw[if_pos h1]at h;cases h;exact .inl (.inr ⟨h1.symm,rfl⟩)
  ·rw[if_neg h1]at h;by_cases h2:Loc.slot d=l;· rw[if_pos h2]at h;cases h;exact .inl (.inl ⟨h2.symm,rfl⟩)
   ·rw[if_neg h2]at h;refine .inr ⟨h,fun n hn=>KW _ _ _ _ (fun e=>h2 (by rw[hn,e])),fun b _ h=>h,fun k hk=>?_,fun t _=>rfl⟩;have:=pT hf h k hk;simp[this]
 ·rcases h with⟨rfl,rfl⟩|⟨rfl,rfl⟩
  ·refine⟨?_,fun b hb=>by cases hb⟩;simp only[MC,LX];rw[I9 _ _ _ (by rw[R.size];exact hd)];simp
  ·refine⟨⟨c,t,by simp only[if_true];exact OX _ _,Nat.le_of_eq Ak.1.symm,fun i x hx=>?_⟩,fun b hb=>?_⟩
   ·have hm:=uE hx;refine⟨(PU cs).1 Aj x hm,?_⟩;have Ag:i<c.size:=by rw[Ak.1];exact (uA hx).1
    refine⟨c[i],uG Ag,?_⟩;have hr:=Ak.2 i x _ hx (uG Ag);refine hr.mono T0.grow (fun k hk=>?_) (fun t _=>rfl)
    have:k≠d:=fun e=>by
     subst e;exact (U6 _ _).1 Dp (List.mem_flatMap.2 ⟨x,hm,hk⟩)
    simp[this]
   ·simp only[BI,if_true,uC]at hb;subst hb;refine⟨.inl (Nat.le_refl _),.inl R.ext.size,fun _ o hD=>?_⟩;exact absurd (R.wf.lt hD) (Nat.lt_irrefl _)
 ·rcases h with⟨rfl,rfl⟩|⟨rfl,rfl⟩;· cases hb
  ·rcases h' with⟨rfl,rfl⟩|⟨rfl,rfl⟩;· cases Ab
   ·rfl
theorem ZN {o:Oper}{t:TypeId}(ho:o.op = .alloc t){d:Nat}(hd:o.dst=some d)(hn:d<X.n){cs:List SV}(hz:DK X.P t=some cs)(hc:EV cs=true)(hf:DJ d s=true) :
  EU X s o (CV (CV s (.slot d) (.one (.loc d 0))) (.loc d) (.row cs)):=by
 intro G a w R next Q hK
 unfold DK at hz;split at hz
 ·rename_i i hi;split at hz
  ·rename_i z Qn;have Ak:=JN (w:=w) R.nil hz;simp only[Array.toArray_toList]at Ak;have Fi:ED d cs=false:=by
    have:∀(l:List Value) (cs:List SV),XL l=some cs->ED d cs=false:=by
     intro l
     induction l with
     | nil=>intro cs h;cases h;rfl
     | cons v r ih=>
      intro cs h;simp only[XL]at h;split at h
      ·rename_i x xs hx Sx;cases h;simp only[ED,ih _ Sx,Bool.or_false];unfold JF at hx;split at hx;· cases hx;rfl
       ·rename_i vs;cases hq:SM vs.toList with
        | none=>rw[hq]at hx;cases hx
        | some ds=>rw[hq]at hx;cases hx;rfl
       ·split at hx;· cases hx;rfl
        ·cases hx
      ·cases h
    exact this _ _ hz
   obtain⟨G',R'⟩:=R.newLoc hn hf Ak hc Fi t;refine PT (by first|exact DU h|(intro c e;rw[ho]at e;cases e)) ?_;simp only[execOp,ho,Instr.alloc,zeroValue,typeInfo,run_program,hi,Qn,newVar,newRow,run_newObj,Sem.run_bind,Sem.run_pure,Result.andThen_ok,E8,hd];exact hK G' _ _ R'
  ·cases hz
 ·cases hz
theorem l6 {o:Oper}{t:TypeId}{x:Operand}(ho:o.op = .box t x){d:Nat}(hd:o.dst=some d)(hn:d<X.n){y:SV}(hy:D4 X (get s) x=some y)(hc:EV (BV y)=true)(hf:DJ d s=true)(Fi:GK d y=false) :
  EU X s o (CV (CV s (.slot d) (.one (.loc d 0))) (.loc d) (.row (BV y))):=by
 intro G a w R next Q hK
 have Ak:H0 G w (BV y) (a.eval x).cells:=I8 R.nil (AD R hy);have hnl':ED d (BV y)=false:=by
  cases y with
  | v y=>
   have:∀l:List DV,ED d (l.map SV.v)=false:=by
    intro l
    induction l with
    | nil=>rfl
    | cons c r ih=>simp[ED,GK,ih]
   exact this _
  | loc k off=>simp[BV,ED,GK]at Fi ⊢;exact Fi
  | dp els i off=>rfl
  | own t els=>rfl
  | ag cs ns=>
   have:∀(l:List DV) (k:Nat),ED d (xR ns k l)=false:=by
    intro l
    induction l with
    | nil=>intro k;rfl
    | cons c r ih=>intro k;simp only[xR,ED,ih,Bool.or_false];split <;> rfl
   exact this _ _
 obtain⟨G',R'⟩:=R.newLoc hn hf Ak hc hnl' t;refine PT (by first|exact DU h|(intro c e;rw[ho]at e;cases e)) ?_;simp only[execOp,ho,Instr.box,newVar,newRow,run_newObj,Sem.run_bind,Sem.run_pure,Result.andThen_ok,E8,hd];exact hK G' _ _ R'
end
end
end Go.Proofs.YtoniciijokeidaaGreatDoor.Lift
