import Derived.WalkKit
import Derived.OrdersIn
import Derived.RangeFuncLeaves
import Derived.RangeFuncIn
import Derived.RangeFuncRecord
set_option maxHeartbeats 8000000
set_option maxRecDepth 100000
set_option linter.unusedSimpArgs false
set_option linter.unusedVariables false
set_option linter.unnecessarySimpa false
namespace Go.Proofs.YtkfiobkjflmchaaGreatDoor.Lift
open Go
theorem oO {p:Prop}(h:p:=by omega):p:=h
theorem dD {p:Prop}(h:p:=by decide):p:=h
theorem sS {p:Prop}(h:p:=by simp):p:=h
theorem kK {p:Prop}(h:p:=by kernel_rfl):p:=h
theorem tT:True:=True.intro
theorem uA {α:Type _}{l:List α}{i:Nat}{a:α}(h:l[i]? = some a):∃h:i<l.length,l[i]=a:=List.getElem?_eq_some_iff.1 h
theorem uB {α:Type _}{l:List α}{i:Nat}(h:i<l.length):l[i]? = some l[i]:=List.getElem?_eq_getElem h
theorem uC {α:Type _}(a b:α):(some a=some b)=(a=b):=Option.some.injEq a b
theorem uD {α:Type _}{β:Type _}(a:α)(b:β)(c:α)(d:β):((a,b)=(c,d))=(a=c/\b=d):=Prod.mk.injEq a b c d
theorem uE {α:Type _}{l:List α}{i:Nat}{a:α}(h:l[i]? = some a):a∈l:=List.mem_of_getElem? h
theorem uF {a b:Nat}(h:Nat.ble a b=true):a<=b:=Nat.le_of_ble_eq_true h
theorem uG {α:Type _}{l:Array α}{i:Nat}(h:i<l.size):l[i]? = some l[i]:=Array.getElem?_eq_getElem h
theorem uH (a b:Bool):((a&&b)=true)=(a=true/\b=true):=Bool.and_eq_true a b
section
inductive DV where
 | prim (v:Value)
 | agg (cs:List DV)
 | tup (cs:List DV)
 | sl (els:List (List DV))
 | iface (t:TypeId) (x:DV)
 | ref (cs:List DV)
def I6:Nat:=2147483648
def D5:Value->Prop
 | .int k n=>k.min<=n/\n<=k.max
 | .agg _=>False
 | .tuple _=>False
 | .slice none n c=>n=0/\c=0
 | .iface _ _=>False
 | _=>True
def DV.isCell:DV->Bool
 | .agg _=>false
 | .tup _=>false
 | _=>true
def DV.isAgg:DV->Bool
 | .agg _=>true
 | _=>false
inductive RV (D:Nat->Nat->Prop)(w:World):DV->Value->Prop
 | prim (v:Value) (h:D5 v):RV D w (.prim v) v
 | agg (cs:List DV) (vs:Array Value) (hl:vs.size=cs.length) (Ah:∀c∈cs,c.isCell=true)
   (h:∀(i:Nat) (c:DV) (v:Value),cs[i]? = some c->vs[i]? = some v->RV D w c v):RV D w (.agg cs) (.agg vs)
 | tup (cs:List DV) (vs:Array Value) (hl:vs.size=cs.length)
   (h:∀(i:Nat) (c:DV) (v:Value),cs[i]? = some c->vs[i]? = some v->RV D w c v):RV D w (.tup cs) (.tuple vs)
 | sl0 (b:Option Addr) (cap:Nat):RV D w (.sl []) (.slice b 0 cap)
 | sl (els:List (List DV)) (b o cap E:Nat) (val:Nat->Nat->Value) (hlen:els.length<=I6) (Bi:els.length<=cap) (hE:∀e∈els,e.length=E)
   (Ah:∀e∈els,∀c∈e,DV.isCell c=true)
   (hc:∀i j,i<els.length->j<E->w.cell? ⟨b,o+(i * E+j),none⟩=some (val i j))
   (hD:∀i j,i<els.length->j<E->D b (o+(i * E+j)))
   (h:∀(i j:Nat) (e:List DV) (c:DV),els[i]? = some e->e[j]? = some c->RV D w c (val i j)) :
   RV D w (.sl els) (.slice (some ⟨b,o,none⟩) els.length cap)
 | iface (t:TypeId) (x:DV) (v:Value) (h:RV D w x v):RV D w (.iface t x) (.iface t v)
 | ref (cs:List DV) (b o:Nat) (val:Nat->Value) (Ah:∀c∈cs,DV.isCell c=true)
   (hc:∀j,j<cs.length->w.cell? ⟨b,o+j,none⟩=some (val j)) (hD:∀j,j<cs.length->D b (o+j))
   (h:∀(j:Nat) (c:DV),cs[j]? = some c->RV D w c (val j)):RV D w (.ref cs) (.pointer (some ⟨b,o,none⟩))
def OW (D:Nat->Nat->Prop)(w:World)(D':Nat->Nat->Prop)(w':World):Prop:=
 ∀b o,D b o->D' b o/\w'.cell? ⟨b,o,none⟩=w.cell? ⟨b,o,none⟩
theorem OW.refl (D:Nat->Nat->Prop)(w:World):OW D w D w:=fun _ _ h=>⟨h,rfl⟩
theorem OW.trans {D D' D'':Nat->Nat->Prop}{w w' Jt:World}(h:OW D w D' w')(k:OW D' w' D'' Jt):OW D w D'' Jt:=
 fun b o hd=>let ⟨h1,h2⟩:=h b o hd;let ⟨k1,k2⟩:=k b o h1;⟨k1,k2.trans h2⟩
theorem RV.mono {D D':Nat->Nat->Prop}{w w':World}{x:DV}{v:Value}(g:OW D w D' w')(h:RV D w x v):RV D' w' x v:=by
 induction h with
 | prim v h=>exact .prim v h
 | agg cs vs hl Ah h ih=>exact .agg cs vs hl Ah ih
 | tup cs vs hl h ih=>exact .tup cs vs hl ih
 | sl0 b cap=>exact .sl0 b cap
 | sl els b o cap E val hlen Bi hE Ah hc hD h ih=>
  exact .sl els b o cap E val hlen Bi hE Ah (fun i j hi hj=>by rw[(g _ _ (hD i j hi hj)).2];exact hc i j hi hj) (fun i j hi hj=>(g _ _ (hD i j hi hj)).1) ih
 | iface t x v h ih=>exact .iface t x v ih
 | ref cs b o val Ah hc hD h ih=>exact .ref cs b o val Ah (fun j hj=>by rw[(g _ _ (hD j hj)).2];exact hc j hj) (fun j hj=>(g _ _ (hD j hj)).1) ih
def DV.fit:DV->Prop
 | .prim v=>D5 v
 | .agg cs=>fits cs
 | .tup cs=>fits cs
 | .sl els=>els.length<=I6/\fitss els
 | .iface _ x=>x.fit
 | .ref cs=>fits cs
where
 fits:List DV->Prop
  | []=>True
  | c::r=>c.fit/\fits r
 fitss:List (List DV)->Prop
  | []=>True
  | e::r=>fits e/\fitss r
theorem fits_iff (cs:List DV):DV.fit.fits cs↔∀(i:Nat) (c:DV),cs[i]? = some c->c.fit:=by
 induction cs with
 | nil=>simp[DV.fit.fits]
 | cons a r ih=>
  simp only[DV.fit.fits,ih];constructor
  ·rintro⟨h,k⟩ i c hc;cases i with
   | zero=>simp at hc;exact hc ▸ h
   | succ i=>exact k i c (by simpa using hc)
  ·intro h;exact⟨h 0 a rfl,fun i c hc=>h (i+1) c (by simpa using hc)⟩
theorem fS (els:List (List DV)):DV.fit.fitss els↔∀(i j:Nat) (e:List DV) (c:DV),els[i]? = some e->e[j]? = some c->c.fit:=by
 induction els with
 | nil=>simp[DV.fit.fitss]
 | cons a r ih=>
  simp only[DV.fit.fitss,ih,fits_iff];constructor
  ·rintro⟨h,k⟩ i j e c he hc;cases i with
   | zero=>simp at he;subst he;exact h j c hc
   | succ i=>exact k i j e c (by simpa using he) hc
  ·intro h;exact⟨fun j c hc=>h 0 j a c rfl hc,fun i j e c he hc=>h (i+1) j e c (by simpa using he) hc⟩
theorem RV.fit {D:Nat->Nat->Prop}{w:World}{x:DV}{v:Value}(h:RV D w x v):x.fit:=by
 induction h with
 | prim v h=>exact h
 | agg cs vs hl Ah h ih=>
  simp only[DV.fit,fits_iff];intro i c hc;have hi:i<vs.size:=by rw[hl];exact (uA hc).1
  exact ih i c _ hc (uG hi)
 | tup cs vs hl h ih=>
  simp only[DV.fit,fits_iff];intro i c hc;have hi:i<vs.size:=by rw[hl];exact (uA hc).1
  exact ih i c _ hc (uG hi)
 | sl0 b cap=>simp[DV.fit,DV.fit.fitss]
 | sl els b o cap E val hlen Bi hE Ah hc hD h ih=>
  simp only[DV.fit,fS];exact⟨hlen,ih⟩
 | iface t x v h ih=>exact ih
 | ref cs b o val Ah hc hD h ih=>
  simp only[DV.fit,fits_iff];exact ih
theorem rX {v:Value}(h:D5 v):v.oneCell' = true:=by
 cases v <;> first|rfl|exact h.elim
theorem RV.one {D:Nat->Nat->Prop}{w:World}{x:DV}{v:Value}(h:RV D w x v)(hx:x.isCell=true):v.oneCell' = true:=by
 cases h with
 | prim v h=>exact rX h
 | agg=>cases hx
 | tup=>cases hx
 | sl0=>rfl
 | sl=>rfl
 | iface=>rfl
 | ref=>rfl
inductive SV where
 | v (x:DV)
 | loc (k off:Nat)
 | dp (els:List (List DV)) (i off:Nat)
 | own (t:Nat) (els:List (List DV))
 | ag (cs:List DV) (nils:List Nat)
inductive Loc where
 | slot (n:Nat)
 | loc (n:Nat)
 | heap (b:Nat)
 | tok (t:Nat)
 deriving DecidableEq
inductive Ob where
 | lp (r:Loop)
 | it (b n:Nat) (seen:List Nat)
instance:Coe Loop Ob:=⟨.lp⟩
def Ob.obj:Ob->Obj
 | .lp r=>.loop r
 | .it b n seen=>.mapIter (some b) n seen.toArray n
inductive LV where
 | one (x:SV)
 | row (cs:List SV)
 | tk (E len:Nat)
 | ob (r:Ob)
 | mp (l:List (Int × DV))
abbrev St:=List (Loc × LV)
def get:St->Loc->Option LV
 | [],_=>none
 | (m,v)::r,l=>if m=l then some v else get r l
def QZ:St->Loc->St
 | [],_=>[]
 | (m,v)::r,l=>if m=l then QZ r l else (m,v)::QZ r l
def CM (s:St)(l:Loc)(v:LV):St:=(l,v)::QZ s l
theorem O5 (s:St)(l m:Loc):get (QZ s l) m=if l=m then none else get s m:=by
 induction s with
 | nil=>simp[QZ,get]
 | cons p r ih=>
  obtain⟨k,v⟩:=p;by_cases h:k=l
  ·simp only[QZ,h,if_true,ih,get];by_cases h':l=m <;> simp[h']
  ·by_cases h':l=m;· subst h';simp[QZ,h,get,ih]
   ·simp only[QZ,h,if_false,get,ih,h']
theorem BM (s:St)(l m:Loc)(v:LV):get (CM s l v) m=if l=m then some v else get s m:=by
 simp only[CM,get,O5];by_cases h:l=m <;> simp[h]
abbrev VR:=List (Loc × Option LV)
def apply (s:St):VR->St
 | []=>s
 | (l,some v)::e=>apply (CM s l v) e
 | (l,none)::e=>apply (QZ s l) e
def VR.says:VR->Loc->Option (Option LV)
 | [],_=>none
 | (m,v)::e,l=>match VR.says e l with
  | some x=>some x
  | none=>if m=l then some v else none
theorem N1 (e:VR):∀(s:St) (l:Loc),get (apply s e) l=(e.says l).getD (get s l):=by
 induction e with
 | nil=>intro s l;rfl
 | cons p e ih=>
  intro s l;obtain⟨m,v⟩:=p;cases v with
  | none=>
   simp only[apply,ih,VR.says,O5];cases h:VR.says e l with
   | some x=>rfl
   | none=>by_cases hm:m=l <;> simp[hm]
  | some v=>
   simp only[apply,ih,VR.says,BM];cases h:VR.says e l with
   | some x=>rfl
   | none=>by_cases hm:m=l <;> simp[hm]
structure Gh where
 D:Nat->Nat->Prop
 ν:Nat->Nat
 τ:Nat->Option Addr × Nat
def LE (G:Gh)(w:World):SV->Value->Prop
 | .v x,v=>RV G.D w x v
 | .loc k off,v=>v = .pointer (some ⟨G.ν k,off,none⟩)
 | .dp els i off,v=>∃b o E cap,RV G.D w (.sl els) (.slice (some ⟨b,o,none⟩) els.length cap)/\(∀e∈els,e.length=E)/\i<els.length/\v = .pointer (some ⟨b,o+(i * E+off),none⟩)
 | .own t els,v=>v = .slice (G.τ t).1 els.length (G.τ t).2/\RV G.D w (.sl els) v
 | .ag cs ns,v=>RV G.D w (.agg cs) v/\∀i∈ns,cs[i]? = some (.sl [])/\v.cells[i]? = some (.slice none 0 0)
def SV.isCell:SV->Bool
 | .v x=>x.isCell
 | .ag _ _=>false
 | _=>true
theorem LE.one {G:Gh}{w:World}{x:SV}{v:Value}(h:LE G w x v)(hx:x.isCell=true):v.oneCell' = true:=by
 cases x with
 | v x=>exact RV.one h hx
 | loc k off=>obtain rfl:=h;rfl
 | dp els i off=>obtain⟨b,o,E,cap,-,-,-,rfl⟩:=h;rfl
 | own t els=>obtain⟨rfl,-⟩:=h;rfl
 | ag cs ns=>cases hx
def LM (G:Gh)(w:World)(b:Nat)(cs:List SV):Prop:=
 ∃c e,w.heap[b]? = some (.cells c e (0,0))/\cs.length<=c.size/\∀(i:Nat) (x:SV),cs[i]? = some x->x.isCell=true/\∃v,c[i]? = some v/\LE G w x v
def N9 (G:Gh)(w:World)(t E len:Nat):Prop:=
 match G.τ t with
 | (none,cap)=>len=0/\cap=0
 | (some a,cap)=>len<=cap/\(len<cap->a.spot=none/\∃c e,w.heap[a.block]? = some (.cells c e (0,0))/\a.off+cap * E<=c.size/\∀j,a.off+len * E<=j->j<a.off+cap * E->¬G.D a.block j)
def HQ (G:Gh)(t len:Nat):Option Nat:=
 match G.τ t with
 | (some a,cap)=>if len<cap then some a.block else none
 | _=>none
def mA (G:Gh)(w:World)(b:Nat)(l:List (Int × DV)):Prop:=
 ∃es cl,w.heap[b]? = some (.map es cl)/\es.size=l.length/\(∀(i:Nat) (k:Int) (d:DV) (e:MapEntry),l[i]? = some (k,d)->es[i]? = some e->e.key = .int .i64 k/\RV G.D w d e.val)/\cl=l.length/\∀(i:Nat) (e:MapEntry),es[i]? = some e->e.born=i
def ME (G:Gh)(w:World)(a:Act):Loc->LV->Prop
 | .slot s,.one x=>LE G w x (a.tmps.getD s undef)
 | .loc k,.row cs=>LM G w (G.ν k) cs
 | .heap b,.row cs=>LM G w b cs
 | .tok t,.tk E len=>N9 G w t E len
 | .heap b,.ob r=>w.heap[b]? = some r.obj
 | .heap b,.mp l=>mA G w b l
 | _,_=>False
def BC (G:Gh):Loc->LV->Option Nat
 | .loc k,.row _=>some (G.ν k)
 | .heap b,.row _=>some b
 | .heap b,.ob _=>some b
 | .loc k,.ob _=>some (G.ν k)
 | .heap b,.mp _=>some b
 | .loc k,.mp _=>some (G.ν k)
 | .tok t,.tk _ len=>HQ G t len
 | _,_=>none
def Loc.isTok:Loc->Bool
 | .tok _=>true
 | _=>false
abbrev AB:=List (Nat × List (List DV))
structure Wf (gl:AB)(D:Nat->Nat->Prop)(w:World):Prop where
 there:∀b o,D b o->∃v,w.cell? ⟨b,o,none⟩=some v
 globs:∀g els,(g,els)∈gl->∃cap,RV D w (.sl els) (.slice (some ⟨g,0,none⟩) els.length cap)
theorem Wf.lt {gl:AB}{D:Nat->Nat->Prop}{w:World}(h:Wf gl D w){b o:Nat}(hd:D b o):b<w.heap.size:=by
 obtain⟨v,hv⟩:=h.there b o hd;exact World.block_lt_of_cell? w _ hv
structure Ext (ids:List Nat)(D:Nat->Nat->Prop)(w:World)(D':Nat->Nat->Prop)(w':World):Prop where
 os:w'.os=w.os
 tape:w'.tape=w.tape
 output:w'.output=w.output
 size:w.heap.size<=w'.heap.size
 block:∀b,b<w.heap.size->b∉ids->w'.heap[b]? = w.heap[b]?
 grow:OW D w D' w'
 new:∀b o,D' b o->¬D b o->w.heap.size<=b
theorem Ext.refl (ids:List Nat)(D:Nat->Nat->Prop)(w:World):Ext ids D w D w:=
 ⟨rfl,rfl,rfl,Nat.le_refl _,fun _ _ _=>rfl,OW.refl _ _,fun _ _ h k=>absurd h k⟩
inductive Md where
 | fn
 | it (l:Nat) (R:List (Nat × List DV)->Loop->Prop)
 | fm (b:Nat) (R:DV->List (Int × DV)->Prop)
 | rd (l:Nat) (r:Loop) (R:Option Code->List (Nat × List DV)->Prop)
def U8 (D:Nat):Deferred:={ target:=.collected D,args:=#[] }
structure Ctx where
 P:Program
 gl:AB
 f:FuncId
 fn:Func
 n:Nat
 ids:List Nat
 D0:Nat->Nat->Prop
 w0:World
 R:DV->List (Nat × List DV)->Prop
 md:Md
def Ctx.rd (X:Ctx):Option Nat:=match X.md with
 | .rd l _ _=>some l
 | _=>none
def UP (w0:World)(a:Act)(w:World):Prop:=∃Ds:List Nat,a.defers=Ds.map U8/\Ds.Nodup/\∀D∈Ds,w.heap[D]? = some (.deferred (some []))/\w0.heap.size<=D
theorem UP.keep {w0:World}{a a':Act}{w w':World}(h:UP w0 a w)(hd:a'.defers=a.defers)(hw:∀D:Nat,w.heap[D]? = some (Obj.deferred (some []))->w'.heap[D]? = some (Obj.deferred (some []))):UP w0 a' w':=by
 obtain⟨Ds,h1,h2,h3⟩:=h;exact⟨Ds,hd.trans h1,h2,fun D hD=>⟨hw D (h3 D hD).1,(h3 D hD).2⟩⟩
theorem UP.put {w0:World}{a a':Act}{w:World}(hd:a'.defers=a.defers)(h:UP w0 a w):UP w0 a' w:=h.keep hd fun _ h=>h
theorem UP.heap {w0:World}{a:Act}{w w':World}(h:UP w0 a w)(hw:∀b,b<w.heap.size->w'.heap[b]? = w.heap[b]?):UP w0 a w':=
 h.keep rfl fun D hD=>(hw D (Array.getElem?_eq_some_iff.1 hD).1).trans hD
theorem UP.but {w0:World}{a:Act}{w w':World}(h:UP w0 a w){b:Nat}{c:Array Value}{e:TypeId}{f:Nat × Nat}(hc:w.heap[b]? = some (.cells c e f))(hw:∀b',b'≠b->w'.heap[b']? = w.heap[b']?):UP w0 a w':=
 h.keep rfl fun D hD=>(hw D (fun e=>by subst e;rw[hc]at hD;cases hD)).trans hD
structure Rel (X:Ctx)(G:Gh)(s:St)(a:Act)(w:World):Prop where
 size:a.tmps.size=X.n
 defers:UP X.w0 a w
 ext:Ext X.ids X.D0 X.w0 G.D w
 wf:Wf X.gl G.D w
 nil:G.τ 0=(none,0)
 holds:∀l v,get s l=some v->ME G w a l v
 sep:∀l v l' v' b,get s l=some v->get s l' = some v'->BC G l v=some b->BC G l' v' = some b->l=l'
 own:∀l v b,get s l=some v->BC G l v=some b->X.w0.heap.size<=b\/(b∈X.ids/\l.isTok=false)
 data:∀l v b o,get s l=some v->BC G l v=some b->l.isTok=false->¬G.D b o
def SV.locs:SV->List Nat
 | .loc k _=>[k]
 | _=>[]
def SV.toks:SV->List Nat
 | .own t _=>[t]
 | _=>[]
def LV.locs:LV->List Nat
 | .one x=>x.locs
 | .row cs=>cs.flatMap SV.locs
 | .tk _ _=>[]
 | .ob _=>[]
 | .mp _=>[]
def LV.toks:LV->List Nat
 | .one x=>x.toks
 | .row cs=>cs.flatMap SV.toks
 | .tk _ _=>[]
 | .ob _=>[]
 | .mp _=>[]
def Loc.locs:Loc->List Nat
 | .loc k=>[k]
 | _=>[]
def Loc.toks:Loc->List Nat
 | .tok t=>[t]
 | _=>[]
structure Trans (X:Ctx)(G:Gh)(a:Act)(w:World)(G':Gh)(a':Act)(w':World)(B:Nat->Prop):Prop where
 tmps:a'.tmps.size=a.tmps.size
 defers:UP X.w0 a w->UP X.w0 a' w'
 os:w'.os=w.os
 tape:w'.tape=w.tape
 output:w'.output=w.output
 size:w.heap.size<=w'.heap.size
 keep:∀b,b<w.heap.size->¬B b->w'.heap[b]? = w.heap[b]?
 own:∀b,B b->X.w0.heap.size<=b\/b∈X.ids
 grow:OW G.D w G'.D w'
 new:∀b o,G'.D b o->¬G.D b o->(w.heap.size<=b\/(B b/\X.w0.heap.size<=b))/\∃v,w'.cell? ⟨b,o,none⟩=some v
 nil:G'.τ 0=(none,0)
theorem LE.mono {G G':Gh}{w w':World}{x:SV}{v:Value}(g:OW G.D w G'.D w')(hl:∀k∈x.locs,G'.ν k=G.ν k)(ht:∀t∈x.toks,G'.τ t=G.τ t)(h:LE G w x v):LE G' w' x v:=by
 cases x with
 | v x=>exact RV.mono g h
 | loc k off=>have e:=hl k (by simp[SV.locs]);simp only[LE]at *;rw[e];exact h
 | dp els i off=>obtain⟨b,o,E,cap,h1,h2⟩:=h;exact⟨b,o,E,cap,RV.mono g h1,h2⟩
 | own t els=>have e:=ht t (by simp[SV.toks]);simp only[LE]at *;rw[e];exact⟨h.1,RV.mono g h.2⟩
 | ag cs ns=>exact⟨RV.mono g h.1,h.2⟩
theorem LM.mono {G G':Gh}{w w':World}{b:Nat}{cs:List SV}(g:OW G.D w G'.D w')(hb:w'.heap[b]? = w.heap[b]?)(hl:∀k∈cs.flatMap SV.locs,G'.ν k=G.ν k)(ht:∀t∈cs.flatMap SV.toks,G'.τ t=G.τ t)(h:LM G w b cs):LM G' w' b cs:=by
 obtain⟨c,e,h1,h2,h3⟩:=h;refine⟨c,e,hb.trans h1,h2,fun i x hx=>?_⟩;obtain⟨hc,v,hv,hr⟩:=h3 i x hx;have hm:x∈cs:=uE hx;exact⟨hc,v,hv,hr.mono g (fun k hk=>hl k (List.mem_flatMap.2 ⟨x,hm,hk⟩)) (fun t hk=>ht t (List.mem_flatMap.2 ⟨x,hm,hk⟩))⟩
theorem H9 {G:Gh}{w:World}{a:Act}{l:Loc}{v:LV}{b:Nat}(h:ME G w a l v)(hb:BC G l v=some b):b<w.heap.size:=by
 have key:∀{o:Obj},w.heap[b]? = some o->b<w.heap.size:=fun h=>(Array.getElem?_eq_some_iff.1 h).1;cases l with
 | slot s=>cases v <;> cases hb
 | loc k=>
  cases v with
  | row cs=>simp only[BC,uC]at hb;subst hb;obtain⟨c,e,h1,_⟩:=h;exact key h1
  | one x=>cases hb
  | tk E len=>cases hb
  | ob r=>exact h.elim
  | mp l=>exact h.elim
 | heap k=>
  cases v with
  | row cs=>simp only[BC,uC]at hb;subst hb;obtain⟨c,e,h1,_⟩:=h;exact key h1
  | one x=>cases hb
  | tk E len=>cases hb
  | ob r=>simp only[BC,uC]at hb;subst hb;exact key h
  | mp l=>simp only[BC,uC]at hb;subst hb;obtain⟨es,cl,h1,_⟩:=h;exact key h1
 | tok t=>
  cases v with
  | row cs=>cases hb
  | one x=>cases hb
  | ob r=>cases hb
  | mp l=>cases hb
  | tk E len=>
   simp only[BC,HQ,ME,N9]at hb h;split at hb
   ·rename_i aa cap heq;rw[heq]at h;obtain⟨h2,h3⟩:=h;split at hb
    ·rename_i Ac;obtain⟨-,c,e,h4,_⟩:=h3 Ac;cases hb;exact key h4
    ·cases hb
   ·cases hb
theorem Trans.kept {X:Ctx}{G G':Gh}{a a':Act}{w w':World}{B:Nat->Prop}(T:Trans X G a w G' a' w' B){l:Loc}{v:LV}
  (Yc:∀s,l = .slot s->a'.tmps.getD s undef=a.tmps.getD s undef) (hB:∀b,BC G l v=some b->¬B b)
  (hl:∀k∈l.locs++v.locs,G'.ν k=G.ν k) (ht:∀t∈l.toks++v.toks,G'.τ t=G.τ t) (h:ME G w a l v) :
  ME G' w' a' l v/\BC G' l v=BC G l v:=by
 cases l with
 | slot s=>
  cases v with
  | one x=>
   refine⟨?_,rfl⟩;simp only[ME]at *;rw[Yc s rfl];exact h.mono T.grow (fun k hk=>hl k (by simp[LV.locs,hk])) (fun t hk=>ht t (by simp[LV.toks,hk]))
  | row cs=>exact h.elim
  | tk E len=>exact h.elim
  | ob r=>exact h.elim
  | mp l=>exact h.elim
 | loc k=>
  cases v with
  | row cs=>
   have e:G'.ν k=G.ν k:=hl k (by simp[Loc.locs]);have Ac:=H9 (l:=.loc k) (v:=.row cs) h rfl;refine⟨?_,by simp[BC,e]⟩;simp only[ME]at *;rw[e];exact h.mono T.grow (T.keep _ Ac (hB _ rfl)) (fun j hj=>hl j (by simp only[LV.locs,List.mem_append];exact .inr hj)) (fun t hj=>ht t (by simp only[LV.toks,List.mem_append];exact .inr hj))
  | one x=>exact h.elim
  | tk E len=>exact h.elim
  | ob r=>exact h.elim
  | mp l=>exact h.elim
 | heap k=>
  cases v with
  | row cs=>
   have Ac:=H9 (l:=.heap k) (v:=.row cs) h rfl;refine⟨?_,by simp[BC]⟩;simp only[ME]at *;exact h.mono T.grow (T.keep _ Ac (hB _ rfl)) (fun j hj=>hl j (by simp only[LV.locs,List.mem_append];exact .inr hj)) (fun t hj=>ht t (by simp only[LV.toks,List.mem_append];exact .inr hj))
  | one x=>exact h.elim
  | tk E len=>exact h.elim
  | ob r=>
   have Ac:=H9 (l:=.heap k) (v:=.ob r) h rfl;refine⟨?_,by simp[BC]⟩;simp only[ME]at *;exact (T.keep _ Ac (hB _ rfl)).trans h
  | mp l=>
   have Ac:=H9 (l:=.heap k) (v:=.mp l) h rfl;refine⟨?_,by simp[BC]⟩;obtain⟨es,cl,h1,h2,h3,h4⟩:=h;exact⟨es,cl,(T.keep _ Ac (hB _ rfl)).trans h1,h2,fun i k d e hi he=>⟨(h3 i k d e hi he).1,(h3 i k d e hi he).2.mono T.grow⟩,h4⟩
 | tok t=>
  cases v with
  | row cs=>exact h.elim
  | one x=>exact h.elim
  | ob r=>exact h.elim
  | mp l=>exact h.elim
  | tk E len=>
   have e:G'.τ t=G.τ t:=ht t (by simp[Loc.toks]);refine⟨?_,by simp[BC,HQ,e]⟩;have Ac:=fun b=>H9 (l:=.tok t) (v:=.tk E len) (b:=b) h;simp only[ME,N9,BC,HQ]at *;rw[e];cases hh:G.τ t with
   | mk o cap=>
    cases o with
    | none=>rw[hh]at h;exact h
    | some p=>
     rw[hh]at h Ac hB;obtain⟨h2,h3⟩:=h;refine⟨h2,fun hc=>?_⟩;obtain⟨h1,c,e',h4,h5,h6⟩:=h3 hc;have Gx:=Ac p.block (by simp[hc]);have Et:=hB p.block (by simp[hc]);refine⟨h1,c,e',(T.keep _ Gx Et).trans h4,h5,fun j hj1 Wu hD=>?_⟩;have Aw:=h6 j hj1 Wu;rcases (T.new _ _ hD Aw).1 with Uk|⟨hbb,_⟩;· omega
     ·exact Et hbb
theorem Ext.step {X:Ctx}{G G':Gh}{a a':Act}{w w':World}{B:Nat->Prop}(T:Trans X G a w G' a' w' B)(h:Ext X.ids X.D0 X.w0 G.D w):Ext X.ids X.D0 X.w0 G'.D w':=by
 refine⟨T.os.trans h.os,T.tape.trans h.tape,T.output.trans h.output,Nat.le_trans h.size T.size,fun b hb hn=>?_,h.grow.trans T.grow,fun b o hd hn=>?_⟩
 ·have hnB:¬B b:=fun hB=>by
   rcases T.own b hB with h1|h1;· omega
   ·exact hn h1
  exact (T.keep b (by have:=h.size;omega) hnB).trans (h.block b hb hn)
 ·by_cases hg:G.D b o;· exact h.new b o hg hn
  ·rcases (T.new b o hd hg).1 with h1|⟨_,h1⟩;· have:=h.size;omega
   ·exact h1
theorem Wf.step {X:Ctx}{G G':Gh}{a a':Act}{w w':World}{B:Nat->Prop}(T:Trans X G a w G' a' w' B)(h:Wf X.gl G.D w):Wf X.gl G'.D w':=by
 refine⟨fun b o hd=>?_,fun g els hg=>?_⟩
 ·by_cases hg:G.D b o
  ·obtain⟨v,hv⟩:=h.there b o hg;exact⟨v,(T.grow b o hg).2.trans hv⟩
  ·exact (T.new b o hd hg).2
 ·obtain⟨cap,hr⟩:=h.globs g els hg;exact⟨cap,hr.mono T.grow⟩
theorem Rel.step {X:Ctx}{G G':Gh}{a a':Act}{w w':World}{B:Nat->Prop}{s s':St}(R:Rel X G s a w)(T:Trans X G a w G' a' w' B)(New:Loc->LV->Prop)
  (Vo:∀l v,get s' l=some v->New l v\/(get s l=some v/\(∀n,l = .slot n->a'.tmps.getD n undef=a.tmps.getD n undef)/\(∀b,BC G l v=some b->¬B b) /\
   (∀k∈l.locs++v.locs,G'.ν k=G.ν k)/\(∀t∈l.toks++v.toks,G'.τ t=G.τ t)))
  (Jn:∀l v,New l v->ME G' w' a' l v/\∀b,BC G' l v=some b->(w.heap.size<=b\/B b)/\(X.w0.heap.size<=b\/(b∈X.ids/\l.isTok=false))/\(l.isTok=false->∀o,¬G'.D b o))
  (hsep:∀l v l' v' b,New l v->New l' v'->BC G' l v=some b->BC G' l' v' = some b->l=l'):Rel X G' s' a' w':=by
 have hk:∀l v,get s' l=some v->New l v\/(get s l=some v/\ME G' w' a' l v/\BC G' l v=BC G l v/\∀b,BC G l v=some b->b<w.heap.size/\¬B b):=by
  intro l v h;rcases Vo l v h with h|⟨h1,h2,h3,h4,h5⟩;· exact .inl h
  ·have hh:=R.holds l v h1;obtain⟨k1,k2⟩:=T.kept h2 h3 h4 h5 hh;exact .inr ⟨h1,k1,k2,fun b hb=>⟨H9 hh hb,h3 b hb⟩⟩
 refine⟨T.tmps.trans R.size,T.defers R.defers,R.ext.step T,R.wf.step T,T.nil,fun l v h=>?_,fun l v l' v' b h h' hb Ai=>?_,fun l v b h hb=>?_,fun l v b o h hb ht=>?_⟩
 ·rcases hk l v h with h|⟨_,h,_⟩;· exact (Jn l v h).1
  ·exact h
 ·rcases hk l v h with h|⟨h1,_,h3,h4⟩
  ·rcases hk l' v' h' with h' | ⟨k1,_,k3,k4⟩;· exact hsep l v l' v' b h h' hb Ai
   ·obtain⟨q,-,-⟩:=(Jn l v h).2 b hb;obtain⟨q1,q2⟩:=k4 b (k3 ▸ Ai);rcases q with q|q;· omega
    ·exact absurd q q2
  ·rcases hk l' v' h' with h' | ⟨k1,_,k3,k4⟩
   ·obtain⟨q,-,-⟩:=(Jn l' v' h').2 b Ai;obtain⟨q1,q2⟩:=h4 b (h3 ▸ hb);rcases q with q|q;· omega
    ·exact absurd q q2
   ·exact R.sep l v l' v' b h1 k1 (h3 ▸ hb) (k3 ▸ Ai)
 ·rcases hk l v h with h|⟨h1,_,h3,h4⟩;· exact ((Jn l v h).2 b hb).2.1
  ·exact R.own l v b h1 (h3 ▸ hb)
 ·rcases hk l v h with h|⟨h1,_,h3,h4⟩;· exact ((Jn l v h).2 b hb).2.2 ht o
  ·intro hD;have hn:=R.data l v b o h1 (h3 ▸ hb) ht;obtain⟨q1,q2⟩:=h4 b (h3 ▸ hb);rcases (T.new b o hD hn).1 with h5|⟨h5,_⟩;· omega
   ·exact q2 h5
end
section
def zn1:TypeDesc->Bool
 | .struct _ | .array _ _=>true
 | _=>false
def EE (P:Program)(t:TypeId):Option (Bool × Nat):=
 match P.underlying t,P.info? t with
 | some d,some i=>some (zn1 d,i.size)
 | _,_=>none
def E0 (P:Program)(t:TypeId):Option Nat:=
 match P.underlying t with
 | some (.slice e)=>(P.info? e).map (·.size)
 | _=>none
def rY (P:Program)(t:TypeId):Option (Nat × Nat):=
 match P.underlying t with
 | some (.array n e)=>(P.info? e).map fun i=>(n,i.size)
 | _=>none
def BD (P:Program)(t f:Nat):Option (Bool × Nat × Nat):=
 match P.underlying t with
 | some (.struct fs)=>
  match fs[f]? with
  | some fl=>
   match EE P fl.type with
   | some (b,n)=>if n=0 then none else some (b,fl.offset,n)
   | none=>none
  | none=>none
 | _=>none
def zR (P:Program)(t:TypeId):Bool:=
 match P.underlying t with
 | some .bool=>true
 | _=>false
def RI (P:Program)(t:TypeId):Bool:=
 match P.underlying t with
 | some (.interface _)=>false
 | some _=>true
 | none=>false
def zbp (P:Program)(t:TypeId):Option IntKind:=
 match P.underlying t with
 | some (.int k)=>some k
 | _=>none
def jE (P:Program)(t:TypeId):Bool:=
 match P.underlying t with
 | some (.pointer _)=>true
 | _=>false
def C9 (k:IntKind)(n:Int):Prop:=k.min<=n/\n<=k.max
instance (k:IntKind) (n:Int):Decidable (C9 k n):=inferInstanceAs (Decidable (_/\_))
theorem N2 (n:Int):C9 .i64 n↔-9223372036854775808<=n/\n<=9223372036854775807:=by
 have h1:IntKind.i64.min = -9223372036854775808:=dD;have h2:IntKind.i64.max=9223372036854775807:=dD;rw[C9,h1,h2]
theorem KT {k:IntKind}{n:Int}(h:C9 k n):k.wrap n=n:=by
 obtain⟨h1,h2⟩:=h;cases k <;> simp[IntKind.min,IntKind.max,IntKind.signed,IntKind.bits]at h1 h2 <;> simp[IntKind.wrap,IntKind.signed,IntKind.bits] <;> (try split) <;> omega
def aX:Value->Bool
 | .int k n=>decide (C9 k n)
 | .agg _=>false
 | .tuple _=>false
 | .slice _ _ _=>false
 | .iface _ _=>false
 | _=>true
theorem aY {v:Value}(h:aX v=true):D5 v:=by
 cases v <;> first|trivial|(simp[aX]at h;exact h)|(simp[aX]at h)
def rZ:Value->Option DV
 | .slice none 0 0=>some (.sl [])
 | v=>if aX v then some (.prim v) else none
def TC:List Value->Option (List DV)
 | []=>some []
 | v::r=>match rZ v,TC r with
  | some x,some xs=>some (x::xs)
  | _,_=>none
def JH:Value->Option SV
 | .slice none 0 0=>some (.own 0 [])
 | .agg cs=>(TC cs.toList).map fun ds=>.v (.agg ds)
 | v=>if aX v then some (.v (.prim v)) else none
theorem jF {G:Gh}{w:World}{v:Value}{x:DV}(h:rZ v=some x):RV G.D w x v/\x.isCell=true:=by
 unfold rZ at h;split at h;· cases h;exact⟨.sl0 _ _,rfl⟩
 ·split at h;· cases h;exact⟨.prim _ (aY ‹_›),rfl⟩
  ·cases h
theorem UB {G:Gh}{w:World}:∀{l:List Value} {ds:List DV},TC l=some ds->l.length=ds.length/\(∀c∈ds,c.isCell=true) /\
  ∀(i:Nat) (c:DV) (v:Value),ds[i]? = some c->l[i]? = some v->RV G.D w c v
 | [],ds,h=>by cases h;simp
 | v::r,ds,h=>by
  simp only[TC]at h;split at h
  ·rename_i x xs hx Yn;cases h;obtain⟨h1,h2,h3⟩:=UB (G:=G) (w:=w) Yn;obtain⟨k1,k2⟩:=jF (G:=G) (w:=w) hx;refine⟨by simp[h1],fun c hc=>?_,fun i c v hc hv=>?_⟩
   ·rcases List.mem_cons.1 hc with rfl|hc;· exact k2
    ·exact h2 c hc
   ·cases i with
    | zero=>simp at hc hv;subst hc hv;exact k1
    | succ i=>exact h3 i c v (by simpa using hc) (by simpa using hv)
  ·cases h
theorem VS {G:Gh}{w:World}(hn:G.τ 0=(none,0)){v:Value}{x:SV}(h:JH v=some x):LE G w x v:=by
 unfold JH at h;split at h
 ·cases h;simp only[LE,hn];exact⟨rfl,.sl0 _ _⟩
 ·rename_i cs;cases hd:TC cs.toList with
  | none=>rw[hd]at h;cases h
  | some ds=>
   rw[hd]at h;cases h;obtain⟨h1,h2,h3⟩:=UB (G:=G) (w:=w) hd;exact .agg ds cs (by simpa using h1) h2 (fun i c v hc hv=>h3 i c v hc (by simpa using hv))
 ·split at h;· cases h;exact .prim _ (aY ‹_›)
  ·cases h
def FQ:AB->Nat->Option (List (List DV))
 | [],_=>none
 | (g,els)::r,n=>if g=n then some els else FQ r n
theorem s4 {gl:AB}{n:Nat}{els:List (List DV)}(h:FQ gl n=some els):(n,els)∈gl:=by
 induction gl with
 | nil=>cases h
 | cons p r ih=>
  obtain⟨g,e⟩:=p;simp only[FQ]at h;split at h;· cases h;subst_vars;simp
  ·exact List.mem_cons_of_mem _ (ih h)
def wide:List (List DV)->Option Nat
 | []=>none
 | e::_=>some e.length
abbrev Rd:=Loc->Option LV
def CS (X:Ctx)(g:Rd):Operand->Option SV
 | .tmp t=>match g (.slot t) with
  | some (.one x)=>some x
  | _=>none
 | .const v=>JH v
 | .global b=>match FQ X.gl b with
  | some (e::r)=>some (.dp (e::r) 0 0)
  | _=>none
 | .func f=>some (.v (.prim (.func (.func f) #[] #[])))
theorem A8 {X:Ctx}{G:Gh}{s:St}{a:Act}{w:World}(R:Rel X G s a w){x:Operand}{y:SV}(h:CS X (get s) x=some y):LE G w y (a.eval x):=by
 cases x with
 | tmp t=>
  simp only[CS]at h;split at h;· rename_i z hz;cases h;exact R.holds _ _ hz
  ·cases h
 | const v=>exact VS R.nil h
 | global b=>
  simp only[CS]at h;split at h
  ·rename_i e r hg;cases h;obtain⟨cap,hr⟩:=R.wf.globs b _ (s4 hg);have Yh:=hr;cases hr with
   | sl els b' o Ba E val hlen Bi hE Ah hc hD hh=>
    exact⟨b,0,E,cap,Yh,hE,sS,by simp[Act.eval]⟩
  ·cases h
 | func f=>
  cases h;exact .prim _ tT
def f8:SV->Option DV
 | .v x=>some x
 | .own _ els=>some (.sl els)
 | .ag cs _=>some (.agg cs)
 | .dp els i 0=>(els[i]?).map .ref
 | _=>none
theorem zgq {G:Gh}{w:World}{els:List (List DV)}{i:Nat}{e:List DV}{v:Value}(he:els[i]? = some e)(hr:LE G w (.dp els i 0) v):RV G.D w (.ref e) v:=by
 obtain⟨b,o,E,cap,h1,h2,h3,rfl⟩:=hr;have Oo:e.length=E:=h2 e (uE he);cases h1 with
 | sl0=>simp at h3
 | sl _ _ _ _ E' val hlen Bi Kf Ah hc hD hh=>
  have Qs:E' = E:=by rw[<- Kf e (uE he),Oo]
  subst Qs;refine .ref e b (o+(i * E'+0)) (fun j=>val i j) (Ah e (uE he)) (fun j hj=>?_) (fun j hj=>?_) (fun j c hj=>hh i j e c he hj);· rw[Nat.add_zero,Nat.add_assoc];exact hc i j h3 oO
  ·rw[Nat.add_zero,Nat.add_assoc];exact hD i j h3 oO
theorem JN {G:Gh}{w:World}{x:SV}{y:DV}{v:Value}(h:f8 x=some y)(hr:LE G w x v):RV G.D w y v:=by
 cases x with
 | v x=>cases h;exact hr
 | own t els=>cases h;exact hr.2
 | ag cs ns=>cases h;exact hr.1
 | loc=>cases h
 | dp els i off=>
  cases off with
  | zero=>
   obtain⟨e,he,rfl⟩:=Option.map_eq_some_iff.1 h;exact zgq he hr
  | succ off=>cases h
theorem z5w {x:SV}{y:DV}(h:f8 x=some y)(hc:x.isCell=true):y.isCell=true:=by
 cases x with
 | v x=>cases h;exact hc
 | own t els=>cases h;rfl
 | ag cs ns=>cases hc
 | loc=>cases h
 | dp els i off=>
  cases off with
  | zero=>obtain⟨e,he,rfl⟩:=Option.map_eq_some_iff.1 h;rfl
  | succ off=>cases h
def JZ:List SV->Option (List DV)
 | []=>some []
 | x::r=>match f8 x,JZ r with
  | some y,some ys=>some (y::ys)
  | _,_=>none
theorem P0:∀{l:List SV} {ds:List DV},JZ l=some ds->l.length=ds.length/\∀(i:Nat) (c:DV),ds[i]? = some c->∃x,l[i]? = some x/\f8 x=some c
 | [],ds,h=>by cases h;simp
 | x::r,ds,h=>by
  simp only[JZ]at h;split at h
  ·rename_i y ys hy Ic;cases h;obtain⟨h1,h2⟩:=P0 Ic;refine⟨by simp[h1],fun i c hc=>?_⟩;cases i with
   | zero=>simp at hc;subst hc;exact⟨x,rfl,hy⟩
   | succ i=>obtain⟨z,hz⟩:=h2 i c (by simpa using hc);exact⟨z,by simpa using hz.1,hz.2⟩
  ·cases h
theorem z5x (cs:List DV):JZ (cs.map SV.v)=some cs:=by
 induction cs with
 | nil=>rfl
 | cons c r ih=>simp[JZ,f8,ih]
def GK (X:Ctx)(g:Rd):List Operand->Option (List DV)
 | []=>some []
 | x::r=>match (CS X g x).bind f8,GK X g r with
  | some y,some ys=>some (y::ys)
  | _,_=>none
def MF (op:BinOp)(k:IntKind)(a b:Int):Option (Prop × SV):=
 match op with
 | .add=>some (C9 k (a+b),.v (.prim (.int k (a+b))))
 | .sub=>some (C9 k (a - b),.v (.prim (.int k (a - b))))
 | .mul=>some (C9 k (a * b),.v (.prim (.int k (a * b))))
 | .rem=>some (b≠0/\C9 k (a.tmod b),.v (.prim (.int k (a.tmod b))))
 | .quo=>some (b≠0/\C9 k (a.tdiv b),.v (.prim (.int k (a.tdiv b))))
 | .eql=>some (True,.v (.prim (.bool (a==b))))
 | .neq=>some (True,.v (.prim (.bool (a != b))))
 | .lss=>some (True,.v (.prim (.bool (decide (a<b)))))
 | .leq=>some (True,.v (.prim (.bool (decide (a<=b)))))
 | .gtr=>some (True,.v (.prim (.bool (decide (a > b)))))
 | .geq=>some (True,.v (.prim (.bool (decide (a>=b)))))
 | _=>none
def ML (cs:List SV)(agg:Bool)(off n:Nat):Option SV:=
 if agg then
  match JZ ((cs.drop off).take n) with
  | some ds=>if ds.length=n then some (.v (.agg ds)) else none
  | none=>none
 else cs[off]?
def MG (cs:List DV)(agg:Bool)(off n:Nat):Option DV:=
 if agg then if ((cs.drop off).take n).length=n then some (.agg ((cs.drop off).take n)) else none
 else cs[off]?
def DN:DV->List DV
 | .agg cs=>cs
 | x=>[x]
def I9 (d:Nat):List Nat->Bool
 | []=>false
 | x::r=>d==x||I9 d r
def zS (ns:List Nat):Nat->List DV->List SV
 | _,[]=>[]
 | k,d::r=>(if I9 k ns then .own 0 [] else .v d)::zS ns (k+1) r
theorem jG (ns:List Nat):∀(cs:List DV) (k:Nat),(zS ns k cs).length=cs.length/\∀i:Nat,(zS ns k cs)[i]? = cs[i]?.map fun d=>if I9 (k+i) ns then SV.own 0 [] else .v d
 | [],k=>by simp[zS]
 | d::r,k=>by
  obtain⟨h1,h2⟩:=jG ns r (k+1);refine⟨by simp[zS,h1],fun i=>?_⟩;cases i with
  | zero=>simp[zS]
  | succ i=>simp only[zS,List.getElem?_cons_succ,h2];rw[show k+1+i=k+(i+1) from oO]
theorem z5y (d:Nat)(l:List Nat):I9 d l=true↔d∈l:=by
 induction l with
 | nil=>simp[I9]
 | cons x r ih=>simp[I9,ih]
def GO:Nat->List SV->List Nat
 | _,[]=>[]
 | k,.own 0 []::r=>k::GO (k+1) r
 | k,_::r=>GO (k+1) r
theorem UQ {i:Nat}:∀{cs:List SV} {k:Nat},i∈GO k cs->∃j,i=k+j/\cs[j]? = some (.own 0 [])
 | [],_,h=>by cases h
 | c::r,k,h=>by
  unfold GO at h;split at h;· cases h
  ·rename_i heq;cases heq;rcases List.mem_cons.1 h with rfl|h;· exact⟨0,rfl,rfl⟩
   ·obtain⟨j,h1,h2⟩:=UQ h;exact⟨j+1,oO,by simpa using h2⟩
  ·rename_i heq;cases heq;obtain⟨j,h1,h2⟩:=UQ h;exact⟨j+1,oO,by simpa using h2⟩
def BV:SV->List SV
 | .v x=>(DN x).map .v
 | .ag cs ns=>zS ns 0 cs
 | x=>[x]
def put (cs:List SV):Nat->List SV->List SV
 | 0,xs=>xs++cs.drop xs.length
 | n+1,xs=>match cs with
  | []=>[]
  | c::r=>c::put r n xs
def aZ:List Value->Option (List SV)
 | []=>some []
 | v::r=>match JH v,aZ r with
  | some x,some xs=>some (x::xs)
  | _,_=>none
def EH (P:Program)(t:TypeId):Option (List SV):=
 match P.info? t with
 | some i=>match i.zero with
  | some z=>aZ z.cells.toList
  | none=>none
 | none=>none
def DW (P:Program)(t:TypeId):Option (List (Nat × Nat)):=
 match P.underlying t with
 | some (.struct fields)=>fields.toList.mapM (fun f=>(P.info? f.type).map fun i=>(f.offset,i.size))
 | some (.array n e)=>(P.info? e).map fun i=>(List.range n).map fun k=>(k * i.size,i.size)
 | _=>none
def UC (places:List (Nat × Nat))(X:Ctx)(g:Rd)(cells:List SV):List (Nat × Operand)->Option (List SV)
 | []=>some cells
 | (i,x)::rest=>
  match places[i]?,CS X g x with
  | some (off,size),some y=>
   if (BV y).length=size/\off+size<=cells.length then UC places X g (put cells off (BV y)) rest else none
  | _,_=>none
def JO:List DV->Bool
 | []=>true
 | c::r=>c.isCell&&JO r
def loadAt (X:Ctx)(g:Rd)(t:TypeId):SV->Option SV
 | .loc k off=>match EE X.P t,g (.loc k) with
  | some (agg,n),some (.row cs)=>ML cs agg off n
  | _,_=>none
 | .dp els i off=>match EE X.P t,els[i]? with
  | some (agg,n),some e=>(MG e agg off n).map .v
  | _,_=>none
 | .v (.prim (.pointer (some ⟨b,off,none⟩)))=>match EE X.P t,g (.heap b) with
  | some (agg,n),some (.row cs)=>ML cs agg off n
  | _,_=>none
 | .v (.ref cs)=>match EE X.P t with
  | some (agg,n)=>(MG cs agg 0 n).map .v
  | none=>none
 | _=>none
def LN:SV->Option (List (List DV))
 | .v (.sl els)=>some els
 | .own _ els=>some els
 | _=>none
def EZ (X:Ctx)(g:Rd)(d:Nat):Option Operand->Option Int
 | none=>some d
 | some x=>match CS X g x with
  | some (.v (.prim (.int _ n)))=>some n
  | _=>none
def O6 (X:Ctx)(g:Rd)(c:Call):Option (Prop × SV):=
 match c.callee,c.args.toList,c.argTypes.toList with
 | .builtin .len,[x],[t]=>
  match E0 X.P t,(CS X g x).bind LN with
  | some _,some els=>some (True,.v (.prim (.int .i64 els.length)))
  | _,_=>match E0 X.P t,CS X g x with
   | some _,some (.v (.prim (.slice _ n _)))=>some (n<=I6,.v (.prim (.int .i64 n)))
   | _,_=>none
 | .builtin .max,[x,y],_=>
  match CS X g x,CS X g y with
  | some (.v (.prim (.int k a))),some (.v (.prim (.int _ b)))=>some (C9 k b,.v (.prim (.int k (if b > a then b else a))))
  | _,_=>none
 | .builtin .min,[x,y],_=>
  match CS X g x,CS X g y with
  | some (.v (.prim (.int k a))),some (.v (.prim (.int _ b)))=>some (C9 k b,.v (.prim (.int k (if b<a then b else a))))
  | _,_=>none
 | _,_,_=>none
def b5 (X:Ctx)(g:Rd):List Operand->Option (List Value)
 | []=>some []
 | x::r=>match CS X g x,b5 X g r with
  | some (.v (.prim v)),some vs=>some (v::vs)
  | _,_=>none
def mB (op:BinOp)(is:Bool):Option (Prop × SV):=
 match op with
 | .eql=>some (True,.v (.prim (.bool is)))
 | .neq=>some (True,.v (.prim (.bool (!is))))
 | _=>none
def b6 (P:Program)(t:TypeId):Option Value:=
 match P.info? t with
 | some i=>match i.zero with
  | some (.int k n)=>if aX (.int k n) then some (.int k n) else none
  | some (.pointer none)=>some (.pointer none)
  | _=>none
 | none=>none
def taV (b:Bool)(asserted:TypeId)(ok:Bool)(z:Option Value)(x:Option SV):Option (Prop × SV):=
 match x with
 | some (.v (.iface t y))=>if b then
   if t=asserted then some (True,.v (if ok then .tup [y,.prim (.bool true)] else y))
   else if ok then match z with
    | some z=>some (True,.v (.tup [.prim z,.prim (.bool false)]))
    | none=>none
   else none
  else none
 | _=>none
def GP (X:Ctx)(g:Rd)(o:Oper):Option (Prop × SV):=
 match o.op with
 | .move x=>(CS X g x).map (True,·)
 | .assign x=>(CS X g x).map (True,·)
 | .pick c x y=>
  match CS X g c with
  | some (.v (.prim (.bool true)))=>(CS X g x).map (True,·)
  | some (.v (.prim (.bool false)))=>(CS X g y).map (True,·)
  | _=>none
 | .binOp op t x y _=>
  match CS X g x,CS X g y with
  | some (.v (.prim (.int k a))),some (.v (.prim (.int k' b)))=>if k=k' then MF op k a b else none
  | some (.v (.prim (.bool a))),some (.v (.prim (.bool b)))=>
   if zR X.P t then
    match op with
    | .eql=>some (True,.v (.prim (.bool (a==b))))
    | .neq=>some (True,.v (.prim (.bool (!(a==b)))))
    | _=>none
   else none
  | some (.v (.ref _)),some (.v (.prim (.pointer none)))=>if jE X.P t then mB op false else none
  | some (.v (.prim (.pointer none))),some (.v (.prim (.pointer none)))=>if jE X.P t then mB op true else none
  | _,_=>none
 | .unOp op _ x=>
  match op,CS X g x with
  | .not,some (.v (.prim (.bool b)))=>some (True,.v (.prim (.bool (!b))))
  | .neg,some (.v (.prim (.int k n)))=>some (C9 k (0 - n),.v (.prim (.int k (0 - n))))
  | _,_=>none
 | .extract x i=>
  match CS X g x with
  | some (.v (.tup cs))=>cs[i]?.map fun c=>(True,.v c)
  | _=>none
 | .field t x f=>
  match BD X.P t f,CS X g x with
  | some (agg,off,n),some (.v y)=>(MG (DN y) agg off n).map fun c=>(y.isAgg=true,.v c)
  | _,_=>none
 | .fieldAddr t x f=>
  match BD X.P t f,CS X g x with
  | some (_,Bl,_),some (.loc k off)=>some (True,.loc k (off+Bl))
  | some (_,Bl,_),some (.dp els i off)=>some (True,.dp els i (off+Bl))
  | some (_,Bl,_),some (.v (.prim (.pointer (some ⟨b,off,none⟩))))=>some (True,.v (.prim (.pointer (some ⟨b,off+Bl,none⟩))))
  | some (_,Bl,_),some (.v (.ref cs))=>some (True,.dp [cs] 0 Bl)
  | _,_=>none
 | .indexAddr t x i=>
  match CS X g x,CS X g i with
  | some y,some (.v (.prim (.int _ n)))=>
   match E0 X.P t,LN y with
   | some E,some els=>match els[n.toNat]? with
    | some e=>some (0<=n/\e.length=E,.dp els n.toNat 0)
    | none=>none
   | _,_=>match rY X.P t,y with
    | some (len,E),.loc k off=>some (0<=n/\n<len/\1<len,.loc k (off+n.toNat * E))
    | some (len,E),.dp els j 0=>match els[j+n.toNat]? with
     | some e=>some (0<=n/\n<len/\1<len/\e.length=E,.dp els (j+n.toNat) 0)
     | none=>none
    | some (len,E),.dp els j (off+1)=>some (0<=n/\n<len/\1<len,.dp els j (off+1+n.toNat * E))
    | some (len,E),.v (.prim (.pointer (some ⟨b,off,none⟩)))=>some (0<=n/\n<len/\1<len,.v (.prim (.pointer (some ⟨b,off+n.toNat * E,none⟩))))
    | _,.v (.prim (.slice (some ⟨b,off,none⟩) len _))=>match E0 X.P t with
     | some E=>some (0<=n/\n<len,.v (.prim (.pointer (some ⟨b,off+n.toNat * E,none⟩))))
     | none=>none
    | _,_=>none
  | _,_=>none
 | .load t x=>((CS X g x).bind (loadAt X g t)).map (True,·)
 | .build t parts=>
  match EH X.P t,DW X.P t with
  | some z,some pl=>match UC pl X g z parts.toList with
   | some cs=>match JZ cs with
    | some ds=>if JO ds then some (True,.ag ds (GO 0 cs)) else none
    | none=>none
   | none=>none
  | _,_=>none
 | .makeInterface t x=>
  match (CS X g x).bind f8 with
  | some y=>if RI X.P t then some (True,.v (.iface t y)) else none
  | none=>none
 | .nilCheck x=>
  match CS X g x with
  | some (.loc k off)=>some (True,.loc k off)
  | some (.dp els i off)=>some (True,.dp els i off)
  | some (.v (.prim (.pointer (some a))))=>some (True,.v (.prim (.pointer (some a))))
  | some (.v (.prim (.func (.func f) x y)))=>some (True,.v (.prim (.func (.func f) x y)))
  | some (.v (.ref cs))=>some (True,.v (.ref cs))
  | _=>none
 | .convert s d x=>
  match CS X g x,zbp X.P s,zbp X.P d with
  | some (.v (.prim (.int _ n))),some _,some k=>some (C9 k n,.v (.prim (.int k n)))
  | _,_,_=>none
 | .slice t x lo hi none=>
  match E0 X.P t,(CS X g x).bind LN with
  | some E,some els=>match EZ X g 0 lo,EZ X g els.length hi with
   | some l,some h=>some (0<=l/\l<=h/\h<=els.length/\∀e∈els,e.length=E,.v (.sl ((els.take h.toNat).drop l.toNat)))
   | _,_=>none
  | _,_=>match E0 X.P t,CS X g x,EZ X g 0 lo with
   | some _,some (.v (.prim (.slice (some ⟨b,o,none⟩) n cap))),some l=>match EZ X g n hi with
    | some h=>some (l=0/\0<=h/\h<=cap,.v (.prim (.slice (some ⟨b,o,none⟩) h.toNat cap)))
    | none=>none
   | _,_,_=>none
 | .call c=>O6 X g c
 | .makeFunc fn fi ca=>
  match b5 X g fi.toList,b5 X g ca.toList with
  | some fi,some ca=>some (True,.v (.prim (.func fn fi.toArray ca.toArray)))
  | _,_=>none
 | .typeAssert x _ a ok=>taV (RI X.P a) a ok (b6 X.P a) (CS X g x)
 | _=>none
section
variable {X:Ctx}{G:Gh}{s:St}{a:Act}{w:World}
theorem aC {P:Program}{w:World}{t:TypeId}{b:Bool}{n:Nat}(h:EE P t=some (b,n)):(isAgg t).run P w = .ok b w/\(sizeOf t).run P w = .ok n w:=by
 unfold EE at h;split at h
 ·rename_i d i hd hi;simp only[uC,uD]at h;obtain⟨rfl,rfl⟩:=h;refine⟨?_,by simp[sizeOf,typeInfo,hi]⟩;unfold isAgg;rw[Sem.run_bind,run_underlying hd w];cases d <;> rfl
 ·cases h
theorem F7 (b o n:Nat):(⟨b,o,none⟩:Addr).add n=⟨b,o+n,none⟩:=by
 unfold Addr.add;split <;> simp_all
theorem HH {P:Program}{w:World}{t:TypeId}{agg:Bool}{n:Nat}(h:EE P t=some (agg,n))(b o:Nat)(cs:List Value)(hc:∀j v,cs[j]? = some v->w.cell? ⟨b,o+j,none⟩=some v)
  (hn:agg=true->cs.length=n) (v:Value) (hv:if agg=true then v = .agg cs.toArray else cs[0]? = some v):(loadVar t ⟨b,o,none⟩).run P w = .ok v w:=by
 obtain⟨h1,h2⟩:=aC (w:=w) h;unfold loadVar;cases agg with
 | true=>
  simp only[if_true]at hv;have:=run_loadCells_list (P:=P) w ⟨b,o,none⟩ cs (fun j v hj=>by rw[F7];exact hc j v hj);rw[hn rfl]at this;simp[h1,h2,this,hv]
 | false=>
  simp only[Bool.false_eq_true,if_false]at hv;have:=hc 0 v hv;simp at this;simp[h1,this]
theorem UD {w:World}{b:Nat}{cs:List SV}(hb:LM G w b cs){P:Program}{t:TypeId}{agg:Bool}{n off:Nat}(hl:EE P t=some (agg,n)){y:SV}(h:ML cs agg off n=some y) :
  ∃v,(loadVar t ⟨b,off,none⟩).run P w = .ok v w/\LE G w y v:=by
 obtain⟨c,e,h1,h2,h3⟩:=hb;unfold ML at h;have Ah:∀(i:Nat) (v:Value),c[i]? = some v->w.cell? ⟨b,i,none⟩=some v:=fun i v hv=>by simp[World.cell?,h1,hv]
 cases agg with
 | true=>
  simp only[if_true]at h;split at h
  ·rename_i ds Dv;split at h
   ·rename_i hlen;cases h;obtain⟨k1,k2⟩:=P0 Dv;have hk:∀i,i<n->∃x c' v,cs[off+i]? = some x/\f8 x=some c'/\ds[i]? = some c'/\c[off+i]? = some v/\LE G w x v/\x.isCell=true:=by
     intro i hi;have hc:ds[i]? = some (ds[i]'oO):=uB oO;obtain⟨x,hx,hd⟩:=k2 i _ hc;rw[List.getElem?_take_of_lt hi,List.getElem?_drop]at hx;obtain⟨Bn,v,hv,hr⟩:=h3 _ _ hx;exact⟨x,_,v,hx,hd,hc,hv,hr,Bn⟩
    have Bk:∀i,i<n->off+i<c.size:=fun i hi=>by
     obtain⟨x,c',v,-,-,-,hv,-⟩:=hk i hi;exact (Array.getElem?_eq_some_iff.1 hv).1
    refine⟨.agg ((c.toList.drop off).take n).toArray,?_,?_⟩
    ·refine HH hl b off ((c.toList.drop off).take n) (fun j v hj=>?_) (fun _=>?_) _ sS
     ·have Jd:j<n:=by
       have:=(uA hj).1;simp at this;omega
      rw[List.getElem?_take_of_lt Jd,List.getElem?_drop]at hj;exact Ah _ _ (by simpa using hj)
     ·simp;by_cases hn:n=0;· omega
      ·have:=Bk (n - 1) oO;omega
    ·refine .agg ds _ ?_ ?_ ?_
     ·simp;by_cases hn:n=0;· subst hn;simp at hlen;simp[hlen]
      ·have:=Bk (n - 1) oO;omega
     ·intro c' Em;obtain⟨i,hi,rfl⟩:=List.mem_iff_getElem.1 Em;obtain⟨x,c'',v,hx,hd,hc,hv,hr,Bn⟩:=hk i oO;rw[uB hi]at hc;cases hc;exact z5w hd Bn
     ·intro i c' v Em hv;have hi:i<n:=by
       have:=(uA Em).1;omega
      obtain⟨x,c'',v',hx,hd,hc,Dd,hr,Bn⟩:=hk i hi;rw[Em]at hc;cases hc;simp only[List.getElem?_toArray]at hv;rw[List.getElem?_take_of_lt hi,List.getElem?_drop]at hv;have Te:c[off+i]? = some v:=by simpa using hv
      rw[Dd]at Te;cases Te;exact JN hd hr
   ·cases h
  ·cases h
 | false=>
  simp only[Bool.false_eq_true,if_false]at h;obtain⟨Bn,v,hv,hr⟩:=h3 _ _ h;refine⟨v,HH hl b off [v] (fun j u hj=>?_) (fun h=>by cases h) _ sS,hr⟩;cases j with
  | zero=>simp at hj;subst hj;exact Ah _ _ hv
  | succ j=>simp at hj
theorem YG {w:World}{D:Nat->Nat->Prop}{els:List (List DV)}{b o cap E i off:Nat}(hr:RV D w (.sl els) (.slice (some ⟨b,o,none⟩) els.length cap))(hE:∀e∈els,e.length=E){e:List DV}(he:els[i]? = some e)
  {P:Program} {t:TypeId} {agg:Bool} {n:Nat} (hl:EE P t=some (agg,n)) {y:DV} (h:MG e agg off n=some y) :
  ∃v,(loadVar t ⟨b,o+(i * E+off),none⟩).run P w = .ok v w/\RV D w y v:=by
 have hi:i<els.length:=(uA he).1;have Oo:e.length=E:=hE e (uE he);cases hr with
 | sl0=>simp at hi
 | sl _ _ _ _ E' val hlen Bi Kf Ah hc hD hh=>
  have Qs:E' = E:=by rw[<- Kf e (uE he),Oo]
  subst Qs;unfold MG at h;cases agg with
  | true=>
   simp only[if_true]at h;split at h
   ·rename_i Xq;cases h;simp at Xq;have hoff:n=0\/off+n<=E':=oO;refine⟨.agg ((List.range n).map fun j=>val i (off+j)).toArray,?_,?_⟩
    ·refine HH hl b _ ((List.range n).map fun j=>val i (off+j)) (fun j v hj=>?_) (fun _=>sS) _ sS;have Jd:j<n:=by
      have:=(uA hj).1;simpa using this
     simp[Jd]at hj;subst hj;have:=hc i (off+j) hi oO;rw[<- this];congr 2;omega
    ·refine .agg _ _ (by simp only[List.size_toArray,List.length_map,List.length_range,List.length_take,List.length_drop];omega) (fun c Em=>?_) (fun j c v Em hv=>?_);· exact Ah e (uE he) c (List.mem_of_mem_drop (List.mem_of_mem_take Em))
     ·have Jd:j<n:=by
       have:=(uA Em).1;simp at this;omega
      rw[List.getElem?_take_of_lt Jd,List.getElem?_drop]at Em;simp[Jd]at hv;subst hv;exact hh i (off+j) e c he Em
   ·cases h
  | false=>
   simp only[Bool.false_eq_true,if_false]at h;have ho:off<E':=by
    have:=(uA h).1;omega
   refine⟨val i off,HH hl b _ [val i off] (fun j u hj=>?_) (fun h=>by cases h) _ sS,hh i off e y he h⟩;cases j with
   | zero=>simp at hj;subst hj;simpa using hc i off hi ho
   | succ j=>simp at hj
theorem jH {cs:List DV}{v:Value}(h:RV G.D w (.ref cs) v):∃b o,v = .pointer (some ⟨b,o,none⟩)/\RV G.D w (.sl [cs]) (.slice (some ⟨b,o,none⟩) [cs].length 1):=by
 cases h with
 | ref _ b o val Ah hc hD hh=>
  refine⟨b,o,rfl,.sl [cs] b o 1 cs.length (fun _ j=>val j) (show 1<=I6 from dD) (Nat.le_refl _) (fun e he=>by rw[List.mem_singleton.1 he]) (fun e he c Wr=>?_) (fun i j hi hj=>?_) (fun i j hi hj=>?_) (fun i j e c he Wr=>?_)⟩;· rw[List.mem_singleton.1 he]at Wr;exact Ah c Wr
  ·have hi:i<1:=hi;obtain rfl:i=0:=oO;rw[Nat.zero_mul,Nat.zero_add];exact hc j hj
  ·have hi:i<1:=hi;obtain rfl:i=0:=oO;rw[Nat.zero_mul,Nat.zero_add];exact hD j hj
  ·cases i with
   | zero=>simp at he;subst he;exact hh j c Wr
   | succ i=>simp at he
theorem VT (R:Rel X G s a w){t:TypeId}{x y:SV}{v:Value}(hx:LE G w x v)(h:loadAt X (get s) t x=some y) :
  ∃u,(Instr.loadAt t v).run X.P w = .ok u w/\LE G w y u:=by
 unfold loadAt at h;split at h
 ·rename_i k off;split at h
  ·rename_i agg n cs hl hg;obtain rfl:=hx;obtain⟨u,h1,h2⟩:=UD (R.holds _ _ hg) hl h;exact⟨u,by simp[Instr.loadAt,Instr.sureAddr,h1],h2⟩
  ·cases h
 ·rename_i els i off;split at h
  ·rename_i agg n e hl he;obtain⟨b,o,E,cap,hr,hE,hi,rfl⟩:=hx;cases hd:MG e agg off n with
   | none=>simp[hd]at h
   | some y'=>
    simp[hd]at h;subst h;obtain⟨u,h1,h2⟩:=YG hr hE he hl hd;exact⟨u,by simp[Instr.loadAt,Instr.sureAddr,h1],h2⟩
  ·cases h
 ·rename_i b off;split at h
  ·rename_i agg n cs hl hg;cases hx;obtain⟨u,h1,h2⟩:=UD (R.holds _ _ hg) hl h;exact⟨u,by simp[Instr.loadAt,Instr.sureAddr,h1],h2⟩
  ·cases h
 ·rename_i cs;split at h
  ·rename_i agg n hl;obtain⟨b,o,rfl,hr⟩:=jH hx;cases hd:MG cs agg 0 n with
   | none=>simp[hd]at h
   | some y'=>
    simp[hd]at h;subst h;obtain⟨u,h1,h2⟩:=YG hr (E:=cs.length) (i:=0) (off:=0) (fun e he=>by rw[List.mem_singleton.1 he]) rfl hl hd;rw[Nat.zero_mul,Nat.zero_add,Nat.add_zero]at h1;exact⟨u,by simp[Instr.loadAt,Instr.sureAddr,h1],h2⟩
  ·cases h
 ·cases h
end
end
section
section
variable {X:Ctx}{G:Gh}{s:St}{a:Act}{w:World}
theorem BJ {D:Nat->Nat->Prop}{w:World}{u v:Value}(h:RV D w (.prim u) v):v=u/\D5 u:=by
 cases h with
 | prim _ h=>exact⟨rfl,h⟩
theorem mC {op:BinOp}{k:IntKind}{x y:Int}{c:Prop}{r:SV}(h:MF op k x y=some (c,r))(hc:c)(t:TypeId) :
  ∃v,(binOp op t (.int k x) (.int k y)).run X.P w = .ok v w/\LE G w r v:=by
 have ok:∀n,C9 k n->LE G w (.v (.prim (.int k n))) (.int k n):=fun n h=>.prim _ h;have bk:∀b,LE G w (.v (.prim (.bool b))) (.bool b):=fun b=>.prim _ tT;cases op <;> simp only[MF,uC,uD,reduceCtorEq]at h <;> obtain⟨rfl,rfl⟩:=h;· exact⟨_,by simp[binOp,Op.intArith,KT hc],ok _ hc⟩
 ·exact⟨_,by simp[binOp,Op.intArith,KT hc],ok _ hc⟩
 ·exact⟨_,by simp[binOp,Op.intArith,KT hc],ok _ hc⟩
 ·exact⟨_,by simp[binOp,Op.intDiv,hc.1,KT hc.2],ok _ hc.2⟩
 ·exact⟨_,by simp[binOp,Op.intDiv,hc.1],ok _ hc.2⟩
 all_goals exact⟨_,by simp only[binOp,Op.intCmp,if_false,ne_eq,not_true_eq_false,Sem.run_pure],bk _⟩
theorem mD (op:BinOp)(t:TypeId)(x y:Operand)(k k':IntKind)(p q:Int):(eqGuard op t x y (.int k p) (.int k' q)).run X.P w = .ok () w:=by
 unfold eqGuard;cases op <;> simp
theorem VU (op:BinOp)(t:TypeId)(x y:Operand)(p q:Bool):(eqGuard op t x y (.bool p) (.bool q)).run X.P w = .ok () w:=by
 unfold eqGuard;cases op <;> simp
theorem O7 (R:Rel X G s a w):∀{l:List Operand} {ds:List DV},GK X (get s) l=some ds->l.length=ds.length/\∀(i:Nat) (c:DV) (v:Value),ds[i]? = some c->(l.map a.eval)[i]? = some v->RV G.D w c v
 | [],ds,h=>by cases h;simp
 | x::r,ds,h=>by
  simp only[GK]at h;split at h
  ·rename_i y ys hy Ic;cases h;obtain⟨h1,h2⟩:=O7 R Ic;obtain⟨z,hz,Pv⟩:=Option.bind_eq_some_iff.1 hy;refine⟨by simp[h1],fun i c v hc hv=>?_⟩;cases i with
   | zero=>
    simp at hc hv;subst hc hv;exact JN Pv (A8 R hz)
   | succ i=>exact h2 i c v (by simpa using hc) (by simpa using hv)
  ·cases h
theorem IA (hn:G.τ 0=(none,0)){x:SV}{v:Value}(h:LE G w x v):v.cells.size=(BV x).length/\∀(i:Nat) (c:SV) (u:Value),(BV x)[i]? = some c->v.cells[i]? = some u->LE G w c u:=by
 have one:∀(x:SV) (v:Value),BV x=[x]->v.cells = #[v]->LE G w x v->v.cells.size=(BV x).length/\∀(i:Nat) (c:SV) (u:Value),(BV x)[i]? = some c->v.cells[i]? = some u->LE G w c u:=by
  intro x v h1 h2 h3;rw[h1,h2];refine⟨rfl,fun i c u hc hu=>?_⟩;cases i with
  | zero=>simp at hc hu;subst hc hu;exact h3
  | succ i=>simp at hc
 cases x with
 | v x=>
  cases x with
  | agg cs=>
   cases h with
   | agg _ vs hl Ah hh=>
    refine⟨by simp[Value.cells,BV,DN,hl],fun i c u hc hu=>?_⟩;simp only[BV,DN,List.getElem?_map]at hc;cases hq:cs[i]? with
    | none=>simp[hq]at hc
    | some c'=>simp[hq]at hc;subst hc;exact hh i c' u hq hu
  | prim p=>
   refine one _ _ rfl ?_ h;obtain⟨rfl,hp⟩:=BJ h;cases v <;> first|rfl|exact hp.elim
  | tup cs=>cases h;exact one _ _ rfl rfl (.tup _ _ ‹_› ‹_›)
  | sl els=>
   refine one _ _ rfl ?_ h;cases h <;> rfl
  | iface t y=>
   refine one _ _ rfl ?_ h;cases h;rfl
  | ref cs=>
   refine one _ _ rfl ?_ h;cases h;rfl
 | loc k off=>obtain rfl:=h;exact one _ _ rfl rfl rfl
 | dp els i off=>have h':=h;obtain⟨b,o,E,cap,-,-,-,rfl⟩:=h;exact one _ _ rfl rfl h'
 | own t els=>have h':=h;obtain⟨rfl,-⟩:=h;exact one _ _ rfl rfl h'
 | ag cs ns=>
  obtain⟨h1,h2⟩:=h;cases h1 with
  | agg _ vs hl Ah hh=>
   refine⟨by simp[Value.cells,BV,hl,(jG ns cs 0).1],fun i c u hc hu=>?_⟩;simp only[BV,(jG ns cs 0).2]at hc;cases hq:cs[i]? with
   | none=>simp[hq]at hc
   | some c'=>
    simp only[hq,Option.map_some,uC,Nat.zero_add]at hc;split at hc
    ·rename_i hm;subst hc;obtain⟨k1,k2⟩:=h2 i ((z5y _ _).1 hm);rw[hu]at k2;cases k2;show _=_/\_;rw[hn];exact⟨rfl,.sl0 _ _⟩
    ·subst hc;exact hh i c' u hq hu
end
end
section
section
variable {X:Ctx}{G:Gh}{s:St}{a:Act}{w:World}
def HI (G:Gh)(w:World)(cs:List SV)(c:Array Value):Prop:=
 c.size=cs.length/\∀(i:Nat) (x:SV) (v:Value),cs[i]? = some x->c[i]? = some v->LE G w x v
theorem UR:∀(off:Nat) (cs xs:List SV),off+xs.length<=cs.length->(put cs off xs).length=cs.length
 | 0,cs,xs,h=>by simp[put];omega
 | off+1,[],xs,h=>by simp[put]
 | off+1,c::r,xs,h=>by simp[put,UR off r xs (by simp at h;omega)]
theorem VV:∀(off:Nat) (cs xs:List SV) (k:Nat),off+xs.length<=cs.length->(put cs off xs)[k]? = if off<=k/\k<off+xs.length then xs[k - off]? else cs[k]?
 | 0,cs,xs,k,h=>by
  simp only[put,Nat.zero_le,true_and,Nat.zero_add,Nat.sub_zero];by_cases hk:k<xs.length;· rw[List.getElem?_append_left hk,if_pos hk]
  ·rw[List.getElem?_append_right oO,if_neg hk,List.getElem?_drop]
   congr 1;omega
 | off+1,[],xs,k,h=>by simp at h
 | off+1,c::r,xs,k,h=>by
  cases k with
  | zero=>simp[put]
  | succ k=>
   simp only[put,List.getElem?_cons_succ];rw[VV off r xs k (by simp at h;omega)];by_cases hk:off<=k/\k<off+xs.length;· rw[if_pos hk,if_pos oO];congr 1;omega
   ·rw[if_neg hk,if_neg oO]
def K1 (c:Array Value)(off:Nat)(vs:Array Value):Array Value:=vs.zipIdx.foldl (fun cs (v,j)=>cs.setIfInBounds (off+j) v) c
theorem YH (off:Nat):∀(l:List Value) (k:Nat) (c:Array Value),off+k+l.length<=c.size ->
  ((l.zipIdx k).foldl (fun cs (p:Value × Nat)=>cs.setIfInBounds (off+p.2) p.1) c).size=c.size /\
  ∀i,((l.zipIdx k).foldl (fun cs (p:Value × Nat)=>cs.setIfInBounds (off+p.2) p.1) c)[i]? = if off+k<=i/\i<off+k+l.length then l[i - (off+k)]? else c[i]?
 | [],k,c,h=>by
  refine⟨sS,fun i=>?_⟩
  simp;intro h1 h2;omega
 | v::r,k,c,h=>by
  simp only[List.zipIdx_cons,List.foldl_cons];simp only[List.length_cons]at h;obtain⟨h1,h2⟩:=YH off r (k+1) (c.setIfInBounds (off+k) v) (by simp;omega);refine⟨by rw[h1];simp,fun i=>?_⟩;rw[h2];by_cases hi:off+(k+1)<=i/\i<off+(k+1)+r.length
  ·rw[if_pos hi,if_pos (by simp;omega)];rw[show i - (off+k)=(i - (off+(k+1)))+1 from oO];simp
  ·rw[if_neg hi];by_cases he:i=off+k
   ·subst he;rw[if_pos sS];have:off+k<c.size:=oO;simp[this]
   ·rw[if_neg (by simp;omega),Array.getElem?_setIfInBounds_ne oO]
theorem O8 (c:Array Value)(off:Nat)(vs:Array Value)(h:off+vs.size<=c.size):(K1 c off vs).size=c.size/\∀i,(K1 c off vs)[i]? = if off<=i/\i<off+vs.size then vs[i - off]? else c[i]?:=by
 have:=YH off vs.toList 0 c (by simpa using h);unfold K1;rw[<- Array.foldl_toList,Array.toList_zipIdx]
 simpa using this
theorem HI.put {cs xs:List SV}{c vs:Array Value}{off:Nat}(h:HI G w cs c)(k:HI G w xs vs)(hle:off+xs.length<=cs.length):HI G w (put cs off xs) (K1 c off vs):=by
 have hs:=O8 c off vs (by rw[k.1,h.1];exact hle);refine⟨by rw[hs.1,UR _ _ _ hle];exact h.1,fun i x v hx hv=>?_⟩;rw[VV _ _ _ _ hle]at hx;rw[hs.2,k.1]at hv;by_cases hi:off<=i/\i<off+xs.length;· rw[if_pos hi]at hx hv;exact k.2 _ _ _ hx hv
 ·rw[if_neg hi]at hx hv;exact h.2 _ _ _ hx hv
theorem LO (hn:G.τ 0=(none,0)):∀{l:List Value} {cs:List SV},aZ l=some cs->HI G w cs l.toArray
 | [],cs,h=>by cases h;exact⟨rfl,sS⟩
 | v::r,cs,h=>by
  simp only[aZ]at h;split at h
  ·rename_i x xs hx Yn;cases h;have ih:=LO hn Yn;refine⟨by simpa using ih.1,fun i c u hc hu=>?_⟩;cases i with
   | zero=>simp at hc hu;subst hc hu;exact VS hn hx
   | succ i=>exact ih.2 i c u (by simpa using hc) (by simpa using hu)
  ·cases h
theorem YI (R:Rel X G s a w)(pl:List (Nat × Nat))(place:Nat->Option (Nat × Nat))(hp:∀i q,pl[i]? = some q->place i=some q):∀(parts:List (Nat × Operand)) (cs:List SV) (c:Array Value) (Cu:List SV),HI G w cs c->UC pl X (get s) cs parts=some Cu ->
  ∃c',Instr.fill place c (parts.map fun q=>(q.1,a.eval q.2))=some c'/\HI G w Cu c'
 | [],cs,c,Cu,hr,h=>by cases h;exact⟨c,rfl,hr⟩
 | (i,x)::rest,cs,c,Cu,hr,h=>by
  simp only[UC]at h;split at h
  ·rename_i off size y Dm hy;split at h
   ·rename_i hc;obtain⟨Dr,Ek⟩:=hc;have hv:=IA R.nil (A8 R hy);have Ak:HI G w (BV y) (a.eval x).cells:=hv;obtain⟨c',h1,h2⟩:=YI R pl place hp rest _ _ Cu (hr.put Ak (by rw[Dr];exact Ek)) h;refine⟨c',?_,h2⟩;simp only[List.map_cons,Instr.fill,hp _ _ Dm];rw[if_neg];· exact h1
    ·have e1:=hr.1;have e2:=hv.1;simp only[Bool.or_eq_true,decide_eq_true_eq,not_or];omega
   ·cases h
  ·cases h
theorem b7 {cs:List SV}{c:Array Value}{ds:List DV}(h:HI G w cs c)(hd:JZ cs=some ds):c.size=ds.length/\∀(i:Nat) (d:DV) (v:Value),ds[i]? = some d->c[i]? = some v->RV G.D w d v:=by
 obtain⟨h1,h2⟩:=P0 hd;refine⟨h.1.trans h1,fun i d v hi hv=>?_⟩;obtain⟨x,hx,hxd⟩:=h2 i d hi;exact JN hxd (h.2 i x v hx hv)
theorem P1 (l:List DV):JO l=true↔∀c∈l,c.isCell=true:=by
 induction l with
 | nil=>simp[JO]
 | cons c r ih=>simp[JO,ih]
theorem XF {P:Program}{t:TypeId}{z:List SV}{pl:List (Nat × Nat)}(hz:EH P t=some z)(Dm:DW P t=some pl)(hn:G.τ 0=(none,0)) :
  ∃zc place,HI G w z zc/\(∀i q,pl[i]? = some q->place i=some q)/\∀(parts:Array (Nat × Value)) (c':Array Value),Instr.fill place zc parts.toList=some c'->(Instr.build t parts).run P w = .ok (.agg c') w:=by
 unfold EH at hz;split at hz
 ·rename_i it Sy;split at hz
  ·rename_i zv To;have Ak:=LO (w:=w) hn hz;simp only[Array.toArray_toList]at Ak;unfold DW at Dm;split at Dm
   ·rename_i fields hu;refine⟨zv.cells,(pl.toArray[·]?),Ak,fun i q hq=>by simpa using hq,fun parts c' hf=>run_build w t parts c' ?_⟩;unfold Program.built;simp only[Sy,hu,To,Dm];exact hf
   ·rename_i n e hu;cases Dz:P.info? e with
    | none=>simp[Dz]at Dm
    | some ie=>
     simp[Dz]at Dm;subst Dm;refine⟨zv.cells,(fun i=>some (i * ie.size,ie.size)),Ak,fun i q hq=>?_,fun parts c' hf=>run_build w t parts c' ?_⟩
     ·have hi:i<n:=by
       have:=(uA hq).1;simpa using this
      simp[hi]at hq;exact hq ▸ rfl
     ·unfold Program.built;simp only[Sy,hu,To,Dz];exact hf
   ·cases Dm
  ·cases hz
 ·cases hz
theorem z5z {P:Program}{t:TypeId}(h:zR P t=true):P.underlying t=some .bool:=by
 unfold zR at h;split at h
 ·assumption
 ·cases h
theorem IP {P:Program}{t E:Nat}(h:E0 P t=some E):∃e i,P.underlying t=some (.slice e)/\P.info? e=some i/\i.size=E:=by
 unfold E0 at h;split at h
 ·rename_i e hu;cases hi:P.info? e with
  | none=>simp[hi]at h
  | some i=>simp[hi]at h;exact⟨e,i,hu,hi,h⟩
 ·cases h
theorem aD {P:Program}{t n E:Nat}(h:rY P t=some (n,E)):∃e i,P.underlying t=some (.array n e)/\P.info? e=some i/\i.size=E:=by
 unfold rY at h;split at h
 ·rename_i n' e hu;cases hi:P.info? e with
  | none=>simp[hi]at h
  | some i=>simp[hi]at h;obtain⟨rfl,h⟩:=h;exact⟨e,i,hu,hi,h⟩
 ·cases h
theorem P2 {P:Program}{t f:Nat}{agg:Bool}{off n:Nat}(h:BD P t f=some (agg,off,n)) :
  ∃fs fl,P.underlying t=some (.struct fs)/\fs[f]? = some fl/\EE P fl.type=some (agg,n)/\n≠0/\fl.offset=off:=by
 unfold BD at h;split at h
 ·rename_i fs hu;split at h
  ·rename_i fl hf;split at h
   ·rename_i b m hl;split at h;· cases h
    ·simp only[uC,uD]at h;obtain⟨rfl,rfl,rfl⟩:=h;exact⟨fs,fl,hu,hf,hl,by assumption,rfl⟩
   ·cases h
  ·cases h
 ·cases h
theorem GQ {x:SV}{els:List (List DV)}{v:Value}(h:LN x=some els)(hr:LE G w x v):∃b cap,v = .slice b els.length cap/\RV G.D w (.sl els) v/\els.length<=cap:=by
 have key:RV G.D w (.sl els) v->∃b cap,v = .slice b els.length cap/\RV G.D w (.sl els) v/\els.length<=cap:=by
  intro h;have h':=h;cases h with
  | sl0 b cap=>exact⟨b,cap,rfl,h',Nat.zero_le _⟩
  | sl _ b o cap E val hlen Bi hE Ah hc hD hh=>exact⟨_,cap,rfl,h',Bi⟩
 cases x with
 | v x=>
  cases x with
  | sl e=>cases h;exact key hr
  | _=>cases h
 | own t e=>cases h;exact key hr.2
 | loc=>cases h
 | dp=>cases h
 | ag=>cases h
theorem z60 {els:List (List DV)}{v:Value}(hr:RV G.D w (.sl els) v){i:Nat}{e:List DV}(he:els[i]? = some e) :
  ∃b o cap,v = .slice (some ⟨b,o,none⟩) els.length cap/\LE G w (.dp els i 0) (.pointer (some ⟨b,o+i * e.length,none⟩)):=by
 have hi:i<els.length:=(uA he).1;have Yh:=hr;cases hr with
 | sl0=>simp at hi
 | sl _ b o cap E val hlen Bi hE Ah hc hD hh=>
  have:e.length=E:=hE e (uE he);subst this;exact⟨b,o,cap,rfl,b,o,e.length,cap,Yh,hE,hi,rfl⟩
theorem s5 {P:Program}{t f:Nat}{agg:Bool}{off n:Nat}(h:BD P t f=some (agg,off,n)){y c:DV}{v:Value}(hy:y.isAgg=true)(hv:RV G.D w y v)(hd:MG (DN y) agg off n=some c) :
  ∃u,(Instr.field t v f).run P w = .ok u w/\RV G.D w c u:=by
 obtain⟨fs,fl,hu,hf,hl,hn,rfl⟩:=P2 h;obtain⟨l1,l2⟩:=aC (w:=w) hl;cases hv with
 | prim=>cases hy
 | sl0=>cases hy
 | sl=>cases hy
 | iface=>cases hy
 | ref=>cases hy
 | tup=>cases hy
 | agg cs vs Ct Ah hh=>
  rw[show DN (DV.agg cs)=cs from rfl]at hd;unfold MG at hd;cases agg with
  | true=>
   simp only[if_true]at hd;by_cases hlen:(List.take n (List.drop fl.offset cs)).length=n
   ·rw[if_pos hlen]at hd;cases hd;simp at hlen;refine⟨.agg (vs.extract fl.offset (fl.offset+n)),by simp[Instr.field,run_underlying hu,hf,part,asAgg,l1,l2],?_⟩;refine .agg _ _ (by simp;omega) (fun c hc=>Ah c (List.mem_of_mem_drop (List.mem_of_mem_take hc))) (fun i c v hc hv=>?_);have hi:i<n:=by
     have:=(uA hc).1;simp at this;omega
    rw[List.getElem?_take_of_lt hi,List.getElem?_drop]at hc;have Dd:vs[fl.offset+i]? = some v:=by
     have:=(Array.getElem?_eq_some_iff.1 hv).1;simp at this;rw[Array.getElem?_extract,if_pos oO]at hv;exact hv
    exact hh _ c v hc Dd
   ·rw[if_neg hlen]at hd;cases hd
  | false=>
   simp only[Bool.false_eq_true,if_false]at hd;have Ac:fl.offset<vs.size:=by rw[Ct];exact (uA hd).1
   have hv:vs[fl.offset]? = some vs[fl.offset]:=uG Ac;exact⟨vs[fl.offset],by simp[Instr.field,run_underlying hu,hf,part,asAgg,l1,hv],hh _ c _ hd hv⟩
end
end
section
section
variable {X:Ctx}{G:Gh}{s:St}{a:Act}{w:World}
theorem RJ {α:Type}{o:Option α}{c:Prop}{y:α}(h:o.map (True,·)=some (c,y)):o=some y:=by
 cases o with
 | none=>cases h
 | some z=>simp at h;rw[h.2]
theorem HR (R:Rel X G s a w){d:Nat}{x:Option Operand}{n:Int}(h:EZ X (get s) d x=some n) :
  (x=none/\n=d)\/∃y k,x=some y/\a.eval y = .int k n:=by
 cases x with
 | none=>simp[EZ]at h;exact .inl ⟨rfl,h.symm⟩
 | some y=>
  simp only[EZ]at h;split at h
  ·rename_i k m hy;cases h;exact .inr ⟨y,k,rfl,(BJ (A8 R hy)).1⟩
  ·cases h
theorem fT {P:Program}{w:World}{t e:TypeId}{i:TypeInfo}(hu:P.underlying t=some (.slice e))(hi:P.info? e=some i)(b:Option Addr)(len cap:Nat)(lo Cz:Option Value)(l h:Int)
  (La:(lo=none/\l=0)\/∃k,lo=some (.int k l)) (Jb:(Cz=none/\h=len)\/∃k,Cz=some (.int k h)) (h0:0<=l) (h1:l<=h) (h2:h<=cap) :
  (Instr.sliceAt t (.slice b len cap) lo Cz none).run P w = .ok (.slice (if cap=l.toNat then b else b.map fun q=>q.add (l.toNat * i.size)) (h.toNat - l.toNat) (cap - l.toNat)) w:=by
 have Ct:(l.toNat:Int)=l:=Int.toNat_of_nonneg h0;have hh':(h.toNat:Int)=h:=Int.toNat_of_nonneg oO;have Bk:(sizeOf e).run P w = .ok i.size w:=by simp[sizeOf,typeInfo,hi]
 have c1:l<=(h.toNat:Int):=oO;rcases La with⟨rfl,rfl⟩|⟨k,rfl⟩ <;> rcases Jb with⟨rfl,rfl⟩|⟨k',rfl⟩;all_goals simp[Instr.sliceAt,Instr.slice,run_underlying hu,Instr.sliceBounds,Instr.sliceBound,asIntOf,Bk]
 all_goals (try simp[h0,h1,h2])
 all_goals (try (rw[if_pos (by omega:(0:Int)<=h),if_pos oO]))
 all_goals (try (intros;omega))
theorem mE {w:World}{D:Nat->Nat->Prop}{els:List (List DV)}{b:Option Addr}{cap:Nat}(hr:RV D w (.sl els) (.slice b els.length cap)){E:Nat}(hE:∀e∈els,e.length=E)(l h:Nat)(h1:l<=h)(h2:h<=els.length)(Bi:els.length<=cap) :
  RV D w (.sl ((els.take h).drop l)) (.slice (if cap=l then b else b.map fun q=>q.add (l * E)) (h - l) (cap - l)):=by
 by_cases hlh:l=h
 ·subst hlh;have:(els.take l).drop l=[]:=sS;rw[this,Nat.sub_self];exact .sl0 _ _
 ·have hlen:((els.take h).drop l).length=h - l:=by simp;omega
  generalize hL:(els.take h).drop l=L at *;rw[<- hlen];have Au:cap≠l:=oO;rw[if_neg Au];generalize hn:els.length=n at *;cases hr with
  | sl0=>simp only[List.length_nil]at *;omega
  | sl _ b o _ E' val Ct Em Kf Ah hc hD hh=>
   have Qs:E' = E:=by
    cases els with
    | nil=>simp only[List.length_nil]at *;omega
    | cons e r=>rw[<- Kf e sS,hE e sS]
   subst Qs;simp only[Option.map_some,F7];have Co:∀e∈L,e∈els:=fun e he=>by rw[<- hL]at he;exact List.mem_of_mem_take (List.mem_of_mem_drop he)
   have Ay:∀i,i<L.length->L[i]? = els[l+i]?:=fun i hi=>by
    rw[<- hL,List.getElem?_drop,List.getElem?_take_of_lt oO]
   refine .sl L b (o+l * E') (cap - l) E' (fun i j=>val (l+i) j) oO oO (fun e he=>Kf e (Co e he)) (fun e he=>Ah e (Co e he)) (fun i j hi hj=>?_) (fun i j hi hj=>?_) (fun i j e c he hc=>?_)
   ·have:=hc (l+i) j oO hj;rw[<- this];congr 2;rw[Nat.add_mul];omega
   ·have:=hD (l+i) j oO hj;have e:o+((l+i) * E'+j)=o+l * E'+(i * E'+j):=by rw[Nat.add_mul];omega
    rw[<- e];exact this
   ·rw[Ay i (uA he).1]at he;exact hh _ _ _ _ he hc
theorem K2 {P:Program}{w:World}{fl:Field}{agg:Bool}{n b o:Nat}(hl:EE P fl.type=some (agg,n))(hn:n≠0):(fieldPlace ⟨b,o,none⟩ fl).run P w = .ok ⟨b,o+fl.offset,none⟩ w:=by
 obtain⟨-,l2⟩:=aC (w:=w) hl;simp[fieldPlace,l2,hn,F7]
theorem GL {α:Type}{a:Array α}{l:List α}(h:a.toList=l):a=l.toArray:=by rw[<- h]
theorem mF (R:Rel X G s a w){k:Call}{t:TypeId}{c:Prop}{y:SV}(h:O6 X (get s) k=some (c,y))(hc:c) :
  ∃v,(do let d <- resolve a.eval k t;invoke d.target d.args:Sem Next).run X.P w = .ok (.value v) w/\LE G w y v:=by
 unfold O6 at h;split at h
 case h_1 x t' Ix Jg Al=>
  have Em:k = { callee:=.builtin .len,args:=#[x],argTypes:=#[t'] }:=by cases k;simp only at Ix Jg Al;rw[Ix,GL Jg,GL Al]
  split at h
  ·rename_i E els hE hs;cases h;obtain⟨e',ie,hu,Dz,Bk⟩:=IP hE;obtain⟨q,hq,Ft⟩:=Option.bind_eq_some_iff.1 hs;obtain⟨b,cap,hv,hr,Bi⟩:=GQ Ft (A8 R hq);have Ao:els.length<=I6:=by have:=RV.fit hr;simp only[DV.fit]at this;exact this.1
   refine⟨_,?_,.prim _ ?_⟩;· simp[Em,hv,resolve,invoke,builtin,Builtin.len_,run_underlying hu,goInt]
   ·show C9 .i64 _;rw[N2];unfold I6 at Ao;omega
  ·split at h
   ·rename_i E q n cap hE hx;cases h;obtain⟨e',ie,hu,Dz,Bk⟩:=IP hE;have hv:=(BJ (A8 R hx)).1;refine⟨_,?_,.prim _ ?_⟩;· simp[Em,hv,resolve,invoke,builtin,Builtin.len_,run_underlying hu,goInt]
    ·show C9 .i64 _;rw[N2];unfold I6 at hc;omega
   ·cases h
 case h_2 x z Ix Jg=>
  have Em:k = { callee:=.builtin .max,args:=#[x,z],argTypes:=k.argTypes }:=by cases k;simp only at Ix Jg;rw[Ix,GL Jg]
  split at h
  ·rename_i k p k' q hx hy;cases h;have Cp:=BJ (A8 R hx);have Fb:=BJ (A8 R hy);refine⟨.int k (if q > p then q else p),?_,.prim _ ?_⟩
   ·rw[Em];simp[Cp.1,Fb.1,resolve,invoke,builtin,run_max_int2]
   show C9 _ _;split;· exact hc
   ·exact Cp.2
  ·cases h
 case h_3 x z Ix Jg=>
  have Em:k = { callee:=.builtin .min,args:=#[x,z],argTypes:=k.argTypes }:=by cases k;simp only at Ix Jg;rw[Ix,GL Jg]
  split at h
  ·rename_i k p k' q hx hy;cases h;have Cp:=BJ (A8 R hx);have Fb:=BJ (A8 R hy);refine⟨.int k (if q<p then q else p),?_,.prim _ ?_⟩
   ·rw[Em];simp[Cp.1,Fb.1,resolve,invoke,builtin,run_min_int2]
   show C9 _ _;split;· exact hc
   ·exact Cp.2
  ·cases h
 case h_4=>cases h
theorem U9 {P:Program}(d:Nat)(t e:TypeId)(p:Option Addr)(h:P.underlying t=some (.pointer e)) :
  (Op.equalIn (d+1) t (.pointer p) (.pointer none)).run P w = .ok p.isNone w:=by
 cases p <;> simp[Op.equalIn,run_underlying h]
theorem mG {P:Program}{t:TypeId}(hp:jE P t=true)(op:BinOp)(x y:Operand)(p:Option Addr){c:Prop}{r:SV}(h:mB op p.isNone=some (c,r)) :
  ∃v,(do eqGuard op t x y (.pointer p) (.pointer none);binOp op t (.pointer p) (.pointer none):Sem Value).run P w = .ok v w/\LE G w r v:=by
 have hu:∃e,P.underlying t=some (.pointer e):=by
  unfold jE at hp;split at hp;· exact⟨_,by assumption⟩
  ·cases hp
 obtain⟨e,hu⟩:=hu;have hq:=U9 (w:=w) 9999 t e p hu;have hg:∀op:BinOp,(eqGuard op t x y (.pointer p) (.pointer none)).run P w = .ok () w:=by
  intro op;cases op <;> cases p <;> simp[eqGuard,run_underlying hu]
 unfold mB at h;split at h
 ·cases h;refine⟨.bool p.isNone,?_,.prim _ tT⟩;simp only[Sem.run_bind,hg,Result.andThen_ok,binOp];simp[Op.equal,Op.maxDepth,hq]
 ·cases h;refine⟨.bool (!p.isNone),?_,.prim _ tT⟩;simp only[Sem.run_bind,hg,Result.andThen_ok,binOp];simp[Op.equal,Op.maxDepth,hq]
 ·cases h
theorem PU (R:Rel X G s a w){o:Oper}{c:Prop}{y:SV}(h:GP X (get s) o=some (c,y))(hc:c) :
  ∃v,(execOp a.eval o).run X.P w = .ok (.value v) w/\LE G w y v:=by
 unfold GP at h;split at h
 case h_1 x Bg=>exact⟨a.eval x,by simp[execOp,Bg],A8 R (RJ h)⟩
 case h_2 x Bg=>exact⟨a.eval x,by simp[execOp,Bg],A8 R (RJ h)⟩
 case h_3 x p q Bg=>
  split at h
  ·rename_i hx;have hv:=(BJ (A8 R hx)).1;exact⟨a.eval p,by simp[execOp,Bg,hv,asBool],A8 R (RJ h)⟩
  ·rename_i hx;have hv:=(BJ (A8 R hx)).1;exact⟨a.eval q,by simp[execOp,Bg,hv,asBool],A8 R (RJ h)⟩
  ·cases h
 case h_4 op t x z yt Bg=>
  split at h
  ·rename_i k p k' q hx hy;split at h
   ·subst_vars
    have Cp:=(BJ (A8 R hx)).1;have Fb:=(BJ (A8 R hy)).1;obtain⟨v,h1,h2⟩:=mC (X:=X) (G:=G) (w:=w) h hc t;exact⟨v,by simp[execOp,Bg,Cp,Fb,mD,h1],h2⟩
   ·cases h
  ·rename_i p q hx hy;have Cp:=(BJ (A8 R hx)).1;have Fb:=(BJ (A8 R hy)).1;split at h
   ·rename_i hb;have hu:=z5z hb;split at h;· cases h;exact⟨_,by simp[execOp,Bg,Cp,Fb,VU,run_eql_bool _ _ _ _ hu],.prim _ tT⟩
    ·cases h;exact⟨_,by simp[execOp,Bg,Cp,Fb,VU,run_neq_bool _ _ _ _ hu],.prim _ tT⟩
    ·cases h
   ·cases h
  ·rename_i cs hx hy;have Fb:=(BJ (A8 R hy)).1;obtain⟨b,o',Cp,-⟩:=jH (A8 R hx);split at h
   ·rename_i hp;obtain⟨v,h1,h2⟩:=mG (G:=G) (w:=w) hp op x z (some ⟨b,o',none⟩) h;refine⟨v,?_,h2⟩;simp only[execOp,Bg,Cp,Fb];simp only[Sem.run_bind]at h1 ⊢
    revert h1
    cases (eqGuard op t x z (.pointer (some ⟨b,o',none⟩)) (.pointer none)).run X.P w with
    | ok u w'=>
     simp only[Result.andThen_ok];intro h1;rw[h1];rfl
    | _=>intro h1;cases h1
   ·cases h
  ·rename_i hx hy;have Cp:=(BJ (A8 R hx)).1;have Fb:=(BJ (A8 R hy)).1;split at h
   ·rename_i hp;obtain⟨v,h1,h2⟩:=mG (G:=G) (w:=w) hp op x z none h;refine⟨v,?_,h2⟩;simp only[execOp,Bg,Cp,Fb];simp only[Sem.run_bind]at h1 ⊢
    revert h1
    cases (eqGuard op t x z (.pointer none) (.pointer none)).run X.P w with
    | ok u w'=>
     simp only[Result.andThen_ok];intro h1;rw[h1];rfl
    | _=>intro h1;cases h1
   ·cases h
  ·cases h
 case h_5 op t x Bg=>
  split at h
  ·rename_i b hx;cases h;have Cp:=(BJ (A8 R hx)).1;exact⟨_,by simp[execOp,Bg,Cp,Op.unary],.prim _ tT⟩
  ·rename_i k n hx;cases h;have Cp:=(BJ (A8 R hx)).1;exact⟨_,by simp[execOp,Bg,Cp,Op.unary,Op.intArith,-Int.zero_sub,KT hc],.prim _ hc⟩
  ·cases h
 case h_6 x i Bg=>
  split at h
  ·rename_i cs hx;cases hi:cs[i]? with
   | none=>simp[hi]at h
   | some d=>
    simp[hi]at h;obtain⟨-,rfl⟩:=h;have hr:=A8 R hx;generalize hv:a.eval x=v at hr;cases hr with
    | tup _ vs hl hh=>
     have Ac:i<vs.size:=by rw[hl];exact (uA hi).1
     have Dd:vs[i]? = some vs[i]:=uG Ac;exact⟨vs[i],by simp[execOp,Bg,hv,Instr.extract,Dd],hh i d _ hi Dd⟩
  ·cases h
 case h_7 t x f Bg=>
  split at h
  ·rename_i agg off n y' hf hx;cases hd:MG (DN y') agg off n with
   | none=>simp[hd]at h
   | some d=>
    rw[hd]at h;simp only[Option.map_some,uC,uD]at h;obtain⟨rfl,rfl⟩:=h;obtain⟨u,h1,h2⟩:=s5 hf hc (A8 R hx) hd;exact⟨u,by simp[execOp,Bg,h1],h2⟩
  ·cases h
 case h_8 t x f Bg=>
  split at h
  ·rename_i agg Bl n k off hf hx;cases h;obtain⟨fs,fl,hu,Gz,hl,hn,rfl⟩:=P2 hf;have hv:a.eval x=_:=A8 R hx;exact⟨_,by simp[execOp,Bg,hv,Instr.fieldAt,run_underlying hu,Gz,Instr.sureAddr,K2 hl hn],rfl⟩
  ·rename_i agg Bl n els i off hf hx;cases h;obtain⟨fs,fl,hu,Gz,hl,hn,rfl⟩:=P2 hf;obtain⟨b,o',E,cap,hr,hE,hi,hv⟩:=A8 R hx;exact⟨_,by simp[execOp,Bg,hv,Instr.fieldAt,run_underlying hu,Gz,Instr.sureAddr,K2 hl hn];rfl,b,o',E,cap,hr,hE,hi,by congr 3;omega⟩
  ·rename_i agg Bl n b off hf hx;cases h;obtain⟨fs,fl,hu,Gz,hl,hn,rfl⟩:=P2 hf;have hv:=(BJ (A8 R hx)).1;exact⟨_,by simp[execOp,Bg,hv,Instr.fieldAt,run_underlying hu,Gz,Instr.sureAddr,K2 hl hn],.prim _ tT⟩
  ·rename_i agg Bl n cs hf hx;cases h;obtain⟨fs,fl,hu,Gz,hl,hn,rfl⟩:=P2 hf;obtain⟨b,o',hv,hr⟩:=jH (A8 R hx);refine⟨_,by simp[execOp,Bg,hv,Instr.fieldAt,run_underlying hu,Gz,Instr.sureAddr,K2 hl hn];rfl,b,o',cs.length,1,hr,fun e he=>by rw[List.mem_singleton.1 he],Nat.zero_lt_one,?_⟩
   congr 3
   omega
  ·cases h
 case h_9 t x i Bg=>
  split at h
  ·rename_i yy k n hx hi;have hn:=(BJ (A8 R hi)).1;split at h
   ·rename_i E els hE hs;split at h
    ·rename_i e he;cases h;obtain⟨h0,rfl⟩:=hc;obtain⟨e',ie,hu,Dz,Bk⟩:=IP hE;obtain⟨b,cap,hv,hr,-⟩:=GQ hs (A8 R hx);obtain⟨b',o',Ba,Dd,hdp⟩:=z60 hr he;have Ac:n.toNat<els.length:=(uA he).1;have Ww:n<els.length:=oO;refine⟨_,?_,hdp⟩;simp[execOp,Bg,hn,Dd,Instr.indexAt,asIntOf,run_underlying hu,sizeOf,typeInfo,Dz,Bk,h0,Ww,F7]
    ·cases h
   ·split at h
    ·rename_i len E k' off hA _;cases h;obtain⟨h0,h1,h2⟩:=hc;obtain⟨e',ie,hu,Dz,Bk⟩:=aD hA;have hv:a.eval x=_:=A8 R hx;refine⟨_,?_,rfl⟩;simp[execOp,Bg,hn,hv,Instr.indexAt,asIntOf,run_underlying hu,sizeOf,typeInfo,Dz,Bk,h0,h1,F7,Instr.sureAddr]
    ·rename_i len E els j hA _;split at h
     ·rename_i e he;cases h;obtain⟨h0,h1,h2,rfl⟩:=hc;obtain⟨e',ie,hu,Dz,Bk⟩:=aD hA;obtain⟨b,o',E',cap,hr,Kf,hj,hv⟩:=A8 R hx;have Qs:e.length=E':=Kf e (uE he);have Ac:j+n.toNat<els.length:=(uA he).1;refine⟨_,?_,b,o',E',cap,hr,Kf,Ac,rfl⟩;simp[execOp,Bg,hn,hv,Instr.indexAt,asIntOf,run_underlying hu,sizeOf,typeInfo,Dz,Bk,h0,h1,F7,Instr.sureAddr];rw[Qs,Nat.add_mul];omega
     ·cases h
    ·rename_i len E els j off hA _;cases h;obtain⟨h0,h1,h2⟩:=hc;obtain⟨e',ie,hu,Dz,Bk⟩:=aD hA;obtain⟨b,o',E',cap,hr,Kf,hj,hv⟩:=A8 R hx;refine⟨_,?_,b,o',E',cap,hr,Kf,hj,rfl⟩;simp[execOp,Bg,hn,hv,Instr.indexAt,asIntOf,run_underlying hu,sizeOf,typeInfo,Dz,Bk,h0,h1,F7,Instr.sureAddr];try omega
    ·rename_i len E b off hA _;cases h;obtain⟨h0,h1,h2⟩:=hc;obtain⟨e',ie,hu,Dz,Bk⟩:=aD hA;have hv:=(BJ (A8 R hx)).1;refine⟨_,?_,.prim _ tT⟩;simp[execOp,Bg,hn,hv,Instr.indexAt,asIntOf,run_underlying hu,sizeOf,typeInfo,Dz,Bk,h0,h1,F7,Instr.sureAddr]
    ·rename_i b off len cap _ _;split at h
     ·rename_i E hE;cases h;obtain⟨h0,h1⟩:=hc;obtain⟨e',ie,hu,Dz,Bk⟩:=IP hE;have hv:=(BJ (A8 R hx)).1;refine⟨_,?_,.prim _ tT⟩;simp[execOp,Bg,hn,hv,Instr.indexAt,asIntOf,run_underlying hu,sizeOf,typeInfo,Dz,Bk,h0,h1,F7]
     ·cases h
    ·cases h
  ·cases h
 case h_10 t x Bg=>
  have h':=RJ h;obtain⟨z,hz,Pv⟩:=Option.bind_eq_some_iff.1 h';obtain⟨u,h1,h2⟩:=VT R (A8 R hz) Pv;exact⟨u,by simp[execOp,Bg,h1],h2⟩
 case h_11 t parts Bg=>
  split at h
  ·rename_i z pl hz Dm;split at h
   ·rename_i cs Bp;split at h
    ·rename_i ds Dv;split at h
     case isFalse=>cases h
     rename_i Mz;cases h;obtain⟨zc,place,Ak,hp,Aq⟩:=XF (w:=w) hz Dm R.nil;obtain⟨c',h1,h2⟩:=YI R pl place hp parts.toList z zc cs Ak Bp;have h3:=Aq (parts.map fun q=>(q.1,a.eval q.2)) c' (by simpa using h1);obtain⟨k1,k2⟩:=b7 h2 Dv;refine⟨.agg c',by simp[execOp,Bg,h3],.agg ds c' k1 ((P1 ds).1 Mz) k2,fun i hi=>?_⟩;obtain⟨j,He,hj⟩:=UQ hi;obtain rfl:i=j:=oO;obtain⟨t1,t2⟩:=P0 Dv;have Cc:i<cs.length:=(uA hj).1;have hic:i<c'.size:=by rw[h2.1];exact Cc
     have Yq:ds[i]? = some (ds[i]'oO):=uB oO;obtain⟨z',Fv,Eb⟩:=t2 i _ Yq;rw[hj]at Fv;cases Fv;have hz2':some (DV.sl [])=some (ds[i]'oO):=Eb;refine⟨by rw[Yq,<- hz2'],?_⟩;have hr:=h2.2 i _ _ hj (uG hic);have Bh:c'[i] = .slice (G.τ 0).1 0 (G.τ 0).2:=hr.1;rw[R.nil]at Bh;show c'[i]? = _;rw[uG hic,Bh]
    ·cases h
   ·cases h
  ·cases h
 case h_12 t x Bg=>
  split at h
  ·rename_i z hz;split at h
   ·rename_i Ap;cases h;obtain⟨q,hq,Ft⟩:=Option.bind_eq_some_iff.1 hz;refine⟨.iface t (a.eval x),?_,.iface t z _ (JN Ft (A8 R hq))⟩;unfold RI at Ap;split at Ap;· cases Ap
    ·rename_i d hd hu;simp only[execOp,Bg,Instr.makeInterface,Sem.run_bind,run_underlying hu,Result.andThen_ok];cases d <;> first|(exact (hd _ rfl).elim)|rfl
    ·cases Ap
   ·cases h
  ·cases h
 case h_13 x Bg=>
  split at h
  ·rename_i k off hx;cases h;have hv:a.eval x=_:=A8 R hx;exact⟨_,by simp[execOp,Bg,hv],rfl⟩
  ·rename_i els i off hx;cases h;have hr:=A8 R hx;obtain⟨b,o',E,cap,Yh,hE,hi,hv⟩:=hr;exact⟨_,by simp[execOp,Bg,hv],b,o',E,cap,Yh,hE,hi,rfl⟩
  ·rename_i ad hx;cases h;have hv:=(BJ (A8 R hx)).1;exact⟨_,by simp[execOp,Bg,hv],.prim _ tT⟩
  ·rename_i f p q hx;cases h;have hv:=(BJ (A8 R hx)).1;exact⟨_,by simp[execOp,Bg,hv],.prim _ tT⟩
  ·rename_i cs hx;cases h;have hr:=A8 R hx;obtain⟨b,o',hv,-⟩:=jH hr;rw[hv]at hr;exact⟨_,by simp[execOp,Bg,hv],hr⟩
  ·cases h
 case h_14 sT dT x Bg=>
  split at h
  ·rename_i k n ks kd hx hs hd;cases h;have hv:=(BJ (A8 R hx)).1;have e1:∀{t:TypeId} {k:IntKind},zbp X.P t=some k->X.P.underlying t=some (.int k):=by
    intro t k h;unfold zbp at h;split at h;· cases h;assumption
    ·cases h
   have u1:=e1 hs;have u2:=e1 hd;exact⟨_,by simp[execOp,Bg,hv,convert,run_underlying u1,run_underlying u2,Conv.intToInt,KT hc],.prim _ hc⟩
  ·cases h
 case h_15 t x lo Cz Bg=>
  split at h
  ·rename_i E els hE hs;split at h
   ·rename_i l hh La Jb;cases h;obtain⟨h0,h1,h2,h3⟩:=hc;obtain⟨e',ie,hu,Dz,rfl⟩:=IP hE;obtain⟨q,hq,Ft⟩:=Option.bind_eq_some_iff.1 hs;obtain⟨b,cap,hv,hr,Bi⟩:=GQ Ft (A8 R hq);have Og:(lo.map a.eval=none/\l=0)\/∃k,lo.map a.eval=some (.int k l):=by
     rcases HR R La with⟨rfl,h⟩|⟨z,k,rfl,h⟩;· exact .inl ⟨rfl,h⟩
     ·exact .inr ⟨k,by simp[h]⟩
    have Oc:(Cz.map a.eval=none/\hh=els.length)\/∃k,Cz.map a.eval=some (.int k hh):=by
     rcases HR R Jb with⟨rfl,h⟩|⟨z,k,rfl,h⟩;· exact .inl ⟨rfl,h⟩
     ·exact .inr ⟨k,by simp[h]⟩
    have Aq:=fT (w:=w) hu Dz b els.length cap _ _ l hh Og Oc h0 h1 oO;have Ju:=mE (hv ▸ hr) h3 l.toNat hh.toNat oO oO Bi;refine⟨_,?_,Ju⟩;simp only[execOp,Bg,hv,Option.map_none,Aq,Sem.run_bind,Result.andThen_ok,Sem.run_pure]
   ·cases h
  ·split at h
   ·rename_i E b o n cap l hE hx La;split at h
    ·rename_i hh Jb;cases h;obtain⟨rfl,h1,h2⟩:=hc;obtain⟨e',ie,hu,Dz,rfl⟩:=IP hE;have hv:=(BJ (A8 R hx)).1;have Og:(lo.map a.eval=none/\(0:Int)=0)\/∃k,lo.map a.eval=some (.int k 0):=by
      rcases HR R La with⟨rfl,h⟩|⟨z,k,rfl,h⟩;· exact .inl ⟨rfl,rfl⟩
      ·exact .inr ⟨k,by simp[h]⟩
     have Oc:(Cz.map a.eval=none/\hh=n)\/∃k,Cz.map a.eval=some (.int k hh):=by
      rcases HR R Jb with⟨rfl,h⟩|⟨z,k,rfl,h⟩;· exact .inl ⟨rfl,h⟩
      ·exact .inr ⟨k,by simp[h]⟩
     have Aq:=fT (w:=w) hu Dz (some ⟨b,o,none⟩) n cap _ _ 0 hh Og Oc oO h1 oO;have he:(if cap=(0:Int).toNat then some (⟨b,o,none⟩:Addr) else (some (⟨b,o,none⟩:Addr)).map fun q=>q.add ((0:Int).toNat * ie.size))=some ⟨b,o,none⟩:=by
      split;· rfl
      ·simp[F7]
     rw[he,show hh.toNat - (0:Int).toNat=hh.toNat from sS,show cap - (0:Int).toNat=cap from sS]at Aq;refine⟨_,?_,.prim _ tT⟩;simp only[execOp,Bg,hv,Option.map_none,Aq,Sem.run_bind,Result.andThen_ok,Sem.run_pure]
    ·cases h
   ·cases h
 case h_16 c' Bg=>
  obtain⟨v,h1,h2⟩:=mF R h hc;exact⟨v,by simp only[execOp,Bg];exact h1,h2⟩
 case h_17 fn fi ca Bg=>
  have key:∀{l:List Operand} {vs:List Value},b5 X (get s) l=some vs->l.map a.eval=vs:=by
   intro l
   induction l with
   | nil=>intro vs h;cases h;rfl
   | cons x r ih=>
    intro vs h;simp only[b5]at h;split at h
    ·rename_i v us hx hr;cases h;rw[List.map_cons,ih hr,(BJ (A8 R hx)).1]
    ·cases h
  split at h
  ·rename_i f1 c1 h1 h2;cases h;have e1:fi.map a.eval=f1.toArray:=by rw[<- key h1,<- Array.toList_map]
   have e2:ca.map a.eval=c1.toArray:=by rw[<- key h2,<- Array.toList_map]
   exact⟨_,by simp only[execOp,Bg,e1,e2];simp[Instr.makeFunc,Sem.run_bind],.prim _ tT⟩
  ·cases h
 case h_18 x xt at' ok Bg=>
  unfold taV at h;split at h
  ·rename_i tt y' hx;split at h
   ·rename_i Ap;have hr:=A8 R hx
    obtain⟨u,hv,hu⟩:∃u,a.eval x = .iface tt u/\RV G.D w y' u:=by
     generalize a.eval x=v at hr;cases hr with
     | iface _ _ u h=>exact⟨u,rfl,h⟩
    have Hv:∃d,X.P.underlying at' = some d/\∀z,d≠.interface z:=by
     unfold RI at Ap;split at Ap;· cases Ap
     ·rename_i d hd hu;exact⟨d,hu,fun z e=>hd z e⟩
     ·cases Ap
    obtain⟨d,hd,Oz⟩:=Hv;split at h
    ·rename_i he;subst he;cases h;cases ok with
     | true=>
      refine⟨.tuple #[u,.bool true],?_,.tup [y',.prim (.bool true)] #[u,.bool true] rfl fun i c v hc hv=>?_⟩
      ·simp only[execOp,Bg,hv,Instr.typeAssert,Sem.run_bind,run_underlying hd,Result.andThen_ok];cases d <;> first|(exact (Oz _ rfl).elim)|simp
      ·match i with
       | 0=>simp at hc hv;subst hc hv;exact hu
       | 1=>simp at hc hv;subst hc hv;exact .prim _ tT
       | i+2=>simp at hc
     | false=>
      refine⟨u,?_,hu⟩;simp only[execOp,Bg,hv,Instr.typeAssert,Sem.run_bind,run_underlying hd,Result.andThen_ok];cases d <;> first|(exact (Oz _ rfl).elim)|simp
    ·rename_i Au;split at h
     ·rename_i Ee;subst Ee;split at h
      ·rename_i z hz;cases h;have hzz:∃i,X.P.info? at' = some i/\i.zero=some z/\D5 z:=by
        unfold b6 at hz;split at hz
        ·rename_i i hi;refine⟨i,hi,?_⟩;split at hz
         ·rename_i k n hzero;split at hz
          ·rename_i hb;cases hz;exact⟨hzero,aY hb⟩
          ·cases hz
         ·rename_i hzero;cases hz;exact⟨hzero,trivial⟩
         ·cases hz
        ·cases hz
       obtain⟨i,hi,hzi,hzp⟩:=hzz;refine⟨.tuple #[z,.bool false],?_,.tup [.prim z,.prim (.bool false)] #[z,.bool false] rfl fun i c v hc hv=>?_⟩
       ·simp only[execOp,Bg,hv,Instr.typeAssert,Sem.run_bind,run_underlying hd,Result.andThen_ok];cases d <;> first|(exact (Oz _ rfl).elim)|simp[Au,zeroValue,typeInfo,hi,hzi]
       ·match i with
        | 0=>simp at hc hv;subst hc hv;exact .prim _ hzp
        | 1=>simp at hc hv;subst hc hv;exact .prim _ tT
        | i+2=>simp at hc
      ·cases h
     ·cases h
   ·cases h
  ·cases h
 case h_19=>cases h
end
end
section
def G8 (d:Nat):SV->Bool
 | .loc k _=>k==d
 | _=>false
def M4 (d:Nat):SV->Bool
 | .own t _=>t==d
 | _=>false
def EC (d:Nat):List SV->Bool
 | []=>false
 | x::r=>G8 d x||EC d r
def NA (d:Nat):List SV->Bool
 | []=>false
 | x::r=>M4 d x||NA d r
def D6 (d:Nat):St->Bool
 | []=>true
 | (l,v)::r=>(match l with | .loc k=>k != d|_=>true)&&(match v with | .one x=>!G8 d x | .row cs=>!EC d cs | .tk _ _=>true | .ob _=>true | .mp _=>true)&&D6 d r
def D7 (d:Nat):St->Bool
 | []=>true
 | (l,v)::r=>(match l with | .tok k=>k != d|_=>true)&&(match v with | .one x=>!M4 d x | .row cs=>!NA d cs | .tk _ _=>true | .ob _=>true | .mp _=>true)&&D7 d r
theorem VW {s:St}{l:Loc}{v:LV}(h:get s l=some v):(l,v)∈s:=by
 induction s with
 | nil=>cases h
 | cons p r ih=>
  obtain⟨m,u⟩:=p;simp only[get]at h;split at h;· cases h;subst_vars;simp
  ·exact List.mem_cons_of_mem _ (ih h)
theorem US (d:Nat)(cs:List SV):EC d cs=false↔d∉cs.flatMap SV.locs:=by
 induction cs with
 | nil=>simp[EC]
 | cons x r ih=>cases x <;> simp[EC,G8,SV.locs,ih];exact fun _=>ne_comm
theorem s6 (d:Nat)(cs:List SV):NA d cs=false↔d∉cs.flatMap SV.toks:=by
 induction cs with
 | nil=>simp[NA]
 | cons x r ih=>cases x <;> simp[NA,M4,SV.toks,ih];exact fun _=>ne_comm
theorem s7 {d:Nat}{s:St}(h:D6 d s=true){l:Loc}{v:LV}(hg:get s l=some v):∀k∈l.locs++v.locs,k≠d:=by
 have hm:=VW hg
 induction s with
 | nil=>cases hm
 | cons p r ih=>
  obtain⟨m,u⟩:=p;simp only[D6,uH]at h;rcases List.mem_cons.1 hm with he|hm
  ·cases he;intro k hk he;subst he;rcases List.mem_append.1 hk with hk|hk
   ·have h1:=h.1.1;cases l <;> simp[Loc.locs]at hk;subst hk;simp at h1
   ·have h2:=h.1.2;cases v with
    | one x=>cases x <;> simp[LV.locs,SV.locs]at hk;subst hk;simp[G8]at h2
    | row cs=>
     simp only[Bool.not_eq_true']at h2;exact (US _ _).1 h2 hk
    | tk=>simp[LV.locs]at hk
    | ob=>simp[LV.locs]at hk
    | mp=>simp[LV.locs]at hk
  ·by_cases he:m=l
   ·subst he;simp only[get,if_true]at hg;cases hg;intro k hk he;subst he;rcases List.mem_append.1 hk with hk|hk
    ·have h1:=h.1.1;cases m <;> simp[Loc.locs]at hk;subst hk;simp at h1
    ·have h2:=h.1.2;cases v with
     | one x=>cases x <;> simp[LV.locs,SV.locs]at hk;subst hk;simp[G8]at h2
     | row cs=>
      simp only[Bool.not_eq_true']at h2;exact (US _ _).1 h2 hk
     | tk=>simp[LV.locs]at hk
     | ob=>simp[LV.locs]at hk
     | mp=>simp[LV.locs]at hk
   ·simp only[get,he,if_false]at hg;exact ih h.2 hg hm
theorem s8 {d:Nat}{s:St}(h:D7 d s=true){l:Loc}{v:LV}(hg:get s l=some v):∀k∈l.toks++v.toks,k≠d:=by
 induction s with
 | nil=>cases hg
 | cons p r ih=>
  obtain⟨m,u⟩:=p;simp only[D7,uH]at h;by_cases he:m=l
  ·subst he;simp only[get,if_true]at hg;cases hg;intro k hk he;subst he;rcases List.mem_append.1 hk with hk|hk
   ·have h1:=h.1.1;cases m <;> simp[Loc.toks]at hk;subst hk;simp at h1
   ·have h2:=h.1.2;cases v with
    | one x=>cases x <;> simp[LV.toks,SV.toks]at hk;subst hk;simp[M4]at h2
    | row cs=>
     simp only[Bool.not_eq_true']at h2;exact (s6 _ _).1 h2 hk
    | tk=>simp[LV.toks]at hk
    | ob=>simp[LV.toks]at hk
    | mp=>simp[LV.toks]at hk
  ·simp only[get,he,if_false]at hg;exact ih h.2 hg
def Ctx.F (X:Ctx):Fence:={ Fence.wide with round:=X.rd }
theorem zgr {X:Ctx}{n:Nat}{P:Program}{f:FuncId}{args:Array Value}{w:World}{R:Ending->World->Prop}(h:Calls P f args w R):CallsIn X.F n P f args w R:=callsIn_wide.2 h
def upn (P:Program)(o:Oper)(a:Act)(next:Act->World->Prop)(Q:Exit->Act->World->Prop):Result Next->Prop
 | .ok (.value v) w'=>next (a.put o.dst v) w'
 | .ok .skip w'=>next (a.put o.dst undef) w'
 | .ok (.enter f args) w'=>Calls P f args w' fun
   | .returned v,Jt=>next (a.put o.dst v) Jt
   | .panicked chain,Jt=>Q (.panic chain) a Jt
   | .outgrown,_=>LetsOut Q
 | _=>False
theorem D1 (P:Program)(o:Oper)(a:Act)(next:Act->World->Prop)(Q:Exit->Act->World->Prop)(v:Value)(w:World):upn P o a next Q (.ok (.value v) w)=next (a.put o.dst v) w:=rfl
theorem VX (P:Program)(o:Oper)(a:Act)(next:Act->World->Prop)(Q:Exit->Act->World->Prop)(w:World):upn P o a next Q (.ok .skip w)=next (a.put o.dst undef) w:=rfl
theorem fU (P:Program)(o:Oper)(a:Act)(next:Act->World->Prop)(Q:Exit->Act->World->Prop)(f:FuncId)(args:Array Value)(w:World):upn P o a next Q (.ok (.enter f args) w)=Calls P f args w fun
   | .returned v,Jt=>next (a.put o.dst v) Jt
   | .panicked chain,Jt=>Q (.panic chain) a Jt
   | .outgrown,_=>LetsOut Q:=rfl
theorem M5 {X:Ctx}{o:Oper}{a:Act}{w:World}{next:Act->World->Prop}{Q:Exit->Act->World->Prop}(hd:∀c,o.op≠.defer c)(h:upn X.P o a next Q ((execOp a.eval o).run X.P w)):o.wpIn X.F 0 X.P a w next Q:=by
 refine⟨fun _ _=>trivial,?_⟩;rw[Oper.semAt_eq _ _ _ hd];generalize (execOp a.eval o).run X.P w=r at h;cases r with
 | ok v w'=>
  cases v <;> simp only[upn,Oper.uponIn]at h ⊢;all_goals first|exact h|exact h.elim|exact⟨fun h=>(by cases h),zgr h⟩
 | halt e w'=>exact h.elim
theorem E3 {X:Ctx}{g:Rd}{o:Oper}{p:Prop × SV}(h:GP X g o=some p)(c:Call):o.op≠.defer c:=by
 intro e;simp[GP,e]at h
def ED (X:Ctx)(s:St)(o:Oper)(s':St):Prop:=
 ∀(G:Gh) (a:Act) (w:World),Rel X G s a w->∀(next:Act->World->Prop) (Q:Exit->Act->World->Prop),
  (∀G' a' w',Rel X G' s' a' w'->next a' w')->o.wpIn X.F 0 X.P a w next Q
section
variable {X:Ctx}{G:Gh}{s:St}{a:Act}{w:World}
theorem FV (a:Act)(dst:Option Tmp)(v:Value):(a.put dst v).tmps.size=a.tmps.size/\(a.put dst v).defers=a.defers:=by
 cases dst <;> simp[Act.put]
theorem E4 (a:Act)(d:Nat)(v:Value)(h:d<a.tmps.size):(a.put (some d) v).tmps.getD d undef=v:=by
 simp[Act.put,h]
theorem FH (a:Act)(d n:Nat)(v:Value)(h:n≠d):(a.put (some d) v).tmps.getD n undef=a.tmps.getD n undef:=by
 simp[Act.put,Array.getElem?_setIfInBounds_ne (Ne.symm h)]
theorem CX (w:World)(o:Obj)(b:Nat)(h:b<w.heap.size):(w.alloc o).heap[b]? = w.heap[b]?:=by
 simp only[World.alloc,Array.getElem?_push];rw[if_neg oO]
theorem JP (w:World)(o:Obj):(w.alloc o).heap[w.heap.size]? = some o:=by
 show (w.heap.push o)[w.heap.size]? = some o;simp
theorem Rel.setSlot {G':Gh}{w':World}(R:Rel X G s a w){B:Nat->Prop}(T:Trans X G a w G' a w' B)(hν:G'.ν=G.ν)(hτ:G'.τ=G.τ)(hB:∀b,¬B b){d:Nat}(hd:d<X.n){x:SV}{v:Value}(hx:LE G' w' x v) :
  Rel X G' (CM s (.slot d) (.one x)) (a.put (some d) v) w':=by
 have hp:=FV a (some d) v;have T':Trans X G a w G' (a.put (some d) v) w' B:=⟨hp.1,fun h=>(T.defers h).put hp.2,T.os,T.tape,T.output,T.size,T.keep,T.own,T.grow,T.new,T.nil⟩;refine R.step T' (fun l u=>l = .slot d/\u = .one x) (fun l u h=>?_) (fun l u h=>?_) (fun l u l' u' b h h' hb Ai=>h.1.trans h'.1.symm)
 ·rw[BM]at h;by_cases hl:Loc.slot d=l
  ·rw[if_pos hl]at h;cases h;exact .inl ⟨hl.symm,rfl⟩
  ·rw[if_neg hl]at h;exact .inr ⟨h,fun n hn=>FH _ _ _ _ (fun e=>hl (by rw[hn,e])),fun b _=>hB b,fun k _=>by rw[hν],fun t _=>by rw[hτ]⟩
 ·obtain⟨rfl,rfl⟩:=h;refine⟨?_,fun b hb=>by cases hb⟩;show LE G' w' x _;rw[E4 _ _ _ (by rw[R.size];exact hd)];exact hx
theorem Trans.refl (X:Ctx)(G:Gh)(a:Act)(w:World)(hn:G.τ 0=(none,0)):Trans X G a w G a w (fun _=>False):=
 ⟨rfl,fun h=>h,rfl,rfl,rfl,Nat.le_refl _,fun _ _ _=>rfl,fun _ h=>h.elim,OW.refl _ _,fun _ _ h k=>absurd h k,hn⟩
theorem z11 {o:Oper}{c:Prop}{y:SV}(h:GP X (get s) o=some (c,y))(hc:c){d:Nat}(hd:o.dst=some d)(hn:d<X.n):ED X s o (CM s (.slot d) (.one y)):=by
 intro G a w R next Q hK
 obtain⟨v,h1,h2⟩:=PU R h hc;refine M5 (by first|exact E3 h|(intro c e;rw[ho]at e;cases e)) ?_;rw[h1,D1,hd];exact hK G _ w (R.setSlot (Trans.refl X G a w R.nil) rfl rfl (fun _ h=>h) hn h2)
theorem bA {o:Oper}{c:Prop}{y:SV}(h:GP X (get s) o=some (c,y))(hc:c)(hd:o.dst=none):ED X s o s:=by
 intro G a w R next Q hK
 obtain⟨v,h1,h2⟩:=PU R h hc;refine M5 (by first|exact E3 h|(intro c e;rw[ho]at e;cases e)) ?_;rw[h1,D1,hd];exact hK G _ w R
theorem mH (R:Rel X G s a w)(o:Obj){G':Gh}(hD:G'.D=G.D)(hn:G'.τ 0=(none,0)):Trans X G a w G' a (w.alloc o) (fun _=>False):=by
 have Ah:∀b o',G.D b o'->(w.alloc o).cell? ⟨b,o',none⟩=w.cell? ⟨b,o',none⟩:=fun b o' hd=>World.cell?_alloc_lt _ _ _ (R.wf.lt hd);exact⟨rfl,fun h=>h.heap fun b hb=>CX w o b hb,rfl,rfl,rfl,sS,fun b hb _=>CX w o b hb,fun _ h=>h.elim,fun b o' hd=>⟨by rw[hD];exact hd,Ah b o' hd⟩,fun b o' h k=>absurd (hD ▸ h) k,hn⟩
def ES:List SV->Bool
 | []=>true
 | x::r=>x.isCell&&ES r
theorem PV (l:List SV):ES l=true↔∀c∈l,c.isCell=true:=by
 induction l with
 | nil=>simp[ES]
 | cons c r ih=>simp[ES,ih]
theorem Rel.newLoc (R:Rel X G s a w){d:Nat}(hd:d<X.n)(hf:D6 d s=true){cs:List SV}{c:Array Value}(Ak:HI G w cs c)(Ah:ES cs=true)(Bp:EC d cs=false)(t:TypeId) :
  ∃G',Rel X G' (CM (CM s (.slot d) (.one (.loc d 0))) (.loc d) (.row cs)) (a.put (some d) (.pointer (some ⟨w.heap.size,0,none⟩))) (w.alloc (.cells c t)):=by
 refine⟨{ G with ν:=fun k=>if k=d then w.heap.size else G.ν k },?_⟩;have hp:=FV a (some d) (.pointer (some ⟨w.heap.size,0,none⟩));have T0:=mH R (.cells c t) (G':={ G with ν:=fun k=>if k=d then w.heap.size else G.ν k }) rfl R.nil;have T:Trans X G a w { G with ν:=fun k=>if k=d then w.heap.size else G.ν k } (a.put (some d) (.pointer (some ⟨w.heap.size,0,none⟩))) (w.alloc (.cells c t)) (fun _=>False):=⟨hp.1,fun h=>(T0.defers h).put hp.2,T0.os,T0.tape,T0.output,T0.size,T0.keep,T0.own,T0.grow,T0.new,T0.nil⟩;refine R.step T (fun l u=>(l = .slot d/\u = .one (.loc d 0))\/(l = .loc d/\u = .row cs)) (fun l u h=>?_) (fun l u h=>?_) (fun l u l' u' b h h' hb Ai=>?_)
 ·rw[BM,BM]at h;by_cases h1:Loc.loc d=l;· rw[if_pos h1]at h;cases h;exact .inl (.inr ⟨h1.symm,rfl⟩)
  ·rw[if_neg h1]at h;by_cases h2:Loc.slot d=l;· rw[if_pos h2]at h;cases h;exact .inl (.inl ⟨h2.symm,rfl⟩)
   ·rw[if_neg h2]at h;refine .inr ⟨h,fun n hn=>FH _ _ _ _ (fun e=>h2 (by rw[hn,e])),fun b _ h=>h,fun k hk=>?_,fun t _=>rfl⟩;have:=s7 hf h k hk;simp[this]
 ·rcases h with⟨rfl,rfl⟩|⟨rfl,rfl⟩
  ·refine⟨?_,fun b hb=>by cases hb⟩;simp only[ME,LE];rw[E4 _ _ _ (by rw[R.size];exact hd)];simp
  ·refine⟨⟨c,t,by simp only[if_true];exact JP _ _,Nat.le_of_eq Ak.1.symm,fun i x hx=>?_⟩,fun b hb=>?_⟩
   ·have hm:=uE hx;refine⟨(PV cs).1 Ah x hm,?_⟩;have Ac:i<c.size:=by rw[Ak.1];exact (uA hx).1
    refine⟨c[i],uG Ac,?_⟩;have hr:=Ak.2 i x _ hx (uG Ac);refine hr.mono T0.grow (fun k hk=>?_) (fun t _=>rfl)
    have:k≠d:=fun e=>by
     subst e;exact (US _ _).1 Bp (List.mem_flatMap.2 ⟨x,hm,hk⟩)
    simp[this]
   ·simp only[BC,if_true,uC]at hb;subst hb;refine⟨.inl (Nat.le_refl _),.inl R.ext.size,fun _ o hD=>?_⟩;exact absurd (R.wf.lt hD) (Nat.lt_irrefl _)
 ·rcases h with⟨rfl,rfl⟩|⟨rfl,rfl⟩;· cases hb
  ·rcases h' with⟨rfl,rfl⟩|⟨rfl,rfl⟩;· cases Ai
   ·rfl
theorem bB {o:Oper}{t:TypeId}(ho:o.op = .alloc t){d:Nat}(hd:o.dst=some d)(hn:d<X.n){cs:List SV}(hz:EH X.P t=some cs)(hc:ES cs=true)(hf:D6 d s=true) :
  ED X s o (CM (CM s (.slot d) (.one (.loc d 0))) (.loc d) (.row cs)):=by
 intro G a w R next Q hK
 unfold EH at hz;split at hz
 ·rename_i i hi;split at hz
  ·rename_i z To;have Ak:=LO (w:=w) R.nil hz;simp only[Array.toArray_toList]at Ak;have Kr:EC d cs=false:=by
    have:∀(l:List Value) (cs:List SV),aZ l=some cs->EC d cs=false:=by
     intro l
     induction l with
     | nil=>intro cs h;cases h;rfl
     | cons v r ih=>
      intro cs h;simp only[aZ]at h;split at h
      ·rename_i x xs hx Yn;cases h;simp only[EC,ih _ Yn,Bool.or_false];unfold JH at hx;split at hx;· cases hx;rfl
       ·rename_i vs;cases hq:TC vs.toList with
        | none=>rw[hq]at hx;cases hx
        | some ds=>rw[hq]at hx;cases hx;rfl
       ·split at hx;· cases hx;rfl
        ·cases hx
      ·cases h
    exact this _ _ hz
   obtain⟨G',R'⟩:=R.newLoc hn hf Ak hc Kr t;refine M5 (by first|exact E3 h|(intro c e;rw[ho]at e;cases e)) ?_;simp only[execOp,ho,Instr.alloc,zeroValue,typeInfo,run_program,hi,To,newVar,newRow,run_newObj,Sem.run_bind,Sem.run_pure,Result.andThen_ok,D1,hd];exact hK G' _ _ R'
  ·cases hz
 ·cases hz
theorem mI {o:Oper}{t:TypeId}{x:Operand}(ho:o.op = .box t x){d:Nat}(hd:o.dst=some d)(hn:d<X.n){y:SV}(hy:CS X (get s) x=some y)(hc:ES (BV y)=true)(hf:D6 d s=true)(Kr:G8 d y=false) :
  ED X s o (CM (CM s (.slot d) (.one (.loc d 0))) (.loc d) (.row (BV y))):=by
 intro G a w R next Q hK
 have Ak:HI G w (BV y) (a.eval x).cells:=IA R.nil (A8 R hy);have hnl':EC d (BV y)=false:=by
  cases y with
  | v y=>
   have:∀l:List DV,EC d (l.map SV.v)=false:=by
    intro l
    induction l with
    | nil=>rfl
    | cons c r ih=>simp[EC,G8,ih]
   exact this _
  | loc k off=>simp[BV,EC,G8]at Kr ⊢;exact Kr
  | dp els i off=>rfl
  | own t els=>rfl
  | ag cs ns=>
   have:∀(l:List DV) (k:Nat),EC d (zS ns k l)=false:=by
    intro l
    induction l with
    | nil=>intro k;rfl
    | cons c r ih=>intro k;simp only[zS,EC,ih,Bool.or_false];split <;> rfl
   exact this _ _
 obtain⟨G',R'⟩:=R.newLoc hn hf Ak hc hnl' t;refine M5 (by first|exact E3 h|(intro c e;rw[ho]at e;cases e)) ?_;simp only[execOp,ho,Instr.box,newVar,newRow,run_newObj,Sem.run_bind,Sem.run_pure,Result.andThen_ok,D1,hd];exact hK G' _ _ R'
end
end
end Go.Proofs.YtkfiobkjflmchaaGreatDoor.Lift
