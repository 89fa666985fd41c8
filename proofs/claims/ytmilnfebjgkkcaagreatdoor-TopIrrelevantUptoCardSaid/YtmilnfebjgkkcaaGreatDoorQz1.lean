import Derived.WalkKit
import Derived.OrdersIn
import Derived.RangeFuncLeaves
import Derived.RangeFuncIn
import Derived.RangeFuncRecord
set_option maxHeartbeats 8000000
set_option maxRecDepth 100000
set_option linter.all false
namespace Go.Proofs.YtmilnfebjgkkcaaGreatDoor.Lift
open Act renaming put->iR0
open BitVec renaming ofInt->yL
open Bool renaming false_eq_true->vW,not_eq_true'->Ig,or_eq_true->Ci,or_false->at0
open Builtin renaming append_->DO,firstCells->kV,growBy->Un,lenOf->Uo,nextslicecap->Ii,zeroCells->KW
open Fence renaming wide->iQ0
open Frame renaming enter->Pt
open Instr renaming buildSlice->au0,field->iJ0,fieldAt->Pm,fill->KT,indexAt->Pn,loadAt->KS,makeFunc->iO0,slice->iK0,sliceAt->Ul,sliceBound->iM0,sliceBounds->iL0,sureAddr->nQ,typeAssert->iP0
open Int renaming toNat_of_nonneg->If
open IntKind renaming bits->ap0,i64->iC0,max->iE0,min->iD0,signed->ao0,u32->Pk
open List renaming append_assoc->yQ,eq_nil_of_length_eq_zero->Pr,foldl_cons->Uk,getElem?_append_left->cJ,getElem?_append_right->cK,getElem?_cons_succ->iG0,getElem?_drop->DM,getElem?_map->cI,getElem?_take_of_lt->tX,getElem_mem->vY,length_append->mJ,length_cons->B4,length_map->fV,length_nil->fC,map_cons->G4,mem_append->t6,mem_cons->u5,mem_cons_of_mem->iJ,mem_flatMap->Ug,mem_iff_getElem->yM,mem_map->F9,mem_of_mem_drop->FB,mem_of_mem_take->yN,mem_singleton->bM,nodup_cons->Ck,range->oT,range'->Uq,range'_succ->qJ
open List.cons renaming injEq->FG
open Nat renaming add_assoc->Ie,add_mul->Y9,add_sub_cancel_left->Po,add_zero->qI,div_lt_iff_lt_mul->iV0,eq_zero_or_pos->iU0,le_refl->I5,le_trans->cH,lt_irrefl->vX,mul_comm->Pq,mul_le_mul_right->yO,one_mul->Ih,sub_self->ar0,zero_add->G8,zero_le->aH,zero_mul->FC
open Ne renaming symm->f8
open Op renaming intArith->Uj
open Option renaming bind_eq_some_iff->mH,isSome_iff_exists->Up,map_eq_some_iff->vV,map_some->AS
open Option.some renaming injEq->U4
open Region renaming wanted->fD
open Result renaming andThen_ok->cW
open Sem renaming run_bind->v9,run_pure->kH
open World renaming cell?->rW,cell?_alloc_new->av0
open _root_.Array renaming foldl_toList->iH0,getElem?_append_left->FF,getElem?_eq_some_iff->fB,getElem?_setIfInBounds_ne->Pl,getElem?_toList->DN,length_toList->aB0,range->Pp,toArray_toList->iI0,toList_map->KV
open Go
variable{B E b cap d dj i id j n off:Nat}{P:Program}{a a':Act}{agg:Bool}{c:Array Value}{e t:TypeId}{f:FuncId}{k:IntKind}{m:List Item}{o:Oper}{ops:Array Oper}{v:Value}{w w' w0:World}
def oO{p:Prop}(h:p:=by omega):p:=h
def dD{p:Prop}(h:p:=by decide):p:=h
def sS{p:Prop}(h:p:=by simp):p:=h
def kK{p:Prop}(h:p:=by kernel_rfl):p:=h
def tT:True:=True.intro
def uA{α:Type _}{l:List α}{a:α}(h:l[i]? = some a):∃h:i<l.length,l[i]=a:=List.getElem?_eq_some_iff.1 h
def uB{α:Type _}{l:List α}(h:i<l.length):l[i]? = some l[i]:=List.getElem?_eq_getElem h
def uC{α:Type _}(a b:α):(some a=some b)=(a=b):=U4 a b
def uD{α:Type _}{β:Type _}(a:α)(b:β)(c:α)(d:β):((a,b)=(c,d))=(a=c/\b=d):=Prod.mk.injEq a b c d
def uE{α:Type _}{l:List α}{a:α}(h:l[i]? = some a):a∈l:=List.mem_of_getElem? h
def uF{a:Nat}(h:Nat.ble a b=true):a<=b:=Nat.le_of_ble_eq_true h
def uG{α:Type _}{l:Array α}(h:i<l.size):l[i]? = some l[i]:=Array.getElem?_eq_getElem h
def uH(a b:Bool):((a&&b)=true)=(a=true/\b=true):=Bool.and_eq_true a b
section
inductive DV where
 | K0 (v:Value)
 | agg (cs:List DV)
 | H1 (cs:List DV)
 | sl (els:List (List DV))
 | iface (t:TypeId) (x:DV)
 | ref (cs:List DV)
 | soft (cs:List DV) (ok:Bool)
 | flag (ok:Bool)
 | mpd (l:List (Int × Value))
 | m6 (f:FuncId) (cs:List DV)
def M5:Nat:=2147483648
def aY:Value->Prop
 | .int k n=>k.min<=n/\n<=k.max
 | .agg _=>False
 | .tuple _=>False
 | .slice none n c=>n=0/\c=0
 | .iface _ _=>False
 | _=>True
def DV.isCell:DV->Bool
 | .agg _=>false
 | .H1 _=>false
 | _=>true
def DV.isAgg:DV->Bool
 | .agg _=>true
 | _=>false
def GC(w:World)(b o:Nat):Prop:=∃c e v,w.heap[b]? = some (.cells c e (0,0))/\c[o]? = some (.bool v)
def GC.cell{w:World}{b o:Nat}(h:GC w b o):∃v,w.cell? ⟨b,o,none⟩=some (.bool v):=by
 obtain⟨c,e,v,h1,h2⟩:=h;exact⟨v,by simp[rW,h1,h2]⟩
def Sk(D:Nat->Nat->Prop)(w:World)(b o:Nat):Prop:=∃m,m % 1024=o/\D b m/\w.cell? ⟨b,m,none⟩=none/\GC w b o
def mA(D:Nat->Nat->Prop)(w:World)(b:Nat):Prop:=∃o,D b o/\w.cell? ⟨b,o,none⟩=none
def GD(D:Nat->Nat->Prop)(w:World)(b o:Nat)(ok:Bool):Prop:=(ok=true->Sk D w b o)/\(ok=false->D b o/\w.cell? ⟨b,o,none⟩=some (.bool false))
inductive RV (D:Nat->Nat->Prop)(w:World):DV->Value->Prop
 | K0 (v:Value) (h:aY v):RV D w (.K0 v) v
 | agg (cs:List DV) (vs:Array Value) (hl:vs.size=cs.length) (W5:∀c∈cs,c.isCell=true)
   (h:∀(i:Nat) (c:DV) (v:Value),cs[i]? = some c->vs[i]? = some v->RV D w c v):RV D w (.agg cs) (.agg vs)
 | H1 (cs:List DV) (vs:Array Value) (hl:vs.size=cs.length)
   (h:∀(i:Nat) (c:DV) (v:Value),cs[i]? = some c->vs[i]? = some v->RV D w c v):RV D w (.H1 cs) (.tuple vs)
 | sl0 (b:Option Addr) (cap:Nat):RV D w (.sl []) (.slice b 0 cap)
 | sl (els:List (List DV)) (b o cap E:Nat) (val:Nat->Nat->Value) (hlen:els.length<=M5) (bL:els.length<=cap) (hE:∀e∈els,e.length=E)
   (W5:∀e∈els,∀c∈e,DV.isCell c=true)
   (hc:∀i j,i<els.length->j<E->w.cell? ⟨b,o+(i * E+j),none⟩=some (val i j))
   (hD:∀i j,i<els.length->j<E->D b (o+(i * E+j)))
   (h:∀(i j:Nat) (e:List DV) (c:DV),els[i]? = some e->e[j]? = some c->RV D w c (val i j)) :
   RV D w (.sl els) (.slice (some ⟨b,o,none⟩) els.length cap)
 | iface (t:TypeId) (x:DV) (v:Value) (h:RV D w x v):RV D w (.iface t x) (.iface t v)
 | ref (cs:List DV) (b o:Nat) (val:Nat->Value) (W5:∀c∈cs,DV.isCell c=true)
   (hc:∀j,j<cs.length->w.cell? ⟨b,o+j,none⟩=some (val j)) (hD:∀j,j<cs.length->D b (o+j))
   (h:∀(j:Nat) (c:DV),cs[j]? = some c->RV D w c (val j)):RV D w (.ref cs) (.pointer (some ⟨b,o,none⟩))
 | soft (cs:List DV) (ok:Bool) (b:Nat) (val:Nat->Value) (W5:∀c∈cs,DV.isCell c=true)
   (hc:∀j,j<cs.length->w.cell? ⟨b,0+j,none⟩=some (val j)) (hD:∀j,j<cs.length->D b (0+j)) (hs:GD D w b (0+cs.length) ok)
   (h:∀(j:Nat) (c:DV),cs[j]? = some c->RV D w c (val j)):RV D w (.soft cs ok) (.pointer (some ⟨b,0,none⟩))
 | flag (ok:Bool) (b o:Nat) (hs:GD D w b o ok):RV D w (.flag ok) (.pointer (some ⟨b,o,none⟩))
 | mpd (l:List (Int × Value)) (b:Nat) (es:Array MapEntry) (cl o:Nat) (hD:D b o) (hb:w.heap[b]? = some (.map es cl)) (hl:es.size=l.length)
   (h:∀(i:Nat) (k:Int) (v:Value) (e:MapEntry),l[i]? = some (k,v)->es[i]? = some e->e.key = .int .i64 k/\e.val=v/\aY v):RV D w (.mpd l) (.map (some b))
 | m6 (f:FuncId) (cs:List DV) (vs:Array Value) (hl:vs.size=cs.length)
   (h:∀(i:Nat) (c:DV) (v:Value),cs[i]? = some c->vs[i]? = some v->RV D w c v):RV D w (.m6 f cs) (.func (.func f) #[] vs)
def BH(b o:Nat)(w w':World):Prop:=
 w'.cell? ⟨b,o,none⟩=w.cell? ⟨b,o,none⟩/\((∃es cl,w.heap[b]? = some (.map es cl))->w'.heap[b]? = w.heap[b]?)/\(w.cell? ⟨b,o,none⟩=none->GC w b (o % 1024)->GC w' b (o % 1024))
def BH.of{o:Nat}(h:w'.heap[b]? = w.heap[b]?):BH b o w w':=by
 have hc:∀o,w'.cell? ⟨b,o,none⟩=w.cell? ⟨b,o,none⟩:=fun o=>by simp only[rW];rw[h]
 exact⟨hc o,fun _=>h,fun _ ⟨c,e,v,h1,h2⟩=>⟨c,e,v,h.trans h1,h2⟩⟩
def BH.refl(b o:Nat)(w:World):BH b o w w:=.of rfl
def iU(D:Nat->Nat->Prop)(w:World)(D':Nat->Nat->Prop)(w':World):Prop:=
 ∀b o,D b o->D' b o/\BH b o w w'
def iU.refl(D:Nat->Nat->Prop)(w:World):iU D w D w:=fun _ _ h=>⟨h,.refl _ _ _⟩
def iU.trans{D D' D'':Nat->Nat->Prop}{w w' nG:World}(h:iU D w D' w')(k:iU D' w' D'' nG):iU D w D'' nG:=
 fun b o hd=>let ⟨h1,h2,h3,h4⟩:=h b o hd;let ⟨k1,k2,k3,k4⟩:=k b o h1
  ⟨k1,k2.trans h2,fun m=>(k3 (by obtain⟨es,cl,q⟩:=m;exact⟨es,cl,(h3 ⟨es,cl,q⟩).trans q⟩)).trans (h3 m),fun q1 q2=>k4 (h2.trans q1) (h4 q1 q2)⟩
def Sk.mono{D D':Nat->Nat->Prop}{o:Nat}(g:iU D w D' w')(h:Sk D w b o):Sk D' w' b o:=
 let ⟨m,e,h1,h2,h3⟩:=h;let ⟨g1,g2,_,g4⟩:=g b _ h1
 ⟨m,e,g1,g2.trans h2,e ▸ g4 h2 (e ▸ h3)⟩
def mA.back{D D':Nat->Nat->Prop}(e:w'.heap[b]? = w.heap[b]?)(hD:∀o,D' b o->D b o)(h:mA D' w' b):mA D w b:=by
 obtain⟨o,h1,h2⟩:=h;refine⟨o,hD _ h1,?_⟩;simp only[rW]at *;rw[<- e];exact h2
def GD.mono{D D':Nat->Nat->Prop}{w w':World}{b o:Nat}{ok:Bool}(g:iU D w D' w')(h:GD D w b o ok):GD D' w' b o ok:=
 ⟨fun e=>(h.1 e).mono g,fun e=>let ⟨h1,h2⟩:=h.2 e;⟨(g _ _ h1).1,(g _ _ h1).2.1.trans h2⟩⟩
def RV.mono{D D':Nat->Nat->Prop}{w w':World}{x:DV}{v:Value}(g:iU D w D' w')(h:RV D w x v):RV D' w' x v:=by
 induction h with
 | K0 v h=>exact .K0 v h
 | agg cs vs hl W5 h ih=>exact .agg cs vs hl W5 ih
 | H1 cs vs hl h ih=>exact .H1 cs vs hl ih
 | sl0 b cap=>exact .sl0 b cap
 | sl els b o cap E val hlen bL hE W5 hc hD h ih=>
  exact .sl els b o cap E val hlen bL hE W5 (fun i j hi hj=>by rw[(g _ _ (hD i j hi hj)).2.1];exact hc i j hi hj) (fun i j hi hj=>(g _ _ (hD i j hi hj)).1) ih
 | iface t x v h ih=>exact .iface t x v ih
 | ref cs b o val W5 hc hD h ih=>exact .ref cs b o val W5 (fun j hj=>by rw[(g _ _ (hD j hj)).2.1];exact hc j hj) (fun j hj=>(g _ _ (hD j hj)).1) ih
 | soft cs ok b val W5 hc hD hs h ih=>exact .soft cs ok b val W5 (fun j hj=>by rw[(g _ _ (hD j hj)).2.1];exact hc j hj) (fun j hj=>(g _ _ (hD j hj)).1) (hs.mono g) ih
 | flag ok b o hs=>exact .flag ok b o (hs.mono g)
 | m6 f cs vs hl h ih=>exact .m6 f cs vs hl ih
 | mpd l b es cl o hD hb hl h=>exact .mpd l b es cl o (g _ _ hD).1 (((g _ _ hD).2.2.1 ⟨es,cl,hb⟩).trans hb) hl h
def DV.fit:DV->Prop
 | .K0 v=>aY v
 | .agg cs=>fits cs
 | .H1 cs=>fits cs
 | .sl els=>els.length<=M5/\fitss els
 | .iface _ x=>x.fit
 | .ref cs=>fits cs
 | .soft cs _=>fits cs
 | .flag _=>True
 | .mpd _=>True
 | .m6 _ cs=>fits cs
where
 fits:List DV->Prop
  | []=>True
  | c::r=>c.fit/\fits r
 fitss:List (List DV)->Prop
  | []=>True
  | e::r=>fits e/\fitss r
def fits_iff(cs:List DV):DV.fit.fits cs↔∀(i:Nat) (c:DV),cs[i]? = some c->c.fit:=by
 induction cs with
 | nil=>simp[DV.fit.fits]
 | cons a r ih=>
  simp only[DV.fit.fits,ih];constructor
  ·rintro⟨h,k⟩ i c hc;cases i with
   | zero=>simp at hc;exact hc ▸ h
   | succ i=>exact k i c (by simpa using hc)
  ·intro h;exact⟨h 0 a rfl,fun i c hc=>h (i+1) c (by simpa using hc)⟩
def dz0(els:List (List DV)):DV.fit.fitss els↔∀(i j:Nat) (e:List DV) (c:DV),els[i]? = some e->e[j]? = some c->c.fit:=by
 induction els with
 | nil=>simp[DV.fit.fitss]
 | cons a r ih=>
  simp only[DV.fit.fitss,ih,fits_iff];constructor
  ·rintro⟨h,k⟩ i j e c he hc;cases i with
   | zero=>simp at he;subst he;exact h j c hc
   | succ i=>exact k i j e c (by simpa using he) hc
  ·intro h;exact⟨fun j c hc=>h 0 j a c rfl hc,fun i j e c he hc=>h (i+1) j e c (by simpa using he) hc⟩
def RV.fit{D:Nat->Nat->Prop}{w:World}{x:DV}{v:Value}(h:RV D w x v):x.fit:=by
 induction h with
 | K0 v h=>exact h
 | agg cs vs hl W5 h ih=>
  simp only[DV.fit,fits_iff];intro i c hc;have hi:i<vs.size:=by rw[hl];exact (uA hc).1
  exact ih i c _ hc (uG hi)
 | H1 cs vs hl h ih=>
  simp only[DV.fit,fits_iff];intro i c hc;have hi:i<vs.size:=by rw[hl];exact (uA hc).1
  exact ih i c _ hc (uG hi)
 | sl0 b cap=>simp[DV.fit,DV.fit.fitss]
 | sl els b o cap E val hlen bL hE W5 hc hD h ih=>
  simp only[DV.fit,dz0];exact⟨hlen,ih⟩
 | iface t x v h ih=>exact ih
 | ref cs b o val W5 hc hD h ih=>
  simp only[DV.fit,fits_iff];exact ih
 | soft cs ok b val W5 hc hD hs h ih=>
  simp only[DV.fit,fits_iff];exact ih
 | flag=>trivial
 | mpd=>trivial
 | m6 f cs vs hl h ih=>
  simp only[DV.fit,fits_iff];intro i c hc;have hi:i<vs.size:=by rw[hl];exact (uA hc).1
  exact ih i c _ hc (uG hi)
def mQ0(h:aY v):v.oneCell' = true:=by
 cases v <;> first|rfl|exact h.elim
theorem RV.one{D:Nat->Nat->Prop}{x:DV}(h:RV D w x v)(hx:x.isCell=true):v.oneCell' = true:=by
 cases h with
 | K0 v h=>exact mQ0 h
 | agg=>cases hx
 | H1=>cases hx
 | sl0=>rfl
 | sl=>rfl
 | iface=>rfl
 | ref=>rfl
 | soft=>rfl
 | flag=>rfl
 | mpd=>rfl
 | m6=>rfl
inductive SV where
 | v (x:DV)
 | loc (k off:Nat)
 | dp (els:List (List DV)) (i off:Nat)
 | own (t:Nat) (els:List (List DV))
 | ag (cs:List DV) (GO0:List Nat)
inductive Loc where
 | P0 (n:Nat)
 | loc (n:Nat)
 | heap (b:Nat)
 | tok (t:Nat)
 deriving DecidableEq
inductive Ob where
 | lp (r:Loop)
 | it (b n:Nat) (seen:List Nat)
instance:Coe Loop Ob:=⟨.lp⟩
def Ob.obj:Ob->Obj
 | .lp r=>.loop r
 | .it b n seen=>.mapIter (some b) n seen.toArray n
inductive LV where
 | one (x:SV)
 | row (cs:List SV)
 | tk (E len:Nat)
 | ob (r:Ob)
 | mp (l:List (Int × DV))
abbrev St:=List (Loc × LV)
def get:St->Loc->Option LV
 | [],_=>none
 | (m,v)::r,l=>if m=l then some v else get r l
def D8:St->Loc->St
 | [],_=>[]
 | (m,v)::r,l=>if m=l then D8 r l else (m,v)::D8 r l
def L2(s:St)(l:Loc)(v:LV):St:=(l,v)::D8 s l
def nV(s:St)(l m:Loc):get (D8 s l) m=if l=m then none else get s m:=by
 induction s with
 | nil=>simp[D8,get]
 | cons p r ih=>
  obtain⟨k,v⟩:=p;by_cases h:k=l
  ·simp only[D8,h,if_true,ih,get];by_cases h':l=m <;> simp[h']
  ·by_cases h':l=m;· subst h';simp[D8,h,get,ih]
   ·simp only[D8,h,if_false,get,ih,h']
def T5(s:St)(l m:Loc)(v:LV):get (L2 s l v) m=if l=m then some v else get s m:=by
 simp only[L2,get,nV];by_cases h:l=m <;> simp[h]
abbrev dR:=List (Loc × Option LV)
def apply(s:St):dR->St
 | []=>s
 | (l,some v)::e=>apply (L2 s l v) e
 | (l,none)::e=>apply (D8 s l) e
def dR.says:dR->Loc->Option (Option LV)
 | [],_=>none
 | (m,v)::e,l=>match dR.says e l with
  | some x=>some x
  | none=>if m=l then some v else none
def Eh(e:dR):∀(s:St) (l:Loc),get (apply s e) l=(e.says l).getD (get s l):=by
 induction e with
 | nil=>intro s l;rfl
 | cons p e ih=>
  intro s l;obtain⟨m,v⟩:=p;cases v with
  | none=>
   simp only[apply,ih,dR.says,nV];cases h:dR.says e l with
   | some x=>rfl
   | none=>by_cases hm:m=l <;> simp[hm]
  | some v=>
   simp only[apply,ih,dR.says,T5];cases h:dR.says e l with
   | some x=>rfl
   | none=>by_cases hm:m=l <;> simp[hm]
structure Gh where
 D:Nat->Nat->Prop
 ν:Nat->Nat
 τ:Nat->Option Addr × Nat
def B7(G:Gh)(w:World):SV->Value->Prop
 | .v x,v=>RV G.D w x v
 | .loc k off,v=>v = .pointer (some ⟨G.ν k,off,none⟩)
 | .dp els i off,v=>∃b o E cap,RV G.D w (.sl els) (.slice (some ⟨b,o,none⟩) els.length cap)/\(∀e∈els,e.length=E)/\i<els.length/\v = .pointer (some ⟨b,o+(i * E+off),none⟩)
 | .own t els,v=>v = .slice (G.τ t).1 els.length (G.τ t).2/\RV G.D w (.sl els) v
 | .ag cs ns,v=>RV G.D w (.agg cs) v/\∀i∈ns,cs[i]? = some (.sl [])/\v.cells[i]? = some (.slice none 0 0)
def SV.isCell:SV->Bool
 | .v x=>x.isCell
 | .ag _ _=>false
 | _=>true
def B7.one{G:Gh}{w:World}{x:SV}{v:Value}(h:B7 G w x v)(hx:x.isCell=true):v.oneCell' = true:=by
 cases x with
 | v x=>exact RV.one h hx
 | loc k off=>obtain rfl:=h;rfl
 | dp els i off=>obtain⟨b,o,E,cap,-,-,-,rfl⟩:=h;rfl
 | own t els=>obtain⟨rfl,-⟩:=h;rfl
 | ag cs ns=>cases hx
def jT(G:Gh)(w:World)(b:Nat)(cs:List SV):Prop:=
 ∃c e,w.heap[b]? = some (.cells c e (0,0))/\cs.length<=c.size/\∀(i:Nat) (x:SV),cs[i]? = some x->x.isCell=true/\∃v,c[i]? = some v/\B7 G w x v
def pH(G:Gh)(w:World)(t E len:Nat):Prop:=
 match G.τ t with
 | (none,cap)=>len=0/\cap=0
 | (some a,cap)=>len<=cap/\(len<cap->a.spot=none/\∃c e,w.heap[a.block]? = some (.cells c e (0,0))/\a.off+cap * E<=c.size/\(∀j,a.off+len * E<=j->j<a.off+cap * E->¬G.D a.block j)/\¬mA G.D w a.block)
def mS(G:Gh)(t len:Nat):Option Nat:=
 match G.τ t with
 | (some a,cap)=>if len<cap then some a.block else none
 | _=>none
def Nc(G:Gh)(w:World)(b:Nat)(l:List (Int × DV)):Prop:=
 ∃es cl,w.heap[b]? = some (.map es cl)/\es.size=l.length/\(∀(i:Nat) (k:Int) (d:DV) (e:MapEntry),l[i]? = some (k,d)->es[i]? = some e->e.key = .int .i64 k/\RV G.D w d e.val)/\cl=l.length/\∀(i:Nat) (e:MapEntry),es[i]? = some e->e.born=i
def oA(G:Gh)(w:World)(a:Act):Loc->LV->Prop
 | .P0 s,.one x=>B7 G w x (a.tmps.getD s undef)
 | .loc k,.row cs=>jT G w (G.ν k) cs
 | .heap b,.row cs=>jT G w b cs
 | .tok t,.tk E len=>pH G w t E len
 | .heap b,.ob r=>w.heap[b]? = some r.obj
 | .heap b,.mp l=>Nc G w b l
 | _,_=>False
def D5(G:Gh):Loc->LV->Option Nat
 | .loc k,.row _=>some (G.ν k)
 | .heap b,.row _=>some b
 | .heap b,.ob _=>some b
 | .loc k,.ob _=>some (G.ν k)
 | .heap b,.mp _=>some b
 | .loc k,.mp _=>some (G.ν k)
 | .tok t,.tk _ len=>mS G t len
 | _,_=>none
def Loc.isTok:Loc->Bool
 | .tok _=>true
 | _=>false
abbrev X8:=List (Nat × List (List DV))
def CX(D:Nat->Nat->Prop)(w:World)(b o:Nat):Prop:=(∃v,w.cell? ⟨b,o,none⟩=some v)\/(∃es cl,w.heap[b]? = some (.map es cl))\/(w.cell? ⟨b,o,none⟩=none/\GC w b (o % 1024)/\¬D b (o % 1024))
def CX.lt{D:Nat->Nat->Prop}{o:Nat}(h:CX D w b o):b<w.heap.size:=by
 rcases h with⟨v,hv⟩|⟨es,cl,h⟩|⟨-,⟨c,e,v,h,_⟩,-⟩;· exact World.block_lt_of_cell? w _ hv
 ·exact (fB.1 h).1
 ·exact (fB.1 h).1
def CX.keep{D D':Nat->Nat->Prop}{o:Nat}(h:CX D w b o)(k:BH b o w w')(hd:w.cell? ⟨b,o,none⟩=none->D' b (o % 1024)->D b (o % 1024)):CX D' w' b o:=by
 rcases h with⟨v,hv⟩|⟨es,cl,hm⟩|⟨hn,hb,h3⟩;· exact .inl ⟨v,k.1.trans hv⟩
 ·exact .inr (.inl ⟨es,cl,(k.2.1 ⟨es,cl,hm⟩).trans hm⟩)
 ·exact .inr (.inr ⟨k.1.trans hn,k.2.2 hn hb,fun h=>h3 (hd hn h)⟩)
def CX.no{D:Nat->Nat->Prop}{o:Nat}{ob:Obj}(h:CX D w b o)(hb:w.heap[b]? = some ob)(h1:∀c e f,ob≠.cells c e f)(h2:∀es cl,ob≠.map es cl):False:=by
 have key:∀{o:Nat} {v:Value},w.cell? ⟨b,o,none⟩=some v->False:=by
  intro o v hv;simp only[rW]at hv;rw[hb]at hv;cases ob <;> first|exact h1 _ _ _ rfl|cases hv
 rcases h with⟨v,hv⟩|⟨es,cl,h⟩|⟨-,⟨c,e,v,h,_⟩,-⟩;· exact key hv
 ·rw[hb]at h;cases h;exact h2 _ _ rfl
 ·rw[hb]at h;cases h;exact h1 _ _ _ rfl
structure Wf (gl:X8)(D:Nat->Nat->Prop)(w:World):Prop where
 there:∀b o,D b o->CX D w b o
 globs:∀g els,(g,els)∈gl->∃cap,RV D w (.sl els) (.slice (some ⟨g,0,none⟩) els.length cap)
def Wf.lt{gl:X8}{D:Nat->Nat->Prop}{w:World}(h:Wf gl D w){b o:Nat}(hd:D b o):b<w.heap.size:=by
 exact (h.there b o hd).lt
structure Ext (ids:List Nat)(D:Nat->Nat->Prop)(w:World)(D':Nat->Nat->Prop)(w':World):Prop where
 os:w'.os=w.os
 tape:w'.tape=w.tape
 output:w'.output=w.output
 size:w.heap.size<=w'.heap.size
 block:∀b,b<w.heap.size->b∉ids->¬mA D w b->w'.heap[b]? = w.heap[b]?
 grow:iU D w D' w'
 new:∀b o,D' b o->¬D b o->w.heap.size<=b
def Ext.soft{ids:List Nat}{D D':Nat->Nat->Prop}(h:Ext ids D w D' w')(hs:mA D' w' b):w.heap.size<=b\/mA D w b:=by
 obtain⟨o,h1,h2⟩:=hs;by_cases hd:D b o;· exact .inr ⟨o,hd,(h.grow b _ hd).2.1.symm.trans h2⟩
 ·exact .inl (h.new b _ h1 hd)
def Wf.unsoft{gl:X8}{D:Nat->Nat->Prop}(h:Wf gl D w){ob:Obj}(hb:w.heap[b]? = some ob)(h1:∀c e f,ob≠.cells c e f)(h2:∀es cl,ob≠.map es cl):¬mA D w b:=
 fun ⟨_,hd,_⟩=>(h.there b _ hd).no hb h1 h2
def Ext.refl(ids:List Nat)(D:Nat->Nat->Prop)(w:World):Ext ids D w D w:=
 ⟨rfl,rfl,rfl,I5 _,fun _ _ _ _=>rfl,iU.refl _ _,fun _ _ h k=>absurd h k⟩
inductive Md where
 | fn
 | it (l:Nat) (R:List (Nat × List DV)->Loop->Prop)
 | fm (b:Nat) (R:DV->List (Int × DV)->Prop)
 | rd (l:Nat) (r:Loop) (R:Option Code->List (Nat × List DV)->Prop)
def pM(D:Nat):Deferred:={ target:=.collected D,args:=#[] }
structure Ctx where
 P:Program
 gl:X8
 f:FuncId
 fn:Func
 n:Nat
 ids:List Nat
 D0:Nat->Nat->Prop
 w0:World
 R:DV->List (Nat × List DV)->Prop
 md:Md
def Ctx.rd(X:Ctx):Option Nat:=match X.md with
 | .rd l _ _=>some l
 | _=>none
def rH(w0:World)(a:Act)(w:World):Prop:=∃Ds:List Nat,a.defers=Ds.map pM/\Ds.Nodup/\∀D∈Ds,w.heap[D]? = some (.deferred (some []))/\w0.heap.size<=D
def rH.keep(h:rH w0 a w)(hd:a'.defers=a.defers)(hw:∀D:Nat,w.heap[D]? = some (Obj.deferred (some []))->w'.heap[D]? = some (Obj.deferred (some []))):rH w0 a' w':=by
 obtain⟨Ds,h1,h2,h3⟩:=h;exact⟨Ds,hd.trans h1,h2,fun D hD=>⟨hw D (h3 D hD).1,(h3 D hD).2⟩⟩
def rH.put(hd:a'.defers=a.defers)(h:rH w0 a w):rH w0 a' w:=h.keep hd fun _ h=>h
def rH.heap(h:rH w0 a w)(hw:∀b,b<w.heap.size->w'.heap[b]? = w.heap[b]?):rH w0 a w':=
 h.keep rfl fun D hD=>(hw D (fB.1 hD).1).trans hD
def rH.but(h:rH w0 a w){f:Nat × Nat}(hc:w.heap[b]? = some (.cells c e f))(hw:∀b',b'≠b->w'.heap[b']? = w.heap[b']?):rH w0 a w':=
 h.keep rfl fun D hD=>(hw D (fun e=>by subst e;rw[hc]at hD;cases hD)).trans hD
structure Rel (X:Ctx)(G:Gh)(s:St)(a:Act)(w:World):Prop where
 size:a.tmps.size=X.n
 defers:rH X.w0 a w
 ext:Ext X.ids X.D0 X.w0 G.D w
 wf:Wf X.gl G.D w
 nil:G.τ 0=(none,0)
 holds:∀l v,get s l=some v->oA G w a l v
 sep:∀l v l' v' b,get s l=some v->get s l' = some v'->D5 G l v=some b->D5 G l' v' = some b->l=l'
 own:∀l v b,get s l=some v->D5 G l v=some b->X.w0.heap.size<=b\/(b∈X.ids/\l.isTok=false)
 data:∀l v b o,get s l=some v->D5 G l v=some b->l.isTok=false->¬G.D b o
def Rel.unsoft{X:Ctx}{G:Gh}{s:St}(R:Rel X G s a w){l:Loc}{v:LV}(h:get s l=some v)(hb:D5 G l v=some b):¬mA G.D w b:=by
 by_cases ht:l.isTok=true
 ·cases l with
  | tok t=>
   have hh:=R.holds _ _ h;cases v with
   | tk E len=>
    simp only[D5,mS,oA,pH]at hb hh;split at hb
    ·rename_i aa cap heq;rw[heq]at hh;split at hb
     ·rename_i I1;cases hb;obtain⟨-,c,e,-,-,-,h7⟩:=hh.2 I1;exact h7
     ·cases hb
    ·cases hb
   | _=>cases hb
  | _=>cases ht
 ·exact fun ⟨o,hd,_⟩=>R.data _ _ b _ h hb (by simpa using ht) hd
def SV.locs:SV->List Nat
 | .loc k _=>[k]
 | _=>[]
def SV.toks:SV->List Nat
 | .own t _=>[t]
 | _=>[]
def LV.locs:LV->List Nat
 | .one x=>x.locs
 | .row cs=>cs.flatMap SV.locs
 | .tk _ _=>[]
 | .ob _=>[]
 | .mp _=>[]
def LV.toks:LV->List Nat
 | .one x=>x.toks
 | .row cs=>cs.flatMap SV.toks
 | .tk _ _=>[]
 | .ob _=>[]
 | .mp _=>[]
def Loc.locs:Loc->List Nat
 | .loc k=>[k]
 | _=>[]
def Loc.toks:Loc->List Nat
 | .tok t=>[t]
 | _=>[]
structure Trans (X:Ctx)(G:Gh)(a:Act)(w:World)(G':Gh)(a':Act)(w':World)(B:Nat->Prop):Prop where
 tmps:a'.tmps.size=a.tmps.size
 defers:rH X.w0 a w->rH X.w0 a' w'
 os:w'.os=w.os
 tape:w'.tape=w.tape
 output:w'.output=w.output
 size:w.heap.size<=w'.heap.size
 keep:∀b,b<w.heap.size->¬B b->w'.heap[b]? = w.heap[b]?
 own:∀b,B b->X.w0.heap.size<=b\/b∈X.ids\/mA X.D0 X.w0 b
 grow:iU G.D w G'.D w'
 new:∀b o,G'.D b o->¬G.D b o->(w.heap.size<=b\/(B b/\X.w0.heap.size<=b/\¬mA G.D w b))/\CX G'.D w' b o
 nil:G'.τ 0=(none,0)
def B7.mono{G G':Gh}{w w':World}{x:SV}{v:Value}(g:iU G.D w G'.D w')(hl:∀k∈x.locs,G'.ν k=G.ν k)(ht:∀t∈x.toks,G'.τ t=G.τ t)(h:B7 G w x v):B7 G' w' x v:=by
 cases x with
 | v x=>exact RV.mono g h
 | loc k off=>have e:=hl k (by simp[SV.locs]);simp only[B7]at *;rw[e];exact h
 | dp els i off=>obtain⟨b,o,E,cap,h1,h2⟩:=h;exact⟨b,o,E,cap,RV.mono g h1,h2⟩
 | own t els=>have e:=ht t (by simp[SV.toks]);simp only[B7]at *;rw[e];exact⟨h.1,RV.mono g h.2⟩
 | ag cs ns=>exact⟨RV.mono g h.1,h.2⟩
def jT.mono{G G':Gh}{w w':World}{b:Nat}{cs:List SV}(g:iU G.D w G'.D w')(hb:w'.heap[b]? = w.heap[b]?)(hl:∀k∈cs.flatMap SV.locs,G'.ν k=G.ν k)(ht:∀t∈cs.flatMap SV.toks,G'.τ t=G.τ t)(h:jT G w b cs):jT G' w' b cs:=by
 obtain⟨c,e,h1,h2,h3⟩:=h;refine⟨c,e,hb.trans h1,h2,fun i x hx=>?_⟩;obtain⟨hc,v,hv,hr⟩:=h3 i x hx;have hm:x∈cs:=uE hx;exact⟨hc,v,hv,hr.mono g (fun k hk=>hl k (Ug.2 ⟨x,hm,hk⟩)) (fun t hk=>ht t (Ug.2 ⟨x,hm,hk⟩))⟩
def mT{G:Gh}{l:Loc}{v:LV}(h:oA G w a l v)(hb:D5 G l v=some b):b<w.heap.size:=by
 have key:∀{o:Obj},w.heap[b]? = some o->b<w.heap.size:=fun h=>(fB.1 h).1;cases l with
 | P0 s=>cases v <;> cases hb
 | loc k=>
  cases v with
  | row cs=>simp only[D5,uC]at hb;subst hb;obtain⟨c,e,h1,_⟩:=h;exact key h1
  | one x=>cases hb
  | tk E len=>cases hb
  | ob r=>exact h.elim
  | mp l=>exact h.elim
 | heap k=>
  cases v with
  | row cs=>simp only[D5,uC]at hb;subst hb;obtain⟨c,e,h1,_⟩:=h;exact key h1
  | one x=>cases hb
  | tk E len=>cases hb
  | ob r=>simp only[D5,uC]at hb;subst hb;exact key h
  | mp l=>simp only[D5,uC]at hb;subst hb;obtain⟨es,cl,h1,_⟩:=h;exact key h1
 | tok t=>
  cases v with
  | row cs=>cases hb
  | one x=>cases hb
  | ob r=>cases hb
  | mp l=>cases hb
  | tk E len=>
   simp only[D5,mS,oA,pH]at hb h;split at hb
   ·rename_i aa cap heq;rw[heq]at h;obtain⟨h2,h3⟩:=h;split at hb
    ·rename_i I1;obtain⟨-,c,e,h4,_⟩:=h3 I1;cases hb;exact key h4
    ·cases hb
   ·cases hb
def Trans.kept{X:Ctx}{G G':Gh}{B:Nat->Prop}(T:Trans X G a w G' a' w' B){l:Loc}{v:LV}
  (FP0:∀s,l = .P0 s->a'.tmps.getD s undef=a.tmps.getD s undef) (hB:∀b,D5 G l v=some b->¬B b)
  (hl:∀k∈l.locs++v.locs,G'.ν k=G.ν k) (ht:∀t∈l.toks++v.toks,G'.τ t=G.τ t) (h:oA G w a l v) :
  oA G' w' a' l v/\D5 G' l v=D5 G l v:=by
 cases l with
 | P0 s=>
  cases v with
  | one x=>
   refine⟨?_,rfl⟩;simp only[oA]at *;rw[FP0 s rfl];exact h.mono T.grow (fun k hk=>hl k (by simp[LV.locs,hk])) (fun t hk=>ht t (by simp[LV.toks,hk]))
  | row cs=>exact h.elim
  | tk E len=>exact h.elim
  | ob r=>exact h.elim
  | mp l=>exact h.elim
 | loc k=>
  cases v with
  | row cs=>
   have e:G'.ν k=G.ν k:=hl k (by simp[Loc.locs]);have I1:=mT (l:=.loc k) (v:=.row cs) h rfl;refine⟨?_,by simp[D5,e]⟩;simp only[oA]at *;rw[e];exact h.mono T.grow (T.keep _ I1 (hB _ rfl)) (fun j hj=>hl j (by simp only[LV.locs,t6];exact .inr hj)) (fun t hj=>ht t (by simp only[LV.toks,t6];exact .inr hj))
  | one x=>exact h.elim
  | tk E len=>exact h.elim
  | ob r=>exact h.elim
  | mp l=>exact h.elim
 | heap k=>
  cases v with
  | row cs=>
   have I1:=mT (l:=.heap k) (v:=.row cs) h rfl;refine⟨?_,by simp[D5]⟩;simp only[oA]at *;exact h.mono T.grow (T.keep _ I1 (hB _ rfl)) (fun j hj=>hl j (by simp only[LV.locs,t6];exact .inr hj)) (fun t hj=>ht t (by simp only[LV.toks,t6];exact .inr hj))
  | one x=>exact h.elim
  | tk E len=>exact h.elim
  | ob r=>
   have I1:=mT (l:=.heap k) (v:=.ob r) h rfl;refine⟨?_,by simp[D5]⟩;simp only[oA]at *;exact (T.keep _ I1 (hB _ rfl)).trans h
  | mp l=>
   have I1:=mT (l:=.heap k) (v:=.mp l) h rfl;refine⟨?_,by simp[D5]⟩;obtain⟨es,cl,h1,h2,h3,h4⟩:=h;exact⟨es,cl,(T.keep _ I1 (hB _ rfl)).trans h1,h2,fun i k d e hi he=>⟨(h3 i k d e hi he).1,(h3 i k d e hi he).2.mono T.grow⟩,h4⟩
 | tok t=>
  cases v with
  | row cs=>exact h.elim
  | one x=>exact h.elim
  | ob r=>exact h.elim
  | mp l=>exact h.elim
  | tk E len=>
   have e:G'.τ t=G.τ t:=ht t (by simp[Loc.toks]);refine⟨?_,by simp[D5,mS,e]⟩;have I1:=fun b=>mT (l:=.tok t) (v:=.tk E len) (b:=b) h;simp only[oA,pH,D5,mS]at *;rw[e];cases hh:G.τ t with
   | mk o cap=>
    cases o with
    | none=>rw[hh]at h;exact h
    | some p=>
     rw[hh]at h I1 hB;obtain⟨h2,h3⟩:=h;refine⟨h2,fun hc=>?_⟩;obtain⟨h1,c,e',h4,h5,h6,h7⟩:=h3 hc;have V8:=I1 p.block (by simp[hc]);have Z8:=hB p.block (by simp[hc])
     have hold:∀o,G'.D p.block o->G.D p.block o:=fun o hD=>Classical.byContradiction fun A4=>by
      rcases (T.new _ _ hD A4).1 with Fv|⟨Fl,_⟩;· omega
      ·exact Z8 Fl
     exact⟨h1,c,e',(T.keep _ V8 Z8).trans h4,h5,fun j hj1 hj2 hD=>h6 j hj1 hj2 (hold j hD),fun hs=>h7 (hs.back (T.keep _ V8 Z8) hold)⟩
def Ext.step{X:Ctx}{G G':Gh}{B:Nat->Prop}(T:Trans X G a w G' a' w' B)(h:Ext X.ids X.D0 X.w0 G.D w):Ext X.ids X.D0 X.w0 G'.D w':=by
 refine⟨T.os.trans h.os,T.tape.trans h.tape,T.output.trans h.output,cH h.size T.size,fun b hb hn hsf=>?_,h.grow.trans T.grow,fun b o hd hn=>?_⟩
 ·have hnB:¬B b:=fun hB=>by
   rcases T.own b hB with h1|h1|h1;· omega
   ·exact hn h1
   ·exact hsf h1
  exact (T.keep b (by have:=h.size;omega) hnB).trans (h.block b hb hn hsf)
 ·by_cases hg:G.D b o;· exact h.new b o hg hn
  ·rcases (T.new b o hd hg).1 with h1|⟨_,h1,_⟩;· have:=h.size;omega
   ·exact h1
def Wf.step{X:Ctx}{G G':Gh}{B:Nat->Prop}(T:Trans X G a w G' a' w' B)(h:Wf X.gl G.D w):Wf X.gl G'.D w':=by
 refine⟨fun b o hd=>?_,fun g els hg=>?_⟩
 ·by_cases hg:G.D b o
  ·refine (h.there b o hg).keep (T.grow b o hg).2 fun hn ZX=>Classical.byContradiction fun A4=>?_;rcases (T.new b _ ZX A4).1 with h1|⟨_,_,h1⟩;· have:=h.lt hg;omega
   ·exact h1 ⟨o,hg,hn⟩
  ·exact (T.new b o hd hg).2
 ·obtain⟨cap,hr⟩:=h.globs g els hg;exact⟨cap,hr.mono T.grow⟩
def Rel.step{X:Ctx}{G G':Gh}{a a':Act}{w w':World}{B:Nat->Prop}{s s':St}(R:Rel X G s a w)(T:Trans X G a w G' a' w' B)(New:Loc->LV->Prop)
  (Gj0:∀l v,get s' l=some v->New l v\/(get s l=some v/\(∀n,l = .P0 n->a'.tmps.getD n undef=a.tmps.getD n undef)/\(∀b,D5 G l v=some b->¬B b) /\
   (∀k∈l.locs++v.locs,G'.ν k=G.ν k)/\(∀t∈l.toks++v.toks,G'.τ t=G.τ t)))
  (BX:∀l v,New l v->oA G' w' a' l v/\∀b,D5 G' l v=some b->(w.heap.size<=b\/B b)/\(X.w0.heap.size<=b\/(b∈X.ids/\l.isTok=false))/\(l.isTok=false->∀o,¬G'.D b o))
  (Gl0:∀l v l' v' b,New l v->New l' v'->D5 G' l v=some b->D5 G' l' v' = some b->l=l'):Rel X G' s' a' w':=by
 have hk:∀l v,get s' l=some v->New l v\/(get s l=some v/\oA G' w' a' l v/\D5 G' l v=D5 G l v/\∀b,D5 G l v=some b->b<w.heap.size/\¬B b):=by
  intro l v h;rcases Gj0 l v h with h|⟨h1,h2,h3,h4,h5⟩;· exact .inl h
  ·have hh:=R.holds l v h1;obtain⟨k1,k2⟩:=T.kept h2 h3 h4 h5 hh;exact .inr ⟨h1,k1,k2,fun b hb=>⟨mT hh hb,h3 b hb⟩⟩
 refine⟨T.tmps.trans R.size,T.defers R.defers,R.ext.step T,R.wf.step T,T.nil,fun l v h=>?_,fun l v l' v' b h h' hb X2=>?_,fun l v b h hb=>?_,fun l v b o h hb ht=>?_⟩
 ·rcases hk l v h with h|⟨_,h,_⟩;· exact (BX l v h).1
  ·exact h
 ·rcases hk l v h with h|⟨h1,_,h3,h4⟩
  ·rcases hk l' v' h' with h' | ⟨k1,_,k3,k4⟩;· exact Gl0 l v l' v' b h h' hb X2
   ·obtain⟨q,-,-⟩:=(BX l v h).2 b hb;obtain⟨q1,q2⟩:=k4 b (k3 ▸ X2);rcases q with q|q;· omega
    ·exact absurd q q2
  ·rcases hk l' v' h' with h' | ⟨k1,_,k3,k4⟩
   ·obtain⟨q,-,-⟩:=(BX l' v' h').2 b X2;obtain⟨q1,q2⟩:=h4 b (h3 ▸ hb);rcases q with q|q;· omega
    ·exact absurd q q2
   ·exact R.sep l v l' v' b h1 k1 (h3 ▸ hb) (k3 ▸ X2)
 ·rcases hk l v h with h|⟨h1,_,h3,h4⟩;· exact ((BX l v h).2 b hb).2.1
  ·exact R.own l v b h1 (h3 ▸ hb)
 ·rcases hk l v h with h|⟨h1,_,h3,h4⟩;· exact ((BX l v h).2 b hb).2.2 ht o
  ·intro hD;have hn:=R.data l v b o h1 (h3 ▸ hb) ht;obtain⟨q1,q2⟩:=h4 b (h3 ▸ hb);rcases (T.new b o hD hn).1 with h5|⟨h5,_⟩;· omega
   ·exact q2 h5
end
variable{G G':Gh}{X:Ctx}{cs:List SV}{els:List (List DV)}{l:Loc}{r:DV}{s s':St}{x y:SV}
section
def E50:TypeDesc->Bool
 | .struct _ | .array _ _=>true
 | _=>false
def G5(P:Program)(t:TypeId):Option (Bool × Nat):=
 match P.underlying t,P.info? t with
 | some d,some i=>some (E50 d,i.size)
 | _,_=>none
def X7(P:Program)(t:TypeId):Option Nat:=
 match P.underlying t with
 | some (.slice e)=>(P.info? e).map (·.size)
 | _=>none
def Dd(P:Program)(t:TypeId):Option (Nat × Nat):=
 match P.underlying t with
 | some (.array n e)=>(P.info? e).map fun i=>(n,i.size)
 | _=>none
def M4(P:Program)(t f:Nat):Option (Bool × Nat × Nat):=
 match P.underlying t with
 | some (.struct fs)=>
  match fs[f]? with
  | some fl=>
   match G5 P fl.type with
   | some (b,n)=>if n=0 then none else some (b,fl.offset,n)
   | none=>none
  | none=>none
 | _=>none
def Sz(P:Program)(t:TypeId):Bool:=
 match P.underlying t with
 | some .bool=>true
 | _=>false
def zW(P:Program)(t:TypeId):Bool:=
 match P.underlying t with
 | some (.interface _)=>false
 | some _=>true
 | none=>false
def EP(P:Program)(t:TypeId):Option IntKind:=
 match P.underlying t with
 | some (.int k)=>some k
 | _=>none
def rI(P:Program)(t:TypeId):Bool:=
 match P.underlying t with
 | some (.pointer _)=>true
 | _=>false
def y6(k:IntKind)(n:Int):Prop:=k.min<=n/\n<=k.max
instance (k:IntKind) (n:Int):Decidable (y6 k n):=inferInstanceAs (Decidable (_/\_))
theorem LU(n:Int):y6 .i64 n↔-9223372036854775808<=n/\n<=9223372036854775807:=by
 have h1:iC0.min = -9223372036854775808:=dD;have h2:iC0.max=9223372036854775807:=dD;rw[y6,h1,h2]
theorem QK(n:Int):y6 .u32 n↔0<=n/\n<=4294967295:=by
 have h1:Pk.min=0:=dD;have h2:Pk.max=4294967295:=dD;rw[y6,h1,h2]
theorem sB0(n:Int):y6 .u8 n↔0<=n/\n<=255:=by
 have h1:IntKind.u8.min=0:=dD;have h2:IntKind.u8.max=255:=dD;rw[y6,h1,h2]
def Cx{n:Int}(h:y6 k n):k.wrap n=n:=by
 obtain⟨h1,h2⟩:=h;cases k <;> simp[iD0,iE0,ao0,ap0]at h1 h2 <;> simp[IntKind.wrap,ao0,ap0] <;> (try split) <;> omega
def GN:Value->Bool
 | .int k n=>decide (y6 k n)
 | .agg _=>false
 | .tuple _=>false
 | .slice _ _ _=>false
 | .iface _ _=>false
 | _=>true
def WC(h:GN v=true):aY v:=by
 cases v <;> first|trivial|(simp[GN]at h;exact h)|(simp[GN]at h)
def XO:Value->Option DV
 | .slice none 0 0=>some (.sl [])
 | v=>if GN v then some (.K0 v) else none
def Jr:List Value->Option (List DV)
 | []=>some []
 | v::r=>match XO v,Jr r with
  | some x,some xs=>some (x::xs)
  | _,_=>none
def qX:Value->Option SV
 | .slice none 0 0=>some (.own 0 [])
 | .agg cs=>(Jr cs.toList).map fun ds=>.v (.agg ds)
 | v=>if GN v then some (.v (.K0 v)) else none
def k80{x:DV}(h:XO v=some x):RV G.D w x v/\x.isCell=true:=by
 unfold XO at h;split at h;· cases h;exact⟨.sl0 _ _,rfl⟩
 ·split at h;· cases h;exact⟨.K0 _ (WC ‹_›),rfl⟩
  ·cases h
theorem bJ0{G:Gh}{w:World}:∀{l:List Value} {ds:List DV},Jr l=some ds->l.length=ds.length/\(∀c∈ds,c.isCell=true) /\
  ∀(i:Nat) (c:DV) (v:Value),ds[i]? = some c->l[i]? = some v->RV G.D w c v
 | [],ds,h=>by cases h;simp
 | v::r,ds,h=>by
  simp only[Jr]at h;split at h
  ·rename_i x xs hx AJ;cases h;obtain⟨h1,h2,h3⟩:=bJ0 (G:=G) (w:=w) AJ;obtain⟨k1,k2⟩:=k80 (G:=G) (w:=w) hx;refine⟨by simp[h1],fun c hc=>?_,fun i c v hc hv=>?_⟩
   ·rcases u5.1 hc with rfl|hc;· exact k2
    ·exact h2 c hc
   ·cases i with
    | zero=>simp at hc hv;subst hc hv;exact k1
    | succ i=>exact h3 i c v (by simpa using hc) (by simpa using hv)
  ·cases h
def bP0(hn:G.τ 0=(none,0))(h:qX v=some x):B7 G w x v:=by
 unfold qX at h;split at h
 ·cases h;simp only[B7,hn];exact⟨rfl,.sl0 _ _⟩
 ·rename_i cs;cases hd:Jr cs.toList with
  | none=>rw[hd]at h;cases h
  | some ds=>
   rw[hd]at h;cases h;obtain⟨h1,h2,h3⟩:=bJ0 (G:=G) (w:=w) hd;exact .agg ds cs (by simpa using h1) h2 (fun i c v hc hv=>h3 i c v hc (by simpa using hv))
 ·split at h;· cases h;exact .K0 _ (WC ‹_›)
  ·cases h
def D6:X8->Nat->Option (List (List DV))
 | [],_=>none
 | (g,els)::r,n=>if g=n then some els else D6 r n
def mR0{gl:X8}(h:D6 gl n=some els):(n,els)∈gl:=by
 induction gl with
 | nil=>cases h
 | cons p r ih=>
  obtain⟨g,e⟩:=p;simp only[D6]at h;split at h;· cases h;subst_vars;simp
  ·exact iJ _ (ih h)
def wide:List (List DV)->Option Nat
 | []=>none
 | e::_=>some e.length
abbrev Rd:=Loc->Option LV
def M2(X:Ctx)(g:Rd):Operand->Option SV
 | .tmp t=>match g (.P0 t) with
  | some (.one x)=>some x
  | _=>none
 | .const v=>qX v
 | .global b=>match D6 X.gl b with
  | some (e::r)=>some (.dp (e::r) 0 0)
  | _=>none
 | .func f=>some (.v (.K0 (.func (.func f) #[] #[])))
def O4(R:Rel X G s a w){x:Operand}(h:M2 X (get s) x=some y):B7 G w y (a.eval x):=by
 cases x with
 | tmp t=>
  simp only[M2]at h;split at h;· rename_i z hz;cases h;exact R.holds _ _ hz
  ·cases h
 | const v=>exact bP0 R.nil h
 | global b=>
  simp only[M2]at h;split at h
  ·rename_i e r hg;cases h;obtain⟨cap,hr⟩:=R.wf.globs b _ (mR0 hg);have OA:=hr;cases hr with
   | sl els b' o s8 E val hlen bL hE W5 hc hD hh=>
    exact⟨b,0,E,cap,OA,hE,sS,by simp[Act.eval]⟩
  ·cases h
 | func f=>
  cases h;exact .K0 _ tT
def kR:SV->Option DV
 | .v x=>some x
 | .own _ els=>some (.sl els)
 | .ag cs _=>some (.agg cs)
 | .dp els i 0=>(els[i]?).map .ref
 | _=>none
def Af0{e:List DV}(he:els[i]? = some e)(hr:B7 G w (.dp els i 0) v):RV G.D w (.ref e) v:=by
 obtain⟨b,o,E,cap,h1,h2,h3,rfl⟩:=hr;have Cg:e.length=E:=h2 e (uE he);cases h1 with
 | sl0=>simp at h3
 | sl _ _ _ _ E' val hlen bL lJ W5 hc hD hh=>
  have DL:E' = E:=by rw[<- lJ e (uE he),Cg]
  subst DL;refine .ref e b (o+(i * E'+0)) (fun j=>val i j) (W5 e (uE he)) (fun j hj=>?_) (fun j hj=>?_) (fun j c hj=>hh i j e c he hj);· rw[qI,Ie];exact hc i j h3 oO
  ·rw[qI,Ie];exact hD i j h3 oO
def Ei{y:DV}(h:kR x=some y)(hr:B7 G w x v):RV G.D w y v:=by
 cases x with
 | v x=>cases h;exact hr
 | own t els=>cases h;exact hr.2
 | ag cs ns=>cases h;exact hr.1
 | loc=>cases h
 | dp els i off=>
  cases off with
  | zero=>
   obtain⟨e,he,rfl⟩:=vV.1 h;exact Af0 he hr
  | succ off=>cases h
def sC0{y:DV}(h:kR x=some y)(hc:x.isCell=true):y.isCell=true:=by
 cases x with
 | v x=>cases h;exact hc
 | own t els=>cases h;rfl
 | ag cs ns=>cases hc
 | loc=>cases h
 | dp els i off=>
  cases off with
  | zero=>obtain⟨e,he,rfl⟩:=vV.1 h;rfl
  | succ off=>cases h
def bZ:List SV->Option (List DV)
 | []=>some []
 | x::r=>match kR x,bZ r with
  | some y,some ys=>some (y::ys)
  | _,_=>none
theorem Je:∀{l:List SV} {ds:List DV},bZ l=some ds->l.length=ds.length/\∀(i:Nat) (c:DV),ds[i]? = some c->∃x,l[i]? = some x/\kR x=some c
 | [],ds,h=>by cases h;simp
 | x::r,ds,h=>by
  simp only[bZ]at h;split at h
  ·rename_i y ys hy kD;cases h;obtain⟨h1,h2⟩:=Je kD;refine⟨by simp[h1],fun i c hc=>?_⟩;cases i with
   | zero=>simp at hc;subst hc;exact⟨x,rfl,hy⟩
   | succ i=>obtain⟨z,hz⟩:=h2 i c (by simpa using hc);exact⟨z,by simpa using hz.1,hz.2⟩
  ·cases h
def sD0(cs:List DV):bZ (cs.map SV.v)=some cs:=by
 induction cs with
 | nil=>rfl
 | cons c r ih=>simp[bZ,kR,ih]
def aZ(X:Ctx)(g:Rd):List Operand->Option (List DV)
 | []=>some []
 | x::r=>match (M2 X g x).bind kR,aZ X g r with
  | some y,some ys=>some (y::ys)
  | _,_=>none
def EQ(k:IntKind)(a b:Int):Int:=k.wrap (yL k.bits a &&& yL k.bits b).toNat
def SY(k:IntKind)(a b:Int):Int:=k.wrap (yL k.bits a ||| yL k.bits b).toNat
def SM(k:IntKind)(a b:Int):Int:=k.wrap (a * 2 ^ min b.toNat k.bits)
def BI(k:IntKind)(a b:Int):Int:=a.fdiv (2 ^ min b.toNat k.bits)
def SN(op:BinOp)(k:IntKind)(a b:Int):Option (Prop × SV):=
 match op with
 | .shl=>some (0<=b,.v (.K0 (.int k (SM k a b))))
 | .shr=>some (0<=b/\y6 k (BI k a b),.v (.K0 (.int k (BI k a b))))
 | _=>none
def mY(op:BinOp)(k:IntKind)(a b:Int):Option (Prop × SV):=
 match op with
 | .and=>some (True,.v (.K0 (.int k (EQ k a b))))
 | .or=>some (True,.v (.K0 (.int k (SY k a b))))
 | .add=>some (y6 k (a+b),.v (.K0 (.int k (a+b))))
 | .sub=>some (y6 k (a - b),.v (.K0 (.int k (a - b))))
 | .mul=>some (y6 k (a * b),.v (.K0 (.int k (a * b))))
 | .rem=>some (b≠0/\y6 k (a.tmod b),.v (.K0 (.int k (a.tmod b))))
 | .quo=>some (b≠0/\y6 k (a.tdiv b),.v (.K0 (.int k (a.tdiv b))))
 | .eql=>some (True,.v (.K0 (.bool (a==b))))
 | .neq=>some (True,.v (.K0 (.bool (a != b))))
 | .lss=>some (True,.v (.K0 (.bool (decide (a<b)))))
 | .leq=>some (True,.v (.K0 (.bool (decide (a<=b)))))
 | .gtr=>some (True,.v (.K0 (.bool (decide (a > b)))))
 | .geq=>some (True,.v (.K0 (.bool (decide (a>=b)))))
 | _=>none
def CE(cs:List SV)(agg:Bool)(off n:Nat):Option SV:=
 if agg then
  match bZ ((cs.drop off).take n) with
  | some ds=>if ds.length=n then some (.v (.agg ds)) else none
  | none=>none
 else cs[off]?
def pJ(cs:List DV)(agg:Bool)(off n:Nat):Option DV:=
 if agg then if ((cs.drop off).take n).length=n then some (.agg ((cs.drop off).take n)) else none
 else cs[off]?
def aL:DV->List DV
 | .agg cs=>cs
 | x=>[x]
def Q9(d:Nat):List Nat->Bool
 | []=>false
 | x::r=>d==x||Q9 d r
def tL(ns:List Nat):Nat->List DV->List SV
 | _,[]=>[]
 | k,d::r=>(if Q9 k ns then .own 0 [] else .v d)::tL ns (k+1) r
theorem Xl(ns:List Nat):∀(cs:List DV) (k:Nat),(tL ns k cs).length=cs.length/\∀i:Nat,(tL ns k cs)[i]? = cs[i]?.map fun d=>if Q9 (k+i) ns then SV.own 0 [] else .v d
 | [],k=>by simp[tL]
 | d::r,k=>by
  obtain⟨h1,h2⟩:=Xl ns r (k+1);refine⟨by simp[tL,h1],fun i=>?_⟩;cases i with
  | zero=>simp[tL]
  | succ i=>simp only[tL,iG0,h2];rw[show k+1+i=k+(i+1) from oO]
def sE0(d:Nat)(l:List Nat):Q9 d l=true↔d∈l:=by
 induction l with
 | nil=>simp[Q9]
 | cons x r ih=>simp[Q9,ih]
def lV:Nat->List SV->List Nat
 | _,[]=>[]
 | k,.own 0 []::r=>k::lV (k+1) r
 | k,_::r=>lV (k+1) r
theorem Vy{i:Nat}:∀{cs:List SV} {k:Nat},i∈lV k cs->∃j,i=k+j/\cs[j]? = some (.own 0 [])
 | [],_,h=>by cases h
 | c::r,k,h=>by
  unfold lV at h;split at h;· cases h
  ·rename_i heq;cases heq;rcases u5.1 h with rfl|h;· exact⟨0,rfl,rfl⟩
   ·obtain⟨j,h1,h2⟩:=Vy h;exact⟨j+1,oO,by simpa using h2⟩
  ·rename_i heq;cases heq;obtain⟨j,h1,h2⟩:=Vy h;exact⟨j+1,oO,by simpa using h2⟩
def P7:SV->List SV
 | .v x=>(aL x).map .v
 | .ag cs ns=>tL ns 0 cs
 | x=>[x]
def put(cs:List SV):Nat->List SV->List SV
 | 0,xs=>xs++cs.drop xs.length
 | n+1,xs=>match cs with
  | []=>[]
  | c::r=>c::put r n xs
def GO:List Value->Option (List SV)
 | []=>some []
 | v::r=>match qX v,GO r with
  | some x,some xs=>some (x::xs)
  | _,_=>none
def K7(P:Program)(t:TypeId):Option (List SV):=
 match P.info? t with
 | some i=>match i.zero with
  | some z=>GO z.cells.toList
  | none=>none
 | none=>none
def aK(P:Program)(t:TypeId):Option (List (Nat × Nat)):=
 match P.underlying t with
 | some (.struct fields)=>fields.toList.mapM (fun f=>(P.info? f.type).map fun i=>(f.offset,i.size))
 | some (.array n e)=>(P.info? e).map fun i=>(oT n).map fun k=>(k * i.size,i.size)
 | _=>none
def BC(places:List (Nat × Nat))(X:Ctx)(g:Rd)(cells:List SV):List (Nat × Operand)->Option (List SV)
 | []=>some cells
 | (i,x)::rest=>
  match places[i]?,M2 X g x with
  | some (off,size),some y=>
   if (P7 y).length=size/\off+size<=cells.length then BC places X g (put cells off (P7 y)) rest else none
  | _,_=>none
def fI:List DV->Bool
 | []=>true
 | c::r=>c.isCell&&fI r
def loadAt(X:Ctx)(g:Rd)(t:TypeId):SV->Option SV
 | .loc k off=>match G5 X.P t,g (.loc k) with
  | some (agg,n),some (.row cs)=>CE cs agg off n
  | _,_=>none
 | .dp els i off=>match G5 X.P t,els[i]? with
  | some (agg,n),some e=>(pJ e agg off n).map .v
  | _,_=>none
 | .v (.K0 (.pointer (some ⟨b,off,none⟩)))=>match G5 X.P t,g (.heap b) with
  | some (agg,n),some (.row cs)=>CE cs agg off n
  | _,_=>none
 | .v (.ref cs)=>match G5 X.P t with
  | some (agg,n)=>(pJ cs agg 0 n).map .v
  | none=>none
 | _=>none
def dN:SV->Option (List (List DV))
 | .v (.sl els)=>some els
 | .own _ els=>some els
 | _=>none
def bN(X:Ctx)(g:Rd)(d:Nat):Option Operand->Option Int
 | none=>some d
 | some x=>match M2 X g x with
  | some (.v (.K0 (.int _ n)))=>some n
  | _=>none
def oB(X:Ctx)(g:Rd)(c:Call):Option (Prop × SV):=
 match c.callee,c.args.toList,c.argTypes.toList with
 | .builtin .len,[x],[t]=>
  match X7 X.P t,(M2 X g x).bind dN with
  | some _,some els=>some (True,.v (.K0 (.int .i64 els.length)))
  | _,_=>match X7 X.P t,M2 X g x with
   | some _,some (.v (.K0 (.slice _ n _)))=>some (n<=M5,.v (.K0 (.int .i64 n)))
   | _,_=>none
 | .builtin .max,[x,y],_=>
  match M2 X g x,M2 X g y with
  | some (.v (.K0 (.int k a))),some (.v (.K0 (.int _ b)))=>some (y6 k b,.v (.K0 (.int k (if b > a then b else a))))
  | _,_=>none
 | .builtin .min,[x,y],_=>
  match M2 X g x,M2 X g y with
  | some (.v (.K0 (.int k a))),some (.v (.K0 (.int _ b)))=>some (y6 k b,.v (.K0 (.int k (if b<a then b else a))))
  | _,_=>none
 | _,_,_=>none
def Aa(X:Ctx)(g:Rd):List Operand->Option (List Value)
 | []=>some []
 | x::r=>match M2 X g x,Aa X g r with
  | some (.v (.K0 v)),some vs=>some (v::vs)
  | _,_=>none
def vK(op:BinOp)(is:Bool):Option (Prop × SV):=
 match op with
 | .eql=>some (True,.v (.K0 (.bool is)))
 | .neq=>some (True,.v (.K0 (.bool (!is))))
 | _=>none
def GP(P:Program)(t:TypeId):Option Value:=
 match P.info? t with
 | some i=>match i.zero with
  | some (.int k n)=>if GN (.int k n) then some (.int k n) else none
  | some (.pointer none)=>some (.pointer none)
  | _=>none
 | none=>none
def Di(b:Bool)(asserted:TypeId)(ok:Bool)(z:Option Value)(x:Option SV):Option (Prop × SV):=
 match x with
 | some (.v (.iface t y))=>if b then
   if t=asserted then some (True,.v (if ok then .H1 [y,.K0 (.bool true)] else y))
   else if ok then match z with
    | some z=>some (True,.v (.H1 [.K0 z,.K0 (.bool false)]))
    | none=>none
   else none
  else none
 | _=>none
def N8(X:Ctx)(g:Rd)(o:Oper):Option (Prop × SV):=
 match o.op with
 | .move x=>(M2 X g x).map (True,·)
 | .assign x=>(M2 X g x).map (True,·)
 | .pick c x y=>
  match M2 X g c with
  | some (.v (.K0 (.bool true)))=>(M2 X g x).map (True,·)
  | some (.v (.K0 (.bool false)))=>(M2 X g y).map (True,·)
  | _=>none
 | .binOp op t x y _=>
  match M2 X g x,M2 X g y with
  | some (.v (.K0 (.int k a))),some (.v (.K0 (.int k' b)))=>if k=k' then mY op k a b else SN op k a b
  | some (.v (.K0 (.bool a))),some (.v (.K0 (.bool b)))=>
   if Sz X.P t then
    match op with
    | .eql=>some (True,.v (.K0 (.bool (a==b))))
    | .neq=>some (True,.v (.K0 (.bool (!(a==b)))))
    | _=>none
   else none
  | some (.v (.ref _)),some (.v (.K0 (.pointer none)))=>if rI X.P t then vK op false else none
  | some (.v (.K0 (.pointer none))),some (.v (.K0 (.pointer none)))=>if rI X.P t then vK op true else none
  | some (.v (.soft _ _)),some (.v (.K0 (.pointer none)))=>if rI X.P t then vK op false else none
  | _,_=>none
 | .unOp op _ x=>
  match op,M2 X g x with
  | .not,some (.v (.K0 (.bool b)))=>some (True,.v (.K0 (.bool (!b))))
  | .neg,some (.v (.K0 (.int k n)))=>some (y6 k (0 - n),.v (.K0 (.int k (0 - n))))
  | _,_=>none
 | .extract x i=>
  match M2 X g x with
  | some (.v (.H1 cs))=>cs[i]?.map fun c=>(True,.v c)
  | _=>none
 | .field t x f=>
  match M4 X.P t f,M2 X g x with
  | some (agg,off,n),some (.v y)=>(pJ (aL y) agg off n).map fun c=>(y.isAgg=true,.v c)
  | _,_=>none
 | .fieldAddr t x f=>
  match M4 X.P t f,M2 X g x with
  | some (_,Y8,_),some (.loc k off)=>some (True,.loc k (off+Y8))
  | some (_,Y8,_),some (.dp els i off)=>some (True,.dp els i (off+Y8))
  | some (_,Y8,_),some (.v (.K0 (.pointer (some ⟨b,off,none⟩))))=>some (True,.v (.K0 (.pointer (some ⟨b,off+Y8,none⟩))))
  | some (_,Y8,_),some (.v (.ref cs))=>some (True,.dp [cs] 0 Y8)
  | some (_,Y8,_),some (.v (.soft cs ok))=>if Y8=cs.length then some (True,.v (.flag ok)) else some (True,.dp [cs] 0 Y8)
  | _,_=>none
 | .indexAddr t x i=>
  match M2 X g x,M2 X g i with
  | some y,some (.v (.K0 (.int _ n)))=>
   match X7 X.P t,dN y with
   | some E,some els=>match els[n.toNat]? with
    | some e=>some (0<=n/\e.length=E,.dp els n.toNat 0)
    | none=>none
   | _,_=>match Dd X.P t,y with
    | some (len,E),.loc k off=>some (0<=n/\n<len/\1<len,.loc k (off+n.toNat * E))
    | some (len,E),.dp els j 0=>match els[j+n.toNat]? with
     | some e=>some (0<=n/\n<len/\1<len/\e.length=E,.dp els (j+n.toNat) 0)
     | none=>none
    | some (len,E),.dp els j (off+1)=>some (0<=n/\n<len/\1<len,.dp els j (off+1+n.toNat * E))
    | some (len,E),.v (.K0 (.pointer (some ⟨b,off,none⟩)))=>some (0<=n/\n<len/\1<len,.v (.K0 (.pointer (some ⟨b,off+n.toNat * E,none⟩))))
    | _,.v (.K0 (.slice (some ⟨b,off,none⟩) len _))=>match X7 X.P t with
     | some E=>some (0<=n/\n<len,.v (.K0 (.pointer (some ⟨b,off+n.toNat * E,none⟩))))
     | none=>none
    | _,_=>none
  | _,_=>none
 | .load t x=>((M2 X g x).bind (loadAt X g t)).map (True,·)
 | .build t parts=>
  match K7 X.P t,aK X.P t with
  | some z,some pl=>match BC pl X g z parts.toList with
   | some cs=>match bZ cs with
    | some ds=>if fI ds then some (True,.ag ds (lV 0 cs)) else none
    | none=>none
   | none=>none
  | _,_=>none
 | .makeInterface t x=>
  match (M2 X g x).bind kR with
  | some y=>if zW X.P t then some (True,.v (.iface t y)) else none
  | none=>none
 | .nilCheck x=>
  match M2 X g x with
  | some (.loc k off)=>some (True,.loc k off)
  | some (.dp els i off)=>some (True,.dp els i off)
  | some (.v (.K0 (.pointer (some a))))=>some (True,.v (.K0 (.pointer (some a))))
  | some (.v (.K0 (.func (.func f) x y)))=>some (True,.v (.K0 (.func (.func f) x y)))
  | some (.v (.ref cs))=>some (True,.v (.ref cs))
  | some (.v (.soft cs ok))=>some (True,.v (.soft cs ok))
  | some (.v (.flag ok))=>some (True,.v (.flag ok))
  | _=>none
 | .convert s d x=>
  match M2 X g x,EP X.P s,EP X.P d with
  | some (.v (.K0 (.int _ n))),some _,some k=>some (y6 k n,.v (.K0 (.int k n)))
  | _,_,_=>none
 | .slice t x lo hi none=>
  match X7 X.P t,(M2 X g x).bind dN with
  | some E,some els=>match bN X g 0 lo,bN X g els.length hi with
   | some l,some h=>some (0<=l/\l<=h/\h<=els.length/\∀e∈els,e.length=E,.v (.sl ((els.take h.toNat).drop l.toNat)))
   | _,_=>none
  | _,_=>match X7 X.P t,M2 X g x,bN X g 0 lo with
   | some _,some (.v (.K0 (.slice (some ⟨b,o,none⟩) n cap))),some l=>match bN X g n hi with
    | some h=>some (l=0/\0<=h/\h<=cap,.v (.K0 (.slice (some ⟨b,o,none⟩) h.toNat cap)))
    | none=>none
   | _,_,_=>none
 | .call c=>oB X g c
 | .makeFunc fn fi ca=>
  match Aa X g fi.toList,Aa X g ca.toList with
  | some fi,some ca=>some (True,.v (.K0 (.func fn fi.toArray ca.toArray)))
  | some [],none=>match fn,aZ X g ca.toList with
   | .func f,some ds=>some (True,.v (.m6 f ds))
   | _,_=>none
  | _,_=>none
 | .typeAssert x _ a ok=>Di (zW X.P a) a ok (GP X.P a) (M2 X g x)
 | _=>none
section
variable{X:Ctx}{G:Gh}{s:St}{a:Act}{w:World}
def RJ{w:World}{b:Bool}(h:G5 P t=some (b,n)):(isAgg t).run P w = .ok b w/\(sizeOf t).run P w = .ok n w:=by
 unfold G5 at h;split at h
 ·rename_i d i hd hi;simp only[uC,uD]at h;obtain⟨rfl,rfl⟩:=h;refine⟨?_,by simp[sizeOf,typeInfo,hi]⟩;unfold isAgg;rw[v9,run_underlying hd w];cases d <;> rfl
 ·cases h
def pC(b o n:Nat):(⟨b,o,none⟩:Addr).add n=⟨b,o+n,none⟩:=by
 unfold Addr.add;split <;> simp_all
def Lw{w:World}(h:G5 P t=some (agg,n))(b o:Nat)(cs:List Value)(hc:∀j v,cs[j]? = some v->w.cell? ⟨b,o+j,none⟩=some v)
  (hn:agg=true->cs.length=n) (v:Value) (hv:if agg=true then v = .agg cs.toArray else cs[0]? = some v):(loadVar t ⟨b,o,none⟩).run P w = .ok v w:=by
 obtain⟨h1,h2⟩:=RJ (w:=w) h;unfold loadVar;cases agg with
 | true=>
  simp only[if_true]at hv;have:=run_loadCells_list (P:=P) w ⟨b,o,none⟩ cs (fun j v hj=>by rw[pC];exact hc j v hj);rw[hn rfl]at this;simp[h1,h2,this,hv]
 | false=>
  simp only[vW,if_false]at hv;have:=hc 0 v hv;simp at this;simp[h1,this]
def bK0{w:World}(hb:jT G w b cs)(hl:G5 P t=some (agg,n))(h:CE cs agg off n=some y):
  ∃v,(loadVar t ⟨b,off,none⟩).run P w = .ok v w/\B7 G w y v:=by
 obtain⟨c,e,h1,h2,h3⟩:=hb;unfold CE at h;have W5:∀(i:Nat) (v:Value),c[i]? = some v->w.cell? ⟨b,i,none⟩=some v:=fun i v hv=>by simp[rW,h1,hv]
 cases agg with
 | true=>
  simp only[if_true]at h;split at h
  ·rename_i ds c8;split at h
   ·rename_i hlen;cases h;obtain⟨k1,k2⟩:=Je c8;have hk:∀i,i<n->∃x c' v,cs[off+i]? = some x/\kR x=some c'/\ds[i]? = some c'/\c[off+i]? = some v/\B7 G w x v/\x.isCell=true:=by
     intro i hi;have hc:ds[i]? = some (ds[i]'oO):=uB oO;obtain⟨x,hx,hd⟩:=k2 i _ hc;rw[tX hi,DM]at hx;obtain⟨bT,v,hv,hr⟩:=h3 _ _ hx;exact⟨x,_,v,hx,hd,hc,hv,hr,bT⟩
    have P6:∀i,i<n->off+i<c.size:=fun i hi=>by
     obtain⟨x,c',v,-,-,-,hv,-⟩:=hk i hi;exact (fB.1 hv).1
    refine⟨.agg ((c.toList.drop off).take n).toArray,?_,?_⟩
    ·refine Lw hl b off ((c.toList.drop off).take n) (fun j v hj=>?_) (fun _=>?_) _ sS
     ·have jC:j<n:=by
       have:=(uA hj).1;simp at this;omega
      rw[tX jC,DM]at hj;exact W5 _ _ (by simpa using hj)
     ·simp;by_cases hn:n=0;· omega
      ·have:=P6 (n - 1) oO;omega
    ·refine .agg ds _ ?_ ?_ ?_
     ·simp;by_cases hn:n=0;· subst hn;simp at hlen;simp[hlen]
      ·have:=P6 (n - 1) oO;omega
     ·intro c' dE;obtain⟨i,hi,rfl⟩:=yM.1 dE;obtain⟨x,c'',v,hx,hd,hc,hv,hr,bT⟩:=hk i oO;rw[uB hi]at hc;cases hc;exact sC0 hd bT
     ·intro i c' v dE hv;have hi:i<n:=by
       have:=(uA dE).1;omega
      obtain⟨x,c'',v',hx,hd,hc,p9,hr,bT⟩:=hk i hi;rw[dE]at hc;cases hc;simp only[List.getElem?_toArray]at hv;rw[tX hi,DM]at hv;have Fq:c[off+i]? = some v:=by simpa using hv
      rw[p9]at Fq;cases Fq;exact Ei hd hr
   ·cases h
  ·cases h
 | false=>
  simp only[vW,if_false]at h;obtain⟨bT,v,hv,hr⟩:=h3 _ _ h;refine⟨v,Lw hl b off [v] (fun j u hj=>?_) (fun h=>by cases h) _ sS,hr⟩;cases j with
  | zero=>simp at hj;subst hj;exact W5 _ _ hv
  | succ j=>simp at hj
def b60{w:World}{D:Nat->Nat->Prop}{o off:Nat}(hr:RV D w (.sl els) (.slice (some ⟨b,o,none⟩) els.length cap))(hE:∀e∈els,e.length=E){e:List DV}(he:els[i]? = some e)
  {P:Program} {t:TypeId} {agg:Bool} {n:Nat} (hl:G5 P t=some (agg,n)) {y:DV} (h:pJ e agg off n=some y) :
  ∃v,(loadVar t ⟨b,o+(i * E+off),none⟩).run P w = .ok v w/\RV D w y v:=by
 have hi:i<els.length:=(uA he).1;have Cg:e.length=E:=hE e (uE he);cases hr with
 | sl0=>simp at hi
 | sl _ _ _ _ E' val hlen bL lJ W5 hc hD hh=>
  have DL:E' = E:=by rw[<- lJ e (uE he),Cg]
  subst DL;unfold pJ at h;cases agg with
  | true=>
   simp only[if_true]at h;split at h
   ·rename_i FZ0;cases h;simp at FZ0;have GT0:n=0\/off+n<=E':=oO;refine⟨.agg ((oT n).map fun j=>val i (off+j)).toArray,?_,?_⟩
    ·refine Lw hl b _ ((oT n).map fun j=>val i (off+j)) (fun j v hj=>?_) (fun _=>sS) _ sS;have jC:j<n:=by
      have:=(uA hj).1;simpa using this
     simp[jC]at hj;subst hj;have:=hc i (off+j) hi oO;rw[<- this];congr 2;omega
    ·refine .agg _ _ (by simp only[List.size_toArray,fV,List.length_range,List.length_take,List.length_drop];omega) (fun c dE=>?_) (fun j c v dE hv=>?_);· exact W5 e (uE he) c (FB (yN dE))
     ·have jC:j<n:=by
       have:=(uA dE).1;simp at this;omega
      rw[tX jC,DM]at dE;simp[jC]at hv;subst hv;exact hh i (off+j) e c he dE
   ·cases h
  | false=>
   simp only[vW,if_false]at h;have ho:off<E':=by
    have:=(uA h).1;omega
   refine⟨val i off,Lw hl b _ [val i off] (fun j u hj=>?_) (fun h=>by cases h) _ sS,hh i off e y he h⟩;cases j with
   | zero=>simp at hj;subst hj;simpa using hc i off hi ho
   | succ j=>simp at hj
def WD{cs:List DV}{ok:Bool}{D:Nat->Nat->Prop}(h:RV D w (.soft cs ok) v):RV D w (.ref cs) v:=by
 cases h with
 | soft _ _ b val W5 hc hD hs hh=>exact .ref cs b 0 val W5 hc hD hh
def GE{cs:List DV}(h:RV G.D w (.ref cs) v):∃b o,v = .pointer (some ⟨b,o,none⟩)/\RV G.D w (.sl [cs]) (.slice (some ⟨b,o,none⟩) [cs].length 1):=by
 cases h with
 | ref _ b o val W5 hc hD hh=>
  refine⟨b,o,rfl,.sl [cs] b o 1 cs.length (fun _ j=>val j) (show 1<=M5 from dD) (I5 _) (fun e he=>by rw[bM.1 he]) (fun e he c KO=>?_) (fun i j hi hj=>?_) (fun i j hi hj=>?_) (fun i j e c he KO=>?_)⟩;· rw[bM.1 he]at KO;exact W5 c KO
  ·have hi:i<1:=hi;obtain rfl:i=0:=oO;rw[FC,G8];exact hc j hj
  ·have hi:i<1:=hi;obtain rfl:i=0:=oO;rw[FC,G8];exact hD j hj
  ·cases i with
   | zero=>simp at he;subst he;exact hh j c KO
   | succ i=>simp at he
def bQ0(R:Rel X G s a w)(hx:B7 G w x v)(h:loadAt X (get s) t x=some y):
  ∃u,(KS t v).run X.P w = .ok u w/\B7 G w y u:=by
 unfold loadAt at h;split at h
 ·rename_i k off;split at h
  ·rename_i agg n cs hl hg;obtain rfl:=hx;obtain⟨u,h1,h2⟩:=bK0 (R.holds _ _ hg) hl h;exact⟨u,by simp[KS,nQ,h1],h2⟩
  ·cases h
 ·rename_i els i off;split at h
  ·rename_i agg n e hl he;obtain⟨b,o,E,cap,hr,hE,hi,rfl⟩:=hx;cases hd:pJ e agg off n with
   | none=>simp[hd]at h
   | some y'=>
    simp[hd]at h;subst h;obtain⟨u,h1,h2⟩:=b60 hr hE he hl hd;exact⟨u,by simp[KS,nQ,h1],h2⟩
  ·cases h
 ·rename_i b off;split at h
  ·rename_i agg n cs hl hg;cases hx;obtain⟨u,h1,h2⟩:=bK0 (R.holds _ _ hg) hl h;exact⟨u,by simp[KS,nQ,h1],h2⟩
  ·cases h
 ·rename_i cs;split at h
  ·rename_i agg n hl;obtain⟨b,o,rfl,hr⟩:=GE hx;cases hd:pJ cs agg 0 n with
   | none=>simp[hd]at h
   | some y'=>
    simp[hd]at h;subst h;obtain⟨u,h1,h2⟩:=b60 hr (E:=cs.length) (i:=0) (off:=0) (fun e he=>by rw[bM.1 he]) rfl hl hd;rw[FC,G8,qI]at h1;exact⟨u,by simp[KS,nQ,h1],h2⟩
  ·cases h
 ·cases h
end
end
section
section
variable{X:Ctx}{G:Gh}{s:St}{a:Act}{w:World}
def X6{D:Nat->Nat->Prop}{w:World}{u:Value}(h:RV D w (.K0 u) v):v=u/\aY u:=by
 cases h with
 | K0 _ h=>exact⟨rfl,h⟩
def RK(k:IntKind)(n:Int):y6 k (k.wrap n):=by
 cases k <;> simp[y6,IntKind.wrap,iD0,iE0,ao0,ap0] <;> (try split) <;> omega
def cE0{op:BinOp}{k':IntKind}{x y:Int}{c:Prop}{r:SV}(h:SN op k x y=some (c,r))(hc:c)(t:TypeId):
  ∃v,(binOp op t (.int k x) (.int k' y)).run X.P w = .ok v w/\B7 G w r v:=by
 cases op <;> simp only[SN,uC,uD,reduceCtorEq]at h <;> obtain⟨rfl,rfl⟩:=h;· exact⟨_,by simp[binOp,Op.shift,Int.not_lt.2 hc,SM],.K0 _ (RK _ _)⟩
 ·exact⟨_,by simp[binOp,Op.shift,Int.not_lt.2 hc.1,BI],.K0 _ hc.2⟩
def lB0{op:BinOp}{x y:Int}{c:Prop}{r:SV}(h:mY op k x y=some (c,r))(hc:c)(t:TypeId):
  ∃v,(binOp op t (.int k x) (.int k y)).run X.P w = .ok v w/\B7 G w r v:=by
 have ok:∀n,y6 k n->B7 G w (.v (.K0 (.int k n))) (.int k n):=fun n h=>.K0 _ h;have bk:∀b,B7 G w (.v (.K0 (.bool b))) (.bool b):=fun b=>.K0 _ tT;cases op <;> simp only[mY,uC,uD,reduceCtorEq]at h <;> obtain⟨rfl,rfl⟩:=h;· exact⟨_,by simp[binOp,Uj,Cx hc],ok _ hc⟩
 ·exact⟨_,by simp[binOp,Uj,Cx hc],ok _ hc⟩
 ·exact⟨_,by simp[binOp,Uj,Cx hc],ok _ hc⟩
 ·exact⟨_,by simp[binOp,Op.intDiv,hc.1,Cx hc.2],ok _ hc.2⟩
 ·exact⟨_,by simp[binOp,Op.intDiv,hc.1],ok _ hc.2⟩
 ·exact⟨_,by simp[binOp,Op.intBits,EQ],ok _ (RK _ _)⟩
 ·exact⟨_,by simp[binOp,Op.intBits,SY],ok _ (RK _ _)⟩
 all_goals exact⟨_,by simp only[binOp,Op.intCmp,if_false,ne_eq,not_true_eq_false,kH],bk _⟩
def Vj(op:BinOp)(t:TypeId)(x y:Operand)(k k':IntKind)(p q:Int):(eqGuard op t x y (.int k p) (.int k' q)).run X.P w = .ok () w:=by
 unfold eqGuard;cases op <;> simp
def bR0(op:BinOp)(t:TypeId)(x y:Operand)(p q:Bool):(eqGuard op t x y (.bool p) (.bool q)).run X.P w = .ok () w:=by
 unfold eqGuard;cases op <;> simp
theorem FZ(R:Rel X G s a w):∀{l:List Operand} {ds:List DV},aZ X (get s) l=some ds->l.length=ds.length/\∀(i:Nat) (c:DV) (v:Value),ds[i]? = some c->(l.map a.eval)[i]? = some v->RV G.D w c v
 | [],ds,h=>by cases h;simp
 | x::r,ds,h=>by
  simp only[aZ]at h;split at h
  ·rename_i y ys hy kD;cases h;obtain⟨h1,h2⟩:=FZ R kD;obtain⟨z,hz,DK⟩:=mH.1 hy;refine⟨by simp[h1],fun i c v hc hv=>?_⟩;cases i with
   | zero=>
    simp at hc hv;subst hc hv;exact Ei DK (O4 R hz)
   | succ i=>exact h2 i c v (by simpa using hc) (by simpa using hv)
  ·cases h
def IF(hn:G.τ 0=(none,0))(h:B7 G w x v):v.cells.size=(P7 x).length/\∀(i:Nat) (c:SV) (u:Value),(P7 x)[i]? = some c->v.cells[i]? = some u->B7 G w c u:=by
 have one:∀(x:SV) (v:Value),P7 x=[x]->v.cells = #[v]->B7 G w x v->v.cells.size=(P7 x).length/\∀(i:Nat) (c:SV) (u:Value),(P7 x)[i]? = some c->v.cells[i]? = some u->B7 G w c u:=by
  intro x v h1 h2 h3;rw[h1,h2];refine⟨rfl,fun i c u hc hu=>?_⟩;cases i with
  | zero=>simp at hc hu;subst hc hu;exact h3
  | succ i=>simp at hc
 cases x with
 | v x=>
  cases x with
  | agg cs=>
   cases h with
   | agg _ vs hl W5 hh=>
    refine⟨by simp[Value.cells,P7,aL,hl],fun i c u hc hu=>?_⟩;simp only[P7,aL,cI]at hc;cases hq:cs[i]? with
    | none=>simp[hq]at hc
    | some c'=>simp[hq]at hc;subst hc;exact hh i c' u hq hu
  | K0 p=>
   refine one _ _ rfl ?_ h;obtain⟨rfl,hp⟩:=X6 h;cases v <;> first|rfl|exact hp.elim
  | H1 cs=>cases h;exact one _ _ rfl rfl (.H1 _ _ ‹_› ‹_›)
  | sl els=>
   refine one _ _ rfl ?_ h;cases h <;> rfl
  | iface t y=>
   refine one _ _ rfl ?_ h;cases h;rfl
  | ref cs=>
   refine one _ _ rfl ?_ h;cases h;rfl
  | soft cs ok=>
   refine one _ _ rfl ?_ h;cases h;rfl
  | flag ok=>
   refine one _ _ rfl ?_ h;cases h;rfl
  | mpd l=>
   refine one _ _ rfl ?_ h;cases h;rfl
  | m6 f cs=>
   refine one _ _ rfl ?_ h;cases h;rfl
 | loc k off=>obtain rfl:=h;exact one _ _ rfl rfl rfl
 | dp els i off=>have h':=h;obtain⟨b,o,E,cap,-,-,-,rfl⟩:=h;exact one _ _ rfl rfl h'
 | own t els=>have h':=h;obtain⟨rfl,-⟩:=h;exact one _ _ rfl rfl h'
 | ag cs ns=>
  obtain⟨h1,h2⟩:=h;cases h1 with
  | agg _ vs hl W5 hh=>
   refine⟨by simp[Value.cells,P7,hl,(Xl ns cs 0).1],fun i c u hc hu=>?_⟩;simp only[P7,(Xl ns cs 0).2]at hc;cases hq:cs[i]? with
   | none=>simp[hq]at hc
   | some c'=>
    simp only[hq,AS,uC,G8]at hc;split at hc
    ·rename_i hm;subst hc;obtain⟨k1,k2⟩:=h2 i ((sE0 _ _).1 hm);rw[hu]at k2;cases k2;show _=_/\_;rw[hn];exact⟨rfl,.sl0 _ _⟩
    ·subst hc;exact hh i c' u hq hu
end
end
section
section
variable{X:Ctx}{G:Gh}{s:St}{a:Act}{w:World}
def gY(G:Gh)(w:World)(cs:List SV)(c:Array Value):Prop:=
 c.size=cs.length/\∀(i:Nat) (x:SV) (v:Value),cs[i]? = some x->c[i]? = some v->B7 G w x v
theorem Vz:∀(off:Nat) (cs xs:List SV),off+xs.length<=cs.length->(put cs off xs).length=cs.length
 | 0,cs,xs,h=>by simp[put];omega
 | off+1,[],xs,h=>by simp[put]
 | off+1,c::r,xs,h=>by simp[put,Vz off r xs (by simp at h;omega)]
theorem MF:∀(off:Nat) (cs xs:List SV) (k:Nat),off+xs.length<=cs.length->(put cs off xs)[k]? = if off<=k/\k<off+xs.length then xs[k - off]? else cs[k]?
 | 0,cs,xs,k,h=>by
  simp only[put,aH,true_and,G8,Nat.sub_zero];by_cases hk:k<xs.length;· rw[cJ hk,if_pos hk]
  ·rw[cK oO,if_neg hk,DM]
   congr 1;omega
 | off+1,[],xs,k,h=>by simp at h
 | off+1,c::r,xs,k,h=>by
  cases k with
  | zero=>simp[put]
  | succ k=>
   simp only[put,iG0];rw[MF off r xs k (by simp at h;omega)];by_cases hk:off<=k/\k<off+xs.length;· rw[if_pos hk,if_pos oO];congr 1;omega
   ·rw[if_neg hk,if_neg oO]
def lW(c:Array Value)(off:Nat)(vs:Array Value):Array Value:=vs.zipIdx.foldl (fun cs (v,j)=>cs.setIfInBounds (off+j) v) c
theorem b70(off:Nat):∀(l:List Value) (k:Nat) (c:Array Value),off+k+l.length<=c.size ->
  ((l.zipIdx k).foldl (fun cs (p:Value × Nat)=>cs.setIfInBounds (off+p.2) p.1) c).size=c.size /\
  ∀i,((l.zipIdx k).foldl (fun cs (p:Value × Nat)=>cs.setIfInBounds (off+p.2) p.1) c)[i]? = if off+k<=i/\i<off+k+l.length then l[i - (off+k)]? else c[i]?
 | [],k,c,h=>by
  refine⟨sS,fun i=>?_⟩
  simp;intro h1 h2;omega
 | v::r,k,c,h=>by
  simp only[List.zipIdx_cons,Uk];simp only[B4]at h;obtain⟨h1,h2⟩:=b70 off r (k+1) (c.setIfInBounds (off+k) v) (by simp;omega);refine⟨by rw[h1];simp,fun i=>?_⟩;rw[h2];by_cases hi:off+(k+1)<=i/\i<off+(k+1)+r.length
  ·rw[if_pos hi,if_pos (by simp;omega)];rw[show i - (off+k)=(i - (off+(k+1)))+1 from oO];simp
  ·rw[if_neg hi];by_cases he:i=off+k
   ·subst he;rw[if_pos sS];have:off+k<c.size:=oO;simp[this]
   ·rw[if_neg (by simp;omega),Pl oO]
def LD(c:Array Value)(off:Nat)(vs:Array Value)(h:off+vs.size<=c.size):(lW c off vs).size=c.size/\∀i,(lW c off vs)[i]? = if off<=i/\i<off+vs.size then vs[i - off]? else c[i]?:=by
 have:=b70 off vs.toList 0 c (by simpa using h);unfold lW;rw[<- iH0,Array.toList_zipIdx]
 simpa using this
def gY.put{cs xs:List SV}{c vs:Array Value}{off:Nat}(h:gY G w cs c)(k:gY G w xs vs)(hle:off+xs.length<=cs.length):gY G w (put cs off xs) (lW c off vs):=by
 have hs:=LD c off vs (by rw[k.1,h.1];exact hle);refine⟨by rw[hs.1,Vz _ _ _ hle];exact h.1,fun i x v hx hv=>?_⟩;rw[MF _ _ _ _ hle]at hx;rw[hs.2,k.1]at hv;by_cases hi:off<=i/\i<off+xs.length;· rw[if_pos hi]at hx hv;exact k.2 _ _ _ hx hv
 ·rw[if_neg hi]at hx hv;exact h.2 _ _ _ hx hv
theorem LE(hn:G.τ 0=(none,0)):∀{l:List Value} {cs:List SV},GO l=some cs->gY G w cs l.toArray
 | [],cs,h=>by cases h;exact⟨rfl,sS⟩
 | v::r,cs,h=>by
  simp only[GO]at h;split at h
  ·rename_i x xs hx AJ;cases h;have ih:=LE hn AJ;refine⟨by simpa using ih.1,fun i c u hc hu=>?_⟩;cases i with
   | zero=>simp at hc hu;subst hc hu;exact bP0 hn hx
   | succ i=>exact ih.2 i c u (by simpa using hc) (by simpa using hu)
  ·cases h
theorem b80(R:Rel X G s a w)(pl:List (Nat × Nat))(place:Nat->Option (Nat × Nat))(hp:∀i q,pl[i]? = some q->place i=some q):∀(parts:List (Nat × Operand)) (cs:List SV) (c:Array Value) (N7:List SV),gY G w cs c->BC pl X (get s) cs parts=some N7 ->
  ∃c',KT place c (parts.map fun q=>(q.1,a.eval q.2))=some c'/\gY G w N7 c'
 | [],cs,c,N7,hr,h=>by cases h;exact⟨c,rfl,hr⟩
 | (i,x)::rest,cs,c,N7,hr,h=>by
  simp only[BC]at h;split at h
  ·rename_i off size y K9 hy;split at h
   ·rename_i hc;obtain⟨eC,bS⟩:=hc;have hv:=IF R.nil (O4 R hy);have A5:gY G w (P7 y) (a.eval x).cells:=hv;obtain⟨c',h1,h2⟩:=b80 R pl place hp rest _ _ N7 (hr.put A5 (by rw[eC];exact bS)) h;refine⟨c',?_,h2⟩;simp only[G4,KT,hp _ _ K9];rw[if_neg];· exact h1
    ·have e1:=hr.1;have e2:=hv.1;simp only[Ci,decide_eq_true_eq,not_or];omega
   ·cases h
  ·cases h
def WE{ds:List DV}(h:gY G w cs c)(hd:bZ cs=some ds):c.size=ds.length/\∀(i:Nat) (d:DV) (v:Value),ds[i]? = some d->c[i]? = some v->RV G.D w d v:=by
 obtain⟨h1,h2⟩:=Je hd;refine⟨h.1.trans h1,fun i d v hi hv=>?_⟩;obtain⟨x,hx,ZB⟩:=h2 i d hi;exact Ei ZB (h.2 i x v hx hv)
def IU(l:List DV):fI l=true↔∀c∈l,c.isCell=true:=by
 induction l with
 | nil=>simp[fI]
 | cons c r ih=>simp[fI,ih]
def kt0{z:List SV}{pl:List (Nat × Nat)}(hz:K7 P t=some z)(K9:aK P t=some pl)(hn:G.τ 0=(none,0)):
  ∃zc place,gY G w z zc/\(∀i q,pl[i]? = some q->place i=some q)/\∀(parts:Array (Nat × Value)) (c':Array Value),KT place zc parts.toList=some c'->(Instr.build t parts).run P w = .ok (.agg c') w:=by
 unfold K7 at hz;split at hz
 ·rename_i it AL;split at hz
  ·rename_i zv HV;have A5:=LE (w:=w) hn hz;simp only[iI0]at A5;unfold aK at K9;split at K9
   ·rename_i fields hu;refine⟨zv.cells,(pl.toArray[·]?),A5,fun i q hq=>by simpa using hq,fun parts c' hf=>run_build w t parts c' ?_⟩;unfold Program.built;simp only[AL,hu,HV,K9];exact hf
   ·rename_i n e hu;cases cG:P.info? e with
    | none=>simp[cG]at K9
    | some ie=>
     simp[cG]at K9;subst K9;refine⟨zv.cells,(fun i=>some (i * ie.size,ie.size)),A5,fun i q hq=>?_,fun parts c' hf=>run_build w t parts c' ?_⟩
     ·have hi:i<n:=by
       have:=(uA hq).1;simpa using this
      simp[hi]at hq;exact hq ▸ rfl
     ·unfold Program.built;simp only[AL,hu,HV,cG];exact hf
   ·cases K9
  ·cases hz
 ·cases hz
def sF0(h:Sz P t=true):P.underlying t=some .bool:=by
 unfold Sz at h;split at h
 ·assumption
 ·cases h
def Bo{t:Nat}(h:X7 P t=some E):∃e i,P.underlying t=some (.slice e)/\P.info? e=some i/\i.size=E:=by
 unfold X7 at h;split at h
 ·rename_i e hu;cases hi:P.info? e with
  | none=>simp[hi]at h
  | some i=>simp[hi]at h;exact⟨e,i,hu,hi,h⟩
 ·cases h
def RL{t:Nat}(h:Dd P t=some (n,E)):∃e i,P.underlying t=some (.array n e)/\P.info? e=some i/\i.size=E:=by
 unfold Dd at h;split at h
 ·rename_i n' e hu;cases hi:P.info? e with
  | none=>simp[hi]at h
  | some i=>simp[hi]at h;obtain⟨rfl,h⟩:=h;exact⟨e,i,hu,hi,h⟩
 ·cases h
def Gg{t f:Nat}(h:M4 P t f=some (agg,off,n)):
  ∃fs fl,P.underlying t=some (.struct fs)/\fs[f]? = some fl/\G5 P fl.type=some (agg,n)/\n≠0/\fl.offset=off:=by
 unfold M4 at h;split at h
 ·rename_i fs hu;split at h
  ·rename_i fl hf;split at h
   ·rename_i b m hl;split at h;· cases h
    ·simp only[uC,uD]at h;obtain⟨rfl,rfl,rfl⟩:=h;exact⟨fs,fl,hu,hf,hl,by assumption,rfl⟩
   ·cases h
  ·cases h
 ·cases h
def Bi(h:dN x=some els)(hr:B7 G w x v):∃b cap,v = .slice b els.length cap/\RV G.D w (.sl els) v/\els.length<=cap:=by
 have key:RV G.D w (.sl els) v->∃b cap,v = .slice b els.length cap/\RV G.D w (.sl els) v/\els.length<=cap:=by
  intro h;have h':=h;cases h with
  | sl0 b cap=>exact⟨b,cap,rfl,h',aH _⟩
  | sl _ b o cap E val hlen bL hE W5 hc hD hh=>exact⟨_,cap,rfl,h',bL⟩
 cases x with
 | v x=>
  cases x with
  | sl e=>cases h;exact key hr
  | _=>cases h
 | own t e=>cases h;exact key hr.2
 | loc=>cases h
 | dp=>cases h
 | ag=>cases h
def sG0(hr:RV G.D w (.sl els) v){e:List DV}(he:els[i]? = some e):
  ∃b o cap,v = .slice (some ⟨b,o,none⟩) els.length cap/\B7 G w (.dp els i 0) (.pointer (some ⟨b,o+i * e.length,none⟩)):=by
 have hi:i<els.length:=(uA he).1;have OA:=hr;cases hr with
 | sl0=>simp at hi
 | sl _ b o cap E val hlen bL hE W5 hc hD hh=>
  have:e.length=E:=hE e (uE he);subst this;exact⟨b,o,cap,rfl,b,o,e.length,cap,OA,hE,hi,rfl⟩
def mS0{t f:Nat}(h:M4 P t f=some (agg,off,n)){y c:DV}(hy:y.isAgg=true)(hv:RV G.D w y v)(hd:pJ (aL y) agg off n=some c):
  ∃u,(iJ0 t v f).run P w = .ok u w/\RV G.D w c u:=by
 obtain⟨fs,fl,hu,hf,hl,hn,rfl⟩:=Gg h;obtain⟨l1,l2⟩:=RJ (w:=w) hl;cases hv with
 | K0=>cases hy
 | sl0=>cases hy
 | sl=>cases hy
 | iface=>cases hy
 | ref=>cases hy
 | soft=>cases hy
 | flag=>cases hy
 | mpd=>cases hy
 | m6=>cases hy
 | H1=>cases hy
 | agg cs vs L8 W5 hh=>
  rw[show aL (DV.agg cs)=cs from rfl]at hd;unfold pJ at hd;cases agg with
  | true=>
   simp only[if_true]at hd;by_cases hlen:(List.take n (List.drop fl.offset cs)).length=n
   ·rw[if_pos hlen]at hd;cases hd;simp at hlen;refine⟨.agg (vs.extract fl.offset (fl.offset+n)),by simp[iJ0,run_underlying hu,hf,part,asAgg,l1,l2],?_⟩;refine .agg _ _ (by simp;omega) (fun c hc=>W5 c (FB (yN hc))) (fun i c v hc hv=>?_);have hi:i<n:=by
     have:=(uA hc).1;simp at this;omega
    rw[tX hi,DM]at hc;have p9:vs[fl.offset+i]? = some v:=by
     have:=(fB.1 hv).1;simp at this;rw[Array.getElem?_extract,if_pos oO]at hv;exact hv
    exact hh _ c v hc p9
   ·rw[if_neg hlen]at hd;cases hd
  | false=>
   simp only[vW,if_false]at hd;have I1:fl.offset<vs.size:=by rw[L8];exact (uA hd).1
   have hv:vs[fl.offset]? = some vs[fl.offset]:=uG I1;exact⟨vs[fl.offset],by simp[iJ0,run_underlying hu,hf,part,asAgg,l1,hv],hh _ c _ hd hv⟩
end
end
section
section
variable{X:Ctx}{G:Gh}{s:St}{a:Act}{w:World}
def Mi{α:Type}{o:Option α}{c:Prop}{y:α}(h:o.map (True,·)=some (c,y)):o=some y:=by
 cases o with
 | none=>cases h
 | some z=>simp at h;rw[h.2]
def Ga(R:Rel X G s a w){x:Option Operand}{n:Int}(h:bN X (get s) d x=some n):
  (x=none/\n=d)\/∃y k,x=some y/\a.eval y = .int k n:=by
 cases x with
 | none=>simp[bN]at h;exact .inl ⟨rfl,h.symm⟩
 | some y=>
  simp only[bN]at h;split at h
  ·rename_i k m hy;cases h;exact .inr ⟨y,k,rfl,(X6 (O4 R hy)).1⟩
  ·cases h
def dA0{w:World}{i:TypeInfo}(hu:P.underlying t=some (.slice e))(hi:P.info? e=some i)(b:Option Addr)(len cap:Nat)(lo s9:Option Value)(l h:Int)
  (tP:(lo=none/\l=0)\/∃k,lo=some (.int k l)) (oM:(s9=none/\h=len)\/∃k,s9=some (.int k h)) (h0:0<=l) (h1:l<=h) (h2:h<=cap) :
  (Ul t (.slice b len cap) lo s9 none).run P w = .ok (.slice (if cap=l.toNat then b else b.map fun q=>q.add (l.toNat * i.size)) (h.toNat - l.toNat) (cap - l.toNat)) w:=by
 have L8:(l.toNat:Int)=l:=If h0;have hh':(h.toNat:Int)=h:=If oO;have P6:(sizeOf e).run P w = .ok i.size w:=by simp[sizeOf,typeInfo,hi]
 have c1:l<=(h.toNat:Int):=oO;rcases tP with⟨rfl,rfl⟩|⟨k,rfl⟩ <;> rcases oM with⟨rfl,rfl⟩|⟨k',rfl⟩;all_goals simp[Ul,iK0,run_underlying hu,iL0,iM0,asIntOf,P6]
 all_goals (try simp[h0,h1,h2])
 all_goals (try (rw[if_pos (by omega:(0:Int)<=h),if_pos oO]))
 all_goals (try (intros;omega))
def es0{w:World}{D:Nat->Nat->Prop}{b:Option Addr}(hr:RV D w (.sl els) (.slice b els.length cap))(hE:∀e∈els,e.length=E)(l h:Nat)(h1:l<=h)(h2:h<=els.length)(bL:els.length<=cap):
  RV D w (.sl ((els.take h).drop l)) (.slice (if cap=l then b else b.map fun q=>q.add (l * E)) (h - l) (cap - l)):=by
 by_cases hlh:l=h
 ·subst hlh;have:(els.take l).drop l=[]:=sS;rw[this,ar0];exact .sl0 _ _
 ·have hlen:((els.take h).drop l).length=h - l:=by simp;omega
  generalize hL:(els.take h).drop l=L at *;rw[<- hlen];have X1:cap≠l:=oO;rw[if_neg X1];generalize hn:els.length=n at *;cases hr with
  | sl0=>simp only[fC]at *;omega
  | sl _ b o _ E' val L8 dE lJ W5 hc hD hh=>
   have DL:E' = E:=by
    cases els with
    | nil=>simp only[fC]at *;omega
    | cons e r=>rw[<- lJ e sS,hE e sS]
   subst DL;simp only[AS,pC];have iC:∀e∈L,e∈els:=fun e he=>by rw[<- hL]at he;exact yN (FB he)
   have d8:∀i,i<L.length->L[i]? = els[l+i]?:=fun i hi=>by
    rw[<- hL,DM,tX oO]
   refine .sl L b (o+l * E') (cap - l) E' (fun i j=>val (l+i) j) oO oO (fun e he=>lJ e (iC e he)) (fun e he=>W5 e (iC e he)) (fun i j hi hj=>?_) (fun i j hi hj=>?_) (fun i j e c he hc=>?_)
   ·have:=hc (l+i) j oO hj;rw[<- this];congr 2;rw[Y9];omega
   ·have:=hD (l+i) j oO hj;have e:o+((l+i) * E'+j)=o+l * E'+(i * E'+j):=by rw[Y9];omega
    rw[<- e];exact this
   ·rw[d8 i (uA he).1]at he;exact hh _ _ _ _ he hc
def IA{w:World}{fl:Field}{o:Nat}(hl:G5 P fl.type=some (agg,n))(hn:n≠0):(fieldPlace ⟨b,o,none⟩ fl).run P w = .ok ⟨b,o+fl.offset,none⟩ w:=by
 obtain⟨-,l2⟩:=RJ (w:=w) hl;simp[fieldPlace,l2,hn,pC]
def Ee{α:Type}{a:Array α}{l:List α}(h:a.toList=l):a=l.toArray:=by rw[<- h]
def lC0(R:Rel X G s a w){k:Call}{t:TypeId}{c:Prop}(h:oB X (get s) k=some (c,y))(hc:c):
  ∃v,(do let d <- resolve a.eval k t;invoke d.target d.args:Sem Next).run X.P w = .ok (.value v) w/\B7 G w y v:=by
 unfold oB at h;split at h
 case h_1 x t' Ft Ff C6=>
  have dE:k = { callee:=.builtin .len,args:=#[x],argTypes:=#[t'] }:=by cases k;simp only at Ft Ff C6;rw[Ft,Ee Ff,Ee C6]
  split at h
  ·rename_i E els hE hs;cases h;obtain⟨e',ie,hu,cG,P6⟩:=Bo hE;obtain⟨q,hq,eX⟩:=mH.1 hs;obtain⟨b,cap,hv,hr,bL⟩:=Bi eX (O4 R hq);have d7:els.length<=M5:=by have:=RV.fit hr;simp only[DV.fit]at this;exact this.1
   refine⟨_,?_,.K0 _ ?_⟩;· simp[dE,hv,resolve,invoke,builtin,Builtin.len_,run_underlying hu,goInt]
   ·show y6 .i64 _;rw[LU];unfold M5 at d7;omega
  ·split at h
   ·rename_i E q n cap hE hx;cases h;obtain⟨e',ie,hu,cG,P6⟩:=Bo hE;have hv:=(X6 (O4 R hx)).1;refine⟨_,?_,.K0 _ ?_⟩;· simp[dE,hv,resolve,invoke,builtin,Builtin.len_,run_underlying hu,goInt]
    ·show y6 .i64 _;rw[LU];unfold M5 at hc;omega
   ·cases h
 case h_2 x z Ft Ff=>
  have dE:k = { callee:=.builtin .max,args:=#[x,z],argTypes:=k.argTypes }:=by cases k;simp only at Ft Ff;rw[Ft,Ee Ff]
  split at h
  ·rename_i k p k' q hx hy;cases h;have R7:=X6 (O4 R hx);have K8:=X6 (O4 R hy);refine⟨.int k (if q > p then q else p),?_,.K0 _ ?_⟩
   ·rw[dE];simp[R7.1,K8.1,resolve,invoke,builtin,run_max_int2]
   show y6 _ _;split;· exact hc
   ·exact R7.2
  ·cases h
 case h_3 x z Ft Ff=>
  have dE:k = { callee:=.builtin .min,args:=#[x,z],argTypes:=k.argTypes }:=by cases k;simp only at Ft Ff;rw[Ft,Ee Ff]
  split at h
  ·rename_i k p k' q hx hy;cases h;have R7:=X6 (O4 R hx);have K8:=X6 (O4 R hy);refine⟨.int k (if q<p then q else p),?_,.K0 _ ?_⟩
   ·rw[dE];simp[R7.1,K8.1,resolve,invoke,builtin,run_min_int2]
   show y6 _ _;split;· exact hc
   ·exact R7.2
  ·cases h
 case h_4=>cases h
def kp0(d:Nat)(t e:TypeId)(p:Option Addr)(h:P.underlying t=some (.pointer e)):
  (Op.equalIn (d+1) t (.pointer p) (.pointer none)).run P w = .ok p.isNone w:=by
 cases p <;> simp[Op.equalIn,run_underlying h]
def WF(hp:rI P t=true)(op:BinOp)(x y:Operand)(p:Option Addr){c:Prop}{r:SV}(h:vK op p.isNone=some (c,r)):
  ∃v,(do eqGuard op t x y (.pointer p) (.pointer none);binOp op t (.pointer p) (.pointer none):Sem Value).run P w = .ok v w/\B7 G w r v:=by
 have hu:∃e,P.underlying t=some (.pointer e):=by
  unfold rI at hp;split at hp;· exact⟨_,by assumption⟩
  ·cases hp
 obtain⟨e,hu⟩:=hu;have hq:=kp0 (w:=w) 9999 t e p hu;have hg:∀op:BinOp,(eqGuard op t x y (.pointer p) (.pointer none)).run P w = .ok () w:=by
  intro op;cases op <;> cases p <;> simp[eqGuard,run_underlying hu]
 unfold vK at h;split at h
 ·cases h;refine⟨.bool p.isNone,?_,.K0 _ tT⟩;simp only[v9,hg,cW,binOp];simp[Op.equal,Op.maxDepth,hq]
 ·cases h;refine⟨.bool (!p.isNone),?_,.K0 _ tT⟩;simp only[v9,hg,cW,binOp];simp[Op.equal,Op.maxDepth,hq]
 ·cases h
def Qs(R:Rel X G s a w){c:Prop}(h:N8 X (get s) o=some (c,y))(hc:c):
  ∃v,(execOp a.eval o).run X.P w = .ok (.value v) w/\B7 G w y v:=by
 unfold N8 at h;split at h
 case h_1 x b6=>exact⟨a.eval x,by simp[execOp,b6],O4 R (Mi h)⟩
 case h_2 x b6=>exact⟨a.eval x,by simp[execOp,b6],O4 R (Mi h)⟩
 case h_3 x p q b6=>
  split at h
  ·rename_i hx;have hv:=(X6 (O4 R hx)).1;exact⟨a.eval p,by simp[execOp,b6,hv,asBool],O4 R (Mi h)⟩
  ·rename_i hx;have hv:=(X6 (O4 R hx)).1;exact⟨a.eval q,by simp[execOp,b6,hv,asBool],O4 R (Mi h)⟩
  ·cases h
 case h_4 op t x z yt b6=>
  split at h
  ·rename_i k p k' q hx hy;split at h
   ·subst_vars
    have R7:=(X6 (O4 R hx)).1;have K8:=(X6 (O4 R hy)).1;obtain⟨v,h1,h2⟩:=lB0 (X:=X) (G:=G) (w:=w) h hc t;exact⟨v,by simp[execOp,b6,R7,K8,Vj,h1],h2⟩
   ·have R7:=(X6 (O4 R hx)).1;have K8:=(X6 (O4 R hy)).1;obtain⟨v,h1,h2⟩:=cE0 (X:=X) (G:=G) (w:=w) (k':=k') h hc t;exact⟨v,by simp[execOp,b6,R7,K8,Vj,h1],h2⟩
  ·rename_i p q hx hy;have R7:=(X6 (O4 R hx)).1;have K8:=(X6 (O4 R hy)).1;split at h
   ·rename_i hb;have hu:=sF0 hb;split at h;· cases h;exact⟨_,by simp[execOp,b6,R7,K8,bR0,run_eql_bool _ _ _ _ hu],.K0 _ tT⟩
    ·cases h;exact⟨_,by simp[execOp,b6,R7,K8,bR0,run_neq_bool _ _ _ _ hu],.K0 _ tT⟩
    ·cases h
   ·cases h
  ·rename_i cs hx hy;have K8:=(X6 (O4 R hy)).1;obtain⟨b,o',R7,-⟩:=GE (O4 R hx);split at h
   ·rename_i hp;obtain⟨v,h1,h2⟩:=WF (G:=G) (w:=w) hp op x z (some ⟨b,o',none⟩) h;refine⟨v,?_,h2⟩;simp only[execOp,b6,R7,K8];simp only[v9]at h1 ⊢
    revert h1
    cases (eqGuard op t x z (.pointer (some ⟨b,o',none⟩)) (.pointer none)).run X.P w with
    | ok u w'=>
     simp only[cW];intro h1;rw[h1];rfl
    | _=>intro h1;cases h1
   ·cases h
  ·rename_i hx hy;have R7:=(X6 (O4 R hx)).1;have K8:=(X6 (O4 R hy)).1;split at h
   ·rename_i hp;obtain⟨v,h1,h2⟩:=WF (G:=G) (w:=w) hp op x z none h;refine⟨v,?_,h2⟩;simp only[execOp,b6,R7,K8];simp only[v9]at h1 ⊢
    revert h1
    cases (eqGuard op t x z (.pointer none) (.pointer none)).run X.P w with
    | ok u w'=>
     simp only[cW];intro h1;rw[h1];rfl
    | _=>intro h1;cases h1
   ·cases h
  ·rename_i cs hx hy;have K8:=(X6 (O4 R hy)).1;obtain⟨b,o',R7,-⟩:=GE (WD (O4 R hx));split at h
   ·rename_i hp;obtain⟨v,h1,h2⟩:=WF (G:=G) (w:=w) hp op x z (some ⟨b,o',none⟩) h;refine⟨v,?_,h2⟩;simp only[execOp,b6,R7,K8];simp only[v9]at h1 ⊢
    revert h1
    cases (eqGuard op t x z (.pointer (some ⟨b,o',none⟩)) (.pointer none)).run X.P w with
    | ok u w'=>
     simp only[cW];intro h1;rw[h1];rfl
    | _=>intro h1;cases h1
   ·cases h
  ·cases h
 case h_5 op t x b6=>
  split at h
  ·rename_i b hx;cases h;have R7:=(X6 (O4 R hx)).1;exact⟨_,by simp[execOp,b6,R7,Op.unary],.K0 _ tT⟩
  ·rename_i k n hx;cases h;have R7:=(X6 (O4 R hx)).1;exact⟨_,by simp[execOp,b6,R7,Op.unary,Uj,-Int.zero_sub,Cx hc],.K0 _ hc⟩
  ·cases h
 case h_6 x i b6=>
  split at h
  ·rename_i cs hx;cases hi:cs[i]? with
   | none=>simp[hi]at h
   | some d=>
    simp[hi]at h;obtain⟨-,rfl⟩:=h;have hr:=O4 R hx;generalize hv:a.eval x=v at hr;cases hr with
    | H1 _ vs hl hh=>
     have I1:i<vs.size:=by rw[hl];exact (uA hi).1
     have p9:vs[i]? = some vs[i]:=uG I1;exact⟨vs[i],by simp[execOp,b6,hv,Instr.extract,p9],hh i d _ hi p9⟩
  ·cases h
 case h_7 t x f b6=>
  split at h
  ·rename_i agg off n y' hf hx;cases hd:pJ (aL y') agg off n with
   | none=>simp[hd]at h
   | some d=>
    rw[hd]at h;simp only[AS,uC,uD]at h;obtain⟨rfl,rfl⟩:=h;obtain⟨u,h1,h2⟩:=mS0 hf hc (O4 R hx) hd;exact⟨u,by simp[execOp,b6,h1],h2⟩
  ·cases h
 case h_8 t x f b6=>
  split at h
  ·rename_i agg Y8 n k off hf hx;cases h;obtain⟨fs,fl,hu,gI,hl,hn,rfl⟩:=Gg hf;have hv:a.eval x=_:=O4 R hx;exact⟨_,by simp[execOp,b6,hv,Pm,run_underlying hu,gI,nQ,IA hl hn],rfl⟩
  ·rename_i agg Y8 n els i off hf hx;cases h;obtain⟨fs,fl,hu,gI,hl,hn,rfl⟩:=Gg hf;obtain⟨b,o',E,cap,hr,hE,hi,hv⟩:=O4 R hx;exact⟨_,by simp[execOp,b6,hv,Pm,run_underlying hu,gI,nQ,IA hl hn];rfl,b,o',E,cap,hr,hE,hi,by congr 3;omega⟩
  ·rename_i agg Y8 n b off hf hx;cases h;obtain⟨fs,fl,hu,gI,hl,hn,rfl⟩:=Gg hf;have hv:=(X6 (O4 R hx)).1;exact⟨_,by simp[execOp,b6,hv,Pm,run_underlying hu,gI,nQ,IA hl hn],.K0 _ tT⟩
  ·rename_i agg Y8 n cs hf hx;cases h;obtain⟨fs,fl,hu,gI,hl,hn,rfl⟩:=Gg hf;obtain⟨b,o',hv,hr⟩:=GE (O4 R hx);refine⟨_,by simp[execOp,b6,hv,Pm,run_underlying hu,gI,nQ,IA hl hn];rfl,b,o',cs.length,1,hr,fun e he=>by rw[bM.1 he],Nat.zero_lt_one,?_⟩
   congr 3
   omega
  ·rename_i agg Y8 n cs ok hf hx;split at h
   ·rename_i he;cases h;obtain⟨fs,fl,hu,gI,hl,hn,he2⟩:=Gg hf;have hr:=O4 R hx;generalize hv:a.eval x=v at hr;cases hr with
    | soft _ _ b val W5 hc hD hs hh=>
     refine⟨_,by simp[execOp,b6,hv,Pm,run_underlying hu,gI,nQ,IA hl hn];rfl,?_⟩;show RV _ _ _ _;rw[he2,he];rw[G8]at hs;exact .flag _ b _ hs
   ·cases h;obtain⟨fs,fl,hu,gI,hl,hn,rfl⟩:=Gg hf;obtain⟨b,o',hv,hr⟩:=GE (WD (O4 R hx));refine⟨_,by simp[execOp,b6,hv,Pm,run_underlying hu,gI,nQ,IA hl hn];rfl,b,o',cs.length,1,hr,fun e he=>by rw[bM.1 he],Nat.zero_lt_one,?_⟩
    congr 3
    omega
  ·cases h
 case h_9 t x i b6=>
  split at h
  ·rename_i yy k n hx hi;have hn:=(X6 (O4 R hi)).1;split at h
   ·rename_i E els hE hs;split at h
    ·rename_i e he;cases h;obtain⟨h0,rfl⟩:=hc;obtain⟨e',ie,hu,cG,P6⟩:=Bo hE;obtain⟨b,cap,hv,hr,-⟩:=Bi hs (O4 R hx);obtain⟨b',o',s8,p9,hdp⟩:=sG0 hr he;have I1:n.toNat<els.length:=(uA he).1;have dG:n<els.length:=oO;refine⟨_,?_,hdp⟩;simp[execOp,b6,hn,p9,Pn,asIntOf,run_underlying hu,sizeOf,typeInfo,cG,P6,h0,dG,pC]
    ·cases h
   ·split at h
    ·rename_i len E k' off hA _;cases h;obtain⟨h0,h1,h2⟩:=hc;obtain⟨e',ie,hu,cG,P6⟩:=RL hA;have hv:a.eval x=_:=O4 R hx;refine⟨_,?_,rfl⟩;simp[execOp,b6,hn,hv,Pn,asIntOf,run_underlying hu,sizeOf,typeInfo,cG,P6,h0,h1,pC,nQ]
    ·rename_i len E els j hA _;split at h
     ·rename_i e he;cases h;obtain⟨h0,h1,h2,rfl⟩:=hc;obtain⟨e',ie,hu,cG,P6⟩:=RL hA;obtain⟨b,o',E',cap,hr,lJ,hj,hv⟩:=O4 R hx;have DL:e.length=E':=lJ e (uE he);have I1:j+n.toNat<els.length:=(uA he).1;refine⟨_,?_,b,o',E',cap,hr,lJ,I1,rfl⟩;simp[execOp,b6,hn,hv,Pn,asIntOf,run_underlying hu,sizeOf,typeInfo,cG,P6,h0,h1,pC,nQ];rw[DL,Y9];omega
     ·cases h
    ·rename_i len E els j off hA _;cases h;obtain⟨h0,h1,h2⟩:=hc;obtain⟨e',ie,hu,cG,P6⟩:=RL hA;obtain⟨b,o',E',cap,hr,lJ,hj,hv⟩:=O4 R hx;refine⟨_,?_,b,o',E',cap,hr,lJ,hj,rfl⟩;simp[execOp,b6,hn,hv,Pn,asIntOf,run_underlying hu,sizeOf,typeInfo,cG,P6,h0,h1,pC,nQ];try omega
    ·rename_i len E b off hA _;cases h;obtain⟨h0,h1,h2⟩:=hc;obtain⟨e',ie,hu,cG,P6⟩:=RL hA;have hv:=(X6 (O4 R hx)).1;refine⟨_,?_,.K0 _ tT⟩;simp[execOp,b6,hn,hv,Pn,asIntOf,run_underlying hu,sizeOf,typeInfo,cG,P6,h0,h1,pC,nQ]
    ·rename_i b off len cap _ _;split at h
     ·rename_i E hE;cases h;obtain⟨h0,h1⟩:=hc;obtain⟨e',ie,hu,cG,P6⟩:=Bo hE;have hv:=(X6 (O4 R hx)).1;refine⟨_,?_,.K0 _ tT⟩;simp[execOp,b6,hn,hv,Pn,asIntOf,run_underlying hu,sizeOf,typeInfo,cG,P6,h0,h1,pC]
     ·cases h
    ·cases h
  ·cases h
 case h_10 t x b6=>
  have h':=Mi h;obtain⟨z,hz,DK⟩:=mH.1 h';obtain⟨u,h1,h2⟩:=bQ0 R (O4 R hz) DK;exact⟨u,by simp[execOp,b6,h1],h2⟩
 case h_11 t parts b6=>
  split at h
  ·rename_i z pl hz K9;split at h
   ·rename_i cs aF;split at h
    ·rename_i ds c8;split at h
     case isFalse=>cases h
     rename_i nH;cases h;obtain⟨zc,place,A5,hp,O7⟩:=kt0 (w:=w) hz K9 R.nil;obtain⟨c',h1,h2⟩:=b80 R pl place hp parts.toList z zc cs A5 aF;have h3:=O7 (parts.map fun q=>(q.1,a.eval q.2)) c' (by simpa using h1);obtain⟨k1,k2⟩:=WE h2 c8;refine⟨.agg c',by simp[execOp,b6,h3],.agg ds c' k1 ((IU ds).1 nH) k2,fun i hi=>?_⟩;obtain⟨j,gP,hj⟩:=Vy hi;obtain rfl:i=j:=oO;obtain⟨t1,t2⟩:=Je c8;have J8:i<cs.length:=(uA hj).1;have hic:i<c'.size:=by rw[h2.1];exact J8
     have OF:ds[i]? = some (ds[i]'oO):=uB oO;obtain⟨z',pZ,Q7⟩:=t2 i _ OF;rw[hj]at pZ;cases pZ;have FR0:some (DV.sl [])=some (ds[i]'oO):=Q7;refine⟨by rw[OF,<- FR0],?_⟩;have hr:=h2.2 i _ _ hj (uG hic);have u6:c'[i] = .slice (G.τ 0).1 0 (G.τ 0).2:=hr.1;rw[R.nil]at u6;show c'[i]? = _;rw[uG hic,u6]
    ·cases h
   ·cases h
  ·cases h
 case h_12 t x b6=>
  split at h
  ·rename_i z hz;split at h
   ·rename_i N4;cases h;obtain⟨q,hq,eX⟩:=mH.1 hz;refine⟨.iface t (a.eval x),?_,.iface t z _ (Ei eX (O4 R hq))⟩;unfold zW at N4;split at N4;· cases N4
    ·rename_i d hd hu;simp only[execOp,b6,Instr.makeInterface,v9,run_underlying hu,cW];cases d <;> first|(exact (hd _ rfl).elim)|rfl
    ·cases N4
   ·cases h
  ·cases h
 case h_13 x b6=>
  split at h
  ·rename_i k off hx;cases h;have hv:a.eval x=_:=O4 R hx;exact⟨_,by simp[execOp,b6,hv],rfl⟩
  ·rename_i els i off hx;cases h;have hr:=O4 R hx;obtain⟨b,o',E,cap,OA,hE,hi,hv⟩:=hr;exact⟨_,by simp[execOp,b6,hv],b,o',E,cap,OA,hE,hi,rfl⟩
  ·rename_i ad hx;cases h;have hv:=(X6 (O4 R hx)).1;exact⟨_,by simp[execOp,b6,hv],.K0 _ tT⟩
  ·rename_i f p q hx;cases h;have hv:=(X6 (O4 R hx)).1;exact⟨_,by simp[execOp,b6,hv],.K0 _ tT⟩
  ·rename_i cs hx;cases h;have hr:=O4 R hx;obtain⟨b,o',hv,-⟩:=GE hr;rw[hv]at hr;exact⟨_,by simp[execOp,b6,hv],hr⟩
  ·rename_i cs ok hx;cases h;have hr:=O4 R hx;obtain⟨b,o',hv,-⟩:=GE (WD hr);rw[hv]at hr;exact⟨_,by simp[execOp,b6,hv],hr⟩
  ·rename_i hx;cases h;have hr:=O4 R hx;generalize hv:a.eval x=v at hr;cases hr with
   | flag _ b o' hs=>exact⟨_,by simp[execOp,b6,hv],.flag _ b o' hs⟩
  ·cases h
 case h_14 sT dT x b6=>
  split at h
  ·rename_i k n ks kd hx hs hd;cases h;have hv:=(X6 (O4 R hx)).1;have e1:∀{t:TypeId} {k:IntKind},EP X.P t=some k->X.P.underlying t=some (.int k):=by
    intro t k h;unfold EP at h;split at h;· cases h;assumption
    ·cases h
   have u1:=e1 hs;have u2:=e1 hd;exact⟨_,by simp[execOp,b6,hv,convert,run_underlying u1,run_underlying u2,Conv.intToInt,Cx hc],.K0 _ hc⟩
  ·cases h
 case h_15 t x lo s9 b6=>
  split at h
  ·rename_i E els hE hs;split at h
   ·rename_i l hh tP oM;cases h;obtain⟨h0,h1,h2,h3⟩:=hc;obtain⟨e',ie,hu,cG,rfl⟩:=Bo hE;obtain⟨q,hq,eX⟩:=mH.1 hs;obtain⟨b,cap,hv,hr,bL⟩:=Bi eX (O4 R hq);have NT:(lo.map a.eval=none/\l=0)\/∃k,lo.map a.eval=some (.int k l):=by
     rcases Ga R tP with⟨rfl,h⟩|⟨z,k,rfl,h⟩;· exact .inl ⟨rfl,h⟩
     ·exact .inr ⟨k,by simp[h]⟩
    have Ot:(s9.map a.eval=none/\hh=els.length)\/∃k,s9.map a.eval=some (.int k hh):=by
     rcases Ga R oM with⟨rfl,h⟩|⟨z,k,rfl,h⟩;· exact .inl ⟨rfl,h⟩
     ·exact .inr ⟨k,by simp[h]⟩
    have O7:=dA0 (w:=w) hu cG b els.length cap _ _ l hh NT Ot h0 h1 oO;have fS:=es0 (hv ▸ hr) h3 l.toNat hh.toNat oO oO bL;refine⟨_,?_,fS⟩;simp only[execOp,b6,hv,Option.map_none,O7,v9,cW,kH]
   ·cases h
  ·split at h
   ·rename_i E b o n cap l hE hx tP;split at h
    ·rename_i hh oM;cases h;obtain⟨rfl,h1,h2⟩:=hc;obtain⟨e',ie,hu,cG,rfl⟩:=Bo hE;have hv:=(X6 (O4 R hx)).1;have NT:(lo.map a.eval=none/\(0:Int)=0)\/∃k,lo.map a.eval=some (.int k 0):=by
      rcases Ga R tP with⟨rfl,h⟩|⟨z,k,rfl,h⟩;· exact .inl ⟨rfl,rfl⟩
      ·exact .inr ⟨k,by simp[h]⟩
     have Ot:(s9.map a.eval=none/\hh=n)\/∃k,s9.map a.eval=some (.int k hh):=by
      rcases Ga R oM with⟨rfl,h⟩|⟨z,k,rfl,h⟩;· exact .inl ⟨rfl,h⟩
      ·exact .inr ⟨k,by simp[h]⟩
     have O7:=dA0 (w:=w) hu cG (some ⟨b,o,none⟩) n cap _ _ 0 hh NT Ot oO h1 oO;have he:(if cap=(0:Int).toNat then some (⟨b,o,none⟩:Addr) else (some (⟨b,o,none⟩:Addr)).map fun q=>q.add ((0:Int).toNat * ie.size))=some ⟨b,o,none⟩:=by
      split;· rfl
      ·simp[pC]
     rw[he,show hh.toNat - (0:Int).toNat=hh.toNat from sS,show cap - (0:Int).toNat=cap from sS]at O7;refine⟨_,?_,.K0 _ tT⟩;simp only[execOp,b6,hv,Option.map_none,O7,v9,cW,kH]
    ·cases h
   ·cases h
 case h_16 c' b6=>
  obtain⟨v,h1,h2⟩:=lC0 R h hc;exact⟨v,by simp only[execOp,b6];exact h1,h2⟩
 case h_17 fn fi ca b6=>
  have key:∀{l:List Operand} {vs:List Value},Aa X (get s) l=some vs->l.map a.eval=vs:=by
   intro l
   induction l with
   | nil=>intro vs h;cases h;rfl
   | cons x r ih=>
    intro vs h;simp only[Aa]at h;split at h
    ·rename_i v us hx hr;cases h;rw[G4,ih hr,(X6 (O4 R hx)).1]
    ·cases h
  split at h
  ·rename_i f1 c1 h1 h2;cases h;have e1:fi.map a.eval=f1.toArray:=by rw[<- key h1,<- KV]
   have e2:ca.map a.eval=c1.toArray:=by rw[<- key h2,<- KV]
   exact⟨_,by simp only[execOp,b6,e1,e2];simp[iO0,v9],.K0 _ tT⟩
  ·rename_i h1 h2;split at h
   ·rename_i f ds c8;cases h;have e1:fi.map a.eval = #[]:=by
     have:=key h1;rw[<- KV]at this;exact Array.toList_eq_nil_iff.1 this
    obtain⟨q1,q2⟩:=FZ R c8;refine⟨_,by simp only[execOp,b6,e1];simp[iO0,v9];rfl,.m6 f ds _ (by simpa using q1) fun i c v hc hv=>q2 i c v hc ?_⟩;rw[<- KV,DN];exact hv
   ·cases h
  ·cases h
 case h_18 x xt at' ok b6=>
  unfold Di at h;split at h
  ·rename_i tt y' hx;split at h
   ·rename_i N4;have hr:=O4 R hx
    obtain⟨u,hv,hu⟩:∃u,a.eval x = .iface tt u/\RV G.D w y' u:=by
     generalize a.eval x=v at hr;cases hr with
     | iface _ _ u h=>exact⟨u,rfl,h⟩
    have fR:∃d,X.P.underlying at' = some d/\∀z,d≠.interface z:=by
     unfold zW at N4;split at N4;· cases N4
     ·rename_i d hd hu;exact⟨d,hu,fun z e=>hd z e⟩
     ·cases N4
    obtain⟨d,hd,xZ⟩:=fR;split at h
    ·rename_i he;subst he;cases h;cases ok with
     | true=>
      refine⟨.tuple #[u,.bool true],?_,.H1 [y',.K0 (.bool true)] #[u,.bool true] rfl fun i c v hc hv=>?_⟩
      ·simp only[execOp,b6,hv,iP0,v9,run_underlying hd,cW];cases d <;> first|(exact (xZ _ rfl).elim)|simp
      ·match i with
       | 0=>simp at hc hv;subst hc hv;exact hu
       | 1=>simp at hc hv;subst hc hv;exact .K0 _ tT
       | i+2=>simp at hc
     | false=>
      refine⟨u,?_,hu⟩;simp only[execOp,b6,hv,iP0,v9,run_underlying hd,cW];cases d <;> first|(exact (xZ _ rfl).elim)|simp
    ·rename_i X1;split at h
     ·rename_i O8;subst O8;split at h
      ·rename_i z hz;cases h;have hzz:∃i,X.P.info? at' = some i/\i.zero=some z/\aY z:=by
        unfold GP at hz;split at hz
        ·rename_i i hi;refine⟨i,hi,?_⟩;split at hz
         ·rename_i k n hzero;split at hz
          ·rename_i hb;cases hz;exact⟨hzero,WC hb⟩
          ·cases hz
         ·rename_i hzero;cases hz;exact⟨hzero,trivial⟩
         ·cases hz
        ·cases hz
       obtain⟨i,hi,hzi,hzp⟩:=hzz;refine⟨.tuple #[z,.bool false],?_,.H1 [.K0 z,.K0 (.bool false)] #[z,.bool false] rfl fun i c v hc hv=>?_⟩
       ·simp only[execOp,b6,hv,iP0,v9,run_underlying hd,cW];cases d <;> first|(exact (xZ _ rfl).elim)|simp[X1,zeroValue,typeInfo,hi,hzi]
       ·match i with
        | 0=>simp at hc hv;subst hc hv;exact .K0 _ hzp
        | 1=>simp at hc hv;subst hc hv;exact .K0 _ tT
        | i+2=>simp at hc
      ·cases h
     ·cases h
   ·cases h
  ·cases h
 case h_19=>cases h
end
end
section
def jS(d:Nat):SV->Bool
 | .loc k _=>k==d
 | _=>false
def pE(d:Nat):SV->Bool
 | .own t _=>t==d
 | _=>false
def eH(d:Nat):List SV->Bool
 | []=>false
 | x::r=>jS d x||eH d r
def qY(d:Nat):List SV->Bool
 | []=>false
 | x::r=>pE d x||qY d r
def A8(d:Nat):St->Bool
 | []=>true
 | (l,v)::r=>(match l with | .loc k=>k != d|_=>true)&&(match v with | .one x=>!jS d x | .row cs=>!eH d cs | .tk _ _=>true | .ob _=>true | .mp _=>true)&&A8 d r
def a9(d:Nat):St->Bool
 | []=>true
 | (l,v)::r=>(match l with | .tok k=>k != d|_=>true)&&(match v with | .one x=>!pE d x | .row cs=>!qY d cs | .tk _ _=>true | .ob _=>true | .mp _=>true)&&a9 d r
def MG{v:LV}(h:get s l=some v):(l,v)∈s:=by
 induction s with
 | nil=>cases h
 | cons p r ih=>
  obtain⟨m,u⟩:=p;simp only[get]at h;split at h;· cases h;subst_vars;simp
  ·exact iJ _ (ih h)
def VA(d:Nat)(cs:List SV):eH d cs=false↔d∉cs.flatMap SV.locs:=by
 induction cs with
 | nil=>simp[eH]
 | cons x r ih=>cases x <;> simp[eH,jS,SV.locs,ih];exact fun _=>ne_comm
def mT0(d:Nat)(cs:List SV):qY d cs=false↔d∉cs.flatMap SV.toks:=by
 induction cs with
 | nil=>simp[qY]
 | cons x r ih=>cases x <;> simp[qY,pE,SV.toks,ih];exact fun _=>ne_comm
def cF0(h:A8 d s=true){v:LV}(hg:get s l=some v):∀k∈l.locs++v.locs,k≠d:=by
 have hm:=MG hg
 induction s with
 | nil=>cases hm
 | cons p r ih=>
  obtain⟨m,u⟩:=p;simp only[A8,uH]at h;rcases u5.1 hm with he|hm
  ·cases he;intro k hk he;subst he;rcases t6.1 hk with hk|hk
   ·have h1:=h.1.1;cases l <;> simp[Loc.locs]at hk;subst hk;simp at h1
   ·have h2:=h.1.2;cases v with
    | one x=>cases x <;> simp[LV.locs,SV.locs]at hk;subst hk;simp[jS]at h2
    | row cs=>
     simp only[Ig]at h2;exact (VA _ _).1 h2 hk
    | tk=>simp[LV.locs]at hk
    | ob=>simp[LV.locs]at hk
    | mp=>simp[LV.locs]at hk
  ·by_cases he:m=l
   ·subst he;simp only[get,if_true]at hg;cases hg;intro k hk he;subst he;rcases t6.1 hk with hk|hk
    ·have h1:=h.1.1;cases m <;> simp[Loc.locs]at hk;subst hk;simp at h1
    ·have h2:=h.1.2;cases v with
     | one x=>cases x <;> simp[LV.locs,SV.locs]at hk;subst hk;simp[jS]at h2
     | row cs=>
      simp only[Ig]at h2;exact (VA _ _).1 h2 hk
     | tk=>simp[LV.locs]at hk
     | ob=>simp[LV.locs]at hk
     | mp=>simp[LV.locs]at hk
   ·simp only[get,he,if_false]at hg;exact ih h.2 hg hm
def mU0(h:a9 d s=true){v:LV}(hg:get s l=some v):∀k∈l.toks++v.toks,k≠d:=by
 induction s with
 | nil=>cases hg
 | cons p r ih=>
  obtain⟨m,u⟩:=p;simp only[a9,uH]at h;by_cases he:m=l
  ·subst he;simp only[get,if_true]at hg;cases hg;intro k hk he;subst he;rcases t6.1 hk with hk|hk
   ·have h1:=h.1.1;cases m <;> simp[Loc.toks]at hk;subst hk;simp at h1
   ·have h2:=h.1.2;cases v with
    | one x=>cases x <;> simp[LV.toks,SV.toks]at hk;subst hk;simp[pE]at h2
    | row cs=>
     simp only[Ig]at h2;exact (mT0 _ _).1 h2 hk
    | tk=>simp[LV.toks]at hk
    | ob=>simp[LV.toks]at hk
    | mp=>simp[LV.toks]at hk
  ·simp only[get,he,if_false]at hg;exact ih h.2 hg
def Ctx.F(X:Ctx):Fence:={ iQ0 with round:=X.rd }
def Ag0{args:Array Value}{R:Ending->World->Prop}(h:Calls P f args w R):CallsIn X.F n P f args w R:=callsIn_wide.2 h
def Ny(P:Program)(o:Oper)(a:Act)(next:Act->World->Prop)(Q:Exit->Act->World->Prop):Result Next->Prop
 | .ok (.value v) w'=>next (a.put o.dst v) w'
 | .ok .skip w'=>next (a.put o.dst undef) w'
 | .ok (.enter f args) w'=>Calls P f args w' fun
   | .returned v,nG=>next (a.put o.dst v) nG
   | .panicked chain,nG=>Q (.panic chain) a nG
   | .outgrown,_=>LetsOut Q
 | _=>False
theorem fF(P:Program)(o:Oper)(a:Act)(next:Act->World->Prop)(Q:Exit->Act->World->Prop)(v:Value)(w:World):Ny P o a next Q (.ok (.value v) w)=next (a.put o.dst v) w:=rfl
theorem Mj(P:Program)(o:Oper)(a:Act)(next:Act->World->Prop)(Q:Exit->Act->World->Prop)(w:World):Ny P o a next Q (.ok .skip w)=next (a.put o.dst undef) w:=rfl
theorem Wa(P:Program)(o:Oper)(a:Act)(next:Act->World->Prop)(Q:Exit->Act->World->Prop)(f:FuncId)(args:Array Value)(w:World):Ny P o a next Q (.ok (.enter f args) w)=Calls P f args w fun
   | .returned v,nG=>next (a.put o.dst v) nG
   | .panicked chain,nG=>Q (.panic chain) a nG
   | .outgrown,_=>LetsOut Q:=rfl
def bP{next:Act->World->Prop}{Q:Exit->Act->World->Prop}(hd:∀c,o.op≠.defer c)(h:Ny X.P o a next Q ((execOp a.eval o).run X.P w)):o.wpIn X.F 0 X.P a w next Q:=by
 refine⟨fun _ _=>trivial,?_⟩;rw[Oper.semAt_eq _ _ _ hd];generalize (execOp a.eval o).run X.P w=r at h;cases r with
 | ok v w'=>
  cases v <;> simp only[Ny,Oper.uponIn]at h ⊢;all_goals first|exact h|exact h.elim|exact⟨fun h=>(by cases h),Ag0 h⟩
 | halt e w'=>exact h.elim
def zA{g:Rd}{p:Prop × SV}(h:N8 X g o=some p)(c:Call):o.op≠.defer c:=by
 intro e;simp[N8,e]at h
def bX(X:Ctx)(s:St)(o:Oper)(s':St):Prop:=
 ∀(G:Gh) (a:Act) (w:World),Rel X G s a w->∀(next:Act->World->Prop) (Q:Exit->Act->World->Prop),
  (∀G' a' w',Rel X G' s' a' w'->next a' w')->o.wpIn X.F 0 X.P a w next Q
section
variable{X:Ctx}{G:Gh}{s:St}{a:Act}{w:World}
def qT(a:Act)(dst:Option Tmp)(v:Value):(a.put dst v).tmps.size=a.tmps.size/\(a.put dst v).defers=a.defers:=by
 cases dst <;> simp[iR0]
def zB(a:Act)(d:Nat)(v:Value)(h:d<a.tmps.size):(a.put (some d) v).tmps.getD d undef=v:=by
 simp[iR0,h]
def zC(a:Act)(d n:Nat)(v:Value)(h:n≠d):(a.put (some d) v).tmps.getD n undef=a.tmps.getD n undef:=by
 simp[iR0,Pl (f8 h)]
def aI(w:World)(o:Obj)(b:Nat)(h:b<w.heap.size):(w.alloc o).heap[b]? = w.heap[b]?:=by
 simp only[World.alloc,Array.getElem?_push];rw[if_neg oO]
def Ej(w:World)(o:Obj):(w.alloc o).heap[w.heap.size]? = some o:=by
 show (w.heap.push o)[w.heap.size]? = some o;simp
def Rel.setSlot(R:Rel X G s a w){B:Nat->Prop}(T:Trans X G a w G' a w' B)(hν:G'.ν=G.ν)(hτ:G'.τ=G.τ)(hB:∀b,¬B b)(hd:d<X.n)(hx:B7 G' w' x v):
  Rel X G' (L2 s (.P0 d) (.one x)) (a.put (some d) v) w':=by
 have hp:=qT a (some d) v;have T':Trans X G a w G' (a.put (some d) v) w' B:=⟨hp.1,fun h=>(T.defers h).put hp.2,T.os,T.tape,T.output,T.size,T.keep,T.own,T.grow,T.new,T.nil⟩;refine R.step T' (fun l u=>l = .P0 d/\u = .one x) (fun l u h=>?_) (fun l u h=>?_) (fun l u l' u' b h h' hb X2=>h.1.trans h'.1.symm)
 ·rw[T5]at h;by_cases hl:Loc.P0 d=l
  ·rw[if_pos hl]at h;cases h;exact .inl ⟨hl.symm,rfl⟩
  ·rw[if_neg hl]at h;exact .inr ⟨h,fun n hn=>zC _ _ _ _ (fun e=>hl (by rw[hn,e])),fun b _=>hB b,fun k _=>by rw[hν],fun t _=>by rw[hτ]⟩
 ·obtain⟨rfl,rfl⟩:=h;refine⟨?_,fun b hb=>by cases hb⟩;show B7 G' w' x _;rw[zB _ _ _ (by rw[R.size];exact hd)];exact hx
def Trans.refl(X:Ctx)(G:Gh)(a:Act)(w:World)(hn:G.τ 0=(none,0)):Trans X G a w G a w (fun _=>False):=
 ⟨rfl,fun h=>h,rfl,rfl,rfl,I5 _,fun _ _ _=>rfl,fun _ h=>h.elim,iU.refl _ _,fun _ _ h k=>absurd h k,hn⟩
def pr0{c:Prop}(h:N8 X (get s) o=some (c,y))(hc:c)(hd:o.dst=some d)(hn:d<X.n):bX X s o (L2 s (.P0 d) (.one y)):=by
 intro G a w R next Q hK
 obtain⟨v,h1,h2⟩:=Qs R h hc;refine bP (by first|exact zA h|(intro c e;rw[ho]at e;cases e)) ?_;rw[h1,fF,hd];exact hK G _ w (R.setSlot (Trans.refl X G a w R.nil) rfl rfl (fun _ h=>h) hn h2)
def kC0{c:Prop}(h:N8 X (get s) o=some (c,y))(hc:c)(hd:o.dst=none):bX X s o s:=by
 intro G a w R next Q hK
 obtain⟨v,h1,h2⟩:=Qs R h hc;refine bP (by first|exact zA h|(intro c e;rw[ho]at e;cases e)) ?_;rw[h1,fF,hd];exact hK G _ w R
def lD0(R:Rel X G s a w)(o:Obj)(hD:G'.D=G.D)(hn:G'.τ 0=(none,0)):Trans X G a w G' a (w.alloc o) (fun _=>False):=by
 have W5:∀b o',G.D b o'->BH b o' w (w.alloc o):=fun b o' hd=>.of (aI _ _ _ (R.wf.lt hd));exact⟨rfl,fun h=>h.heap fun b hb=>aI w o b hb,rfl,rfl,rfl,sS,fun b hb _=>aI w o b hb,fun _ h=>h.elim,fun b o' hd=>⟨by rw[hD];exact hd,W5 b o' hd⟩,fun b o' h k=>absurd (hD ▸ h) k,hn⟩
def fZ:List SV->Bool
 | []=>true
 | x::r=>x.isCell&&fZ r
def Qt(l:List SV):fZ l=true↔∀c∈l,c.isCell=true:=by
 induction l with
 | nil=>simp[fZ]
 | cons c r ih=>simp[fZ,ih]
def Rel.newLoc(R:Rel X G s a w)(hd:d<X.n)(hf:A8 d s=true)(A5:gY G w cs c)(W5:fZ cs=true)(aF:eH d cs=false)(t:TypeId):
  ∃G',Rel X G' (L2 (L2 s (.P0 d) (.one (.loc d 0))) (.loc d) (.row cs)) (a.put (some d) (.pointer (some ⟨w.heap.size,0,none⟩))) (w.alloc (.cells c t)):=by
 refine⟨{ G with ν:=fun k=>if k=d then w.heap.size else G.ν k },?_⟩;have hp:=qT a (some d) (.pointer (some ⟨w.heap.size,0,none⟩));have T0:=lD0 R (.cells c t) (G':={ G with ν:=fun k=>if k=d then w.heap.size else G.ν k }) rfl R.nil;have T:Trans X G a w { G with ν:=fun k=>if k=d then w.heap.size else G.ν k } (a.put (some d) (.pointer (some ⟨w.heap.size,0,none⟩))) (w.alloc (.cells c t)) (fun _=>False):=⟨hp.1,fun h=>(T0.defers h).put hp.2,T0.os,T0.tape,T0.output,T0.size,T0.keep,T0.own,T0.grow,T0.new,T0.nil⟩;refine R.step T (fun l u=>(l = .P0 d/\u = .one (.loc d 0))\/(l = .loc d/\u = .row cs)) (fun l u h=>?_) (fun l u h=>?_) (fun l u l' u' b h h' hb X2=>?_)
 ·rw[T5,T5]at h;by_cases h1:Loc.loc d=l;· rw[if_pos h1]at h;cases h;exact .inl (.inr ⟨h1.symm,rfl⟩)
  ·rw[if_neg h1]at h;by_cases h2:Loc.P0 d=l;· rw[if_pos h2]at h;cases h;exact .inl (.inl ⟨h2.symm,rfl⟩)
   ·rw[if_neg h2]at h;refine .inr ⟨h,fun n hn=>zC _ _ _ _ (fun e=>h2 (by rw[hn,e])),fun b _ h=>h,fun k hk=>?_,fun t _=>rfl⟩;have:=cF0 hf h k hk;simp[this]
 ·rcases h with⟨rfl,rfl⟩|⟨rfl,rfl⟩
  ·refine⟨?_,fun b hb=>by cases hb⟩;simp only[oA,B7];rw[zB _ _ _ (by rw[R.size];exact hd)];simp
  ·refine⟨⟨c,t,by simp only[if_true];exact Ej _ _,Nat.le_of_eq A5.1.symm,fun i x hx=>?_⟩,fun b hb=>?_⟩
   ·have hm:=uE hx;refine⟨(Qt cs).1 W5 x hm,?_⟩;have I1:i<c.size:=by rw[A5.1];exact (uA hx).1
    refine⟨c[i],uG I1,?_⟩;have hr:=A5.2 i x _ hx (uG I1);refine hr.mono T0.grow (fun k hk=>?_) (fun t _=>rfl)
    have:k≠d:=fun e=>by
     subst e;exact (VA _ _).1 aF (Ug.2 ⟨x,hm,hk⟩)
    simp[this]
   ·simp only[D5,if_true,uC]at hb;subst hb;refine⟨.inl (I5 _),.inl R.ext.size,fun _ o hD=>?_⟩;exact absurd (R.wf.lt hD) (vX _)
 ·rcases h with⟨rfl,rfl⟩|⟨rfl,rfl⟩;· cases hb
  ·rcases h' with⟨rfl,rfl⟩|⟨rfl,rfl⟩;· cases X2
   ·rfl
def cG0(ho:o.op = .alloc t)(hd:o.dst=some d)(hn:d<X.n)(hz:K7 X.P t=some cs)(hc:fZ cs=true)(hf:A8 d s=true):
  bX X s o (L2 (L2 s (.P0 d) (.one (.loc d 0))) (.loc d) (.row cs)):=by
 intro G a w R next Q hK
 unfold K7 at hz;split at hz
 ·rename_i i hi;split at hz
  ·rename_i z HV;have A5:=LE (w:=w) R.nil hz;simp only[iI0]at A5;have tS:eH d cs=false:=by
    have:∀(l:List Value) (cs:List SV),GO l=some cs->eH d cs=false:=by
     intro l
     induction l with
     | nil=>intro cs h;cases h;rfl
     | cons v r ih=>
      intro cs h;simp only[GO]at h;split at h
      ·rename_i x xs hx AJ;cases h;simp only[eH,ih _ AJ,at0];unfold qX at hx;split at hx;· cases hx;rfl
       ·rename_i vs;cases hq:Jr vs.toList with
        | none=>rw[hq]at hx;cases hx
        | some ds=>rw[hq]at hx;cases hx;rfl
       ·split at hx;· cases hx;rfl
        ·cases hx
      ·cases h
    exact this _ _ hz
   obtain⟨G',R'⟩:=R.newLoc hn hf A5 hc tS t;refine bP (by first|exact zA h|(intro c e;rw[ho]at e;cases e)) ?_;simp only[execOp,ho,Instr.alloc,zeroValue,typeInfo,run_program,hi,HV,newVar,newRow,run_newObj,v9,kH,cW,fF,hd];exact hK G' _ _ R'
  ·cases hz
 ·cases hz
def et0{x:Operand}(ho:o.op = .box t x)(hd:o.dst=some d)(hn:d<X.n)(hy:M2 X (get s) x=some y)(hc:fZ (P7 y)=true)(hf:A8 d s=true)(tS:jS d y=false):
  bX X s o (L2 (L2 s (.P0 d) (.one (.loc d 0))) (.loc d) (.row (P7 y))):=by
 intro G a w R next Q hK
 have A5:gY G w (P7 y) (a.eval x).cells:=IF R.nil (O4 R hy);have F00:eH d (P7 y)=false:=by
  cases y with
  | v y=>
   have:∀l:List DV,eH d (l.map SV.v)=false:=by
    intro l
    induction l with
    | nil=>rfl
    | cons c r ih=>simp[eH,jS,ih]
   exact this _
  | loc k off=>simp[P7,eH,jS]at tS ⊢;exact tS
  | dp els i off=>rfl
  | own t els=>rfl
  | ag cs ns=>
   have:∀(l:List DV) (k:Nat),eH d (tL ns k l)=false:=by
    intro l
    induction l with
    | nil=>intro k;rfl
    | cons c r ih=>intro k;simp only[tL,eH,ih,at0];split <;> rfl
   exact this _ _
 obtain⟨G',R'⟩:=R.newLoc hn hf A5 hc F00 t;refine bP (by first|exact zA h|(intro c e;rw[ho]at e;cases e)) ?_;simp only[execOp,ho,Instr.box,newVar,newRow,run_newObj,v9,kH,cW,fF,hd];exact hK G' _ _ R'
end
end
section
section
variable{X:Ctx}{G:Gh}{s:St}{a:Act}{w:World}
def lE0(w:World)(b:Nat)(c:Array Value)(e:TypeId)(h:w.heap[b]? = some (.cells c e (0,0))):w.setRow b c=w:=by
 have I1:b<w.heap.size:=(fB.1 h).1;have hv:w.heap[b] = .cells c e (0,0):=(fB.1 h).2;unfold World.setRow;cases w with
 | mk heap tape drawn os output=>
  congr 1
  apply Array.ext;· simp
  ·intro k h1 h2;simp only[Array.getElem_modify];split;· rename_i hk;subst hk;simp at hv;simp[hv]
   ·rfl
abbrev MH(off:Nat)(l:List Value)(k:Nat)(c:Array Value):Array Value:=(l.zipIdx k).foldl (fun cs (p:Value × Nat)=>cs.setIfInBounds (off+p.2) p.1) c
theorem PY{P:Program}(b off:Nat)(e:TypeId):∀(vs:List Value) (k:Nat) (c:Array Value) (w:World),w.heap[b]? = some (.cells c e (0,0))->off+k+vs.length<=c.size->(∀v∈vs,v.oneCell' = true) ->
  (storeCells ⟨b,off,none⟩ vs k).run P w = .ok () (w.setRow b (MH off vs k c))
 | [],k,c,w,h,_,_=>by simp[storeCells,MH,lE0 w b c e h]
 | v::r,k,c,w,h,hle,h1=>by
  simp only[B4]at hle;have hi:off+k<c.size:=oO;have W5:w.cell? ⟨b,off+k,none⟩=some c[off+k]:=by simp[rW,h,hi]
  have FF0:w.frozen? ⟨b,off+k,none⟩=false:=by simp[World.frozen?,h]
  have kG:(store ((⟨b,off,none⟩:Addr).add k) v).run P w = .ok () (w.setRow b (c.setIfInBounds (off+k) v)):=by
   rw[pC,run_store P w _ v _ (h1 v sS),W5];simp[FF0,setCell_eq_setRow w b (off+k) c e (0,0) v h]
  have ih:=PY (P:=P) b off e r (k+1) (c.setIfInBounds (off+k) v) (w.setRow b (c.setIfInBounds (off+k) v)) (setRow_heap w b c _ e _ h) (by simp;omega) (fun x hx=>h1 x (by simp[hx]));simp only[storeCells,v9,kG,cW,ih,setRow_setRow,MH,List.zipIdx_cons,Uk]
def UP(off:Nat)(vs c:Array Value):MH off vs.toList 0 c=lW c off vs:=by
 unfold MH lW;rw[<- iH0,Array.toList_zipIdx]
def ps0{xs:List SV}{vs:Array Value}(h:gY G w xs vs)(hc:fZ xs=true):∀v∈vs.toList,v.oneCell' = true:=by
 intro v hv;obtain⟨i,hi,rfl⟩:=yM.1 hv;have s9:i<xs.length:=by rw[<- h.1];simpa using hi
 have hx:xs[i]? = some xs[i]:=uB s9;have OB:vs[i]? = some (vs.toList[i]):=sS;exact B7.one (h.2 i _ _ hx OB) ((Qt xs).1 hc _ (vY s9))
theorem Rel.storeRow(R:Rel X G s a w)(hl:get s l=some (.row cs))(I1:l.isTok=false)(hb:D5 G l (.row cs)=some b){off:Nat}{xs:List SV}{vs:Array Value}
  (hx:gY G w xs vs) (hc:fZ xs=true) (hle:off+xs.length<=cs.length) :
  ∃w',(storeCells ⟨b,off,none⟩ vs.toList 0).run X.P w = .ok () w'/\Rel X G (L2 s l (.row (put cs off xs))) a w':=by
 have hB:jT G w b cs:=by
  have:=R.holds _ _ hl;cases l with
  | loc k=>simp only[D5,uC]at hb;subst hb;exact this
  | heap k=>simp only[D5,uC]at hb;subst hb;exact this
  | P0 n=>cases hb
  | tok t=>cases hb
 obtain⟨c,e,h1,h2,h3⟩:=hB;have P6:off+vs.size<=c.size:=by rw[hx.1];omega
 have O7:=PY (P:=X.P) b off e vs.toList 0 c w h1 (by simpa using P6) (ps0 hx hc);rw[UP]at O7;refine⟨_,O7,?_⟩;have A4:∀o,¬G.D b o:=fun o=>R.data l _ b o hl hb I1;have T:Trans X G a w G a (w.setRow b (lW c off vs)) (fun b'=>b' = b):=by
  refine⟨rfl,fun h=>h.but h1 fun b' hn=>setRow_other _ _ _ _ hn,rfl,rfl,rfl,sS,fun b' X2 hn=>setRow_other _ _ _ _ hn,fun b' X2=>?_,fun b' o hd=>⟨hd,?_⟩,fun _ _ h k=>absurd h k,R.nil⟩;· subst X2;exact (R.own l _ b' hl hb).imp id fun h=>.inl h.1
  ·exact .of (setRow_other _ _ _ _ (fun e=>by subst e;exact A4 o hd))
 refine R.step T (fun l' u=>l' = l/\u = .row (put cs off xs)) (fun l' u h=>?_) (fun l' u h=>?_) (fun l' u l'' u' b h h' _ _=>h.1.trans h'.1.symm)
 ·rw[T5]at h;by_cases L8:l=l';· rw[if_pos L8]at h;cases h;exact .inl ⟨L8.symm,rfl⟩
  ·rw[if_neg L8]at h;refine .inr ⟨h,fun _ _=>rfl,fun b' X2 he=>?_,fun _ _=>rfl,fun _ _=>rfl⟩;subst he;exact L8 (R.sep _ _ _ _ b' hl h hb X2)
 ·obtain⟨rfl,rfl⟩:=h;have V9:=LD c off vs P6;have BX:jT G (w.setRow b (lW c off vs)) b (put cs off xs):=by
   refine⟨_,e,setRow_heap _ _ _ _ _ _ h1,?_,fun i x hi=>?_⟩;· rw[V9.1,Vz _ _ _ hle];exact h2
   rw[MF _ _ _ _ hle]at hi;split at hi
   ·rename_i V7;have hj:i - off<vs.size:=by rw[hx.1];exact (uA hi).1
    refine⟨(Qt xs).1 hc x (uE hi),vs[i - off],?_,(hx.2 _ _ _ hi (uG hj)).mono T.grow (fun _ _=>rfl) (fun _ _=>rfl)⟩;rw[V9.2,if_pos ⟨V7.1,oO⟩];exact uG hj
   ·rename_i V7;obtain⟨k1,v,k2,k3⟩:=h3 i x hi;refine⟨k1,v,?_,k3.mono T.grow (fun _ _=>rfl) (fun _ _=>rfl)⟩;rw[V9.2,if_neg (by rw[hx.1];exact V7)];exact k2
  refine⟨?_,fun b' X2=>?_⟩
  ·cases l' with
   | loc k=>simp only[D5,uC]at hb;subst hb;exact BX
   | heap k=>simp only[D5,uC]at hb;subst hb;exact BX
   | P0 n=>cases hb
   | tok t=>cases hb
  ·have:b' = b:=by
    cases l' <;> simp_all[D5]
   subst this;exact⟨.inr rfl,R.own l' _ b' hl hb,fun _ o=>A4 o⟩
def UT(hl:G5 P t=some (agg,n))(hv:v.cells.size=n)(h:(storeCells ⟨b,off,none⟩ v.cells.toList 0).run P w = .ok () w'):
  (Instr.storeAt t (.pointer (some ⟨b,off,none⟩)) v).run P w = .ok () w':=by
 obtain⟨-,h2⟩:=RJ (w:=w) hl;simp[Instr.storeAt,nQ,storeVar,h2,hv,h]
def bD0{p x:Operand}(ho:o.op = .store t p x)(hd:o.dst=none){k:Nat}(hp:M2 X (get s) p=some (.loc k off))(hg:get s (.loc k)=some (.row cs))
  {agg:Bool} {n:Nat} (hl:G5 X.P t=some (agg,n)) {y:SV} (hy:M2 X (get s) x=some y) (hc:(P7 y).length=n/\off+n<=cs.length) (W5:fZ (P7 y)=true) :
  bX X s o (L2 s (.loc k) (.row (put cs off (P7 y)))):=by
 intro G a w R next Q hK
 have A5:gY G w (P7 y) (a.eval x).cells:=IF R.nil (O4 R hy);obtain⟨w',h1,h2⟩:=R.storeRow hg rfl (b:=G.ν k) rfl A5 W5 (by rw[hc.1];exact hc.2);have ZD:a.eval p = .pointer (some ⟨G.ν k,off,none⟩):=O4 R hp;refine bP (by first|exact zA h|(intro c e;rw[ho]at e;cases e)) ?_;have h3:=UT (w:=w) hl (by rw[A5.1,hc.1]) h1;rw[<- ZD]at h3;simp only[execOp,ho,v9,h3,cW,kH,Mj,hd];exact hK G _ w' h2
def asV:SV->Option SV
 | .v x=>some (.v x)
 | .own _ els=>some (.v (.sl els))
 | _=>none
def vL:List SV->Option (List SV)
 | []=>some []
 | x::r=>match asV x,vL r with
  | some y,some ys=>some (y::ys)
  | _,_=>none
theorem eu0:∀{xs ys:List SV},vL xs=some ys->xs.length=ys.length/\∀(i:Nat) (y:SV),ys[i]? = some y->∃x,xs[i]? = some x/\asV x=some y
 | [],ys,h=>by cases h;simp
 | x::r,ys,h=>by
  simp only[vL]at h;split at h
  ·rename_i y zs hy yE;cases h;obtain⟨h1,h2⟩:=eu0 yE;refine⟨by simp[h1],fun i c hc=>?_⟩;cases i with
   | zero=>simp at hc;subst hc;exact⟨x,rfl,hy⟩
   | succ i=>obtain⟨z,hz⟩:=h2 i c (by simpa using hc);exact⟨z,by simpa using hz.1,hz.2⟩
  ·cases h
def gY.asV{xs ys:List SV}(h:gY G w xs c)(hy:vL xs=some ys):gY G w ys c:=by
 obtain⟨h1,h2⟩:=eu0 hy;refine⟨h.1.trans h1,fun i y v hi hv=>?_⟩;obtain⟨x,hx,mD⟩:=h2 i y hi;have hr:=h.2 i x v hx hv;cases x with
 | v x=>cases mD;exact hr
 | own t els=>cases mD;exact hr.2
 | loc=>cases mD
 | dp=>cases mD
 | ag=>cases mD
def UK{p x:Operand}(ho:o.op = .store t p x)(hd:o.dst=none)(hp:M2 X (get s) p=some (.v (.K0 (.pointer (some ⟨b,off,none⟩)))))(hg:get s (.heap b)=some (.row cs))
  {agg:Bool} {n:Nat} (hl:G5 X.P t=some (agg,n)) {y:SV} (hy:M2 X (get s) x=some y) {ys:List SV} (kD:vL (P7 y)=some ys) (hc:ys.length=n/\off+n<=cs.length) (W5:fZ ys=true) :
  bX X s o (L2 s (.heap b) (.row (put cs off ys))):=by
 intro G a w R next Q hK
 have FY0:gY G w (P7 y) (a.eval x).cells:=IF R.nil (O4 R hy);have A5:=FY0.asV kD;obtain⟨w',h1,h2⟩:=R.storeRow hg rfl (b:=b) rfl A5 W5 (by rw[hc.1];exact hc.2);have ZD:a.eval p = .pointer (some ⟨b,off,none⟩):=(X6 (O4 R hp)).1;refine bP (by first|exact zA h|(intro c e;rw[ho]at e;cases e)) ?_;have h3:=UT (w:=w) hl (by rw[A5.1,hc.1]) h1;rw[<- ZD]at h3;simp only[execOp,ho,v9,h3,cW,kH,Mj,hd];exact hK G _ w' h2
def l9(P:Program)(t:TypeId):Option (Nat × Nat):=
 match P.underlying t with
 | some (.slice e)=>
  match P.info? e with
  | some i=>match i.zero with
   | some z=>if z.cells.size=i.size then some (i.size,i.bytes) else none
   | none=>none
  | none=>none
 | _=>none
def LW{t:Nat}(h:l9 P t=some (E,B)):∃e i z,P.underlying t=some (.slice e)/\P.info? e=some i/\i.zero=some z/\z.cells.size=E/\i.size=E/\i.bytes=B:=by
 unfold l9 at h;split at h
 ·rename_i e hu;split at h
  ·rename_i i hi;split at h
   ·rename_i z hz;split at h
    ·rename_i hs;simp only[uC,uD]at h;exact⟨e,i,z,hu,hi,hz,oO,h.1,h.2⟩
    ·cases h
   ·cases h
  ·cases h
 ·cases h
def mU(X:Ctx)(g:Rd)(E:Nat):Nat->List (Nat × Operand)->Option (List (List DV))
 | _,[]=>some []
 | n,(i,x)::r=>
  if i=n then
   match M2 X g x with
   | some y=>match bZ (P7 y) with
    | some ds=>if ds.length=E then if fI ds then
      match mU X g E (n+1) r with
      | some rest=>some (ds::rest)
      | none=>none
     else none else none
    | none=>none
   | none=>none
  else none
theorem Va(R:Rel X G s a w)(E:Nat):∀(parts:List (Nat × Operand)) (n:Nat) (els:List (List DV)) (c:Array Value),mU X (get s) E n parts=some els->(n+els.length) * E<=c.size ->
  (∀e∈els,e.length=E)/\(∀e∈els,∀d∈e,DV.isCell d=true)/\parts.length=els.length /\
  ∃c',KT (fun i=>some (i * E,E)) c (parts.map fun q=>(q.1,a.eval q.2))=some c'/\c'.size=c.size/\(∀k,k<n * E->c'[k]? = c[k]?) /\
   ∀(i j:Nat) (e:List DV) (d:DV),els[i]? = some e->e[j]? = some d->∃v,c'[(n+i) * E+j]? = some v/\RV G.D w d v
 | [],n,els,c,h,hle=>by cases h;exact⟨sS,sS,rfl,c,rfl,rfl,fun _ _=>rfl,sS⟩
 | (i,x)::r,n,els,c,h,hle=>by
  simp only[mU]at h;split at h
  ·rename_i V7;subst V7;split at h
   ·rename_i y hy;split at h
    ·rename_i ds c8;split at h
     ·rename_i hlen;split at h
      ·rename_i nH;split at h
       ·rename_i rest Q3;cases h;have A5:gY G w (P7 y) (a.eval x).cells:=IF R.nil (O4 R hy);obtain⟨t1,t2⟩:=Je c8;have hvs:(a.eval x).cells.size=E:=by rw[A5.1,t1,hlen]
        have hm:(i+(rest.length+1)) * E=i * E+E+rest.length * E:=by rw[Y9,Y9,Ih];omega
        simp only[B4]at hle;rw[hm]at hle;have V9:=LD c (i * E) (a.eval x).cells (by rw[hvs];omega);obtain⟨q1,q2,q3,c',f1,f2,f3,f4⟩:=Va R E r (i+1) rest (lW c (i * E) (a.eval x).cells) Q3 (by rw[V9.1,Y9,Y9,Ih];omega);refine⟨fun e he=>?_,fun e he=>?_,by simp[q3],c',?_,by rw[f2,V9.1],fun k hk=>?_,fun j l e d he hd=>?_⟩
        ·rcases u5.1 he with rfl|he;· exact hlen
         ·exact q1 e he
        ·rcases u5.1 he with rfl|he;· exact (IU _).1 nH
         ·exact q2 e he
        ·simp only[G4,KT];rw[if_neg];· exact f1
         ·simp only[Ci,decide_eq_true_eq,not_or];omega
        ·rw[f3 k (by rw[Y9];omega),V9.2,if_neg oO]
        ·cases j with
         | zero=>
          simp at he;subst he;have hl:l<E:=by rw[<- hlen];exact (uA hd).1
          obtain⟨z,hz,OH⟩:=t2 l d hd;have hlv:l<(a.eval x).cells.size:=oO;refine⟨(a.eval x).cells[l],?_,Ei OH (A5.2 l z _ hz (uG hlv))⟩;rw[qI,f3 _ (by rw[Y9,Ih];omega),V9.2,if_pos oO,Po,uG hlv]
         | succ j=>
          obtain⟨v,hv,hr⟩:=f4 j l e d (by simpa using he) hd;exact⟨v,by rw[show i+(j+1)=i+1+j from oO];exact hv,hr⟩
       ·cases h
      ·cases h
     ·cases h
    ·cases h
   ·cases h
  ·cases h
def qU(D:Nat->Nat->Prop)(b lo hi:Nat):Nat->Nat->Prop:=fun b' o=>D b' o\/(b' = b/\lo<=o/\o<hi)
def kD0(R:Rel X G s a w){t len:Nat}(he:l9 X.P t=some (E,B)){parts:Array (Nat × Operand)}(h:mU X (get s) E 0 parts.toList=some els)(hlen:els.length=len)(hb:len * E<=16777216)(Z8:len<=M5):
  ∃c e,(au0 t len (parts.map fun (i,x)=>(i,a.eval x))).run X.P w = .ok (.slice (some ⟨w.heap.size,0,none⟩) len len) (w.alloc (.cells c e))/\c.size=len * E /\
   RV (qU G.D w.heap.size 0 (len * E)) (w.alloc (.cells c e)) (.sl els) (.slice (some ⟨w.heap.size,0,none⟩) els.length len):=by
 obtain⟨e,i,z,hu,hi,hz,yE,Cc,AH⟩:=LW he;subst hlen;have Pb:((Pp (els.length * E)).map fun k=>(if els.length * E=0 then #[] else z.cells)[k % (if els.length * E=0 then #[] else z.cells).size]!).size=els.length * E:=sS;obtain⟨q1,q2,q3,c',f1,f2,f3,f4⟩:=Va R E parts.toList 0 els ((Pp (els.length * E)).map fun k=>(if els.length * E=0 then #[] else z.cells)[k % (if els.length * E=0 then #[] else z.cells).size]!) h (by rw[Pb,G8];exact I5 _);rw[Pb]at f2;refine⟨c',e,?_,f2,?_⟩
 ·have X1:¬(els.length * E > 2 ^ 24):=oO;have hf:KT (fun k=>some (k * E,E)) ((Pp (els.length * E)).map fun k=>(if els.length * E=0 then #[] else z.cells)[k % (if els.length * E=0 then #[] else z.cells).size]!) ((parts.map fun (q:Nat × Operand)=>(q.1,a.eval q.2)).toList)=some c':=by
   rw[KV];exact f1
  unfold au0;simp only[run_underlying hu,sizeOf,typeInfo,hi,Cc,v9,kH,run_program,cW,X1,if_false];by_cases h0:els.length * E=0
  ·simp only[if_pos h0]at hf ⊢;simp only[v9,kH,cW,hf,newRow,run_newObj];rfl
  ·simp only[if_neg h0]at hf ⊢;simp only[zeroValue,typeInfo,run_program,hi,hz,v9,kH,cW,hf,newRow,run_newObj];rfl
 ·refine .sl els w.heap.size 0 els.length E (fun i j=>(c'[i * E+j]?).getD undef) Z8 (I5 _) q1 q2 (fun i j s9 hj=>?_) (fun i j s9 hj=>.inr ⟨rfl,aH _,?_⟩) (fun i j e' d DD hd=>?_)
  ·have I1:i * E+j<c'.size:=by
    rw[f2]
    calc i * E+j<i * E+E:=oO
     _=(i+1) * E:=by rw[Y9,Ih]
     _<=els.length * E:=yO _ s9
   simp[av0,I1]
  ·calc 0+(i * E+j)<i * E+E:=oO
     _=(i+1) * E:=by rw[Y9,Ih]
     _<=els.length * E:=yO _ s9
  ·obtain⟨v,hv,hr⟩:=f4 i j e' d DD hd;rw[G8]at hv;simp only[hv,Option.getD_some];exact hr.mono (fun b o hd=>⟨.inl hd,.of (aI _ _ _ (R.wf.lt hd))⟩)
def cH0(R:Rel X G s a w){hi:Nat}(hh:hi<=c.size)(hD:G'.D=qU G.D w.heap.size 0 hi)(hn:G'.τ 0=(none,0)):Trans X G a w G' a (w.alloc (.cells c e)) (fun _=>False):=by
 refine⟨rfl,fun h=>h.heap fun b hb=>aI w _ b hb,rfl,rfl,rfl,sS,fun b hb _=>aI w _ b hb,fun _ h=>h.elim,fun b o hd=>⟨by rw[hD];exact .inl hd,.of (aI _ _ _ (R.wf.lt hd))⟩,fun b o h k=>?_,hn⟩;rw[hD]at h;rcases h with h|⟨rfl,h1,h2⟩;· exact absurd h k
 ·refine⟨.inl (I5 _),.inl ⟨c[o]'oO,?_⟩⟩;rw[av0];exact uG oO
def bx0{t len:Nat}{parts:Array (Nat × Operand)}(ho:o.op = .buildSlice t len parts)(hd:o.dst=some d)(hn:d<X.n)(he:l9 X.P t=some (E,B)){els:List (List DV)}
  (h:mU X (get s) E 0 parts.toList=some els) (hc:els.length=len/\len * E<=16777216/\len<=M5):bX X s o (L2 s (.P0 d) (.one (.v (.sl els)))):=by
 intro G a w R next Q hK
 obtain⟨c,e,h1,h2,h3⟩:=kD0 R he h hc.1 hc.2.1 hc.2.2;refine bP (by first|exact zA h|(intro c e;rw[ho]at e;cases e)) ?_;simp only[execOp,ho,v9,h1,cW,kH,fF,hd];have T:Trans X G a w { G with D:=qU G.D w.heap.size 0 (len * E) } a (w.alloc (.cells c e)) (fun _=>False):=cH0 R (hi:=len * E) oO rfl R.nil;refine hK { G with D:=qU G.D w.heap.size 0 (len * E) } _ _ (R.setSlot T rfl rfl (fun _ h=>h) hn ?_);show RV (qU G.D w.heap.size 0 (len * E)) _ _ _;rw[<- hc.1]at h3 ⊢;exact h3
end
end
section
section
variable{X:Ctx}{G:Gh}{s:St}{a:Act}{w:World}
def tG(D:Nat->Nat->Prop)(w:World)(E:Nat)(els:List (List DV))(f:Nat->Value):Prop:=
 ∀(i j:Nat) (e:List DV) (d:DV),els[i]? = some e->e[j]? = some d->RV D w d (f (i * E+j))
def tG.mono{D D':Nat->Nat->Prop}{w w':World}{E:Nat}{els:List (List DV)}{f:Nat->Value}(g:iU D w D' w')(h:tG D w E els f):tG D' w' E els f:=
 fun i j e d he hd=>(h i j e d he hd).mono g
def vD(hi:i<n)(hj:j<E):i * E+j<n * E:=by
 calc i * E+j<i * E+E:=oO
  _=(i+1) * E:=by rw[Y9,Ih]
  _<=n * E:=yO _ hi
def Gv{D:Nat->Nat->Prop}{w:World}(h:RV D w (.sl els) v)(hE:∀e∈els,e.length=E):
  (∀e∈els,∀c∈e,DV.isCell c=true)/\∃f,tG D w E els f/\(∀k,k<els.length * E->(f k).oneCell' = true) /\
   (els=[]/\(∃b cap,v = .slice b 0 cap)\/∃b o cap,v = .slice (some ⟨b,o,none⟩) els.length cap/\∀k,k<els.length * E->w.cell? ⟨b,o+k,none⟩=some (f k)/\D b (o+k)):=by
 cases h with
 | sl0 b cap=>exact⟨sS,fun _=>undef,by intro _ _ e d he;simp at he,sS,.inl ⟨rfl,b,cap,rfl⟩⟩
 | sl _ b o cap E' val hlen bL lJ W5 hc hD hh=>
  refine⟨W5,fun k=>val (k / E) (k % E),fun i j e d he hd=>?_,fun k hk=>?_,?_⟩
  ·have hj:j<E:=by rw[<- hE e (uE he)];exact (uA hd).1
   have h1:(i * E+j) / E=i:=by rw[Pq,Nat.mul_add_div oO];simp[Nat.div_eq_of_lt hj]
   have h2:(i * E+j) % E=j:=by rw[Pq,Nat.mul_add_mod];exact Nat.mod_eq_of_lt hj
   simp only[h1,h2];exact hh i j e d he hd
  ·have Oz:0<E:=by rcases iU0 E with h0|h0 <;> simp_all
   have hi:k / E<els.length:=(iV0 Oz).2 hk;have he:els[k / E]? = some els[k / E]:=uB hi;have Cg:=hE _ (vY hi);have hj:k % E<els[k / E].length:=by rw[Cg];exact Nat.mod_lt _ Oz
   have hd:els[k / E][k % E]? = some els[k / E][k % E]:=uB hj;exact RV.one (hh _ _ _ _ he hd) (W5 _ (vY hi) _ (vY hj))
  ·cases AP:els with
   | nil=>exact .inl ⟨rfl,_,cap,by simp;rfl⟩
   | cons e0 r=>
    rw[<- AP];have DL:E' = E:=by rw[<- lJ e0 (by simp[AP]),hE e0 (by simp[AP])]
    subst DL;refine .inr ⟨b,o,cap,rfl,fun k hk=>?_⟩;have Oz:0<E':=by rcases iU0 E' with h0|h0 <;> simp_all
    have hi:k / E'<els.length:=(iV0 Oz).2 hk;have hj:k % E'<E':=Nat.mod_lt _ Oz;have e1:k / E' * E'+k % E' = k:=by rw[Pq];exact Nat.div_add_mod k E'
    have:=hc _ _ hi hj;have hd:=hD _ _ hi hj;rw[e1]at this hd;exact⟨this,hd⟩
def dS(f:Nat->Value)(n:Nat):Array Value:=((oT n).map f).toArray
def Bp(f:Nat->Value)(n:Nat):(dS f n).size=n:=by simp[dS]
def Bu(f:Nat->Value)(n k:Nat)(h:k<n):(dS f n)[k]? = some (f k):=by simp[dS,h]
def UL{w:World}(b o n:Nat)(f:Nat->Value)(h:∀k,k<n->w.cell? ⟨b,o+k,none⟩=some (f k)):(loadCells ⟨b,o,none⟩ n).run P w = .ok (dS f n) w:=by
 have:=run_loadCells_list (P:=P) w ⟨b,o,none⟩ ((oT n).map f) (fun j v hj=>by
  have jC:j<n:=by have:=(uA hj).1;simpa using this
  rw[pC];simp[jC]at hj;rw[<- hj];exact h j jC)
 simpa [dS] using this
def Bg{P:Program}{D:Nat->Nat->Prop}{w:World}{els:List (List DV)}{v:Value}{E:Nat}{f:Nat->Value}
  (h:els=[]/\(∃b cap,v = .slice b 0 cap)\/∃b o cap,v = .slice (some ⟨b,o,none⟩) els.length cap/\∀k,k<els.length * E->w.cell? ⟨b,o+k,none⟩=some (f k)/\D b (o+k)) :
  (kV E els.length v).run P w = .ok (dS f (els.length * E)) w:=by
 rcases h with⟨rfl,b,cap,rfl⟩|⟨b,o,cap,rfl,hc⟩
 ·cases b with
  | none=>simp[kV,dS]
  | some p=>simp[kV,dS,loadCells,loadCellsFrom]
 ·simp only[kV];exact UL b o _ f (fun k hk=>(hc k hk).1)
def tG.join{D:Nat->Nat->Prop}{w:World}{ys:List (List DV)}{f g h:Nat->Value}(hf:tG D w E els f)(hg:tG D w E ys g)(hE:∀e∈els,e.length=E)(lJ:∀e∈ys,e.length=E)
  (h1:∀k,k<els.length * E->h k=f k) (h2:∀k,k<ys.length * E->h (els.length * E+k)=g k):tG D w E (els++ys) h:=by
 intro i j e d he hd;by_cases hi:i<els.length
 ·rw[cJ hi]at he;have hj:j<E:=by rw[<- hE e (uE he)];exact (uA hd).1
  rw[h1 _ (vD hi hj)];exact hf i j e d he hd
 ·rw[cK oO]at he;have hj:j<E:=by rw[<- lJ e (uE he)];exact (uA hd).1
  have s9:i - els.length<ys.length:=(uA he).1;have e1:i * E+j=els.length * E+((i - els.length) * E+j):=by
   have:i=els.length+(i - els.length):=oO
   conv=>lhs;rw[this,Y9]
   omega
  rw[e1,h2 _ (vD s9 hj)];exact hg _ j e d he hd
def Qu{D:Nat->Nat->Prop}{w:World}{b o:Nat}{f:Nat->Value}(hb:els.length<=M5)(bL:els.length<=cap)(hE:∀e∈els,e.length=E)(W5:∀e∈els,∀c∈e,DV.isCell c=true)
  (hc:∀k,k<els.length * E->w.cell? ⟨b,o+k,none⟩=some (f k)/\D b (o+k)) (h:tG D w E els f):RV D w (.sl els) (.slice (some ⟨b,o,none⟩) els.length cap):=
 .sl els b o cap E (fun i j=>f (i * E+j)) hb bL hE W5 (fun i j hi hj=>(hc _ (vD hi hj)).1) (fun i j hi hj=>(hc _ (vD hi hj)).2) h
def Rel.ownNew(R:Rel X G s a w){t E n:Nat}(hd:d<X.n)(hf:a9 d s=true){B:Nat->Prop}(T:Trans X G a w G' a w' B)(hν:G'.ν=G.ν)(hτ:∀k,k≠d->G'.τ k=G.τ k)
  (hB:∀b,B b->∃E len,get s (.tok t)=some (.tk E len)/\mS G t len=some b) {els:List (List DV)} {v:Value} (hv:B7 G' w' (.own d els) v) (Dr:pH G' w' d E n)
  (nP:∀b,mS G' d n=some b->w.heap.size<=b\/B b):Rel X G' (L2 (L2 (D8 s (.tok t)) (.P0 d) (.one (.own d els))) (.tok d) (.tk E n)) (a.put (some d) v) w':=by
 have hp:=qT a (some d) v;have T':Trans X G a w G' (a.put (some d) v) w' B:=⟨hp.1,fun h=>(T.defers h).put hp.2,T.os,T.tape,T.output,T.size,T.keep,T.own,T.grow,T.new,T.nil⟩;refine R.step T' (fun l u=>(l = .P0 d/\u = .one (.own d els))\/(l = .tok d/\u = .tk E n)) (fun l u h=>?_) (fun l u h=>?_) (fun l u l' u' b h h' hb X2=>?_)
 ·rw[T5,T5,nV]at h;by_cases h1:Loc.tok d=l;· rw[if_pos h1]at h;cases h;exact .inl (.inr ⟨h1.symm,rfl⟩)
  ·rw[if_neg h1]at h;by_cases h2:Loc.P0 d=l;· rw[if_pos h2]at h;cases h;exact .inl (.inl ⟨h2.symm,rfl⟩)
   ·rw[if_neg h2]at h;by_cases h3:Loc.tok t=l;· rw[if_pos h3]at h;cases h
    ·rw[if_neg h3]at h;refine .inr ⟨h,fun n hn=>zC _ _ _ _ (fun e=>h2 (by rw[hn,e])),fun b hb DA=>?_,fun k _=>by rw[hν],fun k hk=>hτ k (mU0 hf h k hk)⟩;obtain⟨E',len,hg,X2⟩:=hB b DA;exact h3 (R.sep _ _ _ _ b hg h X2 hb)
 ·rcases h with⟨rfl,rfl⟩|⟨rfl,rfl⟩
  ·refine⟨?_,fun b hb=>by cases hb⟩;show B7 G' w' (.own d els) _;rw[zB _ _ _ (by rw[R.size];exact hd)];exact hv
  ·refine⟨Dr,fun b hb=>?_⟩;have h1:=nP b hb;refine⟨h1,.inl ?_,fun h=>by cases h⟩;rcases h1 with h1|h1;· exact cH R.ext.size h1
   ·obtain⟨E',len,hg,X2⟩:=hB b h1;rcases R.own _ _ b hg X2 with h2|⟨_,h2⟩;· exact h2
    ·cases h2
 ·rcases h with⟨rfl,rfl⟩|⟨rfl,rfl⟩;· cases hb
  ·rcases h' with⟨rfl,rfl⟩|⟨rfl,rfl⟩;· cases X2
   ·rfl
theorem dB0(n:Nat):∀(r c:Nat),c<n->Un n r c<=2 * n+200
 | 0,c,h=>by simp[Un];omega
 | r+1,c,h=>by
  simp only[Un];rw[if_neg oO];by_cases h2:c+(c+768) / 4<n;· exact dB0 n r _ h2
  ·cases r with
   | zero=>simp[Un];omega
   | succ r=>simp only[Un];rw[if_pos oO];omega
def by0{need:Nat}(h:cap<need):Ii need cap<=2 * need+600:=by
 unfold Ii;split;· omega
 ·split;· omega
  ·have:=dB0 need 4 cap h;omega
def bE(G:Gh)(D:Nat->Nat->Prop)(d:Nat)(h:Option Addr × Nat):Gh:={ D:=D,ν:=G.ν,τ:=fun k=>if k=d then h else G.τ k }
def PZ{w:World}{t ty t2:Nat}(he:l9 P t=some (E,B))(h2:(X7 P t2).isSome=true){base:Option Addr}{len cap:Nat}{x:Value}{n:Nat}{new:Array Value}
  (hx:(Uo x).run P w = .ok n w) (hn:(kV E n x).run P w = .ok new w) (hle:len+n<=cap) {w':World} (kG:match base with|some a=>(storeCells (a.add (len * E)) new.toList 0).run P w = .ok () w' | none=>w' = w) :
  (DO #[t,t2] ty #[.slice base len cap,x]).run P w = .ok (.slice base (len+n) cap) w':=by
 obtain⟨e,i,z,hu,hi,hz,yE,Cc,AH⟩:=LW he;obtain⟨E2,S7⟩:=Up.1 h2;obtain⟨e2,i2,Kx,-,-⟩:=Bo S7;unfold DO;cases base with
 | none=>
  subst kG;simp[run_underlying hu,run_underlying Kx,sizeOf,typeInfo,hi,Cc,hx,hn,hle]
 | some p=>
  simp only at kG;simp[run_underlying hu,run_underlying Kx,sizeOf,typeInfo,hi,Cc,hx,hn,hle,kG]
def bE0{w:World}{t ty t2:Nat}(he:l9 P t=some (E,B))(hB:0<B/\B<=1024)(h2:(X7 P t2).isSome=true){base:Option Addr}{len cap:Nat}{x:Value}{n:Nat}{old new:Array Value}
  (hx:∀w',w'.heap=w.heap->(Uo x).run P w' = .ok n w') (hn:∀w',w'.heap=w.heap->(kV E n x).run P w' = .ok new w') (ho:∀w',w'.heap=w.heap->(kV E len (.slice base len cap)).run P w' = .ok old w')
  (hle:¬len+n<=cap) (d7:len+n<=M5) (h1:old.size=len * E) (h3:new.size=n * E) :
  ∃c e nc,(DO #[t,t2] ty #[.slice base len cap,x]).run P w = .ok (.slice (some ⟨w.heap.size,0,none⟩) (len+n) nc) (w.drew.alloc (.cells c e))/\len+n<=nc/\c.size=nc * E/\(∀k,k<len * E->c[k]? = old[k]?)/\(∀k,k<n * E->c[len * E+k]? = new[k]?):=by
 obtain⟨e,i,z,hu,hi,hz,yE,Cc,AH⟩:=LW he;obtain⟨E2,S7⟩:=Up.1 h2;obtain⟨e2,i2,Kx,-,-⟩:=Bo S7;unfold M5 at d7;have bL:¬(Ii (len+n) cap * B > 2 ^ 48):=by
  have:=by0 (need:=len+n) (cap:=cap) oO;have:Ii (len+n) cap * B<=(2 * (len+n)+600) * 1024:=Nat.mul_le_mul this hB.2;omega
 have GL0:¬((((len+n:Nat):Int) > iC0.max)/\(False\/i.bytes=0)):=by
  rintro⟨_,h|h⟩;· exact h
  ·omega
 let q:Question:=.appendCap (len+n) cap e
 let nc:=q.cut (w.tape w.drawn q)
 have AG:len+n<=nc:=by show len+n<=_;simp[nc,q,Question.cut]
 refine⟨old++new++KW z.cells (nc - (len+n)),e,nc,?_,AG,?_,fun k hk=>?_,fun k hk=>?_⟩
 ·unfold DO;have dE:¬(2 ^ 48<Ii (len+n) cap * B):=bL;simp[run_underlying hu,run_underlying Kx,sizeOf,typeInfo,hi,Cc,hx w rfl,hle,AH,dE,Question.forced,ho (w.drew) rfl,hn (w.drew) rfl,zeroValue,hz,newRow,nc,q];intro h;omega
 ·simp[h1,h3,KW,yE];rw[<- Y9,<- Y9]
  congr 1;omega
 ·rw[FF (by simp[h1,h3];omega),FF oO]
 ·rw[FF (by simp[h1,h3];omega),Array.getElem?_append_right oO,h1]
  congr 1;omega
end
end
section
section
variable{X:Ctx}{G:Gh}{s:St}{a:Act}{w:World}
def CA{w:World}(hr:RV G.D w (.sl els) v)(w':World):(Uo v).run P w' = .ok els.length w':=by
 cases hr <;> simp[Uo]
def Ec{w:World}(h:w'.heap=w.heap)(ad:Addr):w'.cell? ad=w.cell? ad:=by simp[rW,h]
def Xm(R:Rel X G s a w){x:Operand}{t:Nat}(h:M2 X (get s) x=some (.own t els)):a.eval x = .slice (G.τ t).1 els.length (G.τ t).2/\RV G.D w (.sl els) (a.eval x):=O4 R h
def CF(g:Rd)(t E len:Nat):Prop:=t=0\/g (.tok t)=some (.tk E len)
def b90{x y:Operand}{T T2:TypeId}(ho:o.op = .call { callee:=.builtin .append,args:=#[x,y],argTypes:=#[T,T2] })(hd:o.dst=some d)(hn:d<X.n)(iF:d≠0)(hf:a9 d s=true)
  {E B:Nat} (he:l9 X.P T=some (E,B)) (hB:0<B/\B<=1024) (h2:(X7 X.P T2).isSome=true) {t:Nat} {els ys:List (List DV)} (hx:M2 X (get s) x=some (.own t els)) (hy:(M2 X (get s) y).bind dN=some ys)
  (Dr:CF (get s) t E els.length) (d7:els.length+ys.length<=M5) (cF:∀e∈els,e.length=E) (S7:∀e∈ys,e.length=E) :
  bX X s o (L2 (L2 (D8 s (.tok t)) (.P0 d) (.one (.own d (els++ys)))) (.tok d) (.tk E (els.length+ys.length))):=by
 intro G a w R next Q hK
 obtain⟨hv,hr⟩:=Xm R hx;obtain⟨q,hq,eX⟩:=mH.1 hy;obtain⟨yb,Of,rQ,lK,-⟩:=Bi eX (O4 R hq);obtain⟨c1,f,f1,f2,f3⟩:=Gv hr cF;obtain⟨c2,g,g1,g2,g3⟩:=Gv lK S7;have gY0:∀e∈els++ys,e.length=E:=fun e h=>(t6.1 h).elim (cF e) (S7 e);have ir0:∀e∈els++ys,∀c∈e,DV.isCell c=true:=fun e h=>(t6.1 h).elim (c1 e) (c2 e);have hlen:(els++ys).length=els.length+ys.length:=mJ;have C9:∀(v:Value) (w':World),(DO #[T,T2] o.type #[a.eval x,a.eval y]).run X.P w = .ok v w'->(execOp a.eval o).run X.P w = .ok (.value v) w':=by
  intro v w' h;simp[execOp,ho,resolve,invoke,builtin,h]
 have Tr:∀(v:Value) (w':World) (G':Gh),(DO #[T,T2] o.type #[a.eval x,a.eval y]).run X.P w = .ok v w' ->
   Rel X G' (L2 (L2 (D8 s (.tok t)) (.P0 d) (.one (.own d (els++ys)))) (.tok d) (.tk E (els.length+ys.length))) (a.put (some d) v) w'->o.wpIn X.F 0 X.P a w next Q:=by
  intro v w' G' h hR;refine bP (by first|exact zA h|(intro c e;rw[ho]at e;cases e)) ?_;rw[C9 v w' h,fF,hd];exact hK G' _ w' hR
 have hX0:pH G w t E els.length:=by
  rcases Dr with rfl|h
  ·have h0:=R.nil;rw[h0]at hv;simp only[pH,h0,and_true];rw[hv]at hr;cases hr;rfl
  ·exact R.holds _ _ h
 have KM:∀D h,(bE G D d h).τ 0=(none,0):=fun D h=>by
  simp only[bE,if_neg (f8 iF)];exact R.nil
 have hBt:∀b,(∃n,t≠0/\n=els.length/\mS G t n=some b)->∃E len,get s (.tok t)=some (.tk E len)/\mS G t len=some b:=by
  rintro b ⟨n,ht,rfl,hb⟩;exact⟨E,_,Dr.resolve_left ht,hb⟩
 by_cases hle:els.length+ys.length<=(G.τ t).2
 ·
  cases hh:G.τ t with
  | mk base cap=>
   rw[hh]at hv hle;simp only at hv hle;cases base with
   | none=>
    have bL:els.length=0/\cap=0:=by simpa [pH,hh] using hX0
    have kD:ys=[]:=Pr oO;have AP:els=[]:=Pr bL.1;subst kD AP;obtain⟨-,rfl⟩:=bL;have O7:=PZ (ty:=o.type) (w:=w) he h2 (base:=none) (len:=0) (cap:=0) (CA (P:=X.P) lK w) (Bg (P:=X.P) g3) hle (w':=w) rfl;refine Tr _ _ (bE G G.D d (none,0)) (by rw[hv];exact O7) ?_;have T0:=Trans.refl X G a w R.nil;have T1:Trans X G a w (bE G G.D d (none,0)) a w (fun _=>False):=⟨T0.tmps,T0.defers,T0.os,T0.tape,T0.output,T0.size,T0.keep,T0.own,T0.grow,T0.new,KM _ _⟩;refine R.ownNew hn hf T1 rfl (fun k hk=>by simp[bE,hk]) (fun b h=>h.elim) ?_ ?_ (fun b hb=>?_)
    ·simp only[B7,bE,if_true];exact⟨rfl,.sl0 _ _⟩
    ·simp[pH,bE]
    ·simp[mS,bE]at hb
   | some p=>
    have htk:els.length<=cap/\(els.length<cap->p.spot=none/\∃c e,w.heap[p.block]? = some (.cells c e (0,0))/\p.off+cap * E<=c.size/\(∀j,p.off+els.length * E<=j->j<p.off+cap * E->¬G.D p.block j)/\¬mA G.D w p.block):=by
     simpa [pH,hh] using hX0
    obtain⟨hlc,ab0⟩:=htk;obtain⟨pb,po,ps⟩:=p;simp only at ab0;have TB:t≠0:=fun e=>by subst e;rw[R.nil]at hh;cases hh
    rcases Nat.lt_or_ge els.length cap with I1|Fv
    ·obtain⟨rfl,c,e,k1,k2,k3⟩:=ab0 I1;have Zq:(dS g (ys.length * E)).size=ys.length * E:=Bp _ _;have hmul:els.length * E+ys.length * E<=cap * E:=by rw[<- Y9];exact yO _ hle
     have kG:=PY (P:=X.P) pb (po+els.length * E) e (dS g (ys.length * E)).toList 0 c w k1 (by simp[Zq];omega) (fun v p9=>by
      simp only[dS,F9,List.mem_range]at p9;obtain⟨k,hk,rfl⟩:=p9;exact g2 k hk)
     rw[UP]at kG;have O7:=PZ (ty:=o.type) (w:=w) he h2 (base:=some ⟨pb,po,none⟩) (len:=els.length) (cap:=cap) (CA (P:=X.P) lK w) (Bg (P:=X.P) g3) hle (w':=w.setRow pb (lW c (po+els.length * E) (dS g (ys.length * E)))) (by simp only[pC];exact kG);have V9:=LD c (po+els.length * E) (dS g (ys.length * E)) (by rw[Zq];omega);rw[Zq]at V9;have nP:mS G t els.length=some pb:=by simp[mS,hh,I1]
     have TV:X.w0.heap.size<=pb:=by
      rcases R.own _ _ pb (Dr.resolve_left TB) nP with h|⟨_,h⟩;· exact h
      ·cases h
     have Ub:∀k,(w.setRow pb (lW c (po+els.length * E) (dS g (ys.length * E)))).cell? ⟨pb,k,none⟩=(lW c (po+els.length * E) (dS g (ys.length * E)))[k]?:=fun k=>cell_setRow_same _ _ _ _ _ _ _ k1;have FH0:∀k,w.cell? ⟨pb,k,none⟩=c[k]?:=fun k=>by simp[rW,k1]
     refine Tr _ _ (bE G (qU G.D pb (po+els.length * E) (po+(els.length+ys.length) * E)) d (some ⟨pb,po,none⟩,cap)) (by rw[hv];exact O7) ?_;have T:Trans X G a w (bE G (qU G.D pb (po+els.length * E) (po+(els.length+ys.length) * E)) d (some ⟨pb,po,none⟩,cap)) a (w.setRow pb (lW c (po+els.length * E) (dS g (ys.length * E)))) (fun b=>b=pb):=by
      refine⟨rfl,fun h=>h.but k1 fun b M7=>setRow_other _ _ _ _ M7,rfl,rfl,rfl,sS,fun b hb M7=>setRow_other _ _ _ _ M7,fun b hb=>by subst hb;exact .inl TV,fun b k hD=>⟨.inl hD,?_⟩,fun b k hD dV=>?_,KM _ _⟩
      ·by_cases hb:b=pb
       ·subst hb;refine⟨?_,fun ⟨es,cl,hm⟩=>by (rw[k1]at hm;cases hm),fun hc _=>(k3.2 ⟨_,hD,hc⟩).elim⟩;rw[Ub,FH0,V9.2];have:¬(po+els.length * E<=k/\k<po+els.length * E+ys.length * E):=fun ⟨q1,q2⟩=>k3.1 k q1 oO hD;rw[if_neg this]
       ·exact .of (setRow_other _ _ _ _ hb)
      ·rcases hD with hD|⟨rfl,q1,q2⟩;· exact absurd hD dV
       ·refine⟨.inr ⟨rfl,TV,k3.2⟩,.inl ⟨_,(Ub k).trans (uG ?_)⟩⟩;rw[V9.1];rw[Y9]at q2;omega
     refine R.ownNew hn hf T rfl (fun k hk=>by simp[bE,hk]) (fun b hb=>by subst hb;exact⟨E,_,Dr.resolve_left TB,nP⟩) ?_ ?_ (fun b hb=>?_)
     ·simp only[B7,bE,if_true,hlen];refine⟨trivial,?_⟩
      have hj:tG (qU G.D pb (po+els.length * E) (po+(els.length+ys.length) * E)) (w.setRow pb (lW c (po+els.length * E) (dS g (ys.length * E)))) E (els++ys) (fun k=>if k<els.length * E then f k else g (k - els.length * E)):=
       tG.join (f1.mono T.grow) (g1.mono T.grow) cF S7 (fun k hk=>by rw[if_pos hk]) (fun k hk=>by rw[if_neg oO,Po])
      have:=Qu (cap:=cap) (b:=pb) (o:=po) (by rw[hlen];exact d7) (by rw[hlen];exact hle) gY0 ir0 (fun k hk=>?_) hj;· rw[hlen]at this;exact this
      ·rw[hlen,Y9]at hk;by_cases gN:k<els.length * E
       ·rw[if_pos gN];rcases f3 with⟨rfl,-⟩|⟨b',o',s8,p9,dE⟩;· simp at gN
        ·rw[hv]at p9;cases p9;obtain⟨m1,m2⟩:=dE k gN;exact⟨(T.grow _ _ m2).2.1.trans m1,.inl m2⟩
       ·rw[if_neg gN];refine⟨?_,.inr ⟨rfl,oO,by rw[Y9];omega⟩⟩;rw[Ub,V9.2,if_pos oO,show po+k - (po+els.length * E)=k - els.length * E from oO];exact Bu _ _ _ oO
     ·simp only[pH,bE,if_true];refine⟨hle,fun hc=>⟨trivial,_,e,setRow_heap _ _ _ _ _ _ k1,by rw[V9.1];exact k2,fun j j1 j2 hD=>?_,?_⟩⟩
      ·rcases hD with hD|⟨-,q1,q2⟩;· exact k3.1 j (by rw[Y9]at j1;omega) j2 hD
       ·omega
      ·rintro⟨j,hD,hc⟩;rcases hD with hD|⟨-,q1,q2⟩;· exact k3.2 ⟨j,hD,(T.grow _ _ hD).2.1.symm.trans hc⟩
       ·rw[Ub,uG (by rw[V9.1];rw[Y9]at q2;omega)]at hc;cases hc
     ·simp only[mS,bE,if_true]at hb;split at hb;· cases hb;exact .inr rfl
      ·cases hb
    ·have kD:ys=[]:=Pr oO;subst kD;have bT:cap=els.length:=oO;subst bT;have O7:=PZ (ty:=o.type) (w:=w) he h2 (base:=some ⟨pb,po,ps⟩) (len:=els.length) (cap:=els.length) (CA (P:=X.P) lK w) (Bg (P:=X.P) g3) hle (w':=w) (by simp[dS,storeCells]);refine Tr _ _ (bE G G.D d (some ⟨pb,po,ps⟩,els.length)) (by rw[hv];exact O7) ?_;have T0:=Trans.refl X G a w R.nil;have T1:Trans X G a w (bE G G.D d (some ⟨pb,po,ps⟩,els.length)) a w (fun _=>False):=⟨T0.tmps,T0.defers,T0.os,T0.tape,T0.output,T0.size,T0.keep,T0.own,T0.grow,T0.new,KM _ _⟩;refine R.ownNew hn hf T1 rfl (fun k hk=>by simp[bE,hk]) (fun b h=>h.elim) ?_ ?_ (fun b hb=>?_)
     ·simp only[B7,bE,if_true,List.append_nil,fC,qI];refine⟨trivial,?_⟩;rw[hv]at hr;exact hr
     ·simp[pH,bE]
     ·simp[mS,bE]at hb
 ·
  have DG:∀w':World,w'.heap=w.heap->(kV E ys.length (a.eval y)).run X.P w' = .ok (dS g (ys.length * E)) w':=fun w' hw=>by
   refine Bg (D:=G.D) ?_;rcases g3 with h|⟨b,o',cap,h,hc⟩;· exact .inl h
   ·exact .inr ⟨b,o',cap,h,fun k hk=>by rw[Ec hw];exact hc k hk⟩
  have oL:∀w':World,w'.heap=w.heap->(kV E els.length (.slice (G.τ t).1 els.length (G.τ t).2)).run X.P w' = .ok (dS f (els.length * E)) w':=fun w' hw=>by
   rw[<- hv];refine Bg (D:=G.D) ?_;rcases f3 with h|⟨b,o',cap,h,hc⟩;· exact .inl h
   ·exact .inr ⟨b,o',cap,h,fun k hk=>by rw[Ec hw];exact hc k hk⟩
  obtain⟨c,e,nc,r1,r2,r3,r4,r5⟩:=bE0 (ty:=o.type) (w:=w) he hB h2 (fun w' _=>CA (P:=X.P) lK w') DG oL hle d7 (Bp _ _) (Bp _ _);rw[<- hv]at r1;refine Tr _ _ (bE G (qU G.D w.heap.size 0 ((els.length+ys.length) * E)) d (some ⟨w.heap.size,0,none⟩,nc)) r1 ?_;have GM0:(els.length+ys.length) * E<=c.size:=by rw[r3];exact yO _ r2
  have g9:∀k,(w.drew.alloc (.cells c e)).cell? ⟨w.heap.size,k,none⟩=c[k]?:=fun k=>av0 w.drew c e k;have T:Trans X G a w (bE G (qU G.D w.heap.size 0 ((els.length+ys.length) * E)) d (some ⟨w.heap.size,0,none⟩,nc)) a (w.drew.alloc (.cells c e)) (fun _=>False):=by
   refine⟨rfl,fun h=>h.heap fun b hb=>aI w.drew _ b hb,rfl,rfl,rfl,sS,fun b hb _=>aI w.drew _ b hb,fun _ h=>h.elim,fun b k hD=>⟨.inl hD,.of (aI w.drew _ _ (R.wf.lt hD))⟩,fun b k hD dV=>?_,KM _ _⟩;rcases hD with hD|⟨rfl,q1,q2⟩;· exact absurd hD dV
   ·exact⟨.inl (I5 _),.inl ⟨_,(g9 k).trans (uG oO)⟩⟩
  refine R.ownNew hn hf T rfl (fun k hk=>by simp[bE,hk]) (fun b h=>h.elim) ?_ ?_ (fun b hb=>?_)
  ·simp only[B7,bE,if_true,hlen];refine⟨trivial,?_⟩
   have hj:tG (qU G.D w.heap.size 0 ((els.length+ys.length) * E)) (w.drew.alloc (.cells c e)) E (els++ys) (fun k=>if k<els.length * E then f k else g (k - els.length * E)):=
    tG.join (f1.mono T.grow) (g1.mono T.grow) cF S7 (fun k hk=>by rw[if_pos hk]) (fun k hk=>by rw[if_neg oO,Po])
   have:=Qu (cap:=nc) (b:=w.heap.size) (o:=0) (by rw[hlen];exact d7) (by rw[hlen];exact r2) gY0 ir0 (fun k hk=>?_) hj;· rw[hlen]at this;exact this
   ·rw[hlen]at hk;refine⟨?_,.inr ⟨rfl,oO,oO⟩⟩;rw[G8,g9];rw[Y9]at hk;by_cases gN:k<els.length * E;· rw[if_pos gN,r4 k gN];exact Bu _ _ _ gN
    ·rw[if_neg gN,show k=els.length * E+(k - els.length * E) from oO,r5 _ oO,Po];exact Bu _ _ _ oO
  ·simp only[pH,bE,if_true];refine⟨r2,fun _=>⟨trivial,c,e,Ej w.drew _,by rw[r3];omega,fun j j1 j2 hD=>?_,?_⟩⟩
   ·rcases hD with hD|⟨-,q1,q2⟩;· exact absurd (R.wf.lt hD) (vX _)
    ·omega
   ·rintro⟨j,hD,hc⟩;rcases hD with hD|⟨-,q1,q2⟩;· exact absurd (R.wf.lt hD) (vX _)
    ·rw[g9,uG oO]at hc;cases hc
  ·simp only[mS,bE,if_true]at hb;split at hb;· cases hb;exact .inl (I5 _)
   ·cases hb
def ca0{T:TypeId}{x m:Operand}{lo hi:Option Operand}(ho:o.op = .slice T x lo hi (some m))(hd:o.dst=some d)(hn:d<X.n)(iF:d≠0)(hf:a9 d s=true)(hE:X7 X.P T=some E){els:List (List DV)}
  (hx:(M2 X (get s) x).bind dN=some els) {l h k:Int} (tP:bN X (get s) 0 lo=some l) (oM:bN X (get s) els.length hi=some h) (hm:bN X (get s) 0 (some m)=some k) (Go0:hi.isSome=true)
  (hc:0<=l/\l<=h/\h<=els.length/\h=k/\∀e∈els,e.length=E) :
  bX X s o (L2 (L2 (D8 s (.tok 0)) (.P0 d) (.one (.own d ((els.take h.toNat).drop l.toNat)))) (.tok d) (.tk E (h.toNat - l.toNat))):=by
 intro G a w R next Q hK
 obtain⟨h0,h1,h2,rfl,h3⟩:=hc;obtain⟨e',ie,hu,cG,rfl⟩:=Bo hE;obtain⟨q,hq,eX⟩:=mH.1 hx;obtain⟨b,cap,hv,hr,bL⟩:=Bi eX (O4 R hq);have NT:(lo.map a.eval=none/\l=0)\/∃k,lo.map a.eval=some (.int k l):=by
  rcases Ga R tP with⟨rfl,h⟩|⟨z,k,rfl,h⟩;· exact .inl ⟨rfl,h⟩
  ·exact .inr ⟨k,by simp[h]⟩
 obtain⟨tR,rfl⟩:=Up.1 Go0;have Ot:∃k,a.eval tR = .int k h:=by
  rcases Ga R oM with⟨h,_⟩|⟨z,k,hz,h⟩;· cases h
  ·cases hz;exact⟨k,h⟩
 have rP:∃k,a.eval m = .int k h:=by
  rcases Ga R hm with⟨h,_⟩|⟨z,k,hz,h⟩;· cases h
  ·cases hz;exact⟨k,h⟩
 obtain⟨k1,gN⟩:=Ot;obtain⟨k2,Y5⟩:=rP;have hh':(h.toNat:Int)=h:=If oO;have P6:(sizeOf e').run X.P w = .ok ie.size w:=by simp[sizeOf,typeInfo,cG]
 have O7:(Ul T (.slice b els.length cap) (lo.map a.eval) (some (a.eval tR)) (some (a.eval m))).run X.P w =
   .ok (.slice (if h.toNat=l.toNat then b else b.map fun q=>q.add (l.toNat * ie.size)) (h.toNat - l.toNat) (h.toNat - l.toNat)) w:=by
  have b1:0<=h/\h<=(cap:Int):=⟨oO,oO⟩;have b2:0<=h/\h<=(h.toNat:Int):=⟨oO,oO⟩;have b3:0<=l/\l<=(h.toNat:Int):=⟨h0,oO⟩;rcases NT with⟨hl,rfl⟩|⟨k,hl⟩
  ·rw[hl,gN,Y5];simp only[Ul,iK0,run_underlying hu,iL0,iM0,asIntOf,v9,kH,cW,if_pos b1,if_pos b2,P6];simp
  ·rw[hl,gN,Y5];simp only[Ul,iK0,run_underlying hu,iL0,iM0,asIntOf,v9,kH,cW,if_pos b1,if_pos b2,if_pos b3,P6]
 have fS:=es0 (w:=w) (E:=ie.size) (hv ▸ hr) h3 l.toNat h.toNat oO oO bL;have hlen:((els.take h.toNat).drop l.toNat).length=h.toNat - l.toNat:=by simp;omega
 obtain⟨base,TV,ac0⟩:∃base:Option Addr,base=(if h.toNat=l.toNat then b else b.map fun q=>q.add (l.toNat * ie.size))/\RV G.D w (.sl ((els.take h.toNat).drop l.toNat)) (.slice base (h.toNat - l.toNat) (h.toNat - l.toNat)):=by
  refine⟨_,rfl,?_⟩;by_cases he:h.toNat=l.toNat
  ·have:(els.take h.toNat).drop l.toNat=[]:=by rw[he];simp
   rw[this,he,ar0];exact .sl0 _ _
  ·have X1:cap≠l.toNat:=oO;rw[if_neg X1]at fS;rw[if_neg he];generalize (els.take h.toNat).drop l.toNat=L at *;generalize hb:b.map (fun q=>q.add (l.toNat * ie.size))=bb at *;rw[<- hlen]at fS ⊢;cases fS with
   | sl0=>simp at hlen;omega
   | sl _ b' o' _ E' val q1 q2 q3 q4 q5 q6 q7=>exact .sl L b' o' _ E' val q1 (I5 _) q3 q4 q5 q6 q7
 rw[<- TV]at O7;have KM:(bE G G.D d (base,h.toNat - l.toNat)).τ 0=(none,0):=by simp only[bE,if_neg (f8 iF)];exact R.nil
 have T0:=Trans.refl X G a w R.nil;have T1:Trans X G a w (bE G G.D d (base,h.toNat - l.toNat)) a w (fun _=>False):=⟨T0.tmps,T0.defers,T0.os,T0.tape,T0.output,T0.size,T0.keep,T0.own,T0.grow,T0.new,KM⟩;refine bP (by first|exact zA h|(intro c e;rw[ho]at e;cases e)) ?_;simp only[execOp,ho,hv,AS,O7,v9,cW,kH,fF,hd];refine hK (bE G G.D d (base,h.toNat - l.toNat)) _ w (R.ownNew (t:=0) hn hf T1 rfl (fun k hk=>by simp[bE,hk]) (fun b h=>h.elim) ?_ ?_ (fun b hb=>?_))
 ·simp only[B7,bE,if_true,hlen];exact⟨trivial,ac0⟩
 ·simp only[pH,bE,if_true];cases base with
  | none=>
   have:h.toNat - l.toNat=0:=by
    rw[<- hlen]at ac0 ⊢;generalize (els.take h.toNat).drop l.toNat=L at *;cases ac0 with
    | sl0=>rfl
   exact⟨this,this⟩
  | some p=>exact⟨I5 _,fun h=>absurd h (vX _)⟩
 ·cases base <;> simp[mS,bE]at hb
end
end
section
abbrev G3:=List (Nat × List DV)
structure HeapOK (D:Nat->Nat->Prop)(w:World)(φ:G3):Prop where
 rows:∀b cs,(b,cs)∈φ->∃c e,w.heap[b]? = some (.cells c e (0,0))/\cs.length<=c.size/\∀(i:Nat) (x:DV),cs[i]? = some x->x.isCell=true/\∃v,c[i]? = some v/\RV D w x v
 nodata:∀b cs,(b,cs)∈φ->∀o,¬D b o
 nodup:(φ.map (·.1)).Nodup
def LC(P:Program)(gl:X8)(f:FuncId)(args:List DV)(φ:G3)(R:DV->G3->Prop):Prop:=
 ∀(D:Nat->Nat->Prop) (w:World) (vs:Array Value),Wf gl D w->vs.size=args.length->(∀(i:Nat) (x:DV) (v:Value),args[i]? = some x->vs[i]? = some v->RV D w x v)->HeapOK D w φ ->
  Calls P f vs w fun e w'=>∃v D' r I2,e = .returned v/\R r I2/\Ext (φ.map (·.1)) D w D' w'/\Wf gl D' w'/\RV D' w' r v/\HeapOK D' w' I2/\∀b∈I2.map (·.1),b∈φ.map (·.1)\/w.heap.size<=b
def YN(X:Ctx)(D':Nat->Nat->Prop)(w':World)(I2:G3):Prop:=
 Ext X.ids X.D0 X.w0 D' w'/\Wf X.gl D' w'/\HeapOK D' w' I2/\∀b∈I2.map (·.1),b∈X.ids\/X.w0.heap.size<=b
def Ctx.Post(X:Ctx)(v:Value)(w':World):Prop:=
 ∃D' r I2,X.R r I2/\Ext X.ids X.D0 X.w0 D' w'/\Wf X.gl D' w'/\RV D' w' r v/\HeapOK D' w' I2/\∀b∈I2.map (·.1),b∈X.ids\/X.w0.heap.size<=b
def gP0:Option Code->List Item->Prop
 | none,k=>k=[]
 | some .ret,k=>∃k1,k = .code .ret::k1
 | some (.exit id),k=>∃k1,k = .code (.exit id)::k1/\exitTo id k1=none
 | some (.goto l),k=>∃k1,k = .code (.goto l)::k1/\gotoIn l k1=none
 | _,_=>False
def Nz(X:Ctx)(b fr:Frame)(w':World):Prop:=
 match X.md with
 | .fn=>∃v,X.Post v w'/\fr.fn=X.f/\fr.leaving X.P w' (.returned v)
 | .it l R=>∃v D' I2 r',R I2 r'/\YN X D' w' I2/\w'.heap[l]? = some (.loop r')/\fr.fn=X.f/\fr.leaving X.P w' (.returned v)
 | .fm bm R=>∃v D' r jI,R r jI/\(Ext X.ids X.D0 X.w0 D' w'/\Wf X.gl D' w'/\RV D' w' r v/\Nc ⟨D',fun _=>0,fun _=>(none,0)⟩ w' bm jI/\∀o,¬D' bm o)/\fr.fn=X.f/\fr.leaving X.P w' (.returned v)
 | .rd l r R=>∃a k j D' I2,fr=b.atR a k/\gP0 j k/\R j I2/\YN X D' w' I2/\w'.heap[l]? = some (.loop { r with state:=.busy })
def W(X:Ctx)(k:List Item)(s:St):Prop:=
 ∀(G:Gh) (a:Act) (w:World) (b:Frame) (cs:List Frame),b.fn=X.f->b.kind = .normal->b.roundOf=X.rd->Rel X G s a w ->
  ∃w' fr,Nz X b fr w'/\Steps X.P (lone (b.atR a k) cs w) (lone fr cs w')
section
variable{X:Ctx}{s:St}{k:List Item}
def EA{k k':List Item}(h:∀(a:Act) (w:World) (b:Frame) (cs:List Frame),step X.P (lone (b.atR a k) cs w) = .next (lone (b.atR a k') cs w))(hw:W X k' s):W X k s:=by
 intro G a w b cs hf hk hr R;obtain⟨w',fr,h1,h2⟩:=hw G a w b cs hf hk hr R;exact⟨w',fr,h1,.head (h a w b cs) h2⟩
def Nd{x y:Code}(h:W X (.code x::.code y::k) s):W X (.code (.seq x y)::k) s:=EA (fun _ _ _ _=>stepR_seq) h
def GF(h:W X k s):W X (.code .skip::k) s:=EA (fun _ _ _ _=>stepR_skip) h
def Gw{l:Nat}(h:W X k s):W X (.code (.label l)::k) s:=EA (fun _ _ _ _=>stepR_label) h
def RM{c:Code}(h:W X (.code c::.inBlock id::k) s):W X (.code (.block id c)::k) s:=EA (fun _ _ _ _=>stepR_block) h
def Gi(h:W X k s):W X (.inBlock id::k) s:=EA (fun _ _ _ _=>stepR_inBlock) h
def W8{c:Code}(h:W X (.code c::.inLoop c::k) s):W X (.code (.loop c)::k) s:=EA (fun _ _ _ _=>stepR_loop) h
def bV{c:Code}(h:W X (.code c::.inLoop c::k) s):W X (.inLoop c::k) s:=EA (fun _ _ _ _=>stepR_inLoop) h
def JH{k':List Item}(he:exitTo id k=some k')(h:W X k' s):W X (.code (.exit id)::k) s:=EA (fun _ _ _ _=>stepR_exit he) h
def aB{c:Operand}{x y:Code}{t:Bool}(hc:M2 X (get s) c=some (.v (.K0 (.bool t))))(ht:t=true->W X (.code x::k) s)(hf:t=false->W X (.code y::k) s):W X (.code (.cond c x y)::k) s:=by
 intro G a w b cs hbf hbk hr R;have hv:=(X6 (O4 R hc)).1;cases t with
 | true=>
  obtain⟨w',fr,h1,h2⟩:=ht rfl G a w b cs hbf hbk hr R;exact⟨w',fr,h1,.head (by have:=stepR_cond (P:=X.P) (b:=b) (k:=k) (cs:=cs) (w:=w) (x:=x) (y:=y) hv;simpa using this) h2⟩
 | false=>
  obtain⟨w',fr,h1,h2⟩:=hf rfl G a w b cs hbf hbk hr R;exact⟨w',fr,h1,.head (by have:=stepR_cond (P:=X.P) (b:=b) (k:=k) (cs:=cs) (w:=w) (x:=x) (y:=y) hv;simpa using this) h2⟩
def CO(X:Ctx)(g:Rd):ResultVar->Option DV
 | .tmp t=>match g (.P0 t) with
  | some (.one x)=>kR x
  | _=>none
 | .cell t ty=>match g (.P0 t) with
  | some (.one x)=>(loadAt X g ty x).bind kR
  | _=>none
def Ab(X:Ctx)(g:Rd):List ResultVar->Option (List DV)
 | []=>some []
 | r::l=>match CO X g r,Ab X g l with
  | some x,some xs=>some (x::xs)
  | _,_=>none
def rJ(X:Ctx)(g:Rd)(l:List ResultVar):Option DV:=
 match Ab X g l with
 | some [x]=>some x
 | some xs=>some (.H1 xs)
 | none=>none
def No(tmps:Array Value):ResultVar->Sem Value
 | .tmp t=>pure (tmps.getD t undef)
 | .cell p t=>do loadVar t (<- asAddr (tmps.getD p undef))
def bS0(fn:Func)(tmps:Array Value):results fn tmps=(do let vs <- fn.results.mapM (No tmps);pure (if h:vs.size=1 then vs[0] else .tuple vs)):=by
 unfold results
 congr 1
theorem cI0{G:Gh}{a:Act}{w:World}(R:Rel X G s a w):∀{l:List ResultVar} {xs:List DV},Ab X (get s) l=some xs ->
  ∃vs:List Value,(l.mapM (No a.tmps)).run X.P w = .ok vs w/\vs.length=xs.length/\∀(i:Nat) (x:DV) (v:Value),xs[i]? = some x->vs[i]? = some v->RV G.D w x v
 | [],xs,h=>by cases h;exact⟨[],sS,rfl,sS⟩
 | r::l,xs,h=>by
  simp only[Ab]at h;split at h
  ·rename_i x ys hx kD;cases h;obtain⟨vs,h1,h2,h3⟩:=cI0 R kD;have key:∃v,(No a.tmps r).run X.P w = .ok v w/\RV G.D w x v:=by
    cases r with
    | tmp t=>
     simp only[CO]at hx;split at hx
     ·rename_i y hy;exact⟨_,rfl,Ei hx (R.holds _ _ hy)⟩
     ·cases hx
    | cell p t=>
     simp only[CO]at hx;split at hx
     ·rename_i y hy;obtain⟨z,hz,DK⟩:=mH.1 hx;obtain⟨u,q1,q2⟩:=bQ0 R (R.holds _ _ hy) hz;refine⟨u,?_,Ei DK q2⟩;simp only[KS,v9]at q1;simp only[No,v9];cases hv:a.tmps.getD p undef with
      | pointer o=>
       cases o with
       | none=>simp[hv,nQ]at q1
       | some ad=>simpa [hv,nQ,asAddr] using q1
      | _=>simp[hv,nQ]at q1
     ·cases hx
   obtain⟨v,k1,k2⟩:=key;refine⟨v::vs,?_,by simp[h2],fun i c u hc hu=>?_⟩
   ·rw[List.mapM_cons];simp only[v9];rw[k1];simp only[cW,h1,kH]
   ·cases i with
    | zero=>simp at hc hu;subst hc hu;exact k2
    | succ i=>exact h3 i c u (by simpa using hc) (by simpa using hu)
  ·cases h
def VB(R:Rel X G s a w){fn:Func}(h:rJ X (get s) fn.results.toList=some r):∃v,(results fn a.tmps).run X.P w = .ok v w/\RV G.D w r v:=by
 unfold rJ at h;have main:∀xs,Ab X (get s) fn.results.toList=some xs->∃vs:Array Value,(fn.results.mapM (No a.tmps)).run X.P w = .ok vs w/\vs.size=xs.length/\∀(i:Nat) (x:DV) (v:Value),xs[i]? = some x->vs[i]? = some v->RV G.D w x v:=by
  intro xs hx;obtain⟨vs,h1,h2,h3⟩:=cI0 R hx;refine⟨vs.toArray,?_,by simpa using h2,fun i x v hx hv=>h3 i x v hx (by simpa using hv)⟩;rw[Array.mapM_eq_mapM_toList];simp only[Sem.run_map,h1,cW]
 split at h
 ·rename_i x hx;cases h;obtain⟨vs,h1,h2,h3⟩:=main _ hx;have hs:vs.size=1:=by simpa using h2
  refine⟨vs[0],?_,h3 0 _ _ rfl (by simp[hs])⟩;rw[bS0,v9,h1];simp[hs]
 ·rename_i xs X1 hx;cases h;obtain⟨vs,h1,h2,h3⟩:=main _ hx;have hs:vs.size≠1:=by
   intro e;rw[h2]at e
   match xs,e with
   | [x],_=>exact X1 x rfl
  refine⟨.tuple vs,?_,.H1 _ _ h2 h3⟩;rw[bS0,v9,h1];simp[hs]
 ·cases h
def v7(g:Rd)(φ:G3):Prop:=∀b cs,(b,cs)∈φ->g (.heap b)=some (.row (cs.map SV.v))
def LX(R:Rel X G s a w){φ:G3}(h:v7 (get s) φ)(hn:(φ.map (·.1)).Nodup):HeapOK G.D w φ:=by
 refine⟨fun b cs hm=>?_,fun b cs hm o=>?_,hn⟩
 ·obtain⟨c,e,h1,h2,h3⟩:=R.holds _ _ (h b cs hm);refine⟨c,e,h1,by simpa using h2,fun i x hx=>?_⟩;obtain⟨k1,v,k2,k3⟩:=h3 i (.v x) (by simp[hx]);exact⟨k1,v,k2,k3⟩
 ·exact R.data _ _ b o (h b cs hm) rfl rfl
def sH0{Ds Es:List Nat}(h:Ds.map pM=Es.map pM):Ds=Es:=by
 induction Ds generalizing Es with
 | nil=>cases Es <;> simp_all
 | cons d r ih=>
  cases Es with
  | nil=>simp at h
  | cons e t=>
   simp only[G4,FG]at h;have h1:d=e:=by have:=h.1;simp only[pM,Deferred.mk.injEq,Target.collected.injEq,and_true]at this;exact this
   rw[h1,ih h.2]
def Rel.pop(R:Rel X G s a w){D:Nat}{Ds:List Nat}(ha:a.defers=pM D::Ds.map pM):
  (Instr.takeDeferred D).run X.P w = .ok [] (w.putObj D (.deferred none))/\Rel X G s { a with defers:=Ds.map pM } (w.putObj D (.deferred none)):=by
 obtain⟨Ds',h1,h2,h3⟩:=R.defers;obtain rfl:Ds' = D::Ds:=sH0 (by rw[<- h1,ha];rfl);obtain⟨hD,I1⟩:=h3 D sS;have X1:∀b,b≠D->(w.putObj D (.deferred none)).heap[b]? = w.heap[b]?:=fun b hb=>World.putObj_heap_other hb
 have KK:∀b o,G.D b o->b≠D:=fun b o hd e=>by
  subst e;exact (R.wf.there b o hd).no hD sS sS
 refine⟨run_takeDeferred hD,?_⟩;have T:Trans X G a w G { a with defers:=Ds.map pM } (w.putObj D (.deferred none)) (fun b=>b=D):=by
  refine⟨rfl,fun _=>⟨Ds,rfl,(Ck.1 h2).2,fun E hE=>?_⟩,rfl,rfl,rfl,sS,fun b _ hb=>X1 b hb,fun b hb=>by subst hb;exact .inl I1,fun b o hd=>⟨hd,.of (X1 b (KK b o hd))⟩,fun _ _ h k=>absurd h k,R.nil⟩;have hED:E≠D:=fun e=>by subst e;exact (Ck.1 h2).1 hE
  exact⟨(X1 E hED).trans (h3 E (by simp[hE])).1,(h3 E (by simp[hE])).2⟩
 refine R.step T (fun _ _=>False) (fun l v h=>.inr ⟨h,fun _ _=>rfl,fun b hb he=>?_,fun _ _=>rfl,fun _ _=>rfl⟩) (fun _ _ h=>h.elim) (fun _ _ _ _ _ h=>h.elim);subst he;have hh:=R.holds _ _ h;cases l with
 | P0 n=>cases v <;> cases hb
 | loc n=>
  cases v with
  | row cs=>simp only[D5,uC]at hb;subst hb;obtain⟨c,e,h4,_⟩:=hh;rw[hD]at h4;cases h4
  | _=>first|exact hh.elim|cases hb
 | heap n=>
  cases v with
  | row cs=>simp only[D5,uC]at hb;subst hb;obtain⟨c,e,h4,_⟩:=hh;rw[hD]at h4;cases h4
  | ob r=>simp only[D5,uC]at hb;subst hb;simp only[oA]at hh;rw[hD]at hh;cases r <;> cases hh
  | mp l=>simp only[D5,uC]at hb;subst hb;obtain⟨es,cl,h4,_⟩:=hh;rw[hD]at h4;cases h4
  | _=>first|exact hh.elim|cases hb
 | tok n=>
  cases v with
  | tk E len=>
   simp only[D5,mS,oA,pH]at hb hh;split at hb
   ·rename_i aa cap heq;rw[heq]at hh;split at hb
    ·rename_i Uc;obtain⟨-,c,e,h4,_⟩:=hh.2 Uc;cases hb;rw[hD]at h4;cases h4
    ·cases hb
   ·cases hb
  | _=>first|exact hh.elim|cases hb
def Vk{cs:List Frame}:∀(Ds:List Nat) (a:Act) (w:World) (fr:Frame),a.defers=Ds.map pM->Rel X G s a w->fr.mode = .returning->fr.defers=a.defers ->
  ∃w' qH,Steps X.P (lone fr cs w) (lone qH cs w')/\Rel X G s { a with defers:=[] } w'/\qH.mode = .returning/\qH.defers=[]/\qH.fn=fr.fn/\qH.kind=fr.kind/\qH.tmps=fr.tmps:=by
 intro Ds
 induction Ds with
 | nil=>
  intro a w fr ha R hm hd;refine⟨w,fr,.refl _ _,?_,hm,by rw[hd,ha];rfl,rfl,rfl,rfl⟩;have:{ a with defers:=[] } = a:=by cases a;simp only at ha;rw[ha];rfl
  rw[this];exact R
 | cons D Ds ih=>
  intro a w fr ha R hm hd;obtain⟨h1,h2⟩:=R.pop ha;have hs:=step_collected (P:=X.P) (cs:=cs) (by rw[hm];simp) (hd.trans ha) rfl h1;obtain⟨w',qH,k1,k2,k3,k4,k5,k6,k7⟩:=ih _ _ { fr with defers:=[]++Ds.map pM } rfl h2 hm rfl;exact⟨w',qH,.head hs k1,k2,k3,k4,k5,k6,k7⟩
def gz0(h:X.md = .fn):X.rd=none:=by simp[Ctx.rd,h]
def Dr0{l:Nat}{R:G3->Loop->Prop}(h:X.md = .it l R):X.rd=none:=by simp[Ctx.rd,h]
def XP(R:Rel X G s a w){φ:G3}(S4:v7 (get s) φ)(hn:(φ.map (·.1)).Nodup):YN X G.D w φ:=by
 refine⟨R.ext,R.wf,LX R S4 hn,fun b hb=>?_⟩;obtain⟨⟨b',N7⟩,hm,rfl⟩:=F9.1 hb;rcases R.own _ _ b' (S4 b' N7 hm) rfl with h|⟨h,_⟩;· exact .inr h
 ·exact .inl h
def Np(X:Ctx)(m:List Item):Prop:=
 ∀(a:Act) (w:World) (b:Frame) (cs:List Frame),b.roundOf=none->step X.P (lone (b.atR a m) cs w) = .next (lone { b.atR a m with mode:=.returning } cs w)
def Rs:Np X (.code .ret::k):=fun _ _ _ _ h=>stepR_ret h
def Ml:Np X []:=fun _ _ _ _ h=>stepR_end h
def gA0(t9:X.md = .fn)(An:X.P.funcs[X.f]? = some X.fn)(hr:rJ X (get s) X.fn.results.toList=some r){φ:G3}(S4:v7 (get s) φ)(hn:(φ.map (·.1)).Nodup)(hR:X.R r φ)(oN:Np X m):W X m s:=by
 intro G a w b cs hf hk jM R;obtain⟨Ds,OX,-⟩:=R.defers;obtain⟨w',qH,k1,R',k3,k4,k5,k6,k7⟩:=Vk (cs:=cs) Ds a w { b.atR a m with mode:=.returning } OX R rfl rfl;obtain⟨v,h1,h2⟩:=VB R' hr;obtain⟨q1,q2,q3,q4⟩:=XP R' S4 hn;refine⟨w',qH,?_,.head (oN a w b cs (jM.trans (gz0 t9))) k1⟩;simp only[Nz,t9];exact⟨v,⟨G.D,r,φ,hR,q1,q2,h2,q3,q4⟩,k5.trans hf,k3,k4,k6.trans hk,X.fn,by rw[k5];exact (congrArg _ hf).trans An,by rw[k7];exact h1⟩
def gB0(t9:X.md = .fn)(An:X.P.funcs[X.f]? = some X.fn)(hr:rJ X (get s) X.fn.results.toList=some r){φ:G3}(S4:v7 (get s) φ)(hn:(φ.map (·.1)).Nodup)(hR:X.R r φ):W X (.code .ret::k) s:=
 gA0 t9 An hr S4 hn hR Rs
def gC0(t9:X.md = .fn)(An:X.P.funcs[X.f]? = some X.fn)(hr:rJ X (get s) X.fn.results.toList=some r){φ:G3}(S4:v7 (get s) φ)(hn:(φ.map (·.1)).Nodup)(hR:X.R r φ):W X [] s:=
 gA0 t9 An hr S4 hn hR Ml
def MI{l:Nat}{Q:G3->Loop->Prop}(t9:X.md = .it l Q)(An:X.P.funcs[X.f]? = some X.fn)(hr:rJ X (get s) X.fn.results.toList=some r){φ:G3}(S4:v7 (get s) φ)(hn:(φ.map (·.1)).Nodup){q:Loop}(hl:get s (.heap l)=some (.ob q))(hR:Q φ q)(oN:Np X m):W X m s:=by
 intro G a w b cs hf hk jM R;obtain⟨Ds,OX,-⟩:=R.defers;obtain⟨w',qH,k1,R',k3,k4,k5,k6,k7⟩:=Vk (cs:=cs) Ds a w { b.atR a m with mode:=.returning } OX R rfl rfl;obtain⟨v,h1,h2⟩:=VB R' hr;refine⟨w',qH,?_,.head (oN a w b cs (jM.trans (Dr0 t9))) k1⟩;simp only[Nz,t9];exact⟨v,G.D,φ,q,hR,XP R' S4 hn,R'.holds _ _ hl,k5.trans hf,k3,k4,k6.trans hk,X.fn,by rw[k5];exact (congrArg _ hf).trans An,by rw[k7];exact h1⟩
def MJ{l:Nat}{r:Loop}{Q:Option Code->G3->Prop}(t9:X.md = .rd l r Q){φ:G3}(S4:v7 (get s) φ)(hn:(φ.map (·.1)).Nodup)(hl:get s (.heap l)=some (.ob (.lp { r with state:=.busy })))(j:Option Code)(hj:gP0 j m)(hR:Q j φ):W X m s:=by
 intro G a w b cs hf hk jM R;refine⟨w,b.atR a m,?_,.refl _ _⟩;simp only[Nz,t9];exact⟨a,m,j,G.D,φ,rfl,hj,hR,XP R S4 hn,R.holds _ _ hl⟩
def Dj(X:Ctx)(K:St->Prop):Exit->Act->World->Prop:=fun e a w=>e = .normal/\∃G s,K s/\Rel X G s a w
def VL(X:Ctx)(ops:Array Oper)(l:List Oper)(s:St)(K:St->Prop):Prop:=
 ∀n,ops.toList.drop n=l->∀(G:Gh) (a:Act) (w:World),Rel X G s a w->wpOpsIn X.F 0 X.P ops (Dj X K) (Uq n l.length) a w
def Ah0{K:St->Prop}(h:K s):VL X ops [] s K:=fun _ _ G _ _ R=>⟨rfl,G,s,h,R⟩
def pA{l:List Oper}(h:ops.toList.drop n=o::l):ops[n]? = some o/\ops.toList.drop (n+1)=l:=by
 constructor
 ·have:(ops.toList.drop n)[0]? = some o:=by rw[h];rfl
  rw[DM]at this
  simpa using this
 ·rw[<- List.drop_drop,h];rfl
def wS{l:List Oper}{K:St->Prop}(hg:o.guard=none)(ho:bX X s o s')(h:VL X ops l s' K):VL X ops (o::l) s K:=by
 intro n hn G a w R;obtain⟨h1,h2⟩:=pA hn;simp only[B4,qJ,wpOpsIn,h1,fD,hg,if_true];exact (ho G a w R _ _ fun G' a' w' R'=>h (n+1) h2 G' a' w' R')
def Rel.congr(R:Rel X G s a w)(h:∀l,get s' l=get s l):Rel X G s' a w:=
 ⟨R.size,R.defers,R.ext,R.wf,R.nil,fun l v hl=>R.holds l v (by rw[<- h];exact hl),fun l v l' v' b h1 h2=>R.sep l v l' v' b (by rw[<- h];exact h1) (by rw[<- h];exact h2),fun l v b h1=>R.own l v b (by rw[<- h];exact h1),fun l v b o h1=>R.data l v b o (by rw[<- h];exact h1)⟩
abbrev jX:LV:=.one (.v (.H1 []))
def Sl:B7 G w (.v (.H1 [])) undef:=.H1 [] #[] rfl sS
def cJ0(R:Rel X G s a w)(hj:(ops[j]?).bind (·.dst)=some dj)(hb:get s (.P0 dj)=some jX):yielded ops a.tmps j=none:=by
 have hv:RV G.D w (.H1 []) (a.tmps.getD dj undef):=R.holds _ _ hb;unfold yielded;rw[hj];simp only[Option.bind_some];cases hq:a.tmps[dj]? with
 | none=>rfl
 | some v=>
  have:a.tmps.getD dj undef=v:=by simp[Array.getD_eq_getD_getElem?,hq]
  rw[this]at hv;cases hv;rfl
def sI0{l:List Oper}{K:St->Prop}{want b:Bool}(hg:o.guard=some (j,want))(hj:(ops[j]?).bind (·.dst)=some dj)(Om:dj<X.n)(hb:get s (.P0 dj)=some (.one (.v (.K0 (.bool b)))))
  (Gp0:b=want->∃s',bX X (L2 s (.P0 dj) (.one (.v (.K0 (.bool want))))) o s'/\VL X ops l s' K)
  {d:Nat} (hd:o.dst=some d) (C7:d<X.n) (AD:b = !want->VL X ops l (L2 (L2 s (.P0 dj) (.one (.v (.K0 (.bool (!want)))))) (.P0 d) jX) K):VL X ops (o::l) s K:=by
 intro n hn G a w R;obtain⟨h1,h2⟩:=pA hn;have hv:=(X6 (R.holds _ _ hb)).1;have I1:dj<a.tmps.size:=by rw[R.size];exact Om
 have p9:a.tmps[dj]? = some (.bool b):=by
  have h3:a.tmps.getD dj undef=a.tmps[dj]:=by simp[I1]
  rw[uG I1,<- h3,hv]
 have hy:yielded ops a.tmps j=some b:=by
  unfold yielded;rw[hj];simp[p9]
 have R':∀c,b=c->Rel X G (L2 s (.P0 dj) (.one (.v (.K0 (.bool c))))) a w:=fun c hc=>R.congr fun l=>by
  rw[T5];split
  ·subst_vars;exact hb.symm
  ·rfl
 simp only[B4,qJ,wpOpsIn,h1,fD,hg,hy];by_cases oP:b=want
 ·subst oP;simp only[beq_self_eq_true,if_true];obtain⟨s',k1,k2⟩:=Gp0 rfl;exact (k1 G a w (R' _ rfl) _ _ fun G' a' w' R'=>k2 (n+1) h2 G' a' w' R')
 ·have Z8:b = !want:=by cases b <;> cases want <;> simp_all
  have:(some b==some want)=false:=by simp[oP]
  simp only[this,vW,if_false,hd];exact⟨fun _ _=>trivial,AD Z8 (n+1) h2 G _ w ((R' _ Z8).setSlot (Trans.refl X G a w R.nil) rfl rfl (fun _ h=>h) C7 (x:=.v (.H1 [])) Sl)⟩
def pt0{l:List Oper}{K:St->Prop}{want:Bool}(hg:o.guard=some (j,want))(hj:(ops[j]?).bind (·.dst)=some dj)(hb:get s (.P0 dj)=some jX)
  {d:Nat} (hd:o.dst=some d) (C7:d<X.n) (AD:VL X ops l (L2 s (.P0 d) jX) K):VL X ops (o::l) s K:=by
 intro n hn G a w R;obtain⟨h1,h2⟩:=pA hn;have hy:=cJ0 (ops:=ops) R hj hb;simp only[B4,qJ,wpOpsIn,h1,fD,hg,hy,hd];have:(none==some want)=false:=by cases want <;> rfl
 simp only[this,vW,if_false];exact⟨fun _ _=>trivial,AD (n+1) h2 G _ w (R.setSlot (Trans.refl X G a w R.nil) rfl rfl (fun _ h=>h) C7 (x:=.v (.H1 [])) Sl)⟩
def SA(n:Nat):X.F.room n:=fun _ h=>by simp[Ctx.F,iQ0]at h
def sJ0(h:∀K:St->Prop,(∀s',W X k s'->K s')->VL X ops ops.toList s K):W X (.code (.region id ops false)::k) s:=by
 intro G a w b cs hf hk hr R;have hv:=h (fun s'=>W X k s') (fun _ h=>h) 0 rfl G a w R;have e:Uq 0 ops.toList.length=oT ops.size:=by rw[List.range_eq_range'];simp
 rw[e]at hv;obtain⟨e',a',w',⟨rfl,G',s',hK,R'⟩,Hw⟩:=wp_opsIn _ a w hv b k cs hr tT (SA _);obtain⟨nG,fr,h1,h2⟩:=hK G' a' w' b cs hf hk hr R';exact⟨nG,fr,h1,.head stepR_region (Steps.trans (StepsIn.steps Hw) h2)⟩
end
end
variable{φ:G3}
section
def Rt(P:Program)(f:FuncId):Prop:=
 ∃ fn, P.funcs[f]? = some fn /\ fn.body.isSome = true /\ (fn.name == "runtime.NumGoroutine") = false
def lF(P:Program)(gl:X8)(f:FuncId)(args:List DV)(φ:G3)(R:DV->G3->Prop):Prop:=Rt P f/\LC P gl f args φ R
def P8(P:Program)(gl:X8)(f:FuncId)(args:List DV)(φ:G3)(r:DV)(I2:G3):Prop:=lF P gl f args φ fun x ψ=>x=r/\ψ=I2
def U3:G3->St
 | []=>[]
 | (b,cs)::r=>(.heap b,.row (cs.map SV.v))::U3 r
def bA:Nat->List DV->St
 | _,[]=>[]
 | n,x::r=>(.P0 n,.one (.v x))::bA (n+1) r
def entry(args:List DV)(φ:G3):St:=bA 0 args++U3 φ
def dJ(s:St):G3->St
 | []=>s
 | (b,_)::r=>dJ (D8 s (.heap b)) r
def aX(s:St):G3->St
 | []=>s
 | (b,cs)::r=>L2 (aX s r) (.heap b) (.row (cs.map SV.v))
def eE(s t:St)(l:Loc):get (s++t) l=(get s l).or (get t l):=by
 induction s with
 | nil=>simp[get]
 | cons p r ih=>
  obtain⟨m,v⟩:=p;simp only[List.cons_append,get];split <;> simp[ih]
def tZ{v:LV}(h:get (U3 φ) l=some v):∃b cs,l = .heap b/\v = .row (cs.map SV.v)/\(b,cs)∈φ:=by
 induction φ with
 | nil=>cases h
 | cons p r ih=>
  obtain⟨b,cs⟩:=p;simp only[U3,get]at h;split at h;· rename_i hl;cases h;exact⟨b,cs,hl.symm,rfl,sS⟩
  ·obtain⟨b',N7,h1,h2,h3⟩:=ih h;exact⟨b',N7,h1,h2,iJ _ h3⟩
theorem QL{l:Loc}{v:LV}:∀{args:List DV} {n:Nat},get (bA n args) l=some v->∃i x,l = .P0 (n+i)/\v = .one (.v x)/\args[i]? = some x
 | [],_,h=>by cases h
 | x::r,n,h=>by
  simp only[bA,get]at h;split at h;· rename_i hl;cases h;exact⟨0,x,by rw[<- hl];rfl,rfl,rfl⟩
  ·obtain⟨i,y,h1,h2,h3⟩:=QL h;exact⟨i+1,y,by rw[h1];congr 1;omega,h2,by simpa using h3⟩
def Vl(φ:G3):∀(s:St) (l:Loc) (v:LV),get (dJ s φ) l=some v->get s l=some v/\∀b∈φ.map (·.1),l≠.heap b:=by
 induction φ with
 | nil=>intro s l v h;exact⟨h,sS⟩
 | cons p r ih=>
  obtain⟨b,cs⟩:=p;intro s l v h;obtain⟨h1,h2⟩:=ih _ l v h;rw[nV]at h1;by_cases hl:Loc.heap b=l;· rw[if_pos hl]at h1;cases h1
  ·rw[if_neg hl]at h1;refine⟨h1,fun b' X2=>?_⟩;simp only[G4,u5]at X2;rcases X2 with rfl|X2;· exact fun e=>hl e.symm
   ·exact h2 b' X2
theorem Qk(s:St):∀(φ:G3) (l:Loc) (v:LV),get (aX s φ) l=some v->(∃b cs,l = .heap b/\v = .row (cs.map SV.v)/\(b,cs)∈φ)\/(get s l=some v/\∀b∈φ.map (·.1),l≠.heap b)
 | [],l,v,h=>.inr ⟨h,sS⟩
 | (b,cs)::r,l,v,h=>by
  simp only[aX,T5]at h;split at h;· rename_i hl;cases h;exact .inl ⟨b,cs,hl.symm,rfl,sS⟩
  ·rename_i hl;rcases Qk s r l v h with⟨b',N7,h1,h2,h3⟩|⟨h1,h2⟩;· exact .inl ⟨b',N7,h1,h2,iJ _ h3⟩
   ·refine .inr ⟨h1,fun b' X2=>?_⟩;simp only[G4,u5]at X2;rcases X2 with rfl|X2;· exact fun e=>hl e.symm
    ·exact h2 b' X2
section
variable{X:Ctx}{s:St}{k:List Item}
def IC{D':Nat->Nat->Prop}(h:HeapOK D' w' φ){cs:List DV}(hm:(b,cs)∈φ):jT { D:=D',ν:=G.ν,τ:=G.τ } w' b (cs.map SV.v):=by
 obtain⟨c,e,h1,h2,h3⟩:=h.rows b cs hm;refine⟨c,e,h1,by simpa using h2,fun i x hx=>?_⟩;rw[cI]at hx;cases hq:cs[i]? with
 | none=>simp[hq]at hx
 | some y=>
  simp[hq]at hx;subst hx;exact h3 i y hq
theorem Rel.call(R:Rel X G s a w){I2:G3}(S4:v7 (get s) φ){D':Nat->Nat->Prop}(hx:Ext (φ.map (·.1)) G.D w D' w')(dX:Wf X.gl D' w')(hr:RV D' w' r v)
  (hh:HeapOK D' w' I2) (K1:∀b∈I2.map (·.1),b∈φ.map (·.1)\/w.heap.size<=b) {d:Nat} (hd:d<X.n) :
  Rel X { D:=D',ν:=G.ν,τ:=G.τ } (aX (dJ (L2 s (.P0 d) (.one (.v r))) φ) I2) (a.put (some d) v) w':=by
 have hp:=qT a (some d) v;have tW:∀b∈φ.map (·.1),∃cs,get s (.heap b)=some (.row (List.map SV.v cs)):=by
  intro b hb;obtain⟨⟨b',N7⟩,hm,rfl⟩:=F9.1 hb;exact⟨N7,S4 b' N7 hm⟩
 have T:Trans X G a w { D:=D',ν:=G.ν,τ:=G.τ } (a.put (some d) v) w' (fun b=>b∈φ.map (·.1)\/mA G.D w b):=by
  refine⟨hp.1,fun h=>h.keep hp.2 fun D hD=>(hx.block D (fB.1 hD).1 (fun hm=>?_) (R.wf.unsoft hD sS sS)).trans hD,hx.os,hx.tape,hx.output,hx.size,fun b hb hn=>hx.block b hb (fun h=>hn (.inl h)) fun h=>hn (.inr h),fun b hb=>?_,hx.grow,fun b o hD hn=>⟨.inl (hx.new b o hD hn),dX.there b o hD⟩,R.nil⟩
  ·obtain⟨cs,hg⟩:=tW D hm;obtain⟨c,e,h4,_⟩:=R.holds _ _ hg;rw[hD]at h4;cases h4
  ·rcases hb with hb|hb
   ·obtain⟨cs,hg⟩:=tW b hb;exact (R.own _ _ b hg rfl).imp id fun h=>.inl h.1
   ·exact (R.ext.soft hb).imp id .inr
 refine R.step T (fun l u=>(l = .P0 d/\u = .one (.v r))\/∃b cs,l = .heap b/\u = .row (cs.map SV.v)/\(b,cs)∈I2) (fun l u h=>?_) (fun l u h=>?_) (fun l u l' u' b h h' hb X2=>?_)
 ·rcases Qk _ _ _ _ h with h|⟨h,X1⟩;· exact .inl (.inr h)
  ·obtain⟨h,hn⟩:=Vl _ _ _ _ h
   ·rw[T5]at h;split at h;· rename_i hl;cases h;exact .inl (.inl ⟨hl.symm,rfl⟩)
    ·rename_i hl;refine .inr ⟨h,fun n hn=>zC _ _ _ _ (fun e=>hl (by rw[hn,e])),fun b hb hB=>?_,fun _ _=>rfl,fun _ _=>rfl⟩;rcases hB with hB|hB
     ·obtain⟨cs,hg⟩:=tW b hB;exact hn b hB (R.sep _ _ _ _ b hg h rfl hb).symm
     ·exact R.unsoft h hb hB
 ·rcases h with⟨rfl,rfl⟩|⟨b,cs,rfl,rfl,hm⟩
  ·refine⟨?_,fun b hb=>by cases hb⟩;show RV D' w' r _;rw[zB _ _ _ (by rw[R.size];exact hd)];exact hr
  ·refine⟨IC hh hm,fun b' X2=>?_⟩;simp only[D5,uC]at X2;subst X2;have BO:b∈I2.map (·.1):=F9.2 ⟨_,hm,rfl⟩;refine⟨(K1 b BO).symm.imp id .inl,?_,fun _ o=>hh.nodata b cs hm o⟩;rcases K1 b BO with h1|h1
   ·obtain⟨N7,hg⟩:=tW b h1;exact R.own _ _ b hg rfl
   ·exact .inl (cH R.ext.size h1)
 ·rcases h with⟨rfl,rfl⟩|⟨b1,cs,rfl,rfl,hm⟩;· cases hb
  ·rcases h' with⟨rfl,rfl⟩|⟨b2,N7,rfl,rfl,rP⟩;· cases X2
   ·simp only[D5,uC]at hb X2;rw[hb,X2]
def Qf(h:Rt P f)(args:Array Value)(w:World):(callFunc f args).run P w = .ok (.enter f args) w:=by
 obtain⟨fn,h1,h2,h3⟩:=h;have h4:fn.body.isNone=false:=by cases hb:fn.body <;> simp_all
 simp only[callFunc,v9,run_program,cW,h1,h3,h4,vW,if_false,kH]
def Mm{f:FuncId}{x:Operand}{args:Array Operand}{X5:Array TypeId}(ho:o.op = .call { callee:=.value x,args:=args,argTypes:=X5 }){fi ca:Array Value}
  (hx:M2 X (get s) x=some (.v (.K0 (.func (.func f) fi ca)))) {ds:List DV} (V2:∃d0,aZ X (get s) args.toList=some d0/\ds=fi.toList.map DV.K0++d0++ca.toList.map DV.K0) (Kv:∀v∈fi.toList++ca.toList,aY v)
  {φ:G3} {R:DV->G3->Prop} (hc:lF X.P X.gl f ds φ R) (S4:v7 (get s) φ) (A4:(φ.map (·.1)).Nodup) {d:Nat} (hd:o.dst=some d) (C7:d<X.n) {G:Gh} {a:Act} {w:World} (R0:Rel X G s a w) (next:Act->World->Prop) (Q:Exit->Act->World->Prop)
  (hk:∀r I2 G' a' w',R r I2->(∀b∈I2.map (·.1),b∈φ.map (·.1)\/∀l v,get s l=some v->D5 G l v≠some b)->Rel X G' (aX (dJ (L2 s (.P0 d) (.one (.v r))) φ) I2) a' w'->next a' w'):o.wpIn X.F 0 X.P a w next Q:=by
 obtain⟨d0,iF,rfl⟩:=V2;have Dv:=(X6 (O4 R0 hx)).1;obtain⟨q1,q2⟩:=FZ R0 iF;have Fw:args.size=d0.length:=by simpa using q1
 refine bP (by intro c e;rw[ho]at e;cases e) ?_;have O7:(execOp a.eval o).run X.P w = .ok (.enter f (fi++args.map a.eval++ca)) w:=by
  simp[execOp,ho,resolve,Dv,Deferred.ofValue,invoke,Qf hc.1]
 rw[O7,Wa];have hpr:∀v∈fi.toList++ca.toList,RV G.D w (.K0 v) v:=fun v hv=>.K0 v (Kv v hv);refine (hc.2 G.D w _ R0.wf ?_ ?_ (LX R0 S4 A4)).mono ?_;· simp[<- q1]
 ·intro i x v hx hv;have hl:(fi++args.map a.eval++ca).toList=fi.toList++args.toList.map a.eval++ca.toList:=sS;have p9:(fi.toList++args.toList.map a.eval++ca.toList)[i]? = some v:=by rw[<- hl,DN];exact hv
  by_cases h1:i<fi.size
  ·rw[yQ,cJ (by simpa using h1)]at hx p9;rw[cI]at hx;rw[p9]at hx;cases hx;exact hpr v (t6.2 (.inl (uE p9)))
  ·by_cases h2:i<fi.size+args.size
   ·rw[yQ,cK (by simp;omega),cJ (by simp;omega)]at hx p9;simp only[fV,aB0]at hx p9;exact q2 _ _ _ hx p9
   ·rw[cK (by simp;omega)]at hx p9;simp only[mJ,fV,aB0,<- Fw]at hx p9;rw[cI]at hx;rw[p9]at hx;cases hx;exact hpr v (t6.2 (.inr (uE p9)))
 ·rintro e w' ⟨v,D',r,I2,rfl,hR,Fg,dX,Du,hh,K1⟩;rw[hd];refine hk r I2 _ _ w' hR (fun b hb=>?_) (R0.call S4 Fg dX Du hh K1 C7);rcases K1 b hb with h|h;· exact .inl h
  ·exact .inr fun l v hg qA=>by
    have:=mT (R0.holds l v hg) qA;omega
def Qg{args:Array Operand}{X5:Array TypeId}(ho:o.op = .call { callee:=.value (.func f),args:=args,argTypes:=X5 })
  {ds:List DV} (V2:aZ X (get s) args.toList=some ds) {φ I2:G3} {r:DV} (hc:P8 X.P X.gl f ds φ r I2) (S4:v7 (get s) φ) (A4:(φ.map (·.1)).Nodup) {d:Nat} (hd:o.dst=some d) (C7:d<X.n) :
  bX X s o (aX (dJ (L2 s (.P0 d) (.one (.v r))) φ) I2):=by
 intro G a w R next Q hK
 refine Mm (fi:=#[]) (ca:=#[]) ho rfl ⟨ds,V2,sS⟩ sS hc S4 A4 hd C7 R next Q ?_
 rintro r' ψ G' a' w' ⟨rfl,rfl⟩ _ R';exact hK G' a' w' R'
def dC0 {gl : X8}{args : List DV}{φ : G3}{R : DV -> G3 -> Prop}{fn : Func}{body : Code}(hf : P.funcs[f]? = some fn)(hb : fn.body = some body)(Dp : (fn.name == "runtime.NumGoroutine") = false)
  (hn:args.length<=fn.ntmps)
  (h:∀X:Ctx,X.P=P->X.gl=gl->X.f=f->X.fn=fn->X.n=fn.ntmps->X.R=R/\X.md = .fn->X.ids=φ.map (·.1)->(∀x∈args,DV.fit x)->W X [.code body] (entry args φ)):lF P gl f args φ R:=by
 refine⟨⟨fn,hf,by simp[hb],Dp⟩,?_⟩;intro D w vs dX P6 V2 vP cs
 let X:Ctx:={ P:=P,gl:=gl,f:=f,fn:=fn,n:=fn.ntmps,ids:=φ.map (·.1),D0:=D,w0:=w,R:=R,md:=.fn }
 have G1:∀x∈args,DV.fit x:=by
  intro x hx;obtain⟨i,hi,rfl⟩:=yM.1 hx;exact RV.fit (V2 i _ vs[i] (uB hi) (uG oO))
 have hW:=h X rfl rfl rfl rfl rfl ⟨rfl,rfl⟩ rfl G1
 let a:Act:={ tmps:=vs++Array.replicate (fn.ntmps - vs.size) undef,defers:=[] }
 have Rl:Rel X { D:=D,ν:=fun _=>0,τ:=fun _=>(none,0) } (entry args φ) a w:=by
  have d8:∀l v,get (entry args φ) l=some v->(∃i x,l = .P0 i/\v = .one (.v x)/\args[i]? = some x)\/∃b cs,l = .heap b/\v = .row (cs.map SV.v)/\(b,cs)∈φ:=by
   intro l v hl;unfold entry at hl;rw[eE]at hl;rcases Option.or_eq_some_iff.1 hl with hl|⟨-,hl⟩
   ·obtain⟨i,x,h1,h2,h3⟩:=QL hl;exact .inl ⟨i,x,by simpa using h1,h2,h3⟩
   ·exact .inr (tZ hl)
  refine⟨by simp[a,X];omega,⟨[],rfl,List.nodup_nil,sS⟩,Ext.refl _ _ _,dX,rfl,fun l v hl=>?_,fun l v l' v' b hl L8 hb X2=>?_,fun l v b hl hb=>?_,fun l v b o hl hb _=>?_⟩
  ·rcases d8 l v hl with⟨i,x,rfl,rfl,hx⟩|⟨b,cs,rfl,rfl,hm⟩
   ·have hi:i<vs.size:=by rw[P6];exact (uA hx).1
    have hv:vs[i]? = some vs[i]:=uG hi;show RV D w x _;have:a.tmps.getD i undef=vs[i]:=by
     simp[a,FF hi,hv]
    rw[this];exact V2 i x _ hx hv
   ·exact IC (G:={ D:=D,ν:=fun _=>0,τ:=fun _=>(none,0) }) vP hm
  ·rcases d8 l v hl with⟨i,x,rfl,rfl,hx⟩|⟨b1,cs,rfl,rfl,hm⟩;· cases hb
   ·rcases d8 l' v' L8 with⟨i,x,rfl,rfl,hx⟩|⟨b2,N7,rfl,rfl,rP⟩;· cases X2
    ·simp only[D5,uC]at hb X2;rw[hb,X2]
  ·rcases d8 l v hl with⟨i,x,rfl,rfl,hx⟩|⟨b1,cs,rfl,rfl,hm⟩;· cases hb
   ·simp only[D5,uC]at hb;subst hb;exact .inr ⟨F9.2 ⟨_,hm,rfl⟩,rfl⟩
  ·rcases d8 l v hl with⟨i,x,rfl,rfl,hx⟩|⟨b1,cs,rfl,rfl,hm⟩;· cases hb
   ·simp only[D5,uC]at hb;subst hb;exact vP.nodata _ _ hm o
 let b:Frame:={ (default:Frame) with fn:=f,kind:=.normal }
 have Hl:Pt P f vs .normal=b.atR a [.code body]:=by
  simp[Pt,Frame.atR,hf,hb,b,a];rfl
 obtain⟨w',fr,⟨v,⟨D',r,I2,k1,k2,k3,k4,k5,k6⟩,h3,h4⟩,h2⟩:=hW _ a w b cs rfl rfl rfl Rl;rw[<- Hl]at h2;exact⟨.returned v,w',fr,⟨v,D',r,I2,rfl,k1,k2,k3,k4,k5,k6⟩,h2,h3,h4⟩
def nC(σ:Nat->Nat):SV->SV->Prop
 | .v x,.v y=>x=y
 | .v x,.own _ els=>x = .sl els
 | .loc k off,.loc k' af0=>k=k'/\off=af0
 | .dp els i off,.dp Zp i' af0=>els=Zp/\i=i'/\off=af0
 | .own t els,.own t' Zp=>σ t=t'/\els=Zp
 | .v x,.ag cs _=>x = .agg cs
 | .ag cs ns,.ag N7 ns'=>cs=N7/\ns=ns'
 | _,_=>False
def lX(σ:Nat->Nat):List SV->List SV->Prop
 | [],[]=>True
 | x::r,y::t=>nC σ x y/\lX σ r t
 | _,_=>False
def Ac(σ:Nat->Nat):LV->Option LV->Prop
 | .one x,some (.one y)=>nC σ x y
 | .row cs,some (.row ds)=>lX σ cs ds
 | .ob r,some (.ob q)=>r=q
 | .mp l,some (.mp q)=>l=q
 | _,_=>False
def By(σ:Nat->Nat)(s:St)(l:Loc)(v:LV):Prop:=
 match l,v with
 | .tok t,.tk E n=>(σ t=0/\n=0)\/(σ t≠0/\get s (.tok (σ t))=some (.tk E n))
 | l,v=>Ac σ v (get s l)
def eO(σ:Nat->Nat)(s:St):St->Prop
 | []=>True
 | (l,v)::r=>By σ s l v/\eO σ s r
def eI:List (Nat × Nat)->Nat->Nat
 | [],n=>n
 | (x,y)::r,n=>if n=x then y else eI r n
def lB:St->List Nat
 | []=>[]
 | (.tok t,_)::r=>t::lB r
 | _::r=>lB r
def cK0{σ:Nat->Nat}(h:nC σ x y)(hr:B7 G w y v):B7 { D:=G.D,ν:=G.ν,τ:=fun t=>G.τ (σ t) } w x v:=by
 cases x <;> cases y <;> simp only[nC]at h;· subst h;exact hr
 ·subst h;exact hr.2
 ·subst h;exact hr.1
 ·obtain⟨rfl,rfl⟩:=h;exact hr
 ·obtain⟨rfl,rfl,rfl⟩:=h;exact hr
 ·obtain⟨rfl,rfl⟩:=h;exact hr
 ·obtain⟨rfl,rfl⟩:=h;exact hr
def pu0{σ:Nat->Nat}(h:nC σ x y)(hc:y.isCell=true):x.isCell=true:=by
 cases x <;> cases y <;> simp only[nC]at h;· subst h;exact hc
 ·subst h;rfl
 ·cases hc
 ·rfl
 ·rfl
 ·rfl
 ·cases hc
theorem cb0{σ:Nat->Nat}:∀{cs ds:List SV},lX σ cs ds->cs.length=ds.length/\∀(i:Nat) (x:SV),cs[i]? = some x->∃y,ds[i]? = some y/\nC σ x y
 | [],[],_=>⟨rfl,sS⟩
 | x::r,y::t,h=>by
  obtain⟨h1,h2⟩:=h;obtain⟨k1,k2⟩:=cb0 h2;refine⟨by simp[k1],fun i z hz=>?_⟩;cases i with
  | zero=>simp at hz;subst hz;exact⟨y,rfl,h1⟩
  | succ i=>obtain⟨q,hq⟩:=k2 i z (by simpa using hz);exact⟨q,by simpa using hq.1,hq.2⟩
 | [],_::_,h=>h.elim
 | _::_,[],h=>h.elim
theorem dD0{σ:Nat->Nat}{s:St}:∀{s':St},eO σ s s'->∀l v,get s' l=some v->By σ s l v
 | [],_,l,v,h=>by cases h
 | (m,u)::r,h,l,v,hg=>by
  simp only[get]at hg;split at hg;· cases hg;subst_vars;exact h.1
  ·exact dD0 h.2 l v hg
def cL0{s:St}{t:Nat}{v:LV}(h:get s (.tok t)=some v):t∈lB s:=by
 induction s with
 | nil=>cases h
 | cons p r ih=>
  obtain⟨m,u⟩:=p;simp only[get]at h;split at h
  ·subst_vars;simp[lB]
  ·cases m <;> simp only[lB] <;> first|exact ih h|exact iJ _ (ih h)
def CP(σ:Nat->Nat):List Nat->Prop
 | []=>True
 | t::r=>(σ t=0\/∀t'∈r,t' = t\/σ t'≠σ t)/\CP σ r
theorem cc0{σ:Nat->Nat}:∀{l:List Nat},CP σ l->∀t∈l,∀t'∈l,σ t≠0->σ t=σ t'->t=t'
 | [],_,t,h,_,_,_,_=>by cases h
 | x::r,h,t,ht,t',ht',X1,he=>by
  obtain⟨h1,h2⟩:=h;rcases u5.1 ht with e1|m1
  ·rcases u5.1 ht' with e2|m2;· rw[e1,e2]
   ·rw[e1]at X1 he;rcases h1 with h1|h1;· exact absurd h1 X1
    ·rcases h1 t' m2 with h|h;· rw[e1,h]
     ·exact absurd he.symm h
  ·rcases u5.1 ht' with e2|m2
   ·rw[e2]at he;rcases h1 with h1|h1;· exact absurd (he.trans h1) X1
    ·rcases h1 t m1 with h|h;· rw[e2,h]
     ·exact absurd he h
   ·exact cc0 h2 t m1 t' m2 X1 he
def Rel.sub(R:Rel X G s a w)(l:List (Nat × Nat))(h0:eI l 0=0)(hs:eO (eI l) s s')(hi:CP (eI l) (lB s')):Rel X { D:=G.D,ν:=G.ν,τ:=fun t=>G.τ (eI l t) } s' a w:=by
 have key:∀m v,get s' m=some v->(∃t E n,m = .tok t/\v = .tk E n/\((eI l t=0/\n=0)\/(eI l t≠0/\get s (.tok (eI l t))=some (.tk E n))))\/(m.isTok=false/\∃u,get s m=some u/\Ac (eI l) v (some u)):=by
  intro m v hg;have hf:=dD0 hs m v hg;unfold By at hf;split at hf;· rename_i t E n;exact .inl ⟨t,E,n,rfl,rfl,hf⟩
  ·rename_i X1;cases hu:get s m with
   | none=>rw[hu]at hf;cases v <;> exact hf.elim
   | some u=>
    rw[hu]at hf;refine .inr ⟨?_,u,rfl,hf⟩;cases m with
    | tok t=>
     cases v with
     | tk E n=>exact (X1 t E n rfl rfl).elim
     | one x=>
      have:=R.holds _ _ hu;cases u with
      | tk E n=>exact hf.elim
      | one y=>exact this.elim
      | row cs=>exact this.elim
      | ob r=>exact this.elim
      | mp l=>exact this.elim
     | row cs=>
      have:=R.holds _ _ hu;cases u with
      | tk E n=>exact hf.elim
      | one y=>exact this.elim
      | row cs=>exact this.elim
      | ob r=>exact this.elim
      | mp l=>exact this.elim
     | mp l=>
      have:=R.holds _ _ hu;cases u with
      | tk E n=>exact hf.elim
      | one y=>exact this.elim
      | row cs=>exact this.elim
      | ob r=>exact this.elim
      | mp l=>exact this.elim
     | ob r=>
      have:=R.holds _ _ hu;cases u with
      | tk E n=>exact hf.elim
      | one y=>exact this.elim
      | row cs=>exact this.elim
      | ob r=>exact this.elim
      | mp l=>exact this.elim
    | _=>rfl
 have nP:∀m v b,get s' m=some v->D5 { D:=G.D,ν:=G.ν,τ:=fun t=>G.τ (eI l t) } m v=some b->(∃t E n,m = .tok t/\v = .tk E n/\eI l t≠0/\get s (.tok (eI l t))=some (.tk E n)/\D5 G (.tok (eI l t)) (.tk E n)=some b)\/(m.isTok=false/\∃u,get s m=some u/\D5 G m u=some b):=by
  intro m v b hg hb;rcases key m v hg with⟨t,E,n,rfl,rfl,h⟩|⟨h1,u,h2,h3⟩
  ·rcases h with⟨h1,rfl⟩|⟨h1,h2⟩
   ·simp only[D5,mS,h1,R.nil]at hb;cases hb
   ·exact .inl ⟨t,E,n,rfl,rfl,h1,h2,hb⟩
  ·refine .inr ⟨h1,u,h2,?_⟩;cases m with
   | P0 n=>cases v <;> cases hb
   | tok t=>cases h1
   | loc q=>cases v with
    | row cs=>cases u with
     | row ds=>exact hb
     | _=>exact h3.elim
    | ob r=>cases u with
     | ob q=>exact hb
     | _=>exact h3.elim
    | mp r=>cases u with
     | mp q=>exact hb
     | _=>exact h3.elim
    | _=>cases hb
   | heap q=>cases v with
    | row cs=>cases u with
     | row ds=>exact hb
     | _=>exact h3.elim
    | ob r=>cases u with
     | ob q=>exact hb
     | _=>exact h3.elim
    | mp r=>cases u with
     | mp q=>exact hb
     | _=>exact h3.elim
    | _=>cases hb
 have A5:∀b cs ds,lX (eI l) cs ds->jT G w b ds->jT { D:=G.D,ν:=G.ν,τ:=fun t=>G.τ (eI l t) } w b cs:=by
  rintro b cs ds hle ⟨c,e,h1,h2,h3⟩;obtain⟨k1,k2⟩:=cb0 hle;refine⟨c,e,h1,oO,fun i x hx=>?_⟩;obtain⟨y,hy,mD⟩:=k2 i x hx;obtain⟨q1,v,q2,q3⟩:=h3 i y hy;exact⟨pu0 mD q1,v,q2,cK0 mD q3⟩
 refine⟨R.size,R.defers,R.ext,R.wf,by simp only[h0];exact R.nil,fun m v hg=>?_,fun m v m' v' b hg dY hb X2=>?_,fun m v b hg hb=>?_,fun m v b o hg hb ht=>?_⟩
 ·rcases key m v hg with⟨t,E,n,rfl,rfl,h⟩|⟨h1,u,h2,h3⟩
  ·rcases h with⟨h1,rfl⟩|⟨h1,h2⟩;· simp only[oA,pH,h1,R.nil,and_self]
   ·exact R.holds _ _ h2
  ·have hh:=R.holds _ _ h2;cases m with
   | tok t=>cases h1
   | P0 n=>cases v with
    | one x=>cases u with
     | one y=>exact cK0 h3 hh
     | _=>exact h3.elim
    | _=>cases u <;> first|exact hh.elim|exact h3.elim
   | loc q=>cases v with
    | row cs=>cases u with
     | row ds=>exact A5 _ _ _ h3 hh
     | _=>exact h3.elim
    | _=>cases u <;> first|exact hh.elim|exact h3.elim
   | heap q=>cases v with
    | row cs=>cases u with
     | row ds=>exact A5 _ _ _ h3 hh
     | _=>exact h3.elim
    | ob r=>cases u with
     | ob q=>obtain rfl:r=q:=h3;exact hh
     | _=>exact h3.elim
    | mp r=>cases u with
     | mp q=>obtain rfl:r=q:=h3;exact hh
     | _=>exact h3.elim
    | _=>cases u <;> first|exact hh.elim|exact h3.elim
 ·rcases nP m v b hg hb with⟨t,E,n,rfl,rfl,h1,h2,h3⟩|⟨h1,u,h2,h3⟩
  ·rcases nP m' v' b dY X2 with⟨t',E',n',rfl,rfl,k1,k2,k3⟩|⟨k1,u',k2,k3⟩
   ·have:=R.sep _ _ _ _ b h2 k2 h3 k3;simp only[Loc.tok.injEq]at this;rw[cc0 hi t (cL0 hg) t' (cL0 dY) h1 this]
   ·have:=R.sep _ _ _ _ b h2 k2 h3 k3;subst this;cases k1
  ·rcases nP m' v' b dY X2 with⟨t',E',n',rfl,rfl,k1,k2,k3⟩|⟨k1,u',k2,k3⟩
   ·have:=R.sep _ _ _ _ b h2 k2 h3 k3;subst this;cases h1
   ·exact R.sep _ _ _ _ b h2 k2 h3 k3
 ·rcases nP m v b hg hb with⟨t,E,n,rfl,rfl,h1,h2,h3⟩|⟨h1,u,h2,h3⟩
  ·rcases R.own _ _ b h2 h3 with h|⟨_,h⟩;· exact .inl h
   ·cases h
  ·rcases R.own _ _ b h2 h3 with h|⟨h,_⟩;· exact .inl h
   ·exact .inr ⟨h,h1⟩
 ·rcases nP m v b hg hb with⟨t,E,n,rfl,rfl,h1,h2,h3⟩|⟨h1,u,h2,h3⟩;· cases ht
  ·exact R.data _ _ b o h2 h3 h1
def aM(l:List (Nat × Nat))(h0:eI l 0=0)(hs:eO (eI l) s s')(hi:CP (eI l) (lB s'))(h:W X k s'):W X k s:=
 fun _ a w b cs hf hk hr R=>h _ a w b cs hf hk hr (R.sub l h0 hs hi)
def mQ{α:Type}(I:α->Prop)(S:α->St)(μ:α->Nat){c:Code}(x0:α)(h0:I x0)
  (round:∀x,I x->(∀y,I y->μ y<μ x->W X (.inLoop c::k) (S y))->W X (.code c::.inLoop c::k) (S x)):W X (.code (.loop c)::k) (S x0):=by
 refine W8 ?_;have key:∀n x,μ x=n->I x->W X (.code c::.inLoop c::k) (S x):=by
  intro n
  induction n using Nat.strongRecOn with
  | _ n ih=>
   intro x hx hi;exact round x hi fun y hy I1=>bV (ih (μ y) (hx ▸ I1) y rfl hy)
 exact key _ x0 rfl h0
end
end
end Go.Proofs.YtmilnfebjgkkcaaGreatDoor.Lift
