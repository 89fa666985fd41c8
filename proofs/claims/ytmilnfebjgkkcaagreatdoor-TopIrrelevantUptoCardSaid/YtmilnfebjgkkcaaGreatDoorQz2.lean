import Derived.Test.YtmilnfebjgkkcaaGreatDoorQz1
import Derived.Orders
import Derived.Test.YtmilnfebjgkkcaaGreatDoorProg
set_option maxHeartbeats 8000000
set_option maxRecDepth 100000
set_option linter.all false
namespace Go.Proofs.YtmilnfebjgkkcaaGreatDoor.Lift
open Bool renaming and_assoc->Ut,eq_false_iff->AT,false_eq_true->vW,not_eq_true'->Ig,or_eq_true->Ci
open Builtin renaming firstCells->kV
open Call renaming operands->i20
open DV renaming agg->eM,fit->J6,isCell->oS,K0->rY
open Deferred renaming ofValue->aA0
open Frame renaming atR->aD0,enter->Pt
open Iff renaming rfl->Lf
open Lift.Loc renaming heap->kI,P0->mI
open Lift.Trans renaming refl->oU
open List renaming append_nil->KX,cons_append->R6,flatten_cons->FI,getElem?_append_left->cJ,getElem?_append_right->cK,getElem?_map->cI,length_cons->B4,length_map->fV,length_pos_of_mem->i10,map->Y3,map_cons->G4,mem_append->t6,mem_cons->u5,mem_cons_of_mem->iJ,mem_iff_getElem->yM,mem_iff_getElem?->FJ,mem_map->F9,nodup_cons->Ck,nodup_nil->Lc,range'_succ->qJ,take_append_drop->FK
open Nat renaming add_mul->Y9,le_refl->I5,le_trans->cH,lt_irrefl->vX,mul_le_mul_right->yO,one_mul->Ih,strongRecOn->Pu,zero_add->G8,zero_le->aH,zero_mul->FC
open Ne renaming symm->f8
open Op renaming operands->kJ
open Option renaming bind_eq_some_iff->mH,bind_some->ay0,getD_some->Cj,map_eq_some_iff->vV,or_eq_some_iff->Lb
open Region renaming binds->Cl,ready->FH,wanted->fD
open Result renaming andThen_ok->cW
open SV renaming isCell->aE0,v->b7
open Sem renaming run_bind->v9,run_pure->kH
open Steps renaming trans->Ps
open Tryz renaming prog->W0
open Value renaming func->i30
open World renaming cell?->rW,putObj_heap_other->aw0
open _root_.Array renaming getD_eq_getD_getElem?->KZ,getElem?_eq_some_iff->fB,getElem?_replicate->Ij,getElem?_toList->DN,length_toList->aB0,replicate->La
open dR renaming says->FA
open Go
variable{Ap s s':St}{E b d dj i id j k n off:Nat}{G:Gh}{L1:List Nat}{P:Program}{X:Ctx}{X5:Array TypeId}{a:Act}{args:Array Operand}{c:Code}{cs ds:List DV}{e:dR}{f:FuncId}{fn:Func}{fp:List Loc}{kk:List Item}{l m:Loc}{listed:Array Bool}{o:Oper}{ops:Array Oper}{t:TypeId}{v:LV}{w w':World}{x:Operand}{y:SV}{ys:List (List DV)}{φ:G3}
section
def A9(X:Ctx)(s:St)(dst:Option Tmp)(r:Option (Prop × SV)):Option (Prop × St):=
 match dst,r with
 | some d,some (c,y)=>some (c/\d<X.n,L2 s (.P0 d) (.one y))
 | none,some (c,_)=>some (c,s)
 | _,none=>none
def Js(X:Ctx)(s:St)(dst:Option Tmp)(r:Option (List SV)):Option (Prop × St):=
 match dst,r with
 | some d,some cs=>if fZ cs&&A8 d s&&!eH d cs then some (d<X.n,L2 (L2 s (.P0 d) (.one (.loc d 0))) (.loc d) (.row cs)) else none
 | _,_=>none
def JS(X:Ctx)(s:St)(dst:Option Tmp)(r:Option SV):Option (Prop × St):=
 match dst,r with
 | some d,some y=>if fZ (P7 y)&&A8 d s&&!jS d y then some (d<X.n,L2 (L2 s (.P0 d) (.one (.loc d 0))) (.loc d) (.row (P7 y))) else none
 | _,_=>none
def MQ(X:Ctx)(s:St)(dst:Option Tmp)(r:Option SV):Option (Prop × St):=
 match dst,r with
 | some d,some y=>match bZ (P7 y) with
  | some cs=>if fI cs&&A8 d s then some (d<X.n,L2 s (.P0 d) (.one (.v (.ref cs)))) else none
  | none=>none
 | _,_=>none
def Ep(s:St)(lay:Option (Bool × Nat))(p x:Option SV):Option (Prop × St):=
 match p,lay,x with
 | some (.loc k off),some (_,n),some y=>
  match get s (.loc k) with
  | some (.row cs)=>if fZ (P7 y) then some ((P7 y).length=n/\off+n<=cs.length,L2 s (.loc k) (.row (put cs off (P7 y)))) else none
  | _=>none
 | some (.v (.K0 (.pointer (some ⟨b,off,none⟩)))),some (_,n),some y=>
  match get s (.heap b),vL (P7 y) with
  | some (.row cs),some ys=>if fZ ys then some (ys.length=n/\off+n<=cs.length,L2 s (.heap b) (.row (put cs off ys))) else none
  | _,_=>none
 | _,_,_=>none
def JU(X:Ctx)(s:St)(dst:Option Tmp)(len:Nat)(e:Option (Nat × Nat))(r:Option (List (List DV))):Option (Prop × St):=
 match dst,e,r with
 | some d,some (E,_),some els=>some (d<X.n/\els.length=len/\len * E<=16777216/\len<=M5,L2 s (.P0 d) (.one (.v (.sl els))))
 | _,_,_=>none
def Jf(X:Ctx)(s:St)(dst:Option Tmp)(e:Option (Nat × Nat))(e2:Bool)(x:Option SV)(y:Option (List (List DV))):Option (Prop × St):=
 match dst,e,x,y with
 | some d,some (E,B),some (.own t els),some ys=>
  if e2&&a9 d s&&d != 0 then
   some (d<X.n/\(0<B/\B<=1024)/\CF (get s) t E els.length/\els.length+ys.length<=M5/\(∀e∈els,e.length=E)/\(∀e∈ys,e.length=E),
    L2 (L2 (D8 s (.tok t)) (.P0 d) (.one (.own d (els++ys)))) (.tok d) (.tk E (els.length+ys.length)))
  else none
 | _,_,_,_=>none
def Jg(X:Ctx)(s:St)(dst:Option Tmp)(e:Option Nat)(x:Option (List (List DV)))(lo hi m:Option Int)(F90:Bool):Option (Prop × St):=
 match dst,e,x,lo,hi,m with
 | some d,some E,some els,some l,some h,some k=>
  if a9 d s&&d != 0&&F90 then
   some (d<X.n/\0<=l/\l<=h/\h<=els.length/\h=k/\(∀e∈els,e.length=E),
    L2 (L2 (D8 s (.tok 0)) (.P0 d) (.one (.own d ((els.take h.toNat).drop l.toNat)))) (.tok d) (.tk E (h.toNat - l.toNat)))
  else none
 | _,_,_,_,_,_=>none
def fK(L1:List Nat)(dst:Option Tmp):Bool:=
 match dst with
 | some d=>Q9 d L1
 | none=>false
def gQ0(L1:List Nat)(dst:Option Tmp):Bool:=
 match dst with
 | some d=>Q9 (d+1000000) L1
 | none=>false
def dA(c:Call):Option (Operand × Operand × TypeId × TypeId):=
 match c.callee,c.args.toList,c.argTypes.toList with
 | .builtin .append,[x,y],[t,t2]=>some (x,y,t,t2)
 | _,_,_=>none
def JZ(X:Ctx)(s:St)(x:Operand)(hi:Option Operand):Option Int:=
 match (M2 X (get s) x).bind dN with
 | some els=>bN X (get s) els.length hi
 | none=>none
def H4(X:Ctx)(L1:List Nat)(s:St)(o:Oper):Option (Prop × St):=
 if fK L1 o.dst then none else
 match o.op with
 | .alloc t=>Js X s o.dst (K7 X.P t)
 | .box _ x=>if gQ0 L1 o.dst then MQ X s o.dst (M2 X (get s) x) else JS X s o.dst (M2 X (get s) x)
 | .store t p x=>if o.dst.isNone then Ep s (G5 X.P t) (M2 X (get s) p) (M2 X (get s) x) else none
 | .buildSlice t len parts=>
  match l9 X.P t with
  | some (E,B)=>JU X s o.dst len (some (E,B)) (mU X (get s) E 0 parts.toList)
  | none=>none
 | .slice t x lo hi (some m)=>Jg X s o.dst (X7 X.P t) ((M2 X (get s) x).bind dN) (bN X (get s) 0 lo) (JZ X s x hi) (bN X (get s) 0 (some m)) hi.isSome
 | .call c=>
  match dA c with
  | some (x,y,t,t2)=>Jf X s o.dst (l9 X.P t) (X7 X.P t2).isSome (M2 X (get s) x) ((M2 X (get s) y).bind dN)
  | none=>A9 X s o.dst (N8 X (get s) o)
 | _=>A9 X s o.dst (N8 X (get s) o)
section
variable{X:Ctx}{s:St}{k:List Item}
def Wb(ho:o.op = .box t x)(hd:o.dst=some d)(hn:d<X.n)(hy:M2 X (get s) x=some y)(hc:bZ (P7 y)=some cs)(hb:fI cs=true):
  bX X s o (L2 s (.P0 d) (.one (.v (.ref cs)))):=by
 intro G a w R next Q hK
 have A5:gY G w (P7 y) (a.eval x).cells:=IF R.nil (O4 R hy);obtain⟨t1,t2⟩:=Je hc;have P6:(a.eval x).cells.size=cs.length:=by rw[A5.1,t1]
 refine bP (by intro c e;rw[ho]at e;cases e) ?_;simp only[execOp,ho,Instr.box,newVar,newRow,run_newObj,v9,kH,cW,fF,hd];have T:Trans X G a w { G with D:=qU G.D w.heap.size 0 cs.length } a (w.alloc (.cells (a.eval x).cells t)) (fun _=>False):=cH0 R (hi:=cs.length) oO rfl R.nil;refine hK { G with D:=qU G.D w.heap.size 0 cs.length } _ _ (R.setSlot T rfl rfl (fun _ h=>h) hn ?_);show RV (qU G.D w.heap.size 0 cs.length) _ _ _;refine .ref cs w.heap.size 0 (fun j=>((a.eval x).cells[j]?).getD undef) ((IU _).1 hb) (fun j hj=>?_) (fun j hj=>.inr ⟨rfl,aH _,oO⟩) (fun j c hjc=>?_)
 ·have I1:j<(a.eval x).cells.size:=oO;simp[World.cell?_alloc_new,I1]
 ·obtain⟨z,hz,OH⟩:=t2 j c hjc;have I1:j<(a.eval x).cells.size:=by rw[P6];exact (uA hjc).1
  have hr:=Ei OH (A5.2 j z _ hz (uG I1));simp only[uG I1,Cj];exact hr.mono (fun b o hd=>⟨.inl hd,.of (aI _ _ _ (R.wf.lt hd))⟩)
def bT0(ho:o.op = .box t x){r:Option SV}(hr:∀y,r=some y->M2 X (get s) x=some y){c:Prop}{s0:St}(h:MQ X s0 o.dst r=some (c,s'))(hc:c):∃d cs,o.dst=some d/\A8 d s0=true/\s' = L2 s0 (.P0 d) (.one (.v (.ref cs)))/\bX X s o (L2 s (.P0 d) (.one (.v (.ref cs)))):=by
 unfold MQ at h;cases hd:o.dst with
 | none=>rw[hd]at h;cases h
 | some d=>
  rw[hd]at h;cases r with
  | none=>cases h
  | some y=>
   simp only at h;split at h
   ·rename_i cs aF;split at h
    ·rename_i hb;cases h;simp only[uH]at hb;exact⟨d,cs,rfl,hb.2,rfl,Wb ho hd hc (hr y rfl) aF hb.1⟩
    ·cases h
   ·cases h
def cM0{c:Prop}(h:A9 X s o.dst (N8 X (get s) o)=some (c,s'))(hc:c):bX X s o s':=by
 unfold A9 at h;split at h
 ·rename_i d c' y hd hp;cases h;exact pr0 hp hc.1 hd hc.2
 ·rename_i c' y hd hp;cases h;exact kC0 hp hc hd
 ·cases h
def cd0{c:Prop}(h:H4 X L1 s o=some (c,s'))(hc:c):bX X s o s':=by
 unfold H4 at h;split at h;· cases h
 ·split at h
  ·rename_i t ho;unfold Js at h;split at h
   ·rename_i d cs hd hz;split at h
    ·rename_i hb;cases h;simp only[uH]at hb;exact cG0 ho hd hc hz hb.1.1 hb.1.2
    ·cases h
   ·cases h
  ·rename_i t x ho;split at h
   ·obtain⟨d,cs,hd,-,rfl,hk⟩:=bT0 ho (fun y e=>e) h hc;exact hk
   unfold JS at h;split at h
   ·rename_i d y hd hy;split at h
    ·rename_i hb;cases h;simp only[uH,Ig]at hb;exact et0 ho hd hc hy hb.1.1 hb.1.2 hb.2
    ·cases h
   ·cases h
  ·rename_i t p x ho;split at h
   ·rename_i C7;have hd:o.dst=none:=by simpa using C7
    unfold Ep at h;split at h
    ·rename_i k' off agg n y hp hl hy;split at h
     ·rename_i cs hg;split at h
      ·rename_i hb;cases h;exact bD0 ho hd hp hg hl hy hc hb
      ·cases h
     ·cases h
    ·rename_i b off agg n y hp hl hy;split at h
     ·rename_i cs ys hg kD;split at h
      ·rename_i hb;cases h;exact UK ho hd hp hg hl hy kD hc hb
      ·cases h
     ·cases h
    ·cases h
   ·cases h
  ·rename_i t len parts ho;split at h
   ·rename_i E B he;unfold JU at h;split at h
    ·rename_i d E' B' els hd DD AP;cases DD;cases h;exact bx0 ho hd hc.1 he AP hc.2
    ·cases h
   ·cases h
  ·rename_i t x lo hi m ho;unfold Jg at h;split at h
   ·rename_i d E els l h' k' hd hE hx tP oM hm;split at h
    ·rename_i hb;cases h;simp only[uH,bne_iff_ne,ne_eq]at hb;unfold JZ at oM;rw[hx]at oM;exact ca0 ho hd hc.1 hb.1.2 hb.1.1 hE hx tP oM hm hb.2 hc.2
    ·cases h
   ·cases h
  ·rename_i c' ho;split at h
   ·rename_i x y t t2 rU;have dE:c' = { callee:=.builtin .append,args:=#[x,y],argTypes:=#[t,t2] }:=by
     unfold dA at rU;split at rU
     ·rename_i h1 h2 h3;cases rU;cases c';simp only at h1 h2 h3;rw[h1,Ee h2,Ee h3]
     ·cases rU
    subst dE;unfold Jf at h;split at h
    ·rename_i d E B t' els ys hd he hx hy;split at h
     ·rename_i hb;cases h;simp only[uH,bne_iff_ne,ne_eq]at hb;exact b90 ho hd hc.1 hb.2 hb.1.2 he hc.2.1 hb.1.1 hx hy hc.2.2.1 hc.2.2.2.1 hc.2.2.2.2.1 hc.2.2.2.2.2
     ·cases h
    ·cases h
   ·exact cM0 h hc
  ·exact cM0 h hc
def MK(ops:Array Oper)(o:Oper):Option (Option (Nat × Bool)):=
 match o.guard with
 | none=>some none
 | some (j,want)=>match (ops[j]?).bind (·.dst) with
  | some d=>some (some (d,want))
  | none=>none
def vc(X:Ctx)(L1:List Nat)(ops:Array Oper):List Oper->St->(St->Prop)->Prop
 | [],s,K=>K s
 | o::l,s,K=>
  match MK ops o with
  | some none=>
   match H4 X L1 s o with
   | some (c,s')=>c/\vc X L1 ops l s' K
   | none=>VL X ops (o::l) s K
  | some (some (dj,want))=>
   match get s (.P0 dj) with
   | some (.one (.v (.K0 (.bool b))))=>
    dj<X.n/\(b=want->match H4 X L1 (L2 s (.P0 dj) (.one (.v (.K0 (.bool want))))) o with
     | some (c,s')=>c/\vc X L1 ops l s' K
     | none=>VL X ops (o::l) (L2 s (.P0 dj) (.one (.v (.K0 (.bool want))))) K) /\
    (b = !want->match o.dst with
     | some d=>d<X.n/\vc X L1 ops l (L2 (L2 s (.P0 dj) (.one (.v (.K0 (.bool (!want)))))) (.P0 d) jX) K
     | none=>False)
   | some (.one (.v (.H1 [])))=>match o.dst with
    | some d=>d<X.n/\vc X L1 ops l (L2 s (.P0 d) jX) K
    | none=>False
   | _=>False
  | none=>False
def sK0{l:List Oper}{s:St}{K:St->Prop}(h:∀m,get s' m=get s m)(hv:VL X ops l s' K):VL X ops l s K:=
 fun n hn G a w R=>hv n hn G a w (R.congr h)
theorem bW{L1:List Nat}{ops:Array Oper}{K:St->Prop}:∀{l:List Oper} {s:St},vc X L1 ops l s K->VL X ops l s K
 | [],s,h=>Ah0 h
 | o::l,s,h=>by
  unfold vc at h;split at h
  ·rename_i hg;have Oi:o.guard=none:=by
    unfold MK at hg;split at hg
    ·assumption
    ·split at hg <;> cases hg
   split at h
   ·rename_i c s' hs;exact wS Oi (cd0 hs h.1) (bW h.2)
   ·exact h
  ·rename_i dj want hg;have Oi:∃j,o.guard=some (j,want)/\(ops[j]?).bind (·.dst)=some dj:=by
    unfold MK at hg;split at hg;· cases hg
    ·rename_i j w' hq;split at hg
     ·rename_i d hd;cases hg;exact⟨j,hq,hd⟩
     ·cases hg
   obtain⟨j,fT,vQ⟩:=Oi;split at h
   ·rename_i b hb;obtain⟨TQ,h1,h2⟩:=h;have hcg:∀c,b=c->∀m,get (L2 s (.P0 dj) (.one (.v (.K0 (.bool c))))) m=get s m:=by
     rintro c rfl m;rw[T5];split
     ·subst_vars;exact hb.symm
     ·rfl
    by_cases oP:b=want
    ·have h3:=h1 oP;split at h3
     ·rename_i c s' hs;have AM:∃d,True:=⟨0,trivial⟩;intro n hn G a w R;obtain⟨k1,k2⟩:=pA hn;have hv:=(X6 (R.holds _ _ hb)).1;have I1:dj<a.tmps.size:=by rw[R.size];exact TQ
      have p9:a.tmps[dj]? = some (.bool b):=by
       have h3:a.tmps.getD dj undef=a.tmps[dj]:=by simp[I1]
       rw[uG I1,<- h3,hv]
      have hy:yielded ops a.tmps j=some b:=by
       unfold yielded;rw[vQ];simp[p9]
      simp only[B4,qJ,wpOpsIn,k1,fD,fT,hy,oP,beq_self_eq_true,if_true];exact (cd0 hs h3.1 G a w (R.congr (hcg _ oP)) _ _ fun G' a' w' R'=>bW h3.2 (n+1) k2 G' a' w' R')
     ·exact sK0 (hcg _ oP) h3
    ·have OZ:b = !want:=by cases b <;> cases want <;> simp_all
     have h3:=h2 OZ;split at h3
     ·rename_i d hd;exact sI0 fT vQ TQ hb (fun e=>absurd e oP) hd h3.1 (fun _=>bW h3.2)
     ·exact h3.elim
   ·rename_i hb;split at h
    ·rename_i d hd;exact pt0 fT vQ hb hd h.1 (bW h.2)
    ·exact h.elim
   ·exact h.elim
  ·exact h.elim
def O9(L1:List Nat)(h:∀K:St->Prop,(∀s',W X k s'->K s')->vc X L1 ops ops.toList s K):W X (.code (.region id ops false)::k) s:=
 sJ0 fun K hK=>bW (h K hK)
def sL0{L1:List Nat}{ops:Array Oper}{l:List Oper}{K:St->Prop}(ho:o.op = .call { callee:=.value (.func f),args:=args,argTypes:=X5 })(hg:o.guard=none)
  {ds:List DV} (V2:aZ X (get s) args.toList=some ds) {P:Program} {gl:X8} (hP:X.P=P) (G0:X.gl=gl) {φ I2:G3} {r:DV} (hc:P8 P gl f ds φ r I2) (S4:v7 (get s) φ) (A4:(φ.map (·.1)).Nodup) {d:Nat} (hd:o.dst=some d) (C7:d<X.n)
  (h:vc X L1 ops l (aX (dJ (L2 s (.P0 d) (.one (.v r))) φ) I2) K):VL X ops (o::l) s K:=
 wS hg (Qg ho V2 (by rw[hP,G0];exact hc) S4 A4 hd C7) (bW h)
end
end
section
abbrev j0(n:Int):DV:=.K0 (.int .i64 n)
abbrev O2(b:Bool):DV:=.K0 (.bool b)
theorem xg0(l:Loc):get [] l=none:=rfl
theorem sM0(l:Loc)(v:LV)(r:St):get ((l,v)::r) l=some v:=by simp[get]
theorem pv0(v:LV)(r:St)(h:m≠l):get ((m,v)::r) l=get r l:=by simp[get,h]
theorem xh0(l:Loc):D8 [] l=[]:=rfl
theorem sN0(l:Loc)(v:LV)(r:St):D8 ((l,v)::r) l=D8 r l:=by simp[D8]
theorem pw0(v:LV)(r:St)(h:m≠l):D8 ((m,v)::r) l=(m,v)::D8 r l:=by simp[D8,h]
theorem Ai0(s:St)(l:Loc)(v:LV):L2 s l v=(l,v)::D8 s l:=rfl
theorem sO0(d:Nat):Q9 d []=false:=rfl
theorem px0(d x:Nat)(r:List Nat):Q9 d (x::r)=(d==x||Q9 d r):=rfl
def sY:Option LV->Option SV
 | some (.one x)=>some x
 | _=>none
theorem mV0(x:SV):sY (some (.one x))=some x:=rfl
section
variable{X:Ctx}{s:St}{g:Rd}
theorem xi0(t:Nat):M2 X g (.tmp t)=sY (g (.P0 t)):=by
 unfold M2 sY;rfl
theorem py0(v:Value):M2 X g (.const v)=qX v:=rfl
def YO:Option (List (List DV))->Option SV
 | some (e::r)=>some (.dp (e::r) 0 0)
 | _=>none
theorem sP0(e:List DV)(r:List (List DV)):YO (some (e::r))=some (.dp (e::r) 0 0):=rfl
theorem mW0(b:Nat):M2 X g (.global b)=YO (D6 X.gl b):=by
 unfold M2 YO;rfl
theorem sQ0(f:Nat):M2 X g (.func f)=some (.v (.K0 (.func (.func f) #[] #[]))):=rfl
theorem mX0:qX (.slice none 0 0)=some (.own 0 []):=rfl
theorem mY0{k:IntKind}{n:Int}(h:y6 k n):qX (.int k n)=some (.v (.K0 (.int k n))):=by simp[qX,GN,h]
theorem lF0(b:Bool):qX (.bool b)=some (.v (.K0 (.bool b))):=rfl
theorem kM0(b:ByteArray):qX (.string b)=some (.v (.K0 (.string b))):=rfl
theorem kE0:qX .nilFunc=some (.v (.K0 .nilFunc)):=rfl
theorem kx0:qX .nilIface=some (.v (.K0 .nilIface)):=rfl
theorem mZ0(a:Option Addr):qX (.pointer a)=some (.v (.K0 (.pointer a))):=rfl
theorem m00(a:Option Nat):qX (.map a)=some (.v (.K0 (.map a))):=rfl
theorem Ds0(x:DV):kR (.v x)=some x:=rfl
theorem Aj0(cs:List DV)(ns:List Nat):kR (.ag cs ns)=some (.agg cs):=rfl
theorem xj0(t:Nat)(els:List (List DV)):kR (.own t els)=some (.sl els):=rfl
theorem sR0:bZ []=some []:=rfl
theorem Ak0(x:DV)(r:List SV):bZ (.v x::r)=(bZ r).map (x::·):=by
 simp only[bZ,kR];cases bZ r <;> rfl
theorem sS0(t:Nat)(els:List (List DV))(r:List SV):bZ (.own t els::r)=(bZ r).map (.sl els::·):=by
 simp only[bZ,kR];cases bZ r <;> rfl
theorem xk0(els:List (List DV))(i:Nat):kR (.dp els i 0)=(els[i]?).map .ref:=rfl
theorem pz0(els:List (List DV))(i o:Nat):P7 (.dp els i o)=[.dp els i o]:=rfl
theorem pA0(k:Nat)(els:List (List DV))(i o:Nat)(r:List SV):lV k (.dp els i o::r)=lV (k+1) r:=rfl
theorem m10(cs:List DV):aL (.agg cs)=cs:=rfl
theorem lG0(v:Value):aL (.K0 v)=[.K0 v]:=rfl
theorem pB0(e:List (List DV)):aL (.sl e)=[.sl e]:=rfl
theorem m20(cs:List DV):aL (.ref cs)=[.ref cs]:=rfl
theorem k90(t:TypeId)(x:DV):aL (.iface t x)=[.iface t x]:=rfl
theorem sT0(x:DV):P7 (.v x)=(aL x).map .v:=rfl
theorem m30(t:Nat)(els:List (List DV)):P7 (.own t els)=[.own t els]:=rfl
theorem m40(k off:Nat):P7 (.loc k off)=[.loc k off]:=rfl
theorem pC0(cs:List DV)(ns:List Nat):P7 (.ag cs ns)=tL ns 0 cs:=rfl
theorem xl0(ns:List Nat)(k:Nat):tL ns k []=[]:=rfl
def YP(b:Bool)(d:DV):SV:=if b then .own 0 [] else .v d
theorem Dt0(d:DV):YP true d = .own 0 []:=rfl
theorem Du0(d:DV):YP false d = .v d:=rfl
theorem sU0(ns:List Nat)(k:Nat)(d:DV)(r:List DV):tL ns k (d::r)=YP (Q9 k ns) d::tL ns (k+1) r:=rfl
theorem m50(k:Nat):lV k []=[]:=rfl
theorem m60(k:Nat)(r:List SV):lV k (.own 0 []::r)=k::lV (k+1) r:=rfl
theorem lH0(k t:Nat)(e:List (List DV))(r:List SV):lV k (.own (t+1) e::r)=lV (k+1) r:=by
 rw[lV];rintro h1;cases h1
theorem sV0(k:Nat)(x:DV)(r:List SV):lV k (.v x::r)=lV (k+1) r:=rfl
theorem m70(k j o:Nat)(r:List SV):lV k (.loc j o::r)=lV (k+1) r:=rfl
theorem pD0(d:Nat)(cs:List DV)(ns:List Nat):jS d (.ag cs ns)=false:=rfl
theorem pE0(d:Nat)(cs:List DV)(ns:List Nat):pE d (.ag cs ns)=false:=rfl
theorem xm0(e:List (List DV)):dN (.v (.sl e))=some e:=rfl
theorem sW0(q:Option Addr)(n c:Nat):dN (.v (.K0 (.slice q n c)))=none:=rfl
theorem sX0(t:Nat)(e:List (List DV)):dN (.own t e)=some e:=rfl
theorem pF0(v:Value):oS (.K0 v)=true:=rfl
theorem xn0(e:List (List DV)):oS (.sl e)=true:=rfl
theorem lI0(cs:List DV)(ok:Bool):aL (.soft cs ok)=[.soft cs ok]:=rfl
theorem pG0(cs:List DV)(ok:Bool):oS (.soft cs ok)=true:=rfl
theorem pH0(ok:Bool):oS (.flag ok)=true:=rfl
theorem sY0(f:FuncId)(cs:List DV):oS (.m6 f cs)=true:=rfl
theorem m80(f:FuncId)(cs:List DV):aL (.m6 f cs)=[.m6 f cs]:=rfl
theorem sZ0(l:List (Int × Value)):oS (.mpd l)=true:=rfl
theorem m90(l:List (Int × Value)):aL (.mpd l)=[.mpd l]:=rfl
theorem s00(cs:List DV):oS (.ref cs)=true:=rfl
theorem na0(t:TypeId)(x:DV):oS (.iface t x)=true:=rfl
theorem xo0(x:DV):aE0 (.v x)=x.isCell:=rfl
theorem pI0(k o:Nat):aE0 (.loc k o)=true:=rfl
theorem s10(e:List (List DV))(k o:Nat):aE0 (.dp e k o)=true:=rfl
theorem pJ0(t:Nat)(e:List (List DV)):aE0 (.own t e)=true:=rfl
theorem pK0:fI []=true:=rfl
theorem nb0(x:DV)(r:List DV):fI (x::r)=(x.isCell&&fI r):=rfl
theorem nc0:fZ []=true:=rfl
theorem lJ0(x:SV)(r:List SV):fZ (x::r)=(x.isCell&&fZ r):=rfl
theorem s20(d:Nat)(x:DV):jS d (.v x)=false:=rfl
theorem nd0(d k o:Nat):jS d (.loc k o)=(k==d):=rfl
theorem pL0(d:Nat)(e:List (List DV))(k o:Nat):jS d (.dp e k o)=false:=rfl
theorem ne0(d t:Nat)(e:List (List DV)):jS d (.own t e)=false:=rfl
theorem s30(d:Nat)(x:DV):pE d (.v x)=false:=rfl
theorem nf0(d k o:Nat):pE d (.loc k o)=false:=rfl
theorem pM0(d:Nat)(e:List (List DV))(k o:Nat):pE d (.dp e k o)=false:=rfl
theorem ng0(d t:Nat)(e:List (List DV)):pE d (.own t e)=(t==d):=rfl
theorem nh0(d:Nat):eH d []=false:=rfl
theorem lK0(d:Nat)(x:SV)(r:List SV):eH d (x::r)=(jS d x||eH d r):=rfl
theorem ni0(d:Nat):qY d []=false:=rfl
theorem lL0(d:Nat)(x:SV)(r:List SV):qY d (x::r)=(pE d x||qY d r):=rfl
theorem nj0(d:Nat):A8 d []=true:=rfl
theorem lM0(d n:Nat)(x:SV)(r:St):A8 d ((.P0 n,.one x)::r)=(!jS d x&&A8 d r):=by simp[A8]
theorem nk0(d n:Nat)(cs:List SV)(r:St):A8 d ((.loc n,.row cs)::r)=(n != d&&!eH d cs&&A8 d r):=by simp[A8]
theorem lN0(d n:Nat)(cs:List SV)(r:St):A8 d ((.heap n,.row cs)::r)=(!eH d cs&&A8 d r):=by simp[A8]
theorem pN0(d n:Nat)(q:List (Int × DV))(r:St):A8 d ((.heap n,.mp q)::r)=A8 d r:=by simp[A8]
theorem pO0(d n:Nat)(q:List (Int × DV))(r:St):a9 d ((.heap n,.mp q)::r)=a9 d r:=by simp[a9]
theorem pP0(d n:Nat)(q:Ob)(r:St):A8 d ((.heap n,.ob q)::r)=A8 d r:=by simp[A8]
theorem pQ0(d n:Nat)(q:Ob)(r:St):a9 d ((.heap n,.ob q)::r)=a9 d r:=by simp[a9]
theorem nl0(d n E l:Nat)(r:St):A8 d ((.tok n,.tk E l)::r)=A8 d r:=by simp[A8]
theorem nm0(d:Nat):a9 d []=true:=rfl
theorem lO0(d n:Nat)(x:SV)(r:St):a9 d ((.P0 n,.one x)::r)=(!pE d x&&a9 d r):=by simp[a9]
theorem nn0(d n:Nat)(cs:List SV)(r:St):a9 d ((.loc n,.row cs)::r)=(!qY d cs&&a9 d r):=by simp[a9]
theorem lP0(d n:Nat)(cs:List SV)(r:St):a9 d ((.heap n,.row cs)::r)=(!qY d cs&&a9 d r):=by simp[a9]
theorem no0(d n E l:Nat)(r:St):a9 d ((.tok n,.tk E l)::r)=(n != d&&a9 d r):=by simp[a9]
theorem s40(cs xs:List SV):put cs 0 xs=xs++cs.drop xs.length:=by simp[put]
theorem s50(c:SV)(r xs:List SV)(n:Nat):put (c::r) (n+1) xs=c::put r n xs:=by simp[put]
def cB(X:Ctx)(L1:List Nat)(ops:Array Oper)(l:List Oper)(K:St->Prop)(o:Oper)(s:St):Option (Prop × St)->Prop
 | some (c,s')=>c/\vc X L1 ops l s' K
 | none=>VL X ops (o::l) s K
theorem Al0(L1:List Nat)(ops:Array Oper)(K:St->Prop):vc X L1 ops [] s K=K s:=by simp[vc]
theorem Dv0(L1:List Nat)(ops:Array Oper)(l:List Oper)(K:St->Prop)(d:Option Tmp)(op:Op)(ty:TypeId)(pos:String)(af:Array Edge) :
  vc X L1 ops (⟨d,op,ty,pos,af,none⟩::l) s K=cB X L1 ops l K ⟨d,op,ty,pos,af,none⟩ s (H4 X L1 s ⟨d,op,ty,pos,af,none⟩):=by
 simp only[vc,MK,cB];all_goals (cases H4 X L1 s ⟨d,op,ty,pos,af,none⟩ <;> rfl)
theorem s60(L1:List Nat)(ops:Array Oper)(l:List Oper)(K:St->Prop)(o:Oper)(c:Prop)(s':St):cB X L1 ops l K o s (some (c,s'))=(c/\vc X L1 ops l s' K):=rfl
def Hg(ops:Array Oper)(j:Nat):Option Nat:=(ops[j]?).bind (·.dst)
def xU(X:Ctx)(L1:List Nat)(ops:Array Oper)(l:List Oper)(K:St->Prop)(o:Oper)(s:St)(want:Bool)(dj:Nat):Option SV->Prop
 | some (.v (.K0 (.bool b)))=>
  dj<X.n/\(b=want->cB X L1 ops l K o (L2 s (.P0 dj) (.one (.v (.K0 (.bool want))))) (H4 X L1 (L2 s (.P0 dj) (.one (.v (.K0 (.bool want))))) o)) /\
   (b = !want->match o.dst with
    | some d=>d<X.n/\vc X L1 ops l (L2 (L2 s (.P0 dj) (.one (.v (.K0 (.bool (!want)))))) (.P0 d) jX) K
    | none=>False)
 | some (.v (.H1 []))=>match o.dst with
  | some d=>d<X.n/\vc X L1 ops l (L2 s (.P0 d) jX) K
  | none=>False
 | _=>False
def YD(X:Ctx)(L1:List Nat)(ops:Array Oper)(l:List Oper)(K:St->Prop)(o:Oper)(s:St)(want:Bool):Option Nat->Prop
 | some dj=>xU X L1 ops l K o s want dj (sY (get s (.P0 dj)))
 | none=>False
theorem pR0(L1:List Nat)(ops:Array Oper)(l:List Oper)(K:St->Prop)(o:Oper)(w:Bool)(dj:Nat):YD X L1 ops l K o s w (some dj)=xU X L1 ops l K o s w dj (sY (get s (.P0 dj))):=rfl
theorem Dw0(L1:List Nat)(ops:Array Oper)(l:List Oper)(K:St->Prop)(d:Option Tmp)(op:Op)(ty:TypeId)(pos:String)(af:Array Edge)(j:Nat)(w:Bool) :
  vc X L1 ops (⟨d,op,ty,pos,af,some (j,w)⟩::l) s K=YD X L1 ops l K ⟨d,op,ty,pos,af,some (j,w)⟩ s w (Hg ops j):=by
 simp only[vc,MK,Hg];cases h:(ops[j]?).bind (·.dst) with
 | none=>rfl
 | some dj=>
  simp only[YD];have e:get s (.P0 dj)=get s (.P0 dj):=rfl;generalize get s (.P0 dj)=u at *;unfold xU sY cB;cases u with
  | none=>rfl
  | some u=>cases u with
   | row=>rfl
   | tk=>rfl
   | ob=>rfl
   | mp=>rfl
   | one x=>cases x with
    | v y=>cases y with
     | K0 q=>cases q <;> first|rfl|(apply propext;constructor <;> (intro h;exact h))
     | H1 cs=>cases cs <;> rfl
     | _=>rfl
    | _=>rfl
theorem pS0(L1:List Nat)(ops:Array Oper)(l:List Oper)(K:St->Prop)(o:Oper)(dj:Nat) :
  xU X L1 ops l K o s true dj (some (.v (.K0 (.bool true))))=(dj<X.n/\cB X L1 ops l K o (L2 s (.P0 dj) (.one (.v (.K0 (.bool true))))) (H4 X L1 (L2 s (.P0 dj) (.one (.v (.K0 (.bool true))))) o)):=by
 simp[xU]
theorem pT0(L1:List Nat)(ops:Array Oper)(l:List Oper)(K:St->Prop)(o:Oper)(dj:Nat) :
  xU X L1 ops l K o s false dj (some (.v (.K0 (.bool false))))=(dj<X.n/\cB X L1 ops l K o (L2 s (.P0 dj) (.one (.v (.K0 (.bool false))))) (H4 X L1 (L2 s (.P0 dj) (.one (.v (.K0 (.bool false))))) o)):=by
 simp[xU]
theorem s70(L1:List Nat)(ops:Array Oper)(l:List Oper)(K:St->Prop)(d:Tmp)(op:Op)(ty:TypeId)(pos:String)(af:Array Edge)(gd:Option (Nat × Bool))(dj:Nat) :
  xU X L1 ops l K ⟨some d,op,ty,pos,af,gd⟩ s true dj (some (.v (.K0 (.bool false))))=(dj<X.n/\d<X.n/\vc X L1 ops l (L2 (L2 s (.P0 dj) (.one (.v (.K0 (.bool false))))) (.P0 d) jX) K):=by
 simp[xU]
theorem s80(L1:List Nat)(ops:Array Oper)(l:List Oper)(K:St->Prop)(d:Tmp)(op:Op)(ty:TypeId)(pos:String)(af:Array Edge)(gd:Option (Nat × Bool))(dj:Nat) :
  xU X L1 ops l K ⟨some d,op,ty,pos,af,gd⟩ s false dj (some (.v (.K0 (.bool true))))=(dj<X.n/\d<X.n/\vc X L1 ops l (L2 (L2 s (.P0 dj) (.one (.v (.K0 (.bool true))))) (.P0 d) jX) K):=by
 simp[xU]
theorem Am0(L1:List Nat)(ops:Array Oper)(l:List Oper)(K:St->Prop)(d:Tmp)(op:Op)(ty:TypeId)(pos:String)(af:Array Edge)(gd:Option (Nat × Bool))(w:Bool)(dj:Nat) :
  xU X L1 ops l K ⟨some d,op,ty,pos,af,gd⟩ s w dj (some (.v (.H1 [])))=(d<X.n/\vc X L1 ops l (L2 s (.P0 d) jX) K):=rfl
def m8(b:Bool)(r:Option (Prop × St)):Option (Prop × St):=if b then none else r
theorem pU0(r:Option (Prop × St)):m8 false r=r:=rfl
theorem pV0(d:Nat)(c:Prop)(y:SV):A9 X s (some d) (some (c,y))=some (c/\d<X.n,L2 s (.P0 d) (.one y)):=rfl
theorem pW0(c:Prop)(y:SV):A9 X s none (some (c,y))=some (c,s):=rfl
def Dk:Option SV->Option (Prop × SV)
 | some y=>some (True,y)
 | none=>none
theorem s90(y:SV):Dk (some y)=some (True,y):=rfl
def RN(o:Option SV):o.map (True,·)=Dk o:=by cases o <;> rfl
def Yl(c x y:Option SV):Option (Prop × SV):=
 match c with
 | some (.v (.K0 (.bool true)))=>Dk x
 | some (.v (.K0 (.bool false)))=>Dk y
 | _=>none
theorem xp0(x y:Option SV):Yl (some (.v (.K0 (.bool true)))) x y=Dk x:=rfl
theorem xq0(x y:Option SV):Yl (some (.v (.K0 (.bool false)))) x y=Dk y:=rfl
def rK(P:Program)(op:BinOp)(t:TypeId)(x y:Option SV):Option (Prop × SV):=
 match x,y with
 | some (.v (.K0 (.int k a))),some (.v (.K0 (.int k' b)))=>if k=k' then mY op k a b else SN op k a b
 | some (.v (.K0 (.bool a))),some (.v (.K0 (.bool b)))=>
  if Sz P t then
   match op with
   | .eql=>some (True,.v (.K0 (.bool (a==b))))
   | .neq=>some (True,.v (.K0 (.bool (!(a==b)))))
   | _=>none
  else none
 | some (.v (.ref _)),some (.v (.K0 (.pointer none)))=>if rI P t then vK op false else none
 | some (.v (.K0 (.pointer none))),some (.v (.K0 (.pointer none)))=>if rI P t then vK op true else none
 | some (.v (.soft _ _)),some (.v (.K0 (.pointer none)))=>if rI P t then vK op false else none
 | _,_=>none
theorem pX0(h:rI P t=true)(cs:List DV)(ok:Bool):rK P .eql t (some (.v (.soft cs ok))) (some (.v (.K0 (.pointer none))))=some (True,.v (.K0 (.bool false))):=by simp[rK,h,vK]
theorem pY0(h:rI P t=true)(cs:List DV)(ok:Bool):rK P .neq t (some (.v (.soft cs ok))) (some (.v (.K0 (.pointer none))))=some (True,.v (.K0 (.bool true))):=by simp[rK,h,vK]
theorem ta0(P:Program)(t:TypeId)(a b:Int):rK P .shl t (some (.v (.K0 (.int .u32 a)))) (some (.v (.K0 (.int .i64 b))))=some (0<=b,.v (.K0 (.int .u32 (SM .u32 a b)))):=rfl
theorem tb0(P:Program)(t:TypeId)(a b:Int):rK P .shr t (some (.v (.K0 (.int .u32 a)))) (some (.v (.K0 (.int .i64 b))))=some (0<=b/\y6 .u32 (BI .u32 a b),.v (.K0 (.int .u32 (BI .u32 a b)))):=rfl
theorem pZ0(k:IntKind)(a b:Int):mY .and k a b=some (True,.v (.K0 (.int k (EQ k a b)))):=rfl
theorem tc0(k:IntKind)(a b:Int):mY .or k a b=some (True,.v (.K0 (.int k (SY k a b)))):=rfl
theorem p00(h:rI P t=true)(cs:List DV):rK P .neq t (some (.v (.ref cs))) (some (.v (.K0 (.pointer none))))=some (True,.v (.K0 (.bool true))):=by simp[rK,h,vK]
theorem p20(h:rI P t=true):rK P .eql t (some (.v (.K0 (.pointer none)))) (some (.v (.K0 (.pointer none))))=some (True,.v (.K0 (.bool true))):=by simp[rK,h,vK]
theorem p30(h:rI P t=true):rK P .neq t (some (.v (.K0 (.pointer none)))) (some (.v (.K0 (.pointer none))))=some (True,.v (.K0 (.bool false))):=by simp[rK,h,vK]
theorem td0(P:Program)(op:BinOp)(t:TypeId)(k:IntKind)(a b:Int):rK P op t (some (.v (.K0 (.int k a)))) (some (.v (.K0 (.int k b))))=mY op k a b:=by simp[rK]
theorem p40(k:IntKind)(a b:Int):mY .add k a b=some (y6 k (a+b),.v (.K0 (.int k (a+b)))):=rfl
theorem p50(k:IntKind)(a b:Int):mY .sub k a b=some (y6 k (a - b),.v (.K0 (.int k (a - b)))):=rfl
theorem p60(k:IntKind)(a b:Int):mY .mul k a b=some (y6 k (a * b),.v (.K0 (.int k (a * b)))):=rfl
theorem p70(k:IntKind)(a b:Int):mY .rem k a b=some (b≠0/\y6 k (a.tmod b),.v (.K0 (.int k (a.tmod b)))):=rfl
theorem p80(k:IntKind)(a b:Int):mY .quo k a b=some (b≠0/\y6 k (a.tdiv b),.v (.K0 (.int k (a.tdiv b)))):=rfl
theorem p90(k:IntKind)(a b:Int):mY .eql k a b=some (True,.v (.K0 (.bool (decide (a=b))))):=rfl
theorem qa0(k:IntKind)(a b:Int):mY .neq k a b=some (True,.v (.K0 (.bool (!decide (a=b))))):=rfl
theorem qb0(k:IntKind)(a b:Int):mY .lss k a b=some (True,.v (.K0 (.bool (decide (a<b))))):=rfl
theorem qc0(k:IntKind)(a b:Int):mY .leq k a b=some (True,.v (.K0 (.bool (decide (a<=b))))):=rfl
theorem qd0(k:IntKind)(a b:Int):mY .gtr k a b=some (True,.v (.K0 (.bool (decide (b<a))))):=rfl
theorem qe0(k:IntKind)(a b:Int):mY .geq k a b=some (True,.v (.K0 (.bool (decide (b<=a))))):=rfl
def YQ(op:UnOp)(x:Option SV):Option (Prop × SV):=
 match op,x with
 | .not,some (.v (.K0 (.bool b)))=>some (True,.v (.K0 (.bool (!b))))
 | .neg,some (.v (.K0 (.int k n)))=>some (y6 k (0 - n),.v (.K0 (.int k (0 - n))))
 | _,_=>none
theorem xr0(b:Bool):YQ .not (some (.v (.K0 (.bool b))))=some (True,.v (.K0 (.bool (!b)))):=rfl
theorem xs0(k:IntKind)(n:Int):YQ .neg (some (.v (.K0 (.int k n))))=some (y6 k (0 - n),.v (.K0 (.int k (0 - n)))):=rfl
def YR(o:Option DV):Option (Prop × SV):=o.map fun c=>(True,.v c)
theorem te0(c:DV):YR (some c)=some (True,.v c):=rfl
def exV(x:Option SV)(i:Nat):Option (Prop × SV):=
 match x with
 | some (.v (.H1 cs))=>YR cs[i]?
 | _=>none
theorem tf0(cs:List DV)(i:Nat):exV (some (.v (.H1 cs))) i=YR cs[i]?:=rfl
def Ki(f:Option (Bool × Nat × Nat))(x:Option SV):Option (Prop × SV):=
 match f,x with
 | some (_,Y8,_),some (.loc k off)=>some (True,.loc k (off+Y8))
 | some (_,Y8,_),some (.dp els i off)=>some (True,.dp els i (off+Y8))
 | some (_,Y8,_),some (.v (.K0 (.pointer (some ⟨b,off,none⟩))))=>some (True,.v (.K0 (.pointer (some ⟨b,off+Y8,none⟩))))
 | some (_,Y8,_),some (.v (.ref cs))=>some (True,.dp [cs] 0 Y8)
 | some (_,Y8,_),some (.v (.soft cs ok))=>if Y8=cs.length then some (True,.v (.flag ok)) else some (True,.dp [cs] 0 Y8)
 | _,_=>none
theorem tg0(b:Bool)(n Y8:Nat)(cs:List DV)(ok:Bool):Ki (some (b,Y8,n)) (some (.v (.soft cs ok)))=if Y8=cs.length then some (True,.v (.flag ok)) else some (True,.dp [cs] 0 Y8):=rfl
theorem xt0(b:Bool)(n Y8:Nat)(cs:List DV):Ki (some (b,Y8,n)) (some (.v (.ref cs)))=some (True,.dp [cs] 0 Y8):=rfl
theorem xu0(b:Bool)(n Y8 k off:Nat):Ki (some (b,Y8,n)) (some (.loc k off))=some (True,.loc k (off+Y8)):=rfl
theorem An0(b:Bool)(n Y8 i off:Nat)(els:List (List DV)):Ki (some (b,Y8,n)) (some (.dp els i off))=some (True,.dp els i (off+Y8)):=rfl
theorem xv0(b:Bool)(n Y8 k off:Nat):Ki (some (b,Y8,n)) (some (.v (.K0 (.pointer (some ⟨k,off,none⟩)))))=some (True,.v (.K0 (.pointer (some ⟨k,off+Y8,none⟩)))):=rfl
def YS(y:DV)(o:Option DV):Option (Prop × SV):=o.map fun c=>(y.isAgg=true,.v c)
theorem th0(y c:DV):YS y (some c)=some (y.isAgg=true,.v c):=rfl
def fdV(f:Option (Bool × Nat × Nat))(x:Option SV):Option (Prop × SV):=
 match f,x with
 | some (agg,off,n),some (.v y)=>YS y (pJ (aL y) agg off n)
 | _,_=>none
theorem ti0(agg:Bool)(off n:Nat)(y:DV):fdV (some (agg,off,n)) (some (.v y))=YS y (pJ (aL y) agg off n):=rfl
theorem qf0(cs:List DV)(off n:Nat):pJ cs false off n=cs[off]?:=rfl
def YT(n:Nat)(ds:List DV):Option DV:=if ds.length=n then some (.agg ds) else none
theorem tj0(h:ds.length=n):YT n ds=some (.agg ds):=by simp[YT,h]
theorem qg0(cs:List DV)(off n:Nat):pJ cs true off n=YT n ((cs.drop off).take n):=rfl
theorem qh0(cs:List DV):DV.isAgg (.agg cs)=true:=rfl
def SZ(n:Nat):Option (List DV)->Option SV
 | some ds=>if ds.length=n then some (.v (.agg ds)) else none
 | none=>none
theorem tk0(h:ds.length=n):SZ n (some ds)=some (.v (.agg ds)):=by simp[SZ,h]
theorem lQ0(cs:List SV)(off n:Nat):CE cs false off n=cs[off]?:=rfl
theorem lR0(cs:List SV)(off n:Nat):CE cs true off n=SZ n (bZ ((cs.drop off).take n)):=by
 simp only[CE,if_true,SZ];cases bZ ((cs.drop off).take n) <;> rfl
def GQ(lay:Option (Bool × Nat))(r:Option LV)(off:Nat):Option SV:=
 match lay,r with
 | some (agg,n),some (.row cs)=>CE cs agg off n
 | _,_=>none
theorem np0(agg:Bool)(n off:Nat)(cs:List SV):GQ (some (agg,n)) (some (.row cs)) off=CE cs agg off n:=rfl
def GW(lay:Option (Bool × Nat))(e:Option (List DV))(off:Nat):Option SV:=
 match lay,e with
 | some (agg,n),some e=>(pJ e agg off n).map .v
 | _,_=>none
theorem qi0(agg:Bool)(n off:Nat)(e:List DV):GW (some (agg,n)) (some e) off=(pJ e agg off n).map .v:=rfl
def Ak(P:Program)(g:Rd)(t:TypeId)(x:Option SV):Option SV:=
 match x with
 | some (.loc k off)=>GQ (G5 P t) (g (.loc k)) off
 | some (.dp els i off)=>GW (G5 P t) els[i]? off
 | some (.v (.K0 (.pointer (some ⟨b,off,none⟩))))=>GQ (G5 P t) (g (.heap b)) off
 | some (.v (.ref cs))=>GW (G5 P t) (some cs) 0
 | _=>none
theorem f30(t:TypeId)(y:SV):Ak X.P g t (some y)=loadAt X g t y:=by
 cases y with
 | loc k off=>
  simp only[Ak,GQ,loadAt];cases G5 X.P t <;> cases g (.loc k) <;> rfl
 | dp els i off=>
  simp only[Ak,GW,loadAt];cases G5 X.P t <;> cases els[i]? <;> rfl
 | own t els=>rfl
 | ag cs ns=>rfl
 | v x=>cases x with
  | K0 v=>cases v with
   | pointer p=>cases p with
    | none=>rfl
    | some a=>obtain⟨b,o,sp⟩:=a;cases sp with
     | none=>
      simp only[Ak,GQ,loadAt];cases G5 X.P t <;> cases g (.heap b) <;> rfl
     | some _=>rfl
   | _=>rfl
  | ref cs=>
   simp only[Ak,GW,loadAt];cases G5 X.P t <;> rfl
  | _=>rfl
theorem xw0(P:Program)(t:Nat)(cs:List DV):Ak P g t (some (.v (.ref cs)))=GW (G5 P t) (some cs) 0:=rfl
theorem xx0(P:Program)(t k off:Nat):Ak P g t (some (.loc k off))=GQ (G5 P t) (g (.loc k)) off:=rfl
theorem Ao0(P:Program)(t i off:Nat)(els:List (List DV)):Ak P g t (some (.dp els i off))=GW (G5 P t) els[i]? off:=rfl
theorem xy0(P:Program)(t b off:Nat):Ak P g t (some (.v (.K0 (.pointer (some ⟨b,off,none⟩)))))=GQ (G5 P t) (g (.heap b)) off:=rfl
def Ta(E:Nat)(els:List (List DV))(n:Int):Option (List DV)->Option (Prop × SV)
 | some e=>some (0<=n/\e.length=E,.dp els n.toNat 0)
 | none=>none
theorem tl0(E:Nat)(els:List (List DV))(n:Int)(e:List DV):Ta E els n (some e)=some (0<=n/\e.length=E,.dp els n.toNat 0):=rfl
def YU(len E j:Nat)(els:List (List DV))(n:Int):Option (List DV)->Option (Prop × SV)
 | some e=>some (0<=n/\n<len/\1<len/\e.length=E,.dp els (j+n.toNat) 0)
 | none=>none
theorem tm0(len E j:Nat)(els:List (List DV))(n:Int)(e:List DV):YU len E j els n (some e)=some (0<=n/\n<len/\1<len/\e.length=E,.dp els (j+n.toNat) 0):=rfl
def EV(el:Option Nat)(ar:Option (Nat × Nat))(x i:Option SV):Option (Prop × SV):=
 match x,i with
 | some y,some (.v (.K0 (.int _ n)))=>
  match el,dN y with
  | some E,some els=>Ta E els n els[n.toNat]?
  | _,_=>match ar,y with
   | some (len,E),.loc k off=>some (0<=n/\n<len/\1<len,.loc k (off+n.toNat * E))
   | some (len,E),.dp els j 0=>YU len E j els n els[j+n.toNat]?
   | some (len,E),.dp els j (off+1)=>some (0<=n/\n<len/\1<len,.dp els j (off+1+n.toNat * E))
   | some (len,E),.v (.K0 (.pointer (some ⟨b,off,none⟩)))=>some (0<=n/\n<len/\1<len,.v (.K0 (.pointer (some ⟨b,off+n.toNat * E,none⟩))))
   | _,.v (.K0 (.slice (some ⟨b,off,none⟩) len _))=>match el with
    | some E=>some (0<=n/\n<len,.v (.K0 (.pointer (some ⟨b,off+n.toNat * E,none⟩))))
    | none=>none
   | _,_=>none
 | _,_=>none
theorem Dx0(E:Nat)(ar:Option (Nat × Nat))(els:List (List DV))(k:IntKind)(n:Int):EV (some E) ar (some (.v (.sl els))) (some (.v (.K0 (.int k n))))=Ta E els n els[n.toNat]?:=rfl
theorem xz0(E:Nat)(ar:Option (Nat × Nat))(t:Nat)(els:List (List DV))(k:IntKind)(n:Int):EV (some E) ar (some (.own t els)) (some (.v (.K0 (.int k n))))=Ta E els n els[n.toNat]?:=rfl
theorem xA0(len E k off:Nat)(kk:IntKind)(n:Int):EV none (some (len,E)) (some (.loc k off)) (some (.v (.K0 (.int kk n))))=some (0<=n/\n<len/\1<len,.loc k (off+n.toNat * E)):=rfl
theorem xB0(len E b off:Nat)(kk:IntKind)(n:Int):EV none (some (len,E)) (some (.v (.K0 (.pointer (some ⟨b,off,none⟩))))) (some (.v (.K0 (.int kk n))))=some (0<=n/\n<len/\1<len,.v (.K0 (.pointer (some ⟨b,off+n.toNat * E,none⟩)))):=rfl
theorem xC0(E:Nat)(ar:Option (Nat × Nat))(b off len cap:Nat)(kk:IntKind)(n:Int):EV (some E) ar (some (.v (.K0 (.slice (some ⟨b,off,none⟩) len cap)))) (some (.v (.K0 (.int kk n))))=some (0<=n/\n<len,.v (.K0 (.pointer (some ⟨b,off+n.toNat * E,none⟩)))):=by cases ar <;> rfl
theorem xD0(len E j:Nat)(els:List (List DV))(kk:IntKind)(n:Int):EV none (some (len,E)) (some (.dp els j 2)) (some (.v (.K0 (.int kk n))))=some (0<=n/\n<len/\1<len,.dp els j (2+n.toNat * E)):=rfl
theorem Ap0(len E j:Nat)(els:List (List DV))(kk:IntKind)(n:Int):EV none (some (len,E)) (some (.dp els j 0)) (some (.v (.K0 (.int kk n))))=YU len E j els n els[j+n.toNat]?:=rfl
def NA(cs:List SV):Option (List DV)->Option (Prop × SV)
 | some ds=>if fI ds then some (True,.ag ds (lV 0 cs)) else none
 | none=>none
theorem tn0{cs:List SV}(h:fI ds=true):NA cs (some ds)=some (True,.ag ds (lV 0 cs)):=by simp[NA,h]
def YV:Option (List SV)->Option (Prop × SV)
 | some cs=>NA cs (bZ cs)
 | none=>none
theorem to0(cs:List SV):YV (some cs)=NA cs (bZ cs):=rfl
def blV(X:Ctx)(g:Rd)(z:Option (List SV))(pl:Option (List (Nat × Nat)))(parts:List (Nat × Operand)):Option (Prop × SV):=
 match z,pl with
 | some z,some pl=>YV (BC pl X g z parts)
 | _,_=>none
theorem tp0(z:List SV)(pl:List (Nat × Nat))(parts:List (Nat × Operand)):blV X g (some z) (some pl) parts=YV (BC pl X g z parts):=rfl
theorem qj0(pl:List (Nat × Nat))(cells:List SV):BC pl X g cells []=some cells:=rfl
def Ym(pl:List (Nat × Nat))(X:Ctx)(g:Rd)(cells:List SV)(rest:List (Nat × Operand))(p:Option (Nat × Nat))(y:Option SV):Option (List SV):=
 match p,y with
 | some (off,size),some y=>if (P7 y).length=size/\off+size<=cells.length then BC pl X g (put cells off (P7 y)) rest else none
 | _,_=>none
theorem nq0(pl:List (Nat × Nat))(cells:List SV)(i:Nat)(x:Operand)(rest:List (Nat × Operand)):BC pl X g cells ((i,x)::rest)=Ym pl X g cells rest pl[i]? (M2 X g x):=rfl
theorem nr0{pl:List (Nat × Nat)}{cells:List SV}{rest:List (Nat × Operand)}{size:Nat}(h:(P7 y).length=size/\off+size<=cells.length):
  Ym pl X g cells rest (some (off,size)) (some y)=BC pl X g (put cells off (P7 y)) rest:=by simp[Ym,h]
def ifV(b:Bool)(t:TypeId):Option DV->Option (Prop × SV)
 | some y=>if b then some (True,.v (.iface t y)) else none
 | none=>none
theorem tq0(t:TypeId)(y:DV):ifV true t (some y)=some (True,.v (.iface t y)):=rfl
def EW(x:Option SV):Option (Prop × SV):=
 match x with
 | some (.loc k off)=>some (True,.loc k off)
 | some (.dp els i off)=>some (True,.dp els i off)
 | some (.v (.K0 (.pointer (some a))))=>some (True,.v (.K0 (.pointer (some a))))
 | some (.v (.K0 (.func (.func f) x y)))=>some (True,.v (.K0 (.func (.func f) x y)))
 | some (.v (.ref cs))=>some (True,.v (.ref cs))
 | some (.v (.soft cs ok))=>some (True,.v (.soft cs ok))
 | some (.v (.flag ok))=>some (True,.v (.flag ok))
 | _=>none
theorem xE0(cs:List DV):EW (some (.v (.ref cs)))=some (True,.v (.ref cs)):=rfl
theorem Aq0(a:TypeId)(z:Option Value)(y:DV):Di true a false z (some (.v (.iface a y)))=some (True,.v y):=by simp[Di]
theorem Ar0(a:TypeId)(z:Option Value)(y:DV):Di true a true z (some (.v (.iface a y)))=some (True,.v (.H1 [y,.K0 (.bool true)])):=by simp[Di]
theorem xF0{t a:Nat}(h:(t==a)=false)(z:Value)(y:DV):Di true a true (some z) (some (.v (.iface t y)))=some (True,.v (.H1 [.K0 z,.K0 (.bool false)])):=by
 have h:t≠a:=by simpa using h
 simp[Di,h]
theorem tr0(cs:List DV)(ok:Bool):EW (some (.v (.soft cs ok)))=some (True,.v (.soft cs ok)):=rfl
theorem ts0(ok:Bool):EW (some (.v (.flag ok)))=some (True,.v (.flag ok)):=rfl
theorem xG0(k off:Nat):EW (some (.loc k off))=some (True,.loc k off):=rfl
theorem As0(els:List (List DV))(k off:Nat):EW (some (.dp els k off))=some (True,.dp els k off):=rfl
theorem xH0(a:Addr):EW (some (.v (.K0 (.pointer (some a)))))=some (True,.v (.K0 (.pointer (some a)))):=rfl
theorem tt0(f:Nat)(x y:Array Value):EW (some (.v (.K0 (.func (.func f) x y))))=some (True,.v (.K0 (.func (.func f) x y))):=rfl
def cvV(x:Option SV)(a b:Option IntKind):Option (Prop × SV):=
 match x,a,b with
 | some (.v (.K0 (.int _ n))),some _,some k=>some (y6 k n,.v (.K0 (.int k n)))
 | _,_,_=>none
theorem tu0(k0 a k:IntKind)(n:Int):cvV (some (.v (.K0 (.int k0 n)))) (some a) (some k)=some (y6 k n,.v (.K0 (.int k n))):=rfl
def Kj(x:Option SV)(r:Option (List Value)):Option (List Value):=
 match x,r with
 | some (.v (.K0 v)),some vs=>some (v::vs)
 | _,_=>none
theorem tv0(v:Value)(vs:List Value):Kj (some (.v (.K0 v))) (some vs)=some (v::vs):=rfl
theorem tw0:Aa X g []=some []:=rfl
theorem qk0(x:Operand)(r:List Operand):Aa X g (x::r)=Kj (M2 X g x) (Aa X g r):=by
 simp only[Aa];rfl
def YW(fn:Fn)(x y:Option (List Value))(z:Option (List DV)):Option (Prop × SV):=
 match x,y with
 | some fi,some ca=>some (True,.v (.K0 (.func fn fi.toArray ca.toArray)))
 | some [],none=>match fn,z with
  | .func f,some ds=>some (True,.v (.m6 f ds))
  | _,_=>none
 | _,_=>none
theorem tx0(fn:Fn)(fi ca:List Value)(z:Option (List DV)):YW fn (some fi) (some ca) z=some (True,.v (.K0 (.func fn fi.toArray ca.toArray))):=by cases fi <;> rfl
theorem xI0(f:FuncId)(ds:List DV):YW (.func f) (some []) none (some ds)=some (True,.v (.m6 f ds)):=rfl
theorem xJ0(cs:List DV)(r:Option (List Value)):Kj (some (.v (.ref cs))) r=none:=rfl
theorem xK0(f:FuncId)(cs:List DV)(r:Option (List Value)):Kj (some (.v (.m6 f cs))) r=none:=rfl
theorem tz0(x:Option SV):Kj x none=none:=by unfold Kj;split <;> simp_all
def YX(d:Nat):Option SV->Option Int
 | some (.v (.K0 (.int _ n)))=>some n
 | _=>none
theorem tA0(d:Nat)(k:IntKind)(n:Int):YX d (some (.v (.K0 (.int k n))))=some n:=rfl
theorem ns0(d:Nat):bN X g d none=some (d:Int):=rfl
theorem nt0(d:Nat)(x:Operand):bN X g d (some x)=YX d (M2 X g x):=by
 unfold bN YX;rfl
def YY(E:Nat)(els:List (List DV))(l h:Option Int):Option (Prop × SV):=
 match l,h with
 | some l,some h=>some (0<=l/\l<=h/\h<=els.length/\∀e∈els,e.length=E,.v (.sl ((els.take h.toNat).drop l.toNat)))
 | _,_=>none
theorem tB0(E:Nat)(els:List (List DV))(l h:Int):YY E els (some l) (some h)=some (0<=l/\l<=h/\h<=els.length/\∀e∈els,e.length=E,.v (.sl ((els.take h.toNat).drop l.toNat))):=rfl
def Tb(X:Ctx)(g:Rd)(el:Option Nat)(x:Option (List (List DV)))(y:Option SV)(lo hi:Option Operand):Option (Prop × SV):=
 match el,x with
 | some E,some els=>YY E els (bN X g 0 lo) (bN X g els.length hi)
 | _,_=>match el,y,bN X g 0 lo with
  | some _,some (.v (.K0 (.slice (some ⟨b,o,none⟩) n cap))),some l=>match bN X g n hi with
   | some h=>some (l=0/\0<=h/\h<=cap,.v (.K0 (.slice (some ⟨b,o,none⟩) h.toNat cap)))
   | none=>none
  | _,_,_=>none
theorem tC0(E:Nat)(els:List (List DV))(y:Option SV)(lo hi:Option Operand):Tb X g (some E) (some els) y lo hi=YY E els (bN X g 0 lo) (bN X g els.length hi):=rfl
def YZ(b o cap:Nat)(l h:Option Int):Option (Prop × SV):=
 match l,h with
 | some l,some h=>some (l=0/\0<=h/\h<=cap,.v (.K0 (.slice (some ⟨b,o,none⟩) h.toNat cap)))
 | _,_=>none
theorem tD0(b o cap:Nat)(l h:Int):YZ b o cap (some l) (some h)=some (l=0/\0<=h/\h<=cap,.v (.K0 (.slice (some ⟨b,o,none⟩) h.toNat cap))):=rfl
theorem xL0(E b o n cap:Nat)(lo hi:Option Operand):Tb X g (some E) none (some (.v (.K0 (.slice (some ⟨b,o,none⟩) n cap)))) lo hi=YZ b o cap (bN X g 0 lo) (bN X g n hi):=by
 simp only[Tb];cases h1:bN X g 0 lo with
 | none=>rfl
 | some l=>cases h2:bN X g n hi <;> simp[YZ,h2]
def Za(el:Option Nat)(x:Option (List (List DV)))(y:Option SV):Option (Prop × SV):=
 match el,x with
 | some _,some els=>some (True,.v (.K0 (.int .i64 els.length)))
 | _,_=>match el,y with
  | some _,some (.v (.K0 (.slice _ n _)))=>some (n<=M5,.v (.K0 (.int .i64 n)))
  | _,_=>none
theorem tE0(E:Nat)(els:List (List DV))(y:Option SV):Za (some E) (some els) y=some (True,.v (.K0 (.int .i64 els.length))):=rfl
theorem xM0(E:Nat)(q:Option Addr)(n c:Nat):Za (some E) none (some (.v (.K0 (.slice q n c))))=some (n<=M5,.v (.K0 (.int .i64 n))):=rfl
def Zb(x y:Option SV):Option (Prop × SV):=
 match x,y with
 | some (.v (.K0 (.int k a))),some (.v (.K0 (.int _ b)))=>some (y6 k b,.v (.K0 (.int k (if b > a then b else a))))
 | _,_=>none
theorem tF0(k k':IntKind)(a b:Int):Zb (some (.v (.K0 (.int k a)))) (some (.v (.K0 (.int k' b))))=some (y6 k b,.v (.K0 (.int k (max a b)))):=by
 simp only[Zb,uC,uD,true_and,b7.injEq,rY.injEq,Value.int.injEq];split <;> omega
section
variable(L1:List Nat)(d:Tmp)(ty:TypeId)(pos:String)(af:Array Edge)(gd:Option (Nat × Bool))
theorem Dy0(x:Operand):H4 X L1 s ⟨some d,.move x,ty,pos,af,gd⟩=m8 (Q9 d L1) (A9 X s (some d) (Dk (M2 X (get s) x))):=by simp only[H4,N8,fK,m8,RN]
theorem xN0(x:Operand):H4 X L1 s ⟨some d,.assign x,ty,pos,af,gd⟩=m8 (Q9 d L1) (A9 X s (some d) (Dk (M2 X (get s) x))):=by simp only[H4,N8,fK,m8,RN]
theorem Dz0(c x y:Operand):H4 X L1 s ⟨some d,.pick c x y,ty,pos,af,gd⟩=m8 (Q9 d L1) (A9 X s (some d) (Yl (M2 X (get s) c) (M2 X (get s) x) (M2 X (get s) y))):=by
 simp only[H4,N8,fK,m8,RN];rfl
theorem E60(op:BinOp)(t yt:TypeId)(x y:Operand):H4 X L1 s ⟨some d,.binOp op t x y yt,ty,pos,af,gd⟩=m8 (Q9 d L1) (A9 X s (some d) (rK X.P op t (M2 X (get s) x) (M2 X (get s) y))):=by
 simp only[H4,N8,fK,m8];rfl
theorem sUn(op:UnOp)(t:TypeId)(x:Operand):H4 X L1 s ⟨some d,.unOp op t x,ty,pos,af,gd⟩=m8 (Q9 d L1) (A9 X s (some d) (YQ op (M2 X (get s) x))):=by
 simp only[H4,N8,fK,m8];rfl
theorem tG0(x:Operand)(i:Nat):H4 X L1 s ⟨some d,.extract x i,ty,pos,af,gd⟩=m8 (Q9 d L1) (A9 X s (some d) (exV (M2 X (get s) x) i)):=by
 simp only[H4,N8,fK,m8];rfl
theorem At0(t:TypeId)(x:Operand)(f:Nat):H4 X L1 s ⟨some d,.field t x f,ty,pos,af,gd⟩=m8 (Q9 d L1) (A9 X s (some d) (fdV (M4 X.P t f) (M2 X (get s) x))):=by
 simp only[H4,N8,fK,m8];rfl
theorem nu0(t:TypeId)(x:Operand)(f:Nat):H4 X L1 s ⟨some d,.fieldAddr t x f,ty,pos,af,gd⟩=m8 (Q9 d L1) (A9 X s (some d) (Ki (M4 X.P t f) (M2 X (get s) x))):=by
 simp only[H4,N8,fK,m8];rfl
theorem nv0(t:TypeId)(x i:Operand):H4 X L1 s ⟨some d,.indexAddr t x i,ty,pos,af,gd⟩=m8 (Q9 d L1) (A9 X s (some d) (EV (X7 X.P t) (Dd X.P t) (M2 X (get s) x) (M2 X (get s) i))):=by
 simp only[H4,N8,fK,m8];rfl
theorem DA0(t:TypeId)(x:Operand):H4 X L1 s ⟨some d,.load t x,ty,pos,af,gd⟩=m8 (Q9 d L1) (A9 X s (some d) (Dk (Ak X.P (get s) t (M2 X (get s) x)))):=by
 simp only[H4,N8,fK,m8,RN]
 congr 4
 cases M2 X (get s) x with
 | none=>rfl
 | some y=>exact (f30 t y).symm
theorem Au0(t:TypeId)(parts:Array (Nat × Operand)):H4 X L1 s ⟨some d,.build t parts,ty,pos,af,gd⟩=m8 (Q9 d L1) (A9 X s (some d) (blV X (get s) (K7 X.P t) (aK X.P t) parts.toList)):=by
 simp only[H4,N8,fK,m8];rfl
theorem nw0(t:TypeId)(x:Operand):H4 X L1 s ⟨some d,.makeInterface t x,ty,pos,af,gd⟩=m8 (Q9 d L1) (A9 X s (some d) (ifV (zW X.P t) t ((M2 X (get s) x).bind kR))):=by
 simp only[H4,N8,fK,m8];rfl
theorem ql0(x:Operand):H4 X L1 s ⟨some d,.nilCheck x,ty,pos,af,gd⟩=m8 (Q9 d L1) (A9 X s (some d) (EW (M2 X (get s) x))):=by
 simp only[H4,N8,fK,m8];rfl
theorem lS0(x:Operand)(xt at':TypeId)(ok:Bool):H4 X L1 s ⟨some d,.typeAssert x xt at' ok,ty,pos,af,gd⟩=m8 (Q9 d L1) (A9 X s (some d) (Di (zW X.P at') at' ok (GP X.P at') (M2 X (get s) x))):=by
 simp only[H4,N8,fK,m8];rfl
theorem tH0(a b:TypeId)(x:Operand):H4 X L1 s ⟨some d,.convert a b x,ty,pos,af,gd⟩=m8 (Q9 d L1) (A9 X s (some d) (cvV (M2 X (get s) x) (EP X.P a) (EP X.P b))):=by
 simp only[H4,N8,fK,m8];rfl
theorem qm0(fn:Fn)(fi ca:Array Operand):H4 X L1 s ⟨some d,.makeFunc fn fi ca,ty,pos,af,gd⟩=m8 (Q9 d L1) (A9 X s (some d) (YW fn (Aa X (get s) fi.toList) (Aa X (get s) ca.toList) (aZ X (get s) ca.toList))):=by
 simp only[H4,N8,fK,m8];rfl
theorem Av0(t:TypeId)(x:Operand)(lo hi:Option Operand):H4 X L1 s ⟨some d,.slice t x lo hi none,ty,pos,af,gd⟩=m8 (Q9 d L1) (A9 X s (some d) (Tb X (get s) (X7 X.P t) ((M2 X (get s) x).bind dN) (M2 X (get s) x) lo hi)):=by
 simp only[H4,N8,fK,m8];rfl
theorem xO0(t:TypeId)(x m:Operand)(lo hi:Option Operand):H4 X L1 s ⟨some d,.slice t x lo hi (some m),ty,pos,af,gd⟩=m8 (Q9 d L1) (Jg X s (some d) (X7 X.P t) ((M2 X (get s) x).bind dN) (bN X (get s) 0 lo) (JZ X s x hi) (bN X (get s) 0 (some m)) hi.isSome):=by
 simp only[H4,fK,m8];rfl
theorem E70(t:TypeId)(x:Operand):H4 X L1 s ⟨some d,.call { callee:=.builtin .len,args:=#[x],argTypes:=#[t] },ty,pos,af,gd⟩=m8 (Q9 d L1) (A9 X s (some d) (Za (X7 X.P t) ((M2 X (get s) x).bind dN) (M2 X (get s) x))):=by
 simp only[H4,N8,fK,m8,dA,oB];rfl
theorem E80(ts:Array TypeId)(x y:Operand):H4 X L1 s ⟨some d,.call { callee:=.builtin .max,args:=#[x,y],argTypes:=ts },ty,pos,af,gd⟩=m8 (Q9 d L1) (A9 X s (some d) (Zb (M2 X (get s) x) (M2 X (get s) y))):=by
 simp only[H4,N8,fK,m8,dA,oB];rfl
theorem Aw0(t:TypeId):H4 X L1 s ⟨some d,.alloc t,ty,pos,af,gd⟩=m8 (Q9 d L1) (Js X s (some d) (K7 X.P t)):=by simp only[H4,fK,m8];rfl
def Zc(b:Bool)(x y:Option (Prop × St)):Option (Prop × St):=if b then x else y
theorem DB0(x y:Option (Prop × St)):Zc true x y=x:=rfl
theorem DC0(x y:Option (Prop × St)):Zc false x y=y:=rfl
def Zd(X:Ctx)(s:St)(d:Nat)(o:Option (List DV)):Option (Prop × St):=
 match o with
 | some cs=>if fI cs&&A8 d s then some (d<X.n,L2 s (.P0 d) (.one (.v (.ref cs)))) else none
 | none=>none
theorem tI0{d:Nat}(h:(fI cs&&A8 d s)=true):Zd X s d (some cs)=some (d<X.n,L2 s (.P0 d) (.one (.v (.ref cs)))):=by simp only[Zd,h,if_true]
theorem qn0(d:Nat)(y:SV):MQ X s (some d) (some y)=Zd X s d (bZ (P7 y)):=rfl
theorem E90(t:TypeId)(x:Operand):H4 X L1 s ⟨some d,.box t x,ty,pos,af,gd⟩=m8 (Q9 d L1) (Zc (Q9 (d+1000000) L1) (MQ X s (some d) (M2 X (get s) x)) (JS X s (some d) (M2 X (get s) x))):=by simp only[H4,fK,gQ0,m8];rfl
theorem Ax0(t:TypeId)(p x:Operand):H4 X L1 s ⟨none,.store t p x,ty,pos,af,gd⟩=Ep s (G5 X.P t) (M2 X (get s) p) (M2 X (get s) x):=by simp only[H4,fK];rfl
def Ze(X:Ctx)(s:St)(d:Tmp)(len:Nat)(parts:List (Nat × Operand)):Option (Nat × Nat)->Option (Prop × St)
 | some (E,B)=>JU X s (some d) len (some (E,B)) (mU X (get s) E 0 parts)
 | none=>none
theorem tJ0(len E B:Nat)(parts:List (Nat × Operand)):Ze X s d len parts (some (E,B))=JU X s (some d) len (some (E,B)) (mU X (get s) E 0 parts):=rfl
theorem lT0(t len:Nat)(parts:Array (Nat × Operand)):H4 X L1 s ⟨some d,.buildSlice t len parts,ty,pos,af,gd⟩=m8 (Q9 d L1) (Ze X s d len parts.toList (l9 X.P t)):=by
 simp only[H4,fK,m8,Ze];cases l9 X.P t <;> rfl
theorem xP0(t t2:TypeId)(x y:Operand):H4 X L1 s ⟨some d,.call { callee:=.builtin .append,args:=#[x,y],argTypes:=#[t,t2] },ty,pos,af,gd⟩ =
  m8 (Q9 d L1) (Jf X s (some d) (l9 X.P t) (X7 X.P t2).isSome (M2 X (get s) x) ((M2 X (get s) y).bind dN)):=by
 simp only[H4,fK,m8,dA];rfl
end
theorem la0{cs:List SV}(h:(fZ cs&&A8 d s&&!eH d cs)=true):Js X s (some d) (some cs)=some (d<X.n,L2 (L2 s (.P0 d) (.one (.loc d 0))) (.loc d) (.row cs)):=by simp only[Js,h,if_true]
theorem nx0(h:(fZ (P7 y)&&A8 d s&&!jS d y)=true):JS X s (some d) (some y)=some (d<X.n,L2 (L2 s (.P0 d) (.one (.loc d 0))) (.loc d) (.row (P7 y))):=by simp only[JS,h,if_true]
def Zf(s:St)(k off n:Nat)(xs:List SV):Option LV->Option (Prop × St)
 | some (.row cs)=>if fZ xs then some (xs.length=n/\off+n<=cs.length,L2 s (.loc k) (.row (put cs off xs))) else none
 | _=>none
theorem tK0{xs cs:List SV}(h:fZ xs=true):Zf s k off n xs (some (.row cs))=some (xs.length=n/\off+n<=cs.length,L2 s (.loc k) (.row (put cs off xs))):=by simp[Zf,h]
theorem lU0(k off n:Nat)(b:Bool)(y:SV):Ep s (some (b,n)) (some (.loc k off)) (some y)=Zf s k off n (P7 y) (get s (.loc k)):=by
 simp only[Ep];rfl
def Zg(s:St)(b off n:Nat)(xs:Option (List SV)):Option LV->Option (Prop × St)
 | some (.row cs)=>match xs with
  | some ys=>if fZ ys then some (ys.length=n/\off+n<=cs.length,L2 s (.heap b) (.row (put cs off ys))) else none
  | none=>none
 | _=>none
theorem tL0{ys cs:List SV}(h:fZ ys=true):Zg s b off n (some ys) (some (.row cs))=some (ys.length=n/\off+n<=cs.length,L2 s (.heap b) (.row (put cs off ys))):=by simp[Zg,h]
theorem lV0(b off n:Nat)(bb:Bool)(y:SV):Ep s (some (bb,n)) (some (.v (.K0 (.pointer (some ⟨b,off,none⟩))))) (some y)=Zg s b off n (vL (P7 y)) (get s (.heap b)):=by
 simp only[Ep];cases get s (.heap b) with
 | none=>rfl
 | some u=>cases u with
  | row cs=>cases vL (P7 y) <;> rfl
  | _=>rfl
theorem tM0:vL []=some []:=rfl
theorem Ay0(x:DV)(r:List SV):vL (.v x::r)=(vL r).map (b7 x::·):=by
 simp only[vL,asV];cases vL r <;> rfl
theorem ny0(d len E B:Nat)(els:List (List DV)):JU X s (some d) len (some (E,B)) (some els)=some (d<X.n/\els.length=len/\len * E<=16777216/\len<=M5,L2 s (.P0 d) (.one (.v (.sl els)))):=rfl
theorem nz0(E n:Nat):mU X g E n []=some []:=rfl
def Tc(ds:Option (List DV))(E:Nat)(rest:Option (List (List DV))):Option (List (List DV)):=
 match ds with
 | some ds=>if ds.length=E then if fI ds then rest.map (ds::·) else none else none
 | none=>none
theorem tN0(h:ds.length=E/\fI ds=true)(rest:Option (List (List DV))):Tc (some ds) E rest=rest.map (ds::·):=by simp[Tc,h.1,h.2]
theorem lW0(E n:Nat)(x:Operand)(r:List (Nat × Operand)):mU X g E n ((n,x)::r)=Tc (((M2 X g x).map P7).bind bZ) E (mU X g E (n+1) r):=by
 simp only[mU,if_true,Tc];cases M2 X g x with
 | none=>rfl
 | some y=>
  simp only[Option.map_some,ay0];cases bZ (P7 y) with
  | none=>rfl
  | some ds=>
   simp only;split
   ·split;· cases mU X g E (n+1) r <;> rfl
    ·rfl
   ·rfl
theorem kN0{B t:Nat}{els:List (List DV)}(h:(a9 d s&&d != 0)=true):Jf X s (some d) (some (E,B)) true (some (.own t els)) (some ys) =
  some (d<X.n/\(0<B/\B<=1024)/\CF (get s) t E els.length/\els.length+ys.length<=M5/\(∀e∈els,e.length=E)/\(∀e∈ys,e.length=E),
    L2 (L2 (D8 s (.tok t)) (.P0 d) (.one (.own d (els++ys)))) (.tok d) (.tk E (els.length+ys.length))):=by simp only[Jf,Bool.true_and,h,if_true]
theorem lb0(g:Rd)(E n:Nat):CF g 0 E n=True:=by simp[CF]
theorem lc0{g:Rd}{t:Nat}(h:g (.tok t)=some (.tk E n)):CF g t E n=True:=by simp[CF,h]
theorem kO0{els:List (List DV)}{l h k:Int}{b:Bool}(hb:(a9 d s&&d != 0&&b)=true):Jg X s (some d) (some E) (some els) (some l) (some h) (some k) b =
  some (d<X.n/\0<=l/\l<=h/\h<=els.length/\h=k/\(∀e∈els,e.length=E),L2 (L2 (D8 s (.tok 0)) (.P0 d) (.one (.own d ((els.take h.toNat).drop l.toNat)))) (.tok d) (.tk E (h.toNat - l.toNat))):=by simp only[Jg,hb,if_true]
def Zh(X:Ctx)(s:St)(hi:Option Operand):Option (List (List DV))->Option Int
 | some els=>bN X (get s) els.length hi
 | none=>none
theorem xQ0(x:Operand)(hi:Option Operand):JZ X s x hi=Zh X s hi ((M2 X (get s) x).bind dN):=by
 unfold JZ Zh;cases (M2 X (get s) x).bind dN <;> rfl
theorem tO0(hi:Option Operand)(els:List (List DV)):Zh X s hi (some els)=bN X (get s) els.length hi:=rfl
theorem qo0:aZ X g []=some []:=rfl
def NB(y:Option DV)(r:Option (List DV)):Option (List DV):=
 match y,r with
 | some y,some r=>some (y::r)
 | _,_=>none
theorem tP0(y:DV)(r:List DV):NB (some y) (some r)=some (y::r):=rfl
theorem nA0(x:Operand)(r:List Operand):aZ X g (x::r)=NB ((M2 X g x).bind kR) (aZ X g r):=by
 simp only[aZ,NB];cases (M2 X g x).bind kR <;> cases aZ X g r <;> rfl
def NC:Option SV->Option DV
 | some x=>kR x
 | none=>none
theorem tQ0(x:SV):NC (some x)=kR x:=rfl
theorem nB0(t:Nat):CO X g (.tmp t)=NC (sY (g (.P0 t))):=by
 simp only[CO,sY,NC];cases g (.P0 t) with
 | none=>rfl
 | some u=>cases u <;> rfl
theorem lX0(t ty:Nat):CO X g (.cell t ty)=NC (Ak X.P g ty (sY (g (.P0 t)))):=by
 simp only[CO,sY,NC];cases g (.P0 t) with
 | none=>rfl
 | some u=>cases u with
  | one x=>
   simp only;rw[f30];cases loadAt X g ty x <;> rfl
  | _=>rfl
theorem tR0:Ab X g []=some []:=rfl
theorem qp0(r:ResultVar)(l:List ResultVar):Ab X g (r::l)=NB (CO X g r) (Ab X g l):=by
 simp only[Ab,NB];cases CO X g r <;> cases Ab X g l <;> rfl
def ND:Option (List DV)->Option DV
 | some [x]=>some x
 | some xs=>some (.H1 xs)
 | none=>none
theorem xR0(x:DV):ND (some [x])=some x:=rfl
theorem xS0(x y:DV)(r:List DV):ND (some (x::y::r))=some (.H1 (x::y::r)):=rfl
theorem xT0:ND (some [])=some (.H1 []):=rfl
theorem xU0(l:List ResultVar):rJ X g l=ND (Ab X g l):=by
 unfold rJ ND;rfl
theorem xV0(σ:Nat->Nat)(x y:DV):nC σ (.v x) (.v y)=(x=y):=rfl
theorem xW0(σ:Nat->Nat)(x:DV)(t:Nat)(e:List (List DV)):nC σ (.v x) (.own t e)=(x = .sl e):=rfl
theorem xX0(σ:Nat->Nat)(x:DV)(e:List DV)(n:List Nat):nC σ (.v x) (.ag e n)=(x = .agg e):=rfl
theorem xY0(σ:Nat->Nat)(e e':List DV)(n n':List Nat):nC σ (.ag e n) (.ag e' n')=(e=e'/\n=n'):=rfl
theorem xZ0(σ:Nat->Nat)(k o k' o':Nat):nC σ (.loc k o) (.loc k' o')=(k=k'/\o=o'):=rfl
theorem x00(σ:Nat->Nat)(e e':List (List DV))(k o k' o':Nat):nC σ (.dp e k o) (.dp e' k' o')=(e=e'/\k=k'/\o=o'):=rfl
theorem x10(σ:Nat->Nat)(t t':Nat)(e e':List (List DV)):nC σ (.own t e) (.own t' e')=(σ t=t'/\e=e'):=rfl
theorem qq0(σ:Nat->Nat):lX σ [] []=True:=by simp[lX]
theorem nC0(σ:Nat->Nat)(x y:SV)(r t:List SV):lX σ (x::r) (y::t)=(nC σ x y/\lX σ r t):=by simp[lX]
theorem tS0(σ:Nat->Nat)(x y:SV):Ac σ (.one x) (some (.one y))=nC σ x y:=rfl
theorem x20(σ:Nat->Nat)(r q:List (Int × DV)):Ac σ (.mp r) (some (.mp q))=(r=q):=rfl
theorem x30(σ:Nat->Nat)(r q:Ob):Ac σ (.ob r) (some (.ob q))=(r=q):=rfl
theorem tU0(σ:Nat->Nat)(x y:List SV):Ac σ (.row x) (some (.row y))=lX σ x y:=rfl
theorem qr0(σ:Nat->Nat):eO σ s []=True:=rfl
theorem nD0(σ:Nat->Nat)(n:Nat)(v:LV)(r:St):eO σ s ((.P0 n,v)::r)=(Ac σ v (get s (.P0 n))/\eO σ s r):=by simp[eO,By]
theorem qs0(σ:Nat->Nat)(n:Nat)(v:LV)(r:St):eO σ s ((.loc n,v)::r)=(Ac σ v (get s (.loc n))/\eO σ s r):=by simp[eO,By]
theorem nE0(σ:Nat->Nat)(n:Nat)(v:LV)(r:St):eO σ s ((.heap n,v)::r)=(Ac σ v (get s (.heap n))/\eO σ s r):=by simp[eO,By]
def Ka(g:Rd)(t E n:Nat):Prop:=(t=0/\n=0)\/(t≠0/\g (.tok t)=some (.tk E n))
theorem qt0(σ:Nat->Nat)(t E n:Nat)(r:St):eO σ s ((.tok t,.tk E n)::r)=(Ka (get s) (σ t) E n/\eO σ s r):=by simp[eO,By,Ka]
theorem qu0(E n:Nat):Ka g 0 E n=(n=0):=by simp[Ka]
theorem qv0(t E n:Nat):Ka g (t+1) E n=(g (.tok (t+1))=some (.tk E n)):=by simp[Ka]
theorem x40(n:Nat):eI [] n=n:=rfl
theorem tV0(x y n:Nat)(r:List (Nat × Nat)):eI ((x,y)::r) n=if n=x then y else eI r n:=rfl
theorem nF0:lB []=[]:=rfl
theorem lY0(n:Nat)(v:LV)(r:St):lB ((.P0 n,v)::r)=lB r:=rfl
theorem nG0(n:Nat)(v:LV)(r:St):lB ((.loc n,v)::r)=lB r:=rfl
theorem lZ0(n:Nat)(v:LV)(r:St):lB ((.heap n,v)::r)=lB r:=rfl
theorem nH0(n:Nat)(v:LV)(r:St):lB ((.tok n,v)::r)=n::lB r:=rfl
theorem nI0(σ:Nat->Nat):CP σ []=True:=rfl
theorem l00(σ:Nat->Nat)(t:Nat)(r:List Nat):CP σ (t::r)=((σ t=0\/∀t'∈r,t' = t\/σ t'≠σ t)/\CP σ r):=rfl
theorem nJ0:v7 g []=True:=by simp[v7]
theorem l10(b:Nat)(cs:List DV)(r:G3):v7 g ((b,cs)::r)=(g (.heap b)=some (.row (cs.map b7))/\v7 g r):=by
 simp only[v7,u5,uD,eq_iff_iff];constructor
 ·intro h;exact⟨h b cs (.inl ⟨rfl,rfl⟩),fun b' N7 hm=>h b' N7 (.inr hm)⟩
 ·rintro⟨h1,h2⟩ b' N7 (⟨rfl,rfl⟩|hm);· exact h1
  ·exact h2 b' N7 hm
theorem tW0(args:List DV)(φ:G3):entry args φ=bA 0 args++U3 φ:=rfl
theorem qw0(n:Nat):bA n []=[]:=rfl
theorem nK0(n:Nat)(x:DV)(r:List DV):bA n (x::r)=(.P0 n,.one (.v x))::bA (n+1) r:=rfl
theorem nL0:U3 []=[]:=rfl
theorem l20(b:Nat)(cs:List DV)(r:G3):U3 ((b,cs)::r)=(.heap b,.row (cs.map b7))::U3 r:=rfl
theorem l30:dJ s []=s:=rfl
theorem ld0(b:Nat)(cs:List DV)(r:G3):dJ s ((b,cs)::r)=dJ (D8 s (.heap b)) r:=rfl
theorem l40:aX s []=s:=rfl
theorem le0(b:Nat)(cs:List DV)(r:G3):aX s ((b,cs)::r)=L2 (aX s r) (.heap b) (.row (cs.map b7)):=rfl
def ev0{L1:List Nat}{ops:Array Oper}{l:List Oper}{K:St->Prop}{d:Tmp}{f:FuncId}{args:Array Operand}{X5:Array TypeId}{ty:TypeId}{pos:String}{af:Array Edge}{gl:X8}(hP:X.P=P)(G0:X.gl=gl)
  {ds J9:List DV} {φ I2:G3} {r:DV} (hc:P8 P gl f J9 φ r I2) (V2:aZ X (get s) args.toList=some ds) (c8:ds=J9) (S4:v7 (get s) φ) (A4:(φ.map (·.1)).Nodup) (C7:d<X.n)
  (h:vc X L1 ops l (aX (dJ (L2 s (.P0 d) (.one (.v r))) φ) I2) K) :
  cB X L1 ops l K ⟨some d,.call { callee:=.value (.func f),args:=args,argTypes:=X5 },ty,pos,af,none⟩ s (H4 X L1 s ⟨some d,.call { callee:=.value (.func f),args:=args,argTypes:=X5 },ty,pos,af,none⟩):=by
 subst c8;have e:H4 X L1 s ⟨some d,.call { callee:=.value (.func f),args:=args,argTypes:=X5 },ty,pos,af,none⟩=none:=by
  simp only[H4,dA,N8,oB,A9];split <;> rfl
 rw[e];exact sL0 (o:=⟨some d,.call { callee:=.value (.func f),args:=args,argTypes:=X5 },ty,pos,af,none⟩) rfl rfl V2 hP G0 hc S4 A4 rfl C7 h
end
attribute [go_sem] xg0 sM0 pv0 xh0 sN0 pw0 Ai0 sO0 px0 mV0 xi0 py0 sP0 mW0 sQ0 mX0 mY0 lF0 kM0 kE0 kx0 mZ0 m00
attribute [go_sem] xk0 pz0 pA0 Aj0 pC0 xl0 Dt0 Du0 sU0 m50 m60 lH0 sV0 m70 pD0 pE0
attribute [go_sem] Ds0 xj0 sR0 Ak0 sS0 m10 lG0 pB0 k90 sT0 m30 m40 xm0 sX0 pF0 xn0 na0 pK0 nb0 nc0 lJ0
attribute [go_sem] s20 nd0 pL0 ne0 s30 nf0 pM0 ng0 nh0 lK0 ni0 lL0 nj0 lM0 nk0 lN0 nl0 pP0 pQ0 pN0 pO0 nm0 lO0 nn0 lP0 no0
attribute [go_sem] s40 s50 Al0 Dv0 s60 Dw0 pR0 pS0 pT0 s70 s80 Am0 pU0 pV0 pW0 s90 xp0 xq0 td0 p40 p50 p60 p70 p80 p90 qa0 qb0 qc0 qd0 qe0
attribute [go_sem] xw0 xD0 xr0 xs0 te0 tf0 xu0 An0 xv0 th0 ti0 qf0 tj0 qg0 qh0 tk0 lQ0 lR0 np0 qi0 xx0 Ao0 xy0 tl0 tm0 Dx0 xz0 xA0 Ap0 xB0 xC0 sW0
attribute [go_sem] tn0 to0 tp0 qj0 nq0 nr0 tq0 xG0 As0 xH0 tt0 tu0 tA0 ns0 nt0 tB0 tC0 xL0 tD0 tE0 xM0 tF0
attribute [go_sem] Dy0 xN0 Dz0 E60 sUn tG0 At0 nu0 nv0 DA0 Au0 nw0 ql0 tH0 qm0 tv0 tw0 qk0 tx0 xI0 xJ0 xK0 tz0 Av0 xO0 E70 E80 Aw0 E90 Ax0 tJ0 lT0 xP0
attribute [go_sem] la0 DB0 DC0 tI0 qn0 nx0 tK0 lU0 tL0 lV0 tM0 Ay0 ny0 nz0 tN0 lW0 kN0 lb0 lc0 kO0 xQ0 tO0 qo0 tP0 nA0
attribute [go_sem] tQ0 nB0 lX0 tR0 qp0 xR0 xS0 xT0 xU0 xV0 xX0 xY0 xW0 xZ0 x00 x10 qq0 nC0 tS0 x30 x20 tU0 qr0 nD0 qs0 nE0 qt0 qu0 qv0 x40 tV0
attribute [go_sem] nF0 lY0 nG0 lZ0 nH0 nI0 l00 nJ0 l10 tW0 qw0 nK0 nL0 l20 l30 ld0 l40 le0
attribute [go_sem] pX0 pY0 ta0 tb0 pZ0 tc0 tg0 tr0 ts0 pG0 pH0 sZ0 sY0 m80 lI0 m90 QK
attribute [go_sem] p00 p20 p30 xt0 xE0 Aq0 Ar0 xF0 lS0 m20 s00
attribute [go_sem] xo0 pI0 s10 pJ0 Hg LU sB0
end
section
def iZ(s1 s:St):Prop:=∀l v,get s1 l=some v->get s l=some v
def Rel.weaken{s1:St}(R:Rel X G s a w)(h:iZ s1 s):Rel X G s1 a w:=
 ⟨R.size,R.defers,R.ext,R.wf,R.nil,fun l v hl=>R.holds l v (h l v hl),fun l v l' v' b h1 h2=>R.sep l v l' v' b (h _ _ h1) (h _ _ h2),fun l v b h1=>R.own l v b (h _ _ h1),fun l v b o h1=>R.data l v b o (h _ _ h1)⟩
def Loc.eqB:Loc->Loc->Bool
 | .P0 a,.P0 b=>a==b
 | .loc a,.loc b=>a==b
 | .heap a,.heap b=>a==b
 | .tok a,.tok b=>a==b
 | _,_=>false
def Loc.eqB_iff(a b:Loc):Loc.eqB a b=true↔a=b:=by
 cases a <;> cases b <;> simp[Loc.eqB]
def Nq(l:Loc):List Loc->Bool
 | []=>false
 | x::r=>l.eqB x||Nq l r
def tX0(l:Loc)(r:List Loc):Nq l r=true↔l∈r:=by
 induction r with
 | nil=>simp[Nq]
 | cons x r ih=>simp[Nq,ih,Loc.eqB_iff]
def GX:List Loc->List Loc->Bool
 | [],_=>true
 | l::r,x=>!Nq l x&&GX r x
def Jh(x y:List Loc):GX x y=true↔∀l∈x,l∉y:=by
 induction x with
 | nil=>simp[GX]
 | cons l r ih=>
  simp only[GX,uH,Ig,ih,u5,forall_eq_or_imp];rw[<- Bool.not_eq_true,tX0]
def lG:dR->List Loc
 | []=>[]
 | (l,_)::r=>l::lG r
structure Ev where
 fp:List Loc
 e:dR
 nm:List Nat
def Yn(d:Nat):LV->Bool
 | .one x=>jS d x||pE d x
 | .row cs=>eH d cs||qY d cs
 | .tk _ _=>false
 | .ob _=>false
 | .mp _=>false
def SB(d:Nat):Loc->Bool
 | .loc k=>k==d
 | .tok k=>k==d
 | _=>false
def BJ(d:Nat):dR->Bool
 | []=>false
 | (l,none)::r=>SB d l||BJ d r
 | (l,some v)::r=>SB d l||Yn d v||BJ d r
def aC(d:Nat)(s:St):Bool:=A8 d s&&a9 d s
def GY(p:Nat->Bool):List Nat->Bool
 | []=>true
 | x::r=>p x&&GY p r
def Ru(p:Nat->Bool)(l:List Nat):GY p l=true↔∀x∈l,p x=true:=by
 induction l with
 | nil=>simp[GY]
 | cons x r ih=>simp[GY,ih]
def dE0(h:l∉lG e):e.says l=none:=by
 induction e with
 | nil=>rfl
 | cons p r ih=>
  obtain⟨m,v⟩:=p;simp only[lG,u5,not_or]at h;simp only[FA,ih h.2];rw[if_neg (fun e=>h.1 e.symm)]
def qx0(h:l∈lG e):∃x,e.says l=some x:=by
 induction e with
 | nil=>cases h
 | cons p r ih=>
  obtain⟨m,v⟩:=p;simp only[FA];cases hs:FA r l with
  | some x=>exact⟨x,rfl⟩
  | none=>
   simp only[lG,u5]at h;rcases h with rfl|h;· exact⟨v,sS⟩
   ·obtain⟨x,hx⟩:=ih h;rw[hs]at hx;cases hx
def Qh(h:l∉lG e):get (apply s e) l=get s l:=by rw[Eh,dE0 h];rfl
def dF0(l:Loc)(h:aC d s=true):aC d (D8 s l)=true:=by
 induction s with
 | nil=>exact h
 | cons p r ih=>
  obtain⟨m,v⟩:=p;simp only[aC,A8,a9,uH]at h ih ⊢;have:=ih ⟨h.1.2,h.2.2⟩;simp only[D8];split;· exact this
  ·simp only[A8,a9,uH];exact⟨⟨h.1.1,this.1⟩,⟨h.2.1,this.2⟩⟩
theorem Vm{d:Nat}:∀{e:dR} {s:St},aC d s=true->BJ d e=false->aC d (apply s e)=true
 | [],s,h,_=>h
 | (l,none)::r,s,h,hm=>by
  simp only[BJ,Bool.or_eq_false_iff]at hm;show aC d (apply (D8 s l) r)=true;exact Vm (dF0 l h) hm.2
 | (l,some v)::r,s,h,hm=>by
  simp only[BJ,Bool.or_eq_false_iff]at hm;show aC d (apply (L2 s l v) r)=true;refine Vm ?_ hm.2;have hd:=dF0 l h;simp only[L2,aC,A8,a9,uH]at hd ⊢;have h1:=hm.1.1;have h2:=hm.1.2;refine⟨⟨⟨?_,?_⟩,hd.1⟩,⟨⟨?_,?_⟩,hd.2⟩⟩;· cases l <;> simp_all[SB]
  ·cases v <;> simp_all[Yn]
  ·cases l <;> simp_all[SB]
  ·cases v <;> simp_all[Yn]
def aO(L:Nat->Bool):Nat->List Ev->St->St
 | _,[],s=>s
 | k,ev::r,s=>aO L (k+1) r (if L k then apply s ev.e else s)
theorem Bq{L L':Nat->Bool}{l:Loc}:∀(evs:List Ev) (k:Nat) (s s':St),get s l=get s' l->(∀(j:Nat) (ev:Ev),evs[j]? = some ev->L (k+j)≠L' (k+j)->l∉lG ev.e) ->
  get (aO L k evs s) l=get (aO L' k evs s') l
 | [],_,_,_,h,_=>h
 | ev::r,k,s,s',h,hd=>by
  simp only[aO];refine Bq r (k+1) _ _ ?_ fun j BU hj X1=>hd (j+1) BU (by simpa using hj) (by rw[show k+(j+1)=k+1+j from oO];exact X1);by_cases hL:L k=L' k
  ·rw[hL];split;· rw[Eh,Eh,h]
   ·exact h
  ·have hn:=hd 0 ev rfl (by simpa using hL);split <;> split <;> simp only[Qh hn,h]
theorem Ji{L:Nat->Bool}:∀(evs:List Ev) (k:Nat) (s:St),(∀j,k<=j->L j=false)->aO L k evs s=s
 | [],_,_,_=>rfl
 | ev::r,k,s,h=>by
  simp only[aO,h k (I5 _),vW,if_false];exact Ji r (k+1) s fun j hj=>h j oO
theorem Wc{L:Nat->Bool}{d:Nat}:∀(evs:List Ev) (k:Nat) (s:St),aC d s=true->(∀(j:Nat) (ev:Ev),evs[j]? = some ev->L (k+j)=true->BJ d ev.e=false)->aC d (aO L k evs s)=true
 | [],_,_,h,_=>h
 | ev::r,k,s,h,hm=>by
  simp only[aO];refine Wc r (k+1) _ ?_ fun j BU hj hL=>hm (j+1) BU (by simpa using hj) (by rw[show k+(j+1)=k+1+j from oO];exact hL);split;· rename_i hk;exact Vm h (hm 0 ev rfl (by simpa using hk))
  ·exact h
theorem Xn{L:Nat->Bool}{i:Nat}{evi:Ev}{l:Loc}(hLi:L i=false):∀(evs:List Ev) (k:Nat) (s:St),k<=i->evs[i - k]? = some evi ->
  (∀(j:Nat) (ev:Ev),evs[j]? = some ev->i<k+j->L (k+j)=true->l∈lG evi.e->l∉lG ev.e) ->
  get (aO (fun j=>j==i||L j) k evs s) l=get (apply (aO L k evs s) evi.e) l
 | [],k,s,_,h,_=>by cases h
 | ev::r,k,s,hk,bR,hd=>by
  by_cases hki:k=i
  ·subst hki;simp only[Nat.sub_self,List.getElem?_cons_zero,uC]at bR;subst bR;simp only[aO,beq_self_eq_true,Bool.true_or,if_true,hLi,vW,if_false];by_cases hl:l∈lG ev.e
   ·obtain⟨x,hx⟩:=qx0 hl;rw[Eh _ (aO L (k+1) r s),hx,Cj];have h1:get (aO (fun j=>j==k||L j) (k+1) r (apply s ev.e)) l=get (aO (fun _=>false) (k+1) r (apply s ev.e)) l:=by
     refine Bq r (k+1) _ _ rfl fun j BU hj X1=>hd (j+1) BU (by simpa using hj) oO ?_ hl;rw[show k+(j+1)=k+1+j from oO];cases hq:L (k+1+j) with
     | true=>rfl
     | false=>
      have:((k+1+j==k)||L (k+1+j))=false:=by rw[hq];simp;omega
      exact absurd this X1
    rw[h1,Ji r (k+1) _ (fun _ _=>rfl),Eh,hx,Cj]
   ·rw[Qh hl];refine Bq r (k+1) _ _ (Qh hl) fun j BU hj X1=>?_;exfalso;apply X1;have:(k+1+j==k)=false:=by simp;omega
    simp[this]
  ·simp only[aO];have hb:((k==i)||L k)=L k:=by
    have:(k==i)=false:=by simpa using hki
    rw[this];rfl
   simp only[hb];refine Xn hLi r (k+1) _ oO ?_ fun j BU hj I1 hL=>hd (j+1) BU (by simpa using hj) oO (by rw[show k+(j+1)=k+1+j from oO];exact hL);rw[show i - k=(i - (k+1))+1 from oO]at bR
   simpa using bR
def jU(s:St):List Loc->St
 | []=>[]
 | l::r=>match get s l with
  | some v=>(l,v)::jU s r
  | none=>jU s r
def QM(h:get (jU s fp) l=some v):l∈fp/\get s l=some v:=by
 induction fp with
 | nil=>cases h
 | cons m r ih=>
  simp only[jU]at h;split at h
  ·rename_i u hu;simp only[get]at h;split at h;· cases h;subst_vars;exact⟨sS,hu⟩
   ·have:=ih h;exact⟨iJ _ this.1,this.2⟩
  ·have:=ih h;exact⟨iJ _ this.1,this.2⟩
def Kb(X:Ctx)(ops:Array Oper)(o:Oper)(s s':St):Prop:=
 ∀(G:Gh) (a:Act) (w:World),Rel X G s a w->∀(next:Act->World->Prop) (Q:Exit->Act->World->Prop),
  (∀G' a' w',Rel X G' s' a' w'->next a' w')->if fD o (yielded ops a.tmps) then o.wpIn X.F 0 X.P a w next Q else next (a.put o.dst undef) w
def RO(X:Ctx)(ops:Array Oper)(o:Oper)(s1:St)(e:dR)(nm:List Nat):Prop:=
 ∀s,iZ s1 s->(∀d∈nm,aC d s=true)->Kb X ops o s (apply s e)
def Kc(X:Ctx)(ops:Array Oper):List Oper->St->List Ev->Prop
 | [],_,[]=>True
 | o::l,s,ev::evs=>RO X ops o (jU s ev.fp) ev.e ev.nm/\Kc X ops l (apply s ev.e) evs
 | _,_,_=>False
def xA:St->List Ev->St
 | s,[]=>s
 | s,ev::r=>xA (apply s ev.e) r
def ML(k:Nat)(evs:List Ev)(s:St):aO (fun _=>true) k evs s=xA s evs:=by
 induction evs generalizing k s with
 | nil=>rfl
 | cons ev r ih=>simp only[aO,if_true,xA,ih]
theorem Ql{X:Ctx}{ops:Array Oper}:∀{l:List Oper} {s:St} {evs:List Ev},Kc X ops l s evs->evs.length=l.length
 | [],_,[],_=>rfl
 | [],_,_::_,h=>h.elim
 | _::_,_,[],h=>h.elim
 | o::l,s,ev::evs,h=>by simp[Ql h.2]
theorem RP{X:Ctx}{ops:Array Oper}:∀{l:List Oper} {s:St} {evs:List Ev} (k:Nat),Kc X ops l s evs->∀(i:Nat) (o:Oper) (ev:Ev),l[i]? = some o->evs[i]? = some ev ->
  RO X ops o (jU (aO (fun j=>decide (j<k+i)) k evs s) ev.fp) ev.e ev.nm
 | [],_,[],_,_,_,_,_,h,_=>by cases h
 | [],_,_::_,_,h,_,_,_,_,_=>h.elim
 | _::_,_,[],_,h,_,_,_,_,_=>h.elim
 | o::l,s,ev::evs,k,h,i,o',BU,ho,bR=>by
  cases i with
  | zero=>
   simp at ho bR;subst ho bR;rw[Ji _ _ _ (fun j hj=>by simp;omega)];exact h.1
  | succ i=>
   have:=RP (k+1) h.2 i o' BU (by simpa using ho) (by simpa using bR);simp only[aO];rw[if_pos sS];rw[show k+(i+1)=k+1+i from oO];exact this
def JI(T:List Nat)(o:Oper):Nat:=o.after.toList.foldl (fun s e=>if Cl .any e then s ||| (2 ^ e.on ||| T.getD e.on 0) else s) 0
def vH:List Oper->List Nat->List Nat
 | [],T=>T
 | o::r,T=>vH r (T++[JI T o])
def zY:Nat->List Oper->Bool
 | _,[]=>true
 | n,o::r=>o.after.toList.all (fun e=>!Cl .any e||decide (e.on<n))&&zY (n+1) r
def Ad(T:List Nat):List Nat->List Oper->Bool
 | [],[]=>true
 | t::ts,o::r=>t==JI T o&&Ad T ts r
 | _,_=>false
theorem IL:∀{ops:List Oper} {n:Nat},zY n ops=true->∀(i:Nat) (o:Oper),ops[i]? = some o->∀e∈o.after,Cl .any e=true->e.on<n+i
 | [],_,_,i,o,h=>by cases h
 | o::r,n,h,i,o',ho=>by
  simp only[zY,uH]at h;cases i with
  | zero=>
   simp at ho;subst ho;intro e he hb;have:=List.all_eq_true.1 h.1 e (by simpa using he)
   simpa [hb] using this
  | succ i=>
   intro e he hb;have:=IL h.2 i o' (by simpa using ho) e he hb;omega
theorem dG0{T:List Nat}:∀{ts:List Nat} {ops:List Oper},Ad T ts ops=true->∀(i:Nat) (o:Oper),ops[i]? = some o->ts.getD i 0=JI T o
 | [],[],_,i,o,h=>by cases h
 | [],_::_,h,_,_,_=>by cases h
 | _::_,[],h,_,_,_=>by cases h
 | t::ts,o::r,h,i,o',ho=>by
  simp only[Ad,uH,beq_iff_eq]at h;cases i with
  | zero=>simp at ho;subst ho;simpa using h.1
  | succ i=>simpa using dG0 h.2 i o' (by simpa using ho)
theorem dH0{T:List Nat}{i:Nat}:∀(es:List Edge) (s:Nat),(es.foldl (fun s e=>if Cl .any e then s ||| (2 ^ e.on ||| T.getD e.on 0) else s) s).testBit i=true ->
  s.testBit i=true\/∃e∈es,Cl .any e=true/\(e.on=i\/(T.getD e.on 0).testBit i=true)
 | [],s,h=>.inl h
 | e::r,s,h=>by
  simp only[List.foldl_cons]at h;rcases dH0 r _ h with h|⟨e',h1,h2⟩
  ·split at h
   ·rename_i hb;simp only[Nat.testBit_or,Ci,Nat.testBit_two_pow,decide_eq_true_eq]at h;rcases h with h|h;· exact .inl h
    ·exact .inr ⟨e,sS,hb,h⟩
   ·exact .inl h
  ·exact .inr ⟨e',iJ _ h1,h2⟩
def qy0{T:List Nat}(h:(JI T o).testBit i=true):∃e∈o.after,Cl .any e=true/\(e.on=i\/(T.getD e.on 0).testBit i=true):=by
 rcases dH0 _ _ h with h|⟨e,h1,h2⟩;· simp at h
 ·exact⟨e,by simpa using h1,h2⟩
def JJ(ops:Array Oper)(L:Nat->Bool):Prop:=∀(j:Nat) (o:Oper),L j=true->ops[j]? = some o->∀e∈o.after,Cl .any e=true->L e.on=true
def Ek{T:List Nat}(hb:zY 0 ops.toList=true)(hf:Ad T T ops.toList=true){L:Nat->Bool}(hc:JJ ops L){i:Nat}:∀(j:Nat) (o:Oper),ops[j]? = some o ->
  (∀e∈o.after,Cl .any e=true->L e.on=true)->(T.getD j 0).testBit i=true->L i=true:=by
 intro j
 induction j using Pu with
 | _ j ih=>
  intro o ho u4 ht;have vU:ops.toList[j]? = some o:=by simpa using ho
  rw[dG0 hf j o vU]at ht;obtain⟨e,he,heb,h⟩:=qy0 ht;have hL:=u4 e he heb;rcases h with rfl|h;· exact hL
  ·have I1:=IL hb j o vU e he heb;have hj:j<ops.size:=(fB.1 ho).1;have Uc:e.on<ops.size:=oO;exact ih e.on oO _ (uG Uc) (fun e' DD X2=>hc e.on _ hL (uG Uc) e' DD X2) h
def iQ(x y:Ev):Bool:=GX (lG x.e) y.fp&&GX (lG y.e) x.fp&&GX (lG x.e) (lG y.e)&&GY (fun d=>!BJ d y.e) x.nm
def SD(T:List Nat)(x:Ev)(i:Nat):Nat->List Ev->Bool
 | _,[]=>true
 | j,y::r=>GY (fun d=>!BJ d x.e) y.nm&&((T.getD j 0).testBit i||iQ x y)&&SD T x i (j+1) r
def SO(T:List Nat):Nat->List Ev->Bool
 | _,[]=>true
 | i,x::r=>SD T x i (i+1) r&&SO T (i+1) r
def SP(s:St):List Ev->Bool
 | []=>true
 | x::r=>GY (fun d=>aC d s) x.nm&&SP s r
def ER(o:Oper):Option (Nat × Nat):=match o.op with
 | .pick (.const (.bool true)) (.tmp d) (.const (.int .i64 c))=>some (d,c.toNat)
 | _=>none
def Kd(T:List Nat)(q d c j:Nat)(x:Ev):Bool:=
 (x.fp.all fun l=>match l with | .heap _=>false | .P0 n=>n != d||(c.testBit 0&&(T.getD j 0).testBit q)|_=>true) &&
 (lG x.e).all fun l=>match l with | .heap _=>false | .P0 n=>n != d&&(!c.testBit (n+1)||(T.getD q 0).testBit j)|_=>true
def Ke(T:List Nat)(q d c:Nat):Nat->List Oper->List Ev->Bool
 | j,o::os,x::xs=>(match ER o with
   | some (d',_)=>(lG x.e).all (·==.P0 d')&&(j==q||(decide (j<q)&&(T.getD q 0).testBit j)||(decide (q<j)&&(T.getD j 0).testBit q))
   | none=>Kd T q d c j x)&&Ke T q d c (j+1) os xs
 | _,_,_=>true
def Nr(T:List Nat)(ops:List Oper)(evs:List Ev):Nat->List Oper->Bool
 | q,o::os=>(match ER o with
   | some (d,c)=>Ke T q d c 0 ops evs
   | none=>true)&&Nr T ops evs (q+1) os
 | _,[]=>true
def GZ(ops:List Oper)(s:St)(evs:List Ev):Bool:=
 let T:=vH ops []
 zY 0 ops&&Ad T T ops&&SP s evs&&SO T 0 evs
def De(ops:List Oper)(s:St)(evs:List Ev):Bool:=GZ ops s evs&&Nr (vH ops []) ops evs 0 ops
def Xo{ops:List Oper}{evs:List Ev}(h:De ops s evs=true):GZ ops s evs=true:=by
 unfold De at h;exact (uH _ _ ▸ h:_/\_).1
theorem Wd{s:St}:∀{evs:List Ev},SP s evs=true->∀(i:Nat) (x:Ev),evs[i]? = some x->∀d∈x.nm,aC d s=true
 | [],_,_,_,h=>by cases h
 | y::r,h,i,x,hx=>by
  simp only[SP,uH]at h;cases i with
  | zero=>simp at hx;subst hx;exact (Ru _ _).1 h.1
  | succ i=>exact Wd h.2 i x (by simpa using hx)
theorem cN0{T:List Nat}{x:Ev}{i:Nat}:∀{evs:List Ev} {j:Nat},SD T x i j evs=true->∀(k:Nat) (y:Ev),evs[k]? = some y->(∀d∈y.nm,BJ d x.e=false)/\((T.getD (j+k) 0).testBit i=true\/iQ x y=true)
 | [],_,_,_,_,h=>by cases h
 | z::r,j,h,k,y,hy=>by
  simp only[SD,uH,Ci]at h;cases k with
  | zero=>
   simp at hy;subst hy;exact⟨fun d hd=>by simpa using (Ru _ _).1 h.1.1 d hd,h.1.2⟩
  | succ k=>
   have:=cN0 h.2 k y (by simpa using hy);rw[show j+(k+1)=j+1+k from oO];exact this
theorem Gj{T:List Nat}:∀{evs:List Ev} {n:Nat},SO T n evs=true->∀(i j:Nat) (x y:Ev),i<j->evs[i]? = some x->evs[j]? = some y->(∀d∈y.nm,BJ d x.e=false)/\((T.getD (n+j) 0).testBit (n+i)=true\/iQ x y=true)
 | [],_,_,_,_,_,_,_,h,_=>by cases h
 | z::r,n,h,i,j,x,y,gP,hx,hy=>by
  simp only[SO,uH]at h;cases i with
  | zero=>
   simp at hx;subst hx;obtain⟨j,rfl⟩:∃k,j=k+1:=⟨j - 1,oO⟩;have:=cN0 h.1 j y (by simpa using hy);rw[show n+(j+1)=n+1+j from oO];exact this
  | succ i=>
   obtain⟨j,rfl⟩:∃k,j=k+1:=⟨j - 1,oO⟩;have:=Gj h.2 i j x y oO (by simpa using hx) (by simpa using hy);rw[show n+(j+1)=n+1+j from oO,show n+(i+1)=n+1+i from oO];exact this
section
variable{X:Ctx}{s0:St}{k:List Item}
def L7(listed:Array Bool):Nat->Bool:=fun j=>listed.getD j false
def Gx(hi:i<listed.size):L7 (listed.setIfInBounds i true)=fun j=>j==i||L7 listed j:=by
 funext j;simp only[L7,KZ,Array.getElem?_setIfInBounds];by_cases h:i=j;· subst h;simp[hi]
 ·have:(j==i)=false:=by simpa using fun e=>h e.symm
  simp[h,this]
def Er(hi:i<listed.size):listed.getD i true=L7 listed i:=by
 simp[L7,hi]
def left(n:Nat)(listed:Array Bool):List Nat:=(List.range n).filter fun j=>!L7 listed j
def ew0(hi:i<listed.size)(hn:i<n)(hl:L7 listed i=false):(left n (listed.setIfInBounds i true)).length+1=(left n listed).length:=by
 have iC:i∈left n listed:=by simp[left,hn,hl]
 have A4:(left n listed).Nodup:=List.Nodup.sublist List.filter_sublist List.nodup_range;have he:left n (listed.setIfInBounds i true)=(left n listed).erase i:=by
  rw[A4.erase_eq_filter];simp only[left,Gx hi,List.filter_filter]
  congr 1
  funext j;cases L7 listed j <;> cases h:(j==i) <;> simp_all
 rw[he,List.length_erase_of_mem iC];have:0<(left n listed).length:=i10 iC;omega
def ex0{evs:List Ev}{N:Exit->Act->World->Prop}{Rl:(Nat->Bool)->Act->World->Prop}(hlen:evs.length=ops.size)(Dw:GZ ops.toList s0 evs=true)
  (h90:∀L a w,(∀j,j<ops.size->L j=true)->Rl L a w->N .normal a w)
  (oN:∀(L:Nat->Bool) (i:Nat) (o:Oper) (ev:Ev),ops[i]? = some o->evs[i]? = some ev->L i=false->(∀(j:Nat) (x:Ev),evs[j]? = some x->i<j->L j=true->iQ ev x=true) ->
   (∀(j:Nat) (x:Ev),evs[j]? = some x->j<i->L j=false->iQ x ev=true)->(∀d∈ev.nm,aC d (aO L 0 evs s0)=true) ->
   (∀m,((vH ops.toList []).getD i 0).testBit m=true->L m=true)->(∀j m,j<ops.size->L j=true->((vH ops.toList []).getD j 0).testBit m=true->L m=true)->∀a w,Rl L a w->∀next,(∀a' w',Rl (fun j=>j==i||L j) a' w'->next a' w')->if fD o (yielded ops a.tmps) then o.wpIn X.F 0 X.P a w next N else next (a.put o.dst undef) w) :
  ∀(fuel:Nat) (listed:Array Bool) (a:Act) (w:World),listed.size=ops.size->JJ ops (L7 listed)->(left ops.size listed).length<=fuel->Rl (L7 listed) a w->wpAnyIn X.F 0 X.P .any ops N fuel listed a w:=by
 simp only[GZ,uH]at Dw;obtain⟨⟨⟨pT,BW⟩,eZ⟩,hp⟩:=Dw;generalize vH ops.toList []=T at *;have aa0:∀(listed:Array Bool),listed.size=ops.size->FH .any ops listed=[]->∀j,j<ops.size->L7 listed j=true:=by
  intro listed P6 hr j
  induction j using Pu with
  | _ j ih=>
   intro hj;cases hq:L7 listed j with
   | true=>rfl
   | false=>
    have:j∈FH .any ops listed:=by
     rw[mem_ready];refine⟨by rw[Er oO];exact hq,ops[j],uG hj,fun e he hb=>?_⟩;have I1:=IL pT j ops[j] (by simp[hj]) e he hb;exact ih e.on oO oO
    rw[hr]at this;cases this
 intro fuel
 induction fuel with
 | zero=>
  intro listed a w P6 bT hle R;have u4:∀j,j<ops.size->L7 listed j=true:=by
   intro j hj;cases hq:L7 listed j with
   | true=>rfl
   | false=>
    have hm:j∈left ops.size listed:=by simp[left,hj,hq]
    have:=i10 hm;omega
  refine⟨?_,h90 _ a w u4 R⟩;cases hr:FH .any ops listed with
  | nil=>rfl
  | cons j r=>
   have hm:j∈FH .any ops listed:=by rw[hr];simp
   obtain⟨h1,o,h2,-⟩:=mem_ready.1 hm;have hj:j<ops.size:=(fB.1 h2).1;rw[Er oO,u4 j hj]at h1;cases h1
 | succ fuel ih=>
  intro listed a w P6 bT hle R;refine⟨fun hr=>h90 _ a w (aa0 listed P6 hr) R,fun i hi=>?_⟩;obtain⟨h1,o,ho,u4⟩:=mem_ready.1 hi;have tR:i<ops.size:=(fB.1 ho).1;have J8:i<listed.size:=oO;rw[Er J8]at h1;have DF:∀e∈o.after,Cl .any e=true->L7 listed e.on=true:=u4;have cG:i<evs.length:=oO;have bR:evs[i]? = some evs[i]:=uB cG;have KA:∀(j:Nat) (ev:Ev),evs[j]? = some ev->i<j->L7 listed j=true->iQ evs[i] ev=true:=by
   intro j ev hj gP hL;have nI:j<ops.size:=by rw[<- hlen];exact (uA hj).1
   rcases (Gj hp i j _ ev gP bR hj).2 with h|h
   ·have:=Ek pT BW bT j ops[j] (uG nI) (fun e he hb=>bT j _ hL (uG nI) e he hb) (by simpa using h);rw[h1]at this;cases this
   ·exact h
  have Zn:∀(j:Nat) (ev:Ev),evs[j]? = some ev->j<i->L7 listed j=false->iQ ev evs[i]=true:=by
   intro j ev hj gP hL;rcases (Gj hp j i ev _ gP hj bR).2 with h|h
   ·have:=Ek pT BW bT i o ho DF (by simpa using h);rw[hL]at this;cases this
   ·exact h
  have:=oN _ i o _ ho bR h1 KA Zn (fun d hd=>by
   refine Wc evs 0 s0 (Wd eZ i _ bR d hd) fun j ev hj hL=>?_;simp only[G8]at hL;have TM:j≠i:=fun e=>by rw[e,h1]at hL;cases hL
   by_cases gP:j<i;· exact (Gj hp j i ev _ gP hj bR).1 d hd
   ·have:=KA j ev hj oO hL;simp only[iQ,uH,Ru]at this
    simpa using this.2 d hd) (fun m=>Ek pT BW bT i o ho DF) (fun j m hj hL=>Ek pT BW bT j ops[j] (uG hj) fun e he hb=>bT j _ hL (uG hj) e he hb) a w R (wpAnyIn X.F 0 X.P .any ops N fuel (listed.setIfInBounds i true)) (fun a' w' R'=>by
   refine ih _ a' w' (by simpa using P6) ?_ ?_ ?_
   ·rw[Gx J8];intro j o' hL vU e he hb;simp only[Ci,beq_iff_eq]at hL ⊢;rcases hL with rfl|hL
    ·rw[ho]at vU;cases vU;exact .inr (DF e he hb)
    ·exact .inr (bT j o' hL vU e he hb)
   ·have:=ew0 (n:=ops.size) J8 tR h1;omega
   ·rw[Gx J8];exact R')
  unfold wpOpIn;simp only[ho];split;· rename_i hw;simp only[hw,if_true]at this;exact this
  ·rename_i hw;simp only[hw]at this;exact⟨fun _ _=>trivial,this⟩
def cO0{evs:List Ev}{L:Nat->Bool}{ev:Ev}(h0:L i=false)(h1:∀(j:Nat) (x:Ev),evs[j]? = some x->i<j->L j=true->iQ ev x=true)(h2:∀(j:Nat) (x:Ev),evs[j]? = some x->j<i->L j=false->iQ x ev=true):
  ∀l∈ev.fp,get (aO (fun j=>decide (j<0+i)) 0 evs s0) l=get (aO L 0 evs s0) l:=by
 intro l Ar;refine Bq evs 0 _ _ rfl fun j x hj X1 hw=>?_;simp only[G8]at X1;by_cases gP:j<i
 ·cases hq:L j with
  | true=>rw[hq]at X1;simp[gP]at X1
  | false=>
   have:=h2 j x hj gP hq;simp only[iQ,uH,Jh]at this;exact this.1.1.1 l hw Ar
 ·cases hq:L j with
  | false=>rw[hq]at X1;simp[gP]at X1
  | true=>
   have TM:j≠i:=fun e=>by rw[e,h0]at hq;cases hq
   have:=h1 j x hj oO hq;simp only[iQ,uH,Jh]at this;exact this.1.1.2 l hw Ar
def WG{evs:List Ev}{L:Nat->Bool}{ev:Ev}(bR:evs[i]? = some ev)(h0:L i=false)(h1:∀(j:Nat) (x:Ev),evs[j]? = some x->i<j->L j=true->iQ ev x=true)(l:Loc):
  get (aO (fun j=>j==i||L j) 0 evs s0) l=get (apply (aO L 0 evs s0) ev.e) l:=Xn h0 evs 0 s0 (aH _) bR fun j x hj I1 hL hw=>by
 simp only[G8]at I1 hL;have:=h1 j x hj I1 hL;simp only[iQ,uH,Jh]at this;exact this.1.2 l hw
def ey0{evs:List Ev}{L:Nat->Bool}(h:∀j,j<evs.length->L j=true)(l:Loc):get (aO L 0 evs s0) l=get (xA s0 evs) l:=by
 rw[<- ML 0];exact Bq evs 0 _ _ rfl fun j ev hj X1=>absurd (h j (uA hj).1) (by simpa using X1)
def tY0{evs:List Ev}{K:St->Prop}(O7:Kc X ops ops.toList s0 evs)(Dw:De ops.toList s0 evs=true)(hK:K (xA s0 evs)):
  ∀(fuel:Nat) (listed:Array Bool) (G:Gh) (a:Act) (w:World),listed.size=ops.size->JJ ops (L7 listed)->(left ops.size listed).length<=fuel->Rel X G (aO (L7 listed) 0 evs s0) a w ->
   wpAnyIn X.F 0 X.P .any ops (Dj X K) fuel listed a w:=by
 have hlen:evs.length=ops.size:=by simpa using Ql O7
 have key:=ex0 (X:=X) (N:=Dj X K) (Rl:=fun L a w=>∃G,Rel X G (aO L 0 evs s0) a w) hlen (Xo Dw) (fun L a w u4 ⟨G,R⟩=>⟨rfl,G,_,hK,R.congr fun l=>(ey0 (by rw[hlen];exact u4) l).symm⟩)
  (fun L i o ev ho bR h0 h1 h2 hf _ _ a w ⟨G,R⟩ next hn=>by
   have oN:=RP 0 O7 i o ev (by simpa using ho) bR;refine oN _ (fun l v hl=>?_) hf G a w R _ _ fun G' a' w' R'=>hn a' w' ⟨G',R'.congr fun l=>WG bR h0 h1 l⟩;obtain⟨Ar,hg⟩:=QM hl;rw[<- hg];exact (cO0 h0 h1 h2 l Ar).symm)
 exact fun fuel listed G a w h1 h2 h3 R=>key fuel listed a w h1 h2 h3 ⟨G,R⟩
def VD(X:Ctx)(ops:Array Oper)(s0:St)(l:List Oper)(s:St)(Ia:List Ev)(K:St->Prop):Prop:=
 ∃evs,Kc X ops l s evs/\De ops.toList s0 (Ia.reverse++evs)=true/\K (xA s evs)
def Az0{Ia:List Ev}{K:St->Prop}(h:De ops.toList s0 Ia.reverse=true)(hK:K s):VD X ops s0 [] s Ia K:=⟨[],trivial,by simpa using h,hK⟩
def Bv{l:List Oper}{Ia:List Ev}{K:St->Prop}(ev:Ev)(h:RO X ops o (jU s ev.fp) ev.e ev.nm)(hl:VD X ops s0 l (apply s ev.e) (ev::Ia) K):VD X ops s0 (o::l) s Ia K:=by
 obtain⟨evs,h1,h2,h3⟩:=hl;exact⟨ev::evs,⟨h,h1⟩,by simpa using h2,h3⟩
theorem Rel.drawn{G:Gh}{s:St}{a:Act}{w:World}(R:Rel X G s a w)(n:Nat):Rel X G s a { w with drawn:=n }:=by
 have hc:∀ad,({ w with drawn:=n }:World).cell? ad=w.cell? ad:=fun _=>rfl;have g:iU G.D w G.D { w with drawn:=n }:=fun b o h=>⟨h,.of rfl⟩;have T0:=oU X G a w R.nil;have T:Trans X G a w G a { w with drawn:=n } (fun _=>False):=⟨T0.tmps,T0.defers,rfl,rfl,rfl,I5 _,fun _ _ _=>rfl,fun _ h=>h.elim,g,fun _ _ h k=>absurd h k,R.nil⟩;exact R.step T (fun _ _=>False) (fun l v h=>.inr ⟨h,fun _ _=>rfl,fun _ _ h=>h,fun _ _=>rfl,fun _ _=>rfl⟩) (fun _ _ h=>h.elim) (fun _ _ _ _ _ h=>h.elim)
def x50(hm:X.P.follows .mixedOrders=true)(h:∀K:St->Prop,(∀s',W X k s'->K s')->VD X ops s ops.toList s [] K):W X (.code (.region id ops true)::k) s:=by
 intro G a w b cs hf hk hr R;obtain⟨evs,h1,h2,h3⟩:=h (fun s'=>W X k s') (fun _ h=>h)
 have OL:=tY0 h1 (by simpa using h2) h3 ops.size (La ops.size false) G a { w with drawn:=w.drawn+1 } sS (fun j o hL=>by simp[L7,Ij]at hL;split at hL <;> simp at hL) (cH (List.length_filter_le _ _) sS) (by
  rw[Ji _ _ _ (fun j _=>by simp only[L7,KZ,Ij];split <;> rfl)];exact R.drawn _)
 obtain⟨e',a',w',⟨rfl,G',s',hK,R'⟩,Hw⟩:=wpIn_region_any (F:=X.F) (n:=0) hm OL b k cs hr tT (SA _);obtain⟨nG,fr,q1,q2⟩:=hK G' a' w' b cs hf hk hr R';exact⟨nG,fr,q1,Ps (StepsIn.steps Hw) q2⟩
end
end
section
section
variable{X:Ctx}{s s1:St}
def wO(hs:iZ s1 s)(h:M2 X (get s1) x=some y):M2 X (get s) x=some y:=by
 cases x with
 | tmp t=>
  simp only[M2]at h ⊢;split at h;· rename_i z hz;rw[hs _ _ hz];exact h
  ·cases h
 | const v=>exact h
 | global b=>exact h
 | func f=>exact h
def We(hs:iZ s1 s){α:Type}{f:SV->Option α}{y:α}(h:(M2 X (get s1) x).bind f=some y):(M2 X (get s) x).bind f=some y:=by
 obtain⟨z,h1,h2⟩:=mH.1 h;rw[wO hs h1];exact h2
theorem ce0(hs:iZ s1 s){E:Nat}:∀{l:List (Nat × Operand)} {n:Nat} {r:List (List DV)},mU X (get s1) E n l=some r->mU X (get s) E n l=some r
 | [],_,_,h=>h
 | (i,x)::l,n,r,h=>by
  simp only[mU]at h ⊢;split at h
  ·rename_i V7;rw[if_pos V7];split at h
   ·rename_i y hy;simp only[wO hs hy];split at h
    ·rename_i ds c8;split at h
     ·rename_i h1;rw[if_pos h1];split at h
      ·rename_i h2;rw[if_pos h2];split at h
       ·rename_i rest hr;rw[ce0 hs hr];exact h
       ·cases h
      ·cases h
     ·cases h
    ·cases h
   ·cases h
  ·cases h
def VC(hs:iZ s1 s){x:Option Operand}{r:Int}(h:bN X (get s1) d x=some r):bN X (get s) d x=some r:=by
 cases x with
 | none=>exact h
 | some x=>
  simp only[bN]at h ⊢;split at h
  ·rename_i k n hy;rw[wO hs hy];exact h
  ·cases h
theorem lf0(hs:iZ s1 s){t:Nat}(h:CF (get s1) t E n):CF (get s) t E n:=h.imp id (hs _ _)
def bL0(hs:iZ s1 s){c:Prop}(h:N8 X (get s1) o=some (c,y))(hc:c)(hd:o.dst=some d)(hn:d<X.n):bX X s o (L2 s (.P0 d) (.one y)):=by
 intro G a w R next Q hK
 obtain⟨v,h1,h2⟩:=Qs (R.weaken hs) h hc;refine bP (zA h) ?_;rw[h1,fF,hd];exact hK G _ w (R.setSlot (oU X G a w R.nil) rfl rfl (fun _ h=>h) hn h2)
def kq0(hs:iZ s1 s){c:Prop}(h:N8 X (get s1) o=some (c,y))(hc:c)(hd:o.dst=none):bX X s o s:=by
 intro G a w R next Q hK
 obtain⟨v,h1,h2⟩:=Qs (R.weaken hs) h hc;refine bP (zA h) ?_;rw[h1,fF,hd];exact hK G _ w R
def bX.congr{o:Oper}{s' s'':St}(h:bX X s o s')(he:∀l,get s'' l=get s' l):bX X s o s'':=
 fun G a w R next Q hK=>h G a w R next Q fun G' a' w' R'=>hK G' a' w' (R'.congr he)
end
def S6:List Operand->List Loc
 | []=>[]
 | .tmp t::r=>.P0 t::S6 r
 | _::r=>S6 r
def lY:Option SV->List Loc
 | some (.loc k _)=>[.loc k]
 | some (.v (.K0 (.pointer (some ⟨b,_,_⟩))))=>[.heap b]
 | some (.own t _)=>[.tok t]
 | _=>[]
def gC:Option Tmp->List Loc
 | some d=>[.P0 d]
 | none=>[]
def Ns:Option Tmp->List Loc
 | some d=>[.P0 d,.loc d]
 | none=>[]
def Kf:Option Tmp->List Loc
 | some d=>[.P0 d,.tok d]
 | none=>[]
def hH(X:Ctx)(g:Rd):Op->List Loc
 | .load _ x=>lY (M2 X g x)
 | .store _ p _=>lY (M2 X g p)
 | .call c=>match dA c with
  | some (x,_,_,_)=>lY (M2 X g x)
  | none=>[]
 | _=>[]
def R9(X:Ctx)(g:Rd)(d:Option Tmp):Op->List Loc
 | .alloc _=>Ns d
 | .box _ _=>Ns d
 | .store _ p _=>lY (M2 X g p)
 | .slice _ _ _ _ (some _)=>.tok 0::Kf d
 | .call c=>match dA c with
  | some (x,_,_,_)=>lY (M2 X g x)++Kf d
  | none=>gC d
 | _=>gC d
def S9(d:Option Tmp):Op->List Nat
 | .alloc _=>d.toList
 | .box _ _=>d.toList
 | .slice _ _ _ _ (some _)=>d.toList
 | .call c=>match dA c with
  | some _=>d.toList
  | none=>[]
 | _=>[]
def rD(s1:St):List Loc->dR
 | []=>[]
 | l::r=>(l,get s1 l)::rD s1 r
def nM0(s1:St)(wr:List Loc)(l:Loc):(rD s1 wr).says l=if l∈wr then some (get s1 l) else none:=by
 induction wr with
 | nil=>rfl
 | cons m r ih=>
  simp only[rD,FA,ih];by_cases h:l∈r;· simp[h]
  ·simp only[h,if_false,u5,or_false];by_cases hm:m=l;· subst hm;simp
   ·simp[hm,(f8 hm:¬l=m)]
def QN(s s1:St)(wr:List Loc)(l:Loc):get (apply s (rD s1 wr)) l=if l∈wr then get s1 l else get s l:=by
 rw[Eh,nM0];split <;> rfl
section
variable{X:Ctx}{s s1:St}
def Rv{wr:List Loc}(Fi:wr=[m])(l:Loc):get (apply s (rD (L2 s1 m v) wr)) l=get (L2 s m v) l:=by
 subst Fi;rw[QN,T5,T5];by_cases h:m=l;· subst h;simp
 ·simp[h,(f8 h:¬l=m)]
def ez0{wr:List Loc}{n:Loc}{u:LV}(Fi:wr=[m,n])(l:Loc):get (apply s (rD (L2 (L2 s1 m v) n u) wr)) l=get (L2 (L2 s m v) n u) l:=by
 subst Fi;rw[QN,T5,T5,T5,T5];by_cases h:n=l;· subst h;simp
 ·by_cases h':m=l;· subst h';simp[h]
  ·simp[h,h',(f8 h':¬l=m),(f8 h:¬l=n)]
def eA0{wr:List Loc}{k n:Loc}{u:LV}(Fi:wr=[k,m,n])(l:Loc):get (apply s (rD (L2 (L2 (D8 s1 k) m v) n u) wr)) l=get (L2 (L2 (D8 s k) m v) n u) l:=by
 subst Fi;rw[QN,T5,T5,T5,T5,nV,nV];by_cases h:n=l;· subst h;simp
 ·by_cases h':m=l;· subst h';simp[h]
  ·by_cases h2:k=l;· subst h2;simp
   ·simp[h,h',h2,(f8 h':¬l=m),(f8 h:¬l=n),(f8 h2:¬l=k)]
def LY{s:St}(h:aC d s=true):A8 d s=true/\a9 d s=true:=by simpa [aC] using h
def cP0(hs:iZ s1 s){c:Prop}{wr:List Loc}(Fi:wr=gC o.dst)(h:A9 X s1 o.dst (N8 X (get s1) o)=some (c,Ap))(hc:c):bX X s o (apply s (rD Ap wr)):=by
 unfold A9 at h;split at h
 ·rename_i d c' y hd hp;cases h;exact (bL0 hs hp hc.1 hd hc.2).congr (Rv (by rw[Fi,hd];rfl))
 ·rename_i c' y hd hp;cases h;refine (kq0 hs hp hc hd).congr fun l=>?_;rw[Fi,hd];rfl
 ·cases h
theorem qz0(k o:Nat):lY (some (.loc k o))=[.loc k]:=rfl
theorem l50{c:Prop}(hs:iZ s1 s)(h:H4 X L1 s1 o=some (c,Ap))(hc:c)(eZ:∀d∈S9 o.dst o.op,aC d s=true):
  bX X s o (apply s (rD Ap (R9 X (get s1) o.dst o.op))):=by
 unfold H4 at h;split at h;· cases h
 ·split at h
  ·rename_i t ho;unfold Js at h;split at h
   ·rename_i d cs hd hz;split at h
    ·rename_i hb;cases h;simp only[uH]at hb;have hf:=LY (eZ d (by rw[ho,hd];simp[S9]));exact (cG0 ho hd hc hz hb.1.1 hf.1).congr (ez0 (by rw[ho,hd];rfl))
    ·cases h
   ·cases h
  ·rename_i t x ho;split at h
   ·obtain⟨d,cs,hd,T4,rfl,hk⟩:=bT0 (s:=s) ho (fun y e=>wO hs e) h hc;have hf:=LY (eZ d (by rw[ho,hd];simp[S9]))
    have AD:∀{q:St},A8 d q=true->get q (.loc d)=none:=fun {q} hq=>by
     cases hg:get q (.loc d) with
     | none=>rfl
     | some v=>exact absurd rfl (cF0 hq hg d (by simp[Loc.locs]))
    refine hk.congr fun l=>?_;rw[QN,show R9 X (get s1) o.dst o.op=[.P0 d,.loc d] by rw[ho,hd];rfl,T5,T5];by_cases h1:mI d=l;· subst h1;simp
    ·by_cases h2:Loc.loc d=l;· subst h2;simp[AD T4,AD hf.1]
     ·simp[h1,(f8 h1:¬l=_),(f8 h2:¬l=_)]
   unfold JS at h;split at h
   ·rename_i d y hd hy;split at h
    ·rename_i hb;cases h;simp only[uH,Ig]at hb;have hf:=LY (eZ d (by rw[ho,hd];simp[S9]));exact (et0 ho hd hc (wO hs hy) hb.1.1 hf.1 hb.2).congr (ez0 (by rw[ho,hd];rfl))
    ·cases h
   ·cases h
  ·rename_i t p x ho;split at h
   ·rename_i C7;have hd:o.dst=none:=by simpa using C7
    unfold Ep at h;split at h
    ·rename_i k' off agg n y hp hl hy;split at h
     ·rename_i cs hg;split at h
      ·rename_i hb;cases h;exact (bD0 ho hd (wO hs hp) (hs _ _ hg) hl (wO hs hy) hc hb).congr (Rv (by rw[ho];simp only[R9,hp,lY]))
      ·cases h
     ·cases h
    ·rename_i b off agg n y hp hl hy;split at h
     ·rename_i cs ys hg kD;split at h
      ·rename_i hb;cases h;exact (UK ho hd (wO hs hp) (hs _ _ hg) hl (wO hs hy) kD hc hb).congr (Rv (by rw[ho];simp only[R9,hp,lY]))
      ·cases h
     ·cases h
    ·cases h
   ·cases h
  ·rename_i t len parts ho;split at h
   ·rename_i E B he;unfold JU at h;split at h
    ·rename_i d E' B' els hd DD AP;cases DD;cases h;exact (bx0 ho hd hc.1 he (ce0 hs AP) hc.2).congr (Rv (by rw[ho,hd];rfl))
    ·cases h
   ·cases h
  ·rename_i t x lo hi m ho;unfold Jg at h;split at h
   ·rename_i d E els l h' k' hd hE hx tP oM hm;split at h
    ·rename_i hb;cases h;simp only[uH,bne_iff_ne,ne_eq]at hb;unfold JZ at oM;rw[hx]at oM;have hf:=LY (eZ d (by rw[ho,hd];simp[S9]));exact (ca0 ho hd hc.1 hb.1.2 hf.2 hE (We hs hx) (VC hs tP) (VC hs oM) (VC hs hm) hb.2 hc.2).congr (eA0 (by rw[ho,hd];rfl))
    ·cases h
   ·cases h
  ·rename_i c' ho;split at h
   ·rename_i x y t t2 rU;have dE:c' = { callee:=.builtin .append,args:=#[x,y],argTypes:=#[t,t2] }:=by
     unfold dA at rU;split at rU
     ·rename_i h1 h2 h3;cases rU;cases c';simp only at h1 h2 h3;rw[h1,Ee h2,Ee h3]
     ·cases rU
    subst dE;unfold Jf at h;split at h
    ·rename_i d E B t' els ys hd he hx hy;split at h
     ·rename_i hb;cases h;simp only[uH,bne_iff_ne,ne_eq]at hb;have hf:=LY (eZ d (by rw[ho,hd];simp[S9,rU]));exact (b90 ho hd hc.1 hb.2 hf.2 he hc.2.1 hb.1.1 (wO hs hx) (We hs hy) (lf0 hs hc.2.2.1) hc.2.2.2.1 hc.2.2.2.2.1 hc.2.2.2.2.2).congr (eA0 (by rw[ho,hd];simp only[R9,rU,hx,lY,Kf,R6,List.nil_append]))
     ·cases h
    ·cases h
   ·rename_i rU;exact cP0 hs (by rw[ho];simp only[R9,rU]) h hc
  ·rename_i h1 h2 h3 h4 h5 h6;refine cP0 hs ?_ h hc;cases b6:o.op with
   | alloc t=>exact absurd b6 (h1 t)
   | box t x=>exact absurd b6 (h2 t x)
   | store t p x=>exact absurd b6 (h3 t p x)
   | slice t x lo hi m=>cases m with
    | none=>rfl
    | some m=>exact absurd b6 (h5 t x lo hi m)
   | call c=>exact absurd b6 (h6 c)
   | _=>rfl
def Jj(X:Ctx)(ops:Array Oper)(o:Oper)(s:St):Prop:=
 o.guard=none\/∃j dj want,o.guard=some (j,want)/\(ops[j]?).bind (·.dst)=some dj/\dj<X.n/\get s (.P0 dj)=some (.one (.v (.K0 (.bool want))))
def cQ0(R:Rel X G s a w)(hj:(ops[j]?).bind (·.dst)=some dj)(hn:dj<X.n){b:Bool}(hb:get s (.P0 dj)=some (.one (.v (.K0 (.bool b))))):yielded ops a.tmps j=some b:=by
 have hv:=(X6 (R.holds _ _ hb)).1;have I1:dj<a.tmps.size:=by rw[R.size];exact hn
 have p9:a.tmps[dj]? = some (.bool b):=by
  have h3:a.tmps.getD dj undef=a.tmps[dj]:=by simp[I1]
  rw[uG I1,<- h3,hv]
 unfold yielded;rw[hj];simp[p9]
def zN(hg:Jj X ops o s)(h:bX X s o s'):Kb X ops o s s':=by
 intro G a w R next Q hK
 have hw:fD o (yielded ops a.tmps)=true:=by
  rcases hg with hg|⟨j,dj,want,h1,h2,h3,h4⟩;· simp[fD,hg]
  ·simp[fD,h1,cQ0 R h2 h3 h4]
 rw[if_pos hw];exact h G a w R next Q hK
def x60{want:Bool}(h1:o.guard=some (j,want))(h2:(ops[j]?).bind (·.dst)=some dj)(h3:dj<X.n)(h4:get s (.P0 dj)=some (.one (.v (.K0 (.bool (!want))))))(hd:o.dst=some d)(C7:d<X.n):
  Kb X ops o s (apply s [(.P0 d,some jX)]):=by
 intro G a w R next Q hK
 have hw:fD o (yielded ops a.tmps)=false:=by
  simp only[fD,h1,cQ0 R h2 h3 h4];cases want <;> rfl
 simp only[hw,vW,if_false,hd];exact hK G _ w (R.setSlot (oU X G a w R.nil) rfl rfl (fun _ h=>h) C7 (x:=.v (.H1 [])) Sl)
def x70{want:Bool}(h1:o.guard=some (j,want))(h2:(ops[j]?).bind (·.dst)=some dj)(h4:get s (.P0 dj)=some jX)(hd:o.dst=some d)(C7:d<X.n):
  Kb X ops o s (apply s [(.P0 d,some jX)]):=by
 intro G a w R next Q hK
 have hw:fD o (yielded ops a.tmps)=false:=by
  simp only[fD,h1,cJ0 R h2 h4];cases want <;> rfl
 simp only[hw,vW,if_false,hd];exact hK G _ w (R.setSlot (oU X G a w R.nil) rfl rfl (fun _ h=>h) C7 (x:=.v (.H1 [])) Sl)
theorem Jj.mono(hs:iZ s1 s)(h:Jj X ops o s1):Jj X ops o s:=
 h.imp id fun ⟨j,dj,want,h1,h2,h3,h4⟩=>⟨j,dj,want,h1,h2,h3,hs _ _ h4⟩
def nN0{c:Prop}(h:H4 X L1 s1 o=some (c,Ap))(hc:c)(hg:Jj X ops o s1):RO X ops o s1 (rD Ap (R9 X (get s1) o.dst o.op)) (S9 o.dst o.op):=
 fun _ hs eZ=>zN (hg.mono hs) (l50 hs h hc eZ)
end
def rM(k:St->List Ev->Prop)(ev:List Ev)(s:St)(fp:List Loc)(nm:List Nat)(e:dR):Prop:=k (apply s e) (⟨fp,e,nm⟩::ev)
def Ae(X:Ctx)(ops:Array Oper)(s0:St)(l:List Oper)(K:St->Prop)(k:St->List Ev->Prop)(o:Oper)(ev:List Ev)(s:St)(fp:List Loc)(wr:List Loc):Option (Prop × St)->Prop
 | some (c,Ap)=>c/\rM k ev s fp (S9 o.dst o.op) (rD Ap wr)
 | none=>VD X ops s0 (o::l) s ev K
def SQ(X:Ctx)(L1:List Nat)(ops:Array Oper)(s0:St)(l:List Oper)(K:St->Prop)(k:St->List Ev->Prop)(o:Oper)(ev:List Ev)(s:St)(fp:List Loc)(s1:St):Prop:=
 Ae X ops s0 l K k o ev s fp (R9 X (get s1) o.dst o.op) (H4 X L1 s1 o)
def ES(X:Ctx)(L1:List Nat)(ops:Array Oper)(s0:St)(l:List Oper)(K:St->Prop)(k:St->List Ev->Prop)(o:Oper)(ev:List Ev)(s:St)(fp:List Loc):Prop:=
 SQ X L1 ops s0 l K k o ev s fp (jU s fp)
def xO(X:Ctx)(L1:List Nat)(ops:Array Oper)(s0:St)(l:List Oper)(K:St->Prop)(k:St->List Ev->Prop)(o:Oper)(ev:List Ev)(s:St)(fp:List Loc)(want:Bool)(dj:Nat):Option SV->Prop
 | some (.v (.K0 (.bool b)))=>dj<X.n/\(b=want->ES X L1 ops s0 l K k o ev s (.P0 dj::fp))/\(b = !want->match o.dst with
   | some d=>d<X.n/\rM k ev s [.P0 dj] [] [(.P0 d,some jX)]
   | none=>False)
 | some (.v (.H1 []))=>match o.dst with
  | some d=>d<X.n/\rM k ev s [.P0 dj] [] [(.P0 d,some jX)]
  | none=>False
 | _=>False
def SE(X:Ctx)(L1:List Nat)(ops:Array Oper)(s0:St)(l:List Oper)(K:St->Prop)(k:St->List Ev->Prop)(o:Oper)(ev:List Ev)(s:St)(fp:List Loc)(want:Bool):Option Nat->Prop
 | some dj=>xO X L1 ops s0 l K k o ev s fp want dj (sY (get s (.P0 dj)))
 | none=>False
def Y7(X:Ctx)(g:Rd)(op:Op):List Loc:=S6 op.operands.toList++hH X g op
def pQ(X:Ctx)(L1:List Nat)(ops:Array Oper)(s0:St)(K:St->Prop):List Oper->St->List Ev->Prop
 | [],s,ev=>De ops.toList s0 ev.reverse=true/\K s
 | o::l,s,ev=>
  match o.guard with
  | none=>ES X L1 ops s0 l K (pQ X L1 ops s0 K l) o ev s (Y7 X (get s) o.op)
  | some (j,want)=>SE X L1 ops s0 l K (pQ X L1 ops s0 K l) o ev s (Y7 X (get s) o.op) want (Hg ops j)
section
variable{X:Ctx}{L1:List Nat}{ops:Array Oper}{s0:St}{K:St->Prop}
def cR0{l:List Oper}{k:St->List Ev->Prop}(hk:∀s ev,k s ev->VD X ops s0 l s ev K){ev:List Ev}(hg:Jj X ops o (jU s fp))(h:ES X L1 ops s0 l K k o ev s fp):VD X ops s0 (o::l) s ev K:=by
 unfold ES SQ Ae at h;split at h
 ·rename_i c Ap hs;exact Bv ⟨fp,_,_⟩ (nN0 hs h.1 hg) (hk _ _ h.2)
 ·exact h
theorem iN:∀{l:List Oper} {s:St} {ev:List Ev},pQ X L1 ops s0 K l s ev->VD X ops s0 l s ev K
 | [],s,ev,h=>Az0 h.1 h.2
 | o::l,s,ev,h=>by
  unfold pQ at h;split at h
  ·rename_i hg;exact cR0 (fun _ _=>iN) (.inl hg) h
  ·rename_i j want hg;unfold SE at h;split at h
   ·rename_i dj TQ;have Zu:(ops[j]?).bind (·.dst)=some dj:=TQ;unfold xO at h;split at h
    ·rename_i b hb;have TD:get s (.P0 dj)=some (.one (.v (.K0 (.bool b)))):=by
      unfold sY at hb;split at hb;· rename_i x hx;cases hb;exact hx
      ·cases hb
     obtain⟨h1,h2,h3⟩:=h;by_cases oP:b=want
     ·subst oP;refine cR0 (fun _ _=>iN) (.inr ⟨j,dj,b,hg,Zu,h1,?_⟩) (h2 rfl);simp only[jU,TD,get,if_true]
     ·have OZ:b = !want:=by cases b <;> cases want <;> simp_all
      have h4:=h3 OZ;split at h4
      ·rename_i d hd;refine Bv ⟨[.P0 dj],[(.P0 d,some jX)],[]⟩ (fun s' hs _=>?_) (iN h4.2);refine x60 hg Zu h1 ?_ hd h4.1;refine hs _ _ ?_;simp only[jU,TD,get,if_true,OZ]
      ·exact h4.elim
    ·rename_i hb;have TD:get s (.P0 dj)=some jX:=by
      unfold sY at hb;split at hb;· rename_i x hx;cases hb;exact hx
      ·cases hb
     split at h
     ·rename_i d hd;refine Bv ⟨[.P0 dj],[(.P0 d,some jX)],[]⟩ (fun s' hs _=>?_) (iN h.2);refine x70 hg Zu ?_ hd h.1;refine hs _ _ ?_;simp only[jU,TD,get,if_true]
     ·exact h.elim
    ·exact h.elim
   ·exact h.elim
def xB{k:List Item}(hm:X.P.follows .mixedOrders=true)(L1:List Nat)(h:∀K:St->Prop,(∀s',W X k s'->K s')->pQ X L1 ops s K ops.toList s []):W X (.code (.region id ops true)::k) s:=
 x50 hm fun K hK=>iN (h K hK)
def pK:G3->List Loc
 | []=>[]
 | (b,_)::r=>.heap b::pK r
def BK:G3->dR
 | []=>[]
 | (b,_)::r=>(.heap b,none)::BK r
def BL:G3->dR
 | []=>[]
 | (b,cs)::r=>BL r++[(.heap b,some (.row (cs.map b7)))]
def LA(e e':dR):∀s,apply s (e++e')=apply (apply s e) e':=by
 induction e with
 | nil=>intro s;rfl
 | cons p r ih=>
  obtain⟨l,v⟩:=p;cases v <;> intro s <;> simp only[R6,apply,ih]
def Qv(φ:G3):∀s,apply s (BK φ)=dJ s φ:=by
 induction φ with
 | nil=>intro s;rfl
 | cons p r ih=>intro s;simp only[BK,apply,dJ,ih]
def Qw(φ:G3)(s:St):apply s (BL φ)=aX s φ:=by
 induction φ with
 | nil=>rfl
 | cons p r ih=>simp only[BL,LA,ih,aX,apply]
theorem Cv{s:St}{l:Loc}{v:LV}:∀{fp:List Loc},l∈fp->get s l=some v->get (jU s fp) l=some v
 | [],h,_=>by cases h
 | m::r,h,hg=>by
  simp only[jU];split
  ·rename_i u hu;simp only[get];split
   ·subst_vars;rw[hu]at hg;exact hg
   ·rename_i X1;rcases u5.1 h with rfl|h;· exact absurd rfl X1
    ·exact Cv h hg
  ·rename_i hu;rcases u5.1 h with rfl|h;· rw[hu]at hg;cases hg
   ·exact Cv h hg
def LZ(hx:∀t,x = .tmp t->mI t∈fp)(hs:iZ (jU s fp) s')(h:M2 X (get s) x=some y):M2 X (get s') x=some y:=by
 cases x with
 | tmp t=>
  simp only[M2]at h ⊢;split at h
  ·rename_i z hz;rw[hs _ _ (Cv (hx t rfl) hz)];exact h
  ·cases h
 | const v=>exact h
 | global b=>exact h
 | func f=>exact h
theorem Gb{s s':St}{fp:List Loc}(hs:iZ (jU s fp) s'):∀{l:List Operand} {ds:List DV},(∀m∈S6 l,m∈fp)->aZ X (get s) l=some ds->aZ X (get s') l=some ds
 | [],_,_,h=>h
 | x::r,ds,hx,h=>by
  simp only[aZ]at h ⊢;split at h
  ·rename_i y ys hy kD;obtain⟨z,hz,DK⟩:=mH.1 hy;have h1:M2 X (get s') x=some z:=LZ (fun t ht=>hx _ (by subst ht;simp[S6])) hs hz;have h2:=Gb hs (fun m hm=>hx m (by cases x <;> simp[S6,hm])) kD;rw[h1,h2,ay0,DK];exact h
  ·cases h
def VE{l m:List Loc}{x:Loc}(h:x∈l):x∈l++m:=t6.2 (.inl h)
def QO(h:(b,cs)∈φ):kI b∈pK φ:=by
 induction φ with
 | nil=>cases h
 | cons p r ih=>
  rcases u5.1 h with rfl|h;· simp[pK]
  ·exact iJ _ (ih h)
def dI0{l:List Oper}{k:St->List Ev->Prop}{ev:List Ev}{s:St}{fp wr:List Loc}{d:Tmp}{f:FuncId}{args:Array Operand}{X5:Array TypeId}{ty:TypeId}{pos:String}{af:Array Edge}{s1:St}
  (hk:∀s ev,k s ev->VD X ops s0 l s ev K) {P:Program} {gl:X8} (hP:X.P=P) (G0:X.gl=gl) {ds J9:List DV} {φ I2:G3} {r:DV} (hc:P8 P gl f J9 φ r I2) (V2:aZ X (get s) args.toList=some ds) (c8:ds=J9) (S4:v7 (get s) φ) (A4:(φ.map (·.1)).Nodup) (C7:d<X.n)
  (h:rM k ev s (S6 args.toList++pK φ) [] ((.P0 d,some (.one (.v r)))::(BK φ++BL I2))) :
  Ae X ops s0 l K k ⟨some d,.call { callee:=.value (.func f),args:=args,argTypes:=X5 },ty,pos,af,none⟩ ev s fp wr (H4 X L1 s1 ⟨some d,.call { callee:=.value (.func f),args:=args,argTypes:=X5 },ty,pos,af,none⟩):=by
 subst c8;have e:H4 X L1 s1 ⟨some d,.call { callee:=.value (.func f),args:=args,argTypes:=X5 },ty,pos,af,none⟩=none:=by
  simp only[H4,dA,N8,oB,A9];split <;> rfl
 rw[e];show VD X ops s0 _ s ev K;refine Bv ⟨S6 args.toList++pK φ,_,[]⟩ (fun s' hs _=>zN (.inl rfl) ?_) (hk _ _ h);refine (Qg (o:=⟨some d,.call { callee:=.value (.func f),args:=args,argTypes:=X5 },ty,pos,af,none⟩) rfl (Gb hs (fun m hm=>VE hm) V2) (by rw[hP,G0];exact hc) ?_ A4 rfl C7).congr fun m=>?_
 ·intro b cs hm;exact hs _ _ (Cv (t6.2 (.inr (QO hm))) (S4 b cs hm))
 ·simp only[apply,LA,Qv,Qw]
end
end
section
section
variable{X:Ctx}{L1:List Nat}{ops:Array Oper}{s0:St}{K:St->Prop}{g:Rd}{s:St}
def Td(l:Loc)(r:St):Option LV->St
 | some v=>(l,v)::r
 | none=>r
theorem tZ0(l:Loc)(r:St)(v:LV):Td l r (some v)=(l,v)::r:=rfl
theorem t00(l:Loc)(r:St):Td l r none=r:=rfl
theorem qA0:jU s []=[]:=rfl
theorem nO0(l:Loc)(r:List Loc):jU s (l::r)=Td l (jU s r) (get s l):=by
 simp only[jU,Td];all_goals (cases get s l <;> rfl)
theorem l60:S6 []=[]:=rfl
theorem l70(t:Nat)(r:List Operand):S6 (.tmp t::r) = .P0 t::S6 r:=rfl
theorem kP0(v:Value)(r:List Operand):S6 (.const v::r)=S6 r:=rfl
theorem kF0(v:Nat)(r:List Operand):S6 (.global v::r)=S6 r:=rfl
theorem lg0(v:Nat)(r:List Operand):S6 (.func v::r)=S6 r:=rfl
theorem t10(b o:Nat)(q):lY (some (.v (.K0 (.pointer (some ⟨b,o,q⟩)))))=[.heap b]:=rfl
theorem x80(cs:List DV):lY (some (.v (.ref cs)))=[]:=rfl
theorem x90(t:Nat)(e:List (List DV)):lY (some (.own t e))=[.tok t]:=rfl
theorem AA0(e:List (List DV))(i o:Nat):lY (some (.dp e i o))=[]:=rfl
theorem AB0(e:List (List DV)):lY (some (.v (.sl e)))=[]:=rfl
theorem DD0(x:Operand):Y7 X g (.move x)=S6 [x]:=by simp[Y7,hH,kJ]
theorem ya0(x:Operand):Y7 X g (.assign x)=S6 [x]:=by simp[Y7,hH,kJ]
theorem DE0(a b c:Operand):Y7 X g (.pick a b c)=S6 [a,b,c]:=by simp[Y7,hH,kJ]
theorem AC0(t:TypeId):Y7 X g (.alloc t)=[]:=by simp[Y7,hH,kJ,S6]
theorem Fa0(t:TypeId)(x:Operand):Y7 X g (.box t x)=S6 [x]:=by simp[Y7,hH,kJ]
theorem AD0(t:TypeId)(ps:Array (Nat × Operand)):Y7 X g (.build t ps)=S6 (ps.toList.map (·.2)):=by simp[Y7,hH,kJ]
theorem l80(t:TypeId)(n:Nat)(ps:Array (Nat × Operand)):Y7 X g (.buildSlice t n ps)=S6 (ps.toList.map (·.2)):=by simp[Y7,hH,kJ]
theorem DF0(t:TypeId)(x:Operand):Y7 X g (.load t x)=S6 [x]++lY (M2 X g x):=by simp[Y7,hH,kJ]
theorem AE0(t:TypeId)(p x:Operand):Y7 X g (.store t p x)=S6 [p,x]++lY (M2 X g p):=by simp[Y7,hH,kJ]
theorem qB0(x:Operand):Y7 X g (.nilCheck x)=S6 [x]:=by simp[Y7,hH,kJ]
theorem l90(x:Operand)(xt at':TypeId)(ok:Bool):Y7 X g (.typeAssert x xt at' ok)=S6 [x]:=by simp[Y7,hH,kJ]
theorem Fb0(op:BinOp)(t u:TypeId)(x y:Operand):Y7 X g (.binOp op t x y u)=S6 [x,y]:=by simp[Y7,hH,kJ]
theorem fUn(op:UnOp)(t:TypeId)(x:Operand):Y7 X g (.unOp op t x)=S6 [x]:=by simp[Y7,hH,kJ]
theorem qC0(fn:Fn)(fi ca:Array Operand):Y7 X g (.makeFunc fn fi ca)=S6 ((fi++ca).toList):=by simp[Y7,hH,kJ]
theorem nP0(t:TypeId)(x:Operand):Y7 X g (.makeInterface t x)=S6 [x]:=by simp[Y7,hH,kJ]
theorem AF0(t:TypeId)(x:Operand)(a b c:Option Operand):Y7 X g (.slice t x a b c)=S6 (x::(a.toList++b.toList++c.toList)):=by
 simp[Y7,hH,kJ]
theorem nQ0(t:TypeId)(x:Operand)(f:Nat):Y7 X g (.fieldAddr t x f)=S6 [x]:=by simp[Y7,hH,kJ]
theorem AG0(t:TypeId)(x:Operand)(f:Nat):Y7 X g (.field t x f)=S6 [x]:=by simp[Y7,hH,kJ]
theorem nR0(t:TypeId)(x y:Operand):Y7 X g (.indexAddr t x y)=S6 [x,y]:=by simp[Y7,hH,kJ]
theorem t20(x:Operand)(i:Nat):Y7 X g (.extract x i)=S6 [x]:=by simp[Y7,hH,kJ]
theorem Fc0(xs:Array Operand)(ts:Array TypeId):Y7 X g (.call { callee:=.builtin .len,args:=xs,argTypes:=ts })=S6 xs.toList:=by simp[Y7,hH,kJ,i20,dA]
theorem Fd0(xs:Array Operand)(ts:Array TypeId):Y7 X g (.call { callee:=.builtin .max,args:=xs,argTypes:=ts })=S6 xs.toList:=by simp[Y7,hH,kJ,i20,dA]
theorem yb0(x y:Operand)(t t2:TypeId):Y7 X g (.call { callee:=.builtin .append,args:=#[x,y],argTypes:=#[t,t2] })=S6 [x,y]++lY (M2 X g x):=by simp[Y7,hH,kJ,i20,dA]
theorem qD0(d:Nat):gC (some d)=[.P0 d]:=rfl
theorem qE0:gC none=[]:=rfl
theorem qF0(d:Nat):Ns (some d)=[.P0 d,.loc d]:=rfl
theorem qG0(d:Nat):Kf (some d)=[.P0 d,.tok d]:=rfl
variable{d:Option Tmp}
theorem DG0(x:Operand):R9 X g d (.move x)=gC d:=rfl
theorem yc0(x:Operand):R9 X g d (.assign x)=gC d:=rfl
theorem DH0(a b c:Operand):R9 X g d (.pick a b c)=gC d:=rfl
theorem AH0(t:TypeId):R9 X g d (.alloc t)=Ns d:=rfl
theorem Fe0(t:TypeId)(x:Operand):R9 X g d (.box t x)=Ns d:=rfl
theorem AI0(t:TypeId)(ps:Array (Nat × Operand)):R9 X g d (.build t ps)=gC d:=rfl
theorem ma0(t:TypeId)(n:Nat)(ps:Array (Nat × Operand)):R9 X g d (.buildSlice t n ps)=gC d:=rfl
theorem DI0(t:TypeId)(x:Operand):R9 X g d (.load t x)=gC d:=rfl
theorem AJ0(t:TypeId)(p x:Operand):R9 X g d (.store t p x)=lY (M2 X g p):=rfl
theorem qH0(x:Operand):R9 X g d (.nilCheck x)=gC d:=rfl
theorem mb0(x:Operand)(xt at':TypeId)(ok:Bool):R9 X g d (.typeAssert x xt at' ok)=gC d:=rfl
theorem Ff0(op:BinOp)(t u:TypeId)(x y:Operand):R9 X g d (.binOp op t x y u)=gC d:=rfl
theorem wUn(op:UnOp)(t:TypeId)(x:Operand):R9 X g d (.unOp op t x)=gC d:=rfl
theorem t30(t u:TypeId)(x:Operand):R9 X g d (.convert t u x)=gC d:=rfl
theorem qI0(fn:Fn)(fi ca:Array Operand):R9 X g d (.makeFunc fn fi ca)=gC d:=rfl
theorem nS0(t:TypeId)(x:Operand):R9 X g d (.makeInterface t x)=gC d:=rfl
theorem AK0(t:TypeId)(x:Operand)(a b:Option Operand):R9 X g d (.slice t x a b none)=gC d:=rfl
theorem yd0(t:TypeId)(x c:Operand)(a b:Option Operand):R9 X g d (.slice t x a b (some c)) = .tok 0::Kf d:=rfl
theorem nT0(t:TypeId)(x:Operand)(f:Nat):R9 X g d (.fieldAddr t x f)=gC d:=rfl
theorem AL0(t:TypeId)(x:Operand)(f:Nat):R9 X g d (.field t x f)=gC d:=rfl
theorem nU0(t:TypeId)(x y:Operand):R9 X g d (.indexAddr t x y)=gC d:=rfl
theorem t40(x:Operand)(i:Nat):R9 X g d (.extract x i)=gC d:=rfl
theorem Fg0(xs:Array Operand)(ts:Array TypeId):R9 X g d (.call { callee:=.builtin .len,args:=xs,argTypes:=ts })=gC d:=by simp[R9,dA]
theorem Fh0(xs:Array Operand)(ts:Array TypeId):R9 X g d (.call { callee:=.builtin .max,args:=xs,argTypes:=ts })=gC d:=by simp[R9,dA]
theorem ye0(x y:Operand)(t t2:TypeId):R9 X g d (.call { callee:=.builtin .append,args:=#[x,y],argTypes:=#[t,t2] })=lY (M2 X g x)++Kf d:=by simp[R9,dA]
theorem DJ0(x:Operand):S9 d (.move x)=[]:=rfl
theorem yf0(x:Operand):S9 d (.assign x)=[]:=rfl
theorem DK0(a b c:Operand):S9 d (.pick a b c)=[]:=rfl
theorem AM0(t:TypeId):S9 d (.alloc t)=d.toList:=rfl
theorem Fi0(t:TypeId)(x:Operand):S9 d (.box t x)=d.toList:=rfl
theorem AN0(t:TypeId)(ps:Array (Nat × Operand)):S9 d (.build t ps)=[]:=rfl
theorem mc0(t:TypeId)(n:Nat)(ps:Array (Nat × Operand)):S9 d (.buildSlice t n ps)=[]:=rfl
theorem DL0(t:TypeId)(x:Operand):S9 d (.load t x)=[]:=rfl
theorem AO0(t:TypeId)(p x:Operand):S9 d (.store t p x)=[]:=rfl
theorem qJ0(x:Operand):S9 d (.nilCheck x)=[]:=rfl
theorem md0(x:Operand)(xt at':TypeId)(ok:Bool):S9 d (.typeAssert x xt at' ok)=[]:=rfl
theorem Fj0(op:BinOp)(t u:TypeId)(x y:Operand):S9 d (.binOp op t x y u)=[]:=rfl
theorem nUn(op:UnOp)(t:TypeId)(x:Operand):S9 d (.unOp op t x)=[]:=rfl
theorem t50(t u:TypeId)(x:Operand):S9 d (.convert t u x)=[]:=rfl
theorem qK0(fn:Fn)(fi ca:Array Operand):S9 d (.makeFunc fn fi ca)=[]:=rfl
theorem nV0(t:TypeId)(x:Operand):S9 d (.makeInterface t x)=[]:=rfl
theorem AP0(t:TypeId)(x:Operand)(a b:Option Operand):S9 d (.slice t x a b none)=[]:=rfl
theorem yg0(t:TypeId)(x c:Operand)(a b:Option Operand):S9 d (.slice t x a b (some c))=d.toList:=rfl
theorem nW0(t:TypeId)(x:Operand)(f:Nat):S9 d (.fieldAddr t x f)=[]:=rfl
theorem AQ0(t:TypeId)(x:Operand)(f:Nat):S9 d (.field t x f)=[]:=rfl
theorem nX0(t:TypeId)(x y:Operand):S9 d (.indexAddr t x y)=[]:=rfl
theorem t60(x:Operand)(i:Nat):S9 d (.extract x i)=[]:=rfl
theorem Fk0(xs:Array Operand)(ts:Array TypeId):S9 d (.call { callee:=.builtin .len,args:=xs,argTypes:=ts })=[]:=by simp[S9,dA]
theorem Fl0(xs:Array Operand)(ts:Array TypeId):S9 d (.call { callee:=.builtin .max,args:=xs,argTypes:=ts })=[]:=by simp[S9,dA]
theorem yh0(x y:Operand)(t t2:TypeId):S9 d (.call { callee:=.builtin .append,args:=#[x,y],argTypes:=#[t,t2] })=d.toList:=by simp[S9,dA]
theorem qL0(s1:St):rD s1 []=[]:=rfl
theorem nY0(s1:St)(l:Loc)(r:List Loc):rD s1 (l::r)=(l,get s1 l)::rD s1 r:=rfl
theorem qM0:apply s []=s:=rfl
theorem nZ0(l:Loc)(v:LV)(r:dR):apply s ((l,some v)::r)=apply (L2 s l v) r:=rfl
theorem n00(l:Loc)(r:dR):apply s ((l,none)::r)=apply (D8 s l) r:=rfl
theorem qN0:pK []=[]:=rfl
theorem n10(b:Nat)(cs:List DV)(r:G3):pK ((b,cs)::r) = .heap b::pK r:=rfl
theorem t70:BK []=[]:=rfl
theorem qO0(b:Nat)(cs:List DV)(r:G3):BK ((b,cs)::r)=(.heap b,none)::BK r:=rfl
theorem t80:BL []=[]:=rfl
theorem qP0(b:Nat)(cs:List DV)(r:G3):BL ((b,cs)::r)=BL r++[(.heap b,some (.row (cs.map b7)))]:=rfl
variable{l:List Oper}{k:St->List Ev->Prop}{ev:List Ev}{fp wr:List Loc}{nm:List Nat}
theorem yi0:pQ X L1 ops s0 K [] s ev=(De ops.toList s0 ev.reverse=true/\K s):=by rw[pQ]
theorem AR0(d:Option Tmp)(op:Op)(ty:TypeId)(pos:String)(af:Array Edge) :
  pQ X L1 ops s0 K (⟨d,op,ty,pos,af,none⟩::l) s ev=ES X L1 ops s0 l K (pQ X L1 ops s0 K l) ⟨d,op,ty,pos,af,none⟩ ev s (Y7 X (get s) op):=by rw[pQ]
theorem AS0(d:Option Tmp)(op:Op)(ty:TypeId)(pos:String)(af:Array Edge)(j:Nat)(w:Bool) :
  pQ X L1 ops s0 K (⟨d,op,ty,pos,af,some (j,w)⟩::l) s ev=SE X L1 ops s0 l K (pQ X L1 ops s0 K l) ⟨d,op,ty,pos,af,some (j,w)⟩ ev s (Y7 X (get s) op) w (Hg ops j):=by rw[pQ]
theorem yj0(o:Oper):ES X L1 ops s0 l K k o ev s fp=SQ X L1 ops s0 l K k o ev s fp (jU s fp):=rfl
theorem yk0(s1:St)(d:Option Tmp)(op:Op)(ty:TypeId)(pos:String)(af:Array Edge)(gd:Option (Nat × Bool)) :
  SQ X L1 ops s0 l K k ⟨d,op,ty,pos,af,gd⟩ ev s fp s1=Ae X ops s0 l K k ⟨d,op,ty,pos,af,gd⟩ ev s fp (R9 X (get s1) d op) (H4 X L1 s1 ⟨d,op,ty,pos,af,gd⟩):=rfl
theorem qQ0(s1:St)(c:Prop)(d:Option Tmp)(op:Op)(ty:TypeId)(pos:String)(af:Array Edge)(gd:Option (Nat × Bool)) :
  Ae X ops s0 l K k ⟨d,op,ty,pos,af,gd⟩ ev s fp wr (some (c,s1))=(c/\rM k ev s fp (S9 d op) (rD s1 wr)):=rfl
theorem yl0(e:dR):rM k ev s fp nm e=k (apply s e) (⟨fp,e,nm⟩::ev):=rfl
theorem n20(o:Oper)(w:Bool)(dj:Nat):SE X L1 ops s0 l K k o ev s fp w (some dj)=xO X L1 ops s0 l K k o ev s fp w dj (sY (get s (.P0 dj))):=rfl
theorem n30(o:Oper)(dj:Nat):xO X L1 ops s0 l K k o ev s fp true dj (some (.v (.K0 (.bool true))))=(dj<X.n/\ES X L1 ops s0 l K k o ev s (.P0 dj::fp)):=by simp[xO]
theorem n40(o:Oper)(dj:Nat):xO X L1 ops s0 l K k o ev s fp false dj (some (.v (.K0 (.bool false))))=(dj<X.n/\ES X L1 ops s0 l K k o ev s (.P0 dj::fp)):=by simp[xO]
theorem qR0(d:Tmp)(op:Op)(ty:TypeId)(pos:String)(af:Array Edge)(gd:Option (Nat × Bool))(dj:Nat) :
  xO X L1 ops s0 l K k ⟨some d,op,ty,pos,af,gd⟩ ev s fp true dj (some (.v (.K0 (.bool false))))=(dj<X.n/\d<X.n/\rM k ev s [.P0 dj] [] [(.P0 d,some jX)]):=by simp[xO]
theorem qS0(d:Tmp)(op:Op)(ty:TypeId)(pos:String)(af:Array Edge)(gd:Option (Nat × Bool))(dj:Nat) :
  xO X L1 ops s0 l K k ⟨some d,op,ty,pos,af,gd⟩ ev s fp false dj (some (.v (.K0 (.bool true))))=(dj<X.n/\d<X.n/\rM k ev s [.P0 dj] [] [(.P0 d,some jX)]):=by simp[xO]
theorem ym0(d:Tmp)(op:Op)(ty:TypeId)(pos:String)(af:Array Edge)(gd:Option (Nat × Bool))(w:Bool)(dj:Nat) :
  xO X L1 ops s0 l K k ⟨some d,op,ty,pos,af,gd⟩ ev s fp w dj (some (.v (.H1 [])))=(d<X.n/\rM k ev s [.P0 dj] [] [(.P0 d,some jX)]):=rfl
def xD(hP:X.P=P)(hf:X.f=f)(X0:X.fn=fn){r:DV}(hR:X.R=(fun x ψ=>x=r/\ψ=[])/\X.md = .fn)(h:P.funcs[f]? = some fn/\rJ X (get s) fn.results.toList=some r):W X (.code .ret::kk) s:=by
 subst hP hf X0;exact gB0 hR.2 h.1 h.2 (φ:=[]) (fun _ _ h=>by cases h) Lc (by rw[hR.1];exact⟨rfl,rfl⟩)
def xE(hP:X.P=P)(hf:X.f=f)(X0:X.fn=fn){r:DV}(hR:X.R=(fun x ψ=>x=r/\ψ=[])/\X.md = .fn)(h:P.funcs[f]? = some fn/\rJ X (get s) fn.results.toList=some r):W X [] s:=by
 subst hP hf X0;exact gC0 hR.2 h.1 h.2 (φ:=[]) (fun _ _ h=>by cases h) Lc (by rw[hR.1];exact⟨rfl,rfl⟩)
def xF(n:Nat)(I:Nat->Prop)(S:Nat->St)(h0:I 0)(round:∀i,i<n->I i->(I (i+1)->W X (.inLoop c::kk) (S (i+1)))->W X (.code c::.inLoop c::kk) (S i))(last:I n->W X (.code c::.inLoop c::kk) (S n)):
  W X (.code (.loop c)::kk) (S 0):=by
 refine mQ (fun i=>i<=n/\I i) S (fun i=>n - i) 0 ⟨aH _,h0⟩ fun i hi ih=>?_;by_cases h:i<n;· exact round i h hi.2 fun h1=>ih (i+1) ⟨h,h1⟩ oO
 ·obtain rfl:i=n:=oO;exact last hi.2
def y7{α:Type}(L:List α)(S:List α->List α->St)(round:∀done x rest,L=done++x::rest->L[done.length]? = some x->W X (.inLoop c::kk) (S (done++[x]) rest)->W X (.code c::.inLoop c::kk) (S done (x::rest)))(last:W X (.code c::.inLoop c::kk) (S L [])):
  W X (.code (.loop c)::kk) (S [] L):=by
 have key:=mQ (X:=X) (k:=kk) (c:=c) (fun i:List α × List α=>L=i.1++i.2) (fun i=>S i.1 i.2) (fun i=>i.2.length) ([],L) rfl;refine key fun ⟨done,rest⟩ hI ih=>?_;cases rest with
 | nil=>
  simp only[KX]at hI;subst hI;exact last
 | cons x rest=>
  exact round done x rest hI (by rw[hI];simp) (ih (done++[x],rest) (by simp[hI]) sS)
end
theorem AT0:M5=2147483648:=rfl
attribute [go_sem] AT0 l90 mb0 md0
attribute [go_sem] tZ0 t00 qA0 nO0 l60 l70 kP0 kF0 lg0 qz0 t10 x80 x90 AA0 AB0
attribute [go_sem] DD0 ya0 DE0 AC0 Fa0 AD0 l80 DF0 AE0 qB0 Fb0 fUn qC0 nP0 AF0 nQ0 AG0 nR0 t20 Fc0 Fd0 yb0
attribute [go_sem] qD0 qE0 qF0 qG0 DG0 yc0 DH0 AH0 Fe0 AI0 ma0 DI0 AJ0 qH0 Ff0 wUn t30 qI0 nS0 AK0 yd0 nT0 AL0 nU0 t40 Fg0 Fh0 ye0
attribute [go_sem] DJ0 yf0 DK0 AM0 Fi0 AN0 mc0 DL0 AO0 qJ0 Fj0 nUn t50 qK0 nV0 AP0 yg0 nW0 AQ0 nX0 t60 Fk0 Fl0 yh0
attribute [go_sem] qL0 nY0 qM0 nZ0 n00 qN0 n10 t70 qO0 t80 qP0 yi0 AR0 AS0 yj0 yk0 qQ0 yl0 n20 n30 n40 qR0 qS0 ym0
end
section
def oE(k b:Nat):SV->SV
 | .loc j off=>if j=k then .v (.K0 (.pointer (some ⟨b,off,none⟩))) else .loc j off
 | x=>x
def rE(k b:Nat):List SV->List SV
 | []=>[]
 | x::r=>oE k b x::rE k b r
def Nt(k b:Nat):LV->LV
 | .one x=>.one (oE k b x)
 | .row cs=>.row (rE k b cs)
 | .tk E n=>.tk E n
 | .ob r=>.ob r
 | .mp l=>.mp l
def CY(k b:Nat):Loc->Loc
 | .loc j=>if j=k then .heap b else .loc j
 | l=>l
def expose(k b:Nat):St->St
 | []=>[]
 | (l,v)::r=>(CY k b l,Nt k b v)::expose k b r
def newB(b:Nat):St->Prop
 | []=>True
 | (.heap b',_)::r=>b'≠b/\newB b r
 | _::r=>newB b r
def dJ0(k b:Nat)(cs:List SV):(rE k b cs).length=cs.length/\∀i:Nat,(rE k b cs)[i]? = cs[i]?.map (oE k b):=by
 induction cs with
 | nil=>simp[rE]
 | cons x r ih=>
  refine⟨by simp[rE,ih.1],fun i=>?_⟩;cases i with
  | zero=>simp[rE]
  | succ i=>simp[rE,ih.2]
def LL(h:get (expose k b s) l=some v):∃l0 v0,get s l0=some v0/\CY k b l0=l/\Nt k b v0=v:=by
 induction s with
 | nil=>cases h
 | cons p r ih=>
  obtain⟨m,u⟩:=p;simp only[expose,get]at h;split at h;· rename_i hm;cases h;exact⟨m,u,by simp[get],hm,rfl⟩
  ·rename_i hm;obtain⟨l0,v0,h1,h2,h3⟩:=ih h;refine⟨l0,v0,?_,h2,h3⟩;have:m≠l0:=fun e=>hm (by rw[e,h2]);simp[get,this,h1]
def Jt(h:∀cs,get s (.heap b)≠some cs):newB b s:=by
 induction s with
 | nil=>trivial
 | cons p r ih=>
  obtain⟨m,u⟩:=p;cases m with
  | heap b'=>
   refine⟨fun e=>h u (by simp[get,e]),ih fun cs hc=>?_⟩;by_cases e:b' = b;· exact h u (by simp[get,e])
   ·exact h cs (by simp[get,e,hc])
  | P0 n=>exact ih fun cs hc=>h cs (by simp[get,hc])
  | loc n=>exact ih fun cs hc=>h cs (by simp[get,hc])
  | tok n=>exact ih fun cs hc=>h cs (by simp[get,hc])
section
variable{X:Ctx}{s:St}
def cS0{x:SV}{v:Value}(h:B7 G w x v):B7 G w (oE k (G.ν k) x) v:=by
 cases x with
 | loc j off=>
  simp only[oE];split
  ·rename_i hj;have h':v = .pointer (some ⟨G.ν j,off,none⟩):=h;rw[h',hj];exact .K0 _ tT
  ·exact h
 | _=>exact h
def qT0{x:SV}(h:x.isCell=true):(oE k b x).isCell=true:=by
 cases x with
 | loc j off=>simp only[oE];split <;> rfl
 | _=>exact h
def Wg:D5 G (CY k (G.ν k) l) (Nt k (G.ν k) v)=D5 G l v:=by
 cases l with
 | P0 n=>cases v <;> rfl
 | heap n=>cases v <;> rfl
 | tok n=>cases v <;> rfl
 | loc j=>
  simp only[CY];split
  ·subst_vars;cases v <;> rfl
  ·cases v <;> rfl
def Rel.expose{G:Gh}{a:Act}{w:World}(R:Rel X G s a w)(k:Nat):Rel X G (expose k (G.ν k) s) a w:=by
 have Dr:∀l,(CY k (G.ν k) l).isTok=l.isTok:=by
  intro l;cases l <;> simp only[CY] <;> first|rfl|(split <;> rfl)
 have A5:∀b cs,jT G w b cs->jT G w b (rE k (G.ν k) cs):=by
  rintro b cs ⟨c,e,h1,h2,h3⟩;refine⟨c,e,h1,by rw[(dJ0 _ _ _).1];exact h2,fun i x hx=>?_⟩;rw[(dJ0 _ _ _).2]at hx;cases hq:cs[i]? with
  | none=>simp[hq]at hx
  | some y=>
   simp[hq]at hx;subst hx;obtain⟨q1,v,q2,q3⟩:=h3 i y hq;exact⟨qT0 q1,v,q2,cS0 q3⟩
 refine⟨R.size,R.defers,R.ext,R.wf,R.nil,fun l v hg=>?_,fun l v l' v' b hg dY hb X2=>?_,fun l v b hg hb=>?_,fun l v b o hg hb ht=>?_⟩
 ·obtain⟨l0,v0,h1,rfl,rfl⟩:=LL hg;have hh:=R.holds _ _ h1;cases l0 with
  | P0 n=>cases v0 with
   | one x=>exact cS0 hh
   | _=>exact hh.elim
  | tok n=>cases v0 with
   | tk E m=>exact hh
   | _=>exact hh.elim
  | heap n=>cases v0 with
   | row cs=>exact A5 _ _ hh
   | ob r=>exact hh
   | mp l=>exact hh
   | _=>exact hh.elim
  | loc j=>cases v0 with
   | row cs=>
    simp only[CY];split
    ·subst_vars;exact A5 _ _ hh
    ·exact A5 _ _ hh
   | _=>exact hh.elim
 ·obtain⟨l0,v0,h1,rfl,rfl⟩:=LL hg;obtain⟨l1,v1,k1,rfl,rfl⟩:=LL dY;rw[Wg]at hb X2;rw[R.sep _ _ _ _ b h1 k1 hb X2]
 ·obtain⟨l0,v0,h1,rfl,rfl⟩:=LL hg;rw[Wg]at hb;rw[Dr];exact R.own _ _ b h1 hb
 ·obtain⟨l0,v0,h1,rfl,rfl⟩:=LL hg;rw[Wg]at hb;rw[Dr]at ht;exact R.data _ _ b o h1 hb ht
def Rel.newB{G:Gh}{a:Act}{w:World}(R:Rel X G s a w){k:Nat}{cs:List SV}(hk:get s (.loc k)=some (.row cs)):newB (G.ν k) s:=by
 refine Jt fun v hv=>?_;have hh:=R.holds _ _ hv;cases v with
 | row N7=>
  have:=R.sep _ _ _ _ (G.ν k) hk hv rfl rfl;cases this
 | one x=>exact hh.elim
 | tk E n=>exact hh.elim
 | ob r=>
  have:=R.sep _ _ _ _ (G.ν k) hk hv rfl rfl;cases this
 | mp l=>
  have:=R.sep _ _ _ _ (G.ν k) hk hv rfl rfl;cases this
def fG(k:Nat){cs:List SV}(hk:get s (.loc k)=some (.row cs))(h:∀b,newB b s->W X kk (expose k b s)):W X kk s:=
 fun G a w b cs hf nO hr R=>h (G.ν k) (R.newB hk) G a w b cs hf nO hr (R.expose k)
def Yo{l:List Oper}{K:St->Prop}(ho:Kb X ops o s s')(h:VL X ops l s' K):VL X ops (o::l) s K:=by
 intro n hn G a w R;obtain⟨h1,h2⟩:=pA hn;simp only[B4,qJ,wpOpsIn,h1];have:=ho G a w R _ (Dj X K) fun G' a' w' R'=>h (n+1) h2 G' a' w' R';split;· rename_i hw;simp only[hw,if_true]at this;exact this
 ·rename_i hw;simp only[hw]at this;exact⟨fun _ _=>trivial,this⟩
def qU0{L1:List Nat}{ops:Array Oper}{l:List Oper}{K:St->Prop}{d:Tmp}{f:FuncId}{args:Array Operand}{X5:Array TypeId}{ty:TypeId}{pos:String}{af:Array Edge}{j dj:Nat}{want:Bool}{gl:X8}(hP:X.P=P)(G0:X.gl=gl)
  {ds J9:List DV} {φ I2:G3} {r:DV} (hc:P8 P gl f J9 φ r I2) (V2:aZ X (get s) args.toList=some ds) (c8:ds=J9) (S4:v7 (get s) φ) (A4:(φ.map (·.1)).Nodup) (C7:d<X.n)
  (hj:Hg ops j=some dj) (Om:dj<X.n) (hb:get s (.P0 dj)=some (.one (.v (.K0 (.bool want)))))
  (h:vc X L1 ops l (aX (dJ (L2 s (.P0 d) (.one (.v r))) φ) I2) K) :
  cB X L1 ops l K ⟨some d,.call { callee:=.value (.func f),args:=args,argTypes:=X5 },ty,pos,af,some (j,want)⟩ s (H4 X L1 s ⟨some d,.call { callee:=.value (.func f),args:=args,argTypes:=X5 },ty,pos,af,some (j,want)⟩):=by
 subst c8;have e:H4 X L1 s ⟨some d,.call { callee:=.value (.func f),args:=args,argTypes:=X5 },ty,pos,af,some (j,want)⟩=none:=by
  simp only[H4,dA,N8,oB,A9];split <;> rfl
 rw[e];refine Yo (zN (.inr ⟨j,dj,want,rfl,hj,Om,hb⟩) (Qg (o:=⟨some d,.call { callee:=.value (.func f),args:=args,argTypes:=X5 },ty,pos,af,some (j,want)⟩) rfl V2 (by rw[hP,G0];exact hc) S4 A4 rfl C7)) (bW h)
def n50{L1:List Nat}{ops:Array Oper}{s0:St}{K:St->Prop}{l:List Oper}{k:St->List Ev->Prop}{ev:List Ev}{fp wr:List Loc}{d:Tmp}{f:FuncId}{args:Array Operand}{X5:Array TypeId}{ty:TypeId}{pos:String}{af:Array Edge}{j dj:Nat}{want:Bool}{s1:St}
  (hk:∀s ev,k s ev->VD X ops s0 l s ev K) {P:Program} {gl:X8} (hP:X.P=P) (G0:X.gl=gl) {ds J9:List DV} {φ I2:G3} {r:DV} (hc:P8 P gl f J9 φ r I2) (V2:aZ X (get s) args.toList=some ds) (c8:ds=J9) (S4:v7 (get s) φ) (A4:(φ.map (·.1)).Nodup) (C7:d<X.n)
  (hj:Hg ops j=some dj) (Om:dj<X.n) (hb:get s (.P0 dj)=some (.one (.v (.K0 (.bool want)))))
  (h:rM k ev s (.P0 dj::(S6 args.toList++pK φ)) [] ((.P0 d,some (.one (.v r)))::(BK φ++BL I2))) :
  Ae X ops s0 l K k ⟨some d,.call { callee:=.value (.func f),args:=args,argTypes:=X5 },ty,pos,af,some (j,want)⟩ ev s fp wr (H4 X L1 s1 ⟨some d,.call { callee:=.value (.func f),args:=args,argTypes:=X5 },ty,pos,af,some (j,want)⟩):=by
 subst c8;have e:H4 X L1 s1 ⟨some d,.call { callee:=.value (.func f),args:=args,argTypes:=X5 },ty,pos,af,some (j,want)⟩=none:=by
  simp only[H4,dA,N8,oB,A9];split <;> rfl
 rw[e];show VD X ops s0 _ s ev K;refine Bv ⟨.P0 dj::(S6 args.toList++pK φ),_,[]⟩ (fun s' hs _=>zN (.inr ⟨j,dj,want,rfl,hj,Om,hs _ _ (Cv sS hb)⟩) ?_) (hk _ _ h);refine (Qg (o:=⟨some d,.call { callee:=.value (.func f),args:=args,argTypes:=X5 },ty,pos,af,some (j,want)⟩) rfl (Gb hs (fun m hm=>iJ _ (VE hm)) V2) (by rw[hP,G0];exact hc) ?_ A4 rfl C7).congr fun m=>?_
 ·intro b cs hm;exact hs _ _ (Cv (iJ _ (t6.2 (.inr (QO hm)))) (S4 b cs hm))
 ·simp only[apply,LA,Qv,Qw]
theorem IV{L1:List Nat}{ops:Array Oper}{l:List Oper}{K:St->Prop}{d:Tmp}{f:FuncId}{args:Array Operand}{X5:Array TypeId}{ty:TypeId}{pos:String}{af:Array Edge}{gl:X8}(hP:X.P=P)(G0:X.gl=gl)
  {ds J9:List DV} {φ:G3} {R:DV->G3->Prop} (hc:lF P gl f J9 φ R) (V2:aZ X (get s) args.toList=some ds) (c8:ds=J9) (S4:v7 (get s) φ) (A4:(φ.map (·.1)).Nodup) (C7:d<X.n)
  (h:∀r I2,R r I2->(∀b∈I2.map (·.1),b∈φ.map (·.1)\/newB b s)->vc X L1 ops l (aX (dJ (L2 s (.P0 d) (.one (.v r))) φ) I2) K) :
  cB X L1 ops l K ⟨some d,.call { callee:=.value (.func f),args:=args,argTypes:=X5 },ty,pos,af,none⟩ s (H4 X L1 s ⟨some d,.call { callee:=.value (.func f),args:=args,argTypes:=X5 },ty,pos,af,none⟩):=by
 subst c8;have e:H4 X L1 s ⟨some d,.call { callee:=.value (.func f),args:=args,argTypes:=X5 },ty,pos,af,none⟩=none:=by
  simp only[H4,dA,N8,oB,A9];split <;> rfl
 rw[e];intro n hn G a w R0;obtain⟨h1,h2⟩:=pA hn;simp only[B4,qJ,wpOpsIn,h1,fD,if_true];refine (Mm (o:=⟨some d,.call { callee:=.value (.func f),args:=args,argTypes:=X5 },ty,pos,af,none⟩) (fi:=#[]) (ca:=#[]) (ds:=ds) rfl rfl ⟨ds,V2,sS⟩ sS (by rw[hP,G0];exact hc) S4 A4 rfl C7 R0 _ _ fun r I2 G' a' w' hR K1 R'=>?_);refine bW (h r I2 hR fun b hb=>(K1 b hb).imp id fun hh=>Jt fun v hv=>?_) (n+1) h2 G' a' w' R';have Am:=R0.holds _ _ hv;cases v with
 | row cs=>exact hh _ _ hv rfl
 | ob r=>exact hh _ _ hv rfl
 | mp l=>exact hh _ _ hv rfl
 | one x=>exact Am.elim
 | tk E n=>exact Am.elim
def qV0{L1:List Nat}{ops:Array Oper}{l:List Oper}{K:St->Prop}{d:Tmp}{x:Operand}{f:FuncId}{fi ca:Array Value}{args:Array Operand}{X5:Array TypeId}{ty:TypeId}{pos:String}{af:Array Edge}{gl:X8}(hP:X.P=P)(G0:X.gl=gl)
  (hx:M2 X (get s) x=some (.v (.K0 (.func (.func f) fi ca)))) (Kv:∀v∈fi.toList++ca.toList,aY v)
  {ds J9:List DV} {φ I2:G3} {r:DV} (hc:P8 P gl f J9 φ r I2) (V2:aZ X (get s) args.toList=some ds) (c8:fi.toList.map rY++ds++ca.toList.map rY=J9) (S4:v7 (get s) φ) (A4:(φ.map (·.1)).Nodup) (C7:d<X.n)
  (h:vc X L1 ops l (aX (dJ (L2 s (.P0 d) (.one (.v r))) φ) I2) K) :
  cB X L1 ops l K ⟨some d,.call { callee:=.value x,args:=args,argTypes:=X5 },ty,pos,af,none⟩ s (H4 X L1 s ⟨some d,.call { callee:=.value x,args:=args,argTypes:=X5 },ty,pos,af,none⟩):=by
 subst c8;have e:H4 X L1 s ⟨some d,.call { callee:=.value x,args:=args,argTypes:=X5 },ty,pos,af,none⟩=none:=by
  simp only[H4,dA,N8,oB,A9];split <;> rfl
 rw[e];refine Yo (zN (.inl rfl) (s':=aX (dJ (L2 s (.P0 d) (.one (.v r))) φ) I2) ?_) (bW h);intro G a w R0 next Q hK
 refine Mm (o:=⟨some d,.call { callee:=.value x,args:=args,argTypes:=X5 },ty,pos,af,none⟩) (ds:=fi.toList.map rY++ds++ca.toList.map rY) rfl hx ⟨ds,V2,rfl⟩ Kv (by rw[hP,G0];exact hc) S4 A4 rfl C7 R0 next Q ?_
 rintro r' ψ G' a' w' ⟨rfl,rfl⟩ _ R';exact hK G' a' w' R'
def qW0{L1:List Nat}{ops:Array Oper}{l:List Oper}{K:St->Prop}{d:Tmp}{x:Operand}{f:FuncId}{args:Array Operand}{X5:Array TypeId}{ty:TypeId}{pos:String}{af:Array Edge}{gl:X8}(hP:X.P=P)(G0:X.gl=gl)
  {ds J9:List DV} {φ I2:G3} {r:DV} (hc:P8 P gl f J9 φ r I2) (hx:M2 X (get s) x=some (.v (.K0 (.func (.func f) #[] #[])))) (V2:aZ X (get s) args.toList=some ds) (c8:ds=J9) (S4:v7 (get s) φ) (A4:(φ.map (·.1)).Nodup) (C7:d<X.n)
  (h:vc X L1 ops l (aX (dJ (L2 s (.P0 d) (.one (.v r))) φ) I2) K) :
  cB X L1 ops l K ⟨some d,.call { callee:=.value x,args:=args,argTypes:=X5 },ty,pos,af,none⟩ s (H4 X L1 s ⟨some d,.call { callee:=.value x,args:=args,argTypes:=X5 },ty,pos,af,none⟩):=
 qV0 hP G0 hx sS hc V2 (by simpa using c8) S4 A4 C7 h
def Yp(S:St)(h1:W X kk S->W X (.code c::kk) s)(h2:W X kk S):W X (.code c::kk) s:=h1 h2
def dB{α:Type}(L:List α)(I:List α->Prop)(S:List α->List α->St)(h0:I [])(round:∀done x rest,L=done++x::rest->L[done.length]? = some x->I done->(I (done++[x])->W X (.inLoop c::kk) (S (done++[x]) rest))->W X (.code c::.inLoop c::kk) (S done (x::rest)))(last:I L->W X (.code c::.inLoop c::kk) (S L [])):
  W X (.code (.loop c)::kk) (S [] L):=by
 have key:=mQ (X:=X) (k:=kk) (c:=c) (fun i:List α × List α=>L=i.1++i.2/\I i.1) (fun i=>S i.1 i.2) (fun i=>i.2.length) ([],L) ⟨rfl,h0⟩;refine key fun ⟨done,rest⟩ hI ih=>?_;obtain⟨hI,hJ⟩:=hI;cases rest with
 | nil=>
  simp only[KX]at hI;subst hI;exact last hJ
 | cons x rest=>
  exact round done x rest hI (by rw[hI];simp) hJ (fun hj=>ih (done++[x],rest) ⟨by simp[hI],hj⟩ sS)
def Sm(E:Prop)(S:St)(h1:(E->W X kk S)->W X (.code c::kk) s)(h2:E->W X kk S):W X (.code c::kk) s:=h1 h2
def gA(hP:X.P=P)(hf:X.f=f)(X0:X.fn=fn)(r:DV)(φ:G3)(h:P.funcs[f]? = some fn/\rJ X (get s) fn.results.toList=some r)(S4:v7 (get s) φ)(A4:(φ.map (·.1)).Nodup)(hR:X.R r φ)(t9:X.md = .fn):W X (.code .ret::kk) s:=by
 subst hP hf X0;exact gB0 t9 h.1 h.2 S4 A4 hR
def XQ(hP:X.P=P)(hf:X.f=f)(X0:X.fn=fn)(r:DV)(φ:G3)(h:P.funcs[f]? = some fn/\rJ X (get s) fn.results.toList=some r)(S4:v7 (get s) φ)(A4:(φ.map (·.1)).Nodup)(hR:X.R r φ)(t9:X.md = .fn):W X [] s:=by
 subst hP hf X0;exact gC0 t9 h.1 h.2 S4 A4 hR
end
theorem qX0(k b off:Nat):oE k b (.loc k off) = .v (.K0 (.pointer (some ⟨b,off,none⟩))):=by simp[oE]
theorem n60(b off:Nat)(h:j≠k):oE k b (.loc j off) = .loc j off:=by simp[oE,h]
theorem AU0(k b:Nat)(x:DV):oE k b (.v x) = .v x:=rfl
theorem yn0(k b:Nat)(e:List (List DV))(i o:Nat):oE k b (.dp e i o) = .dp e i o:=rfl
theorem yo0(k b:Nat)(e:List DV)(n:List Nat):oE k b (.ag e n) = .ag e n:=rfl
theorem t90(k b t:Nat)(e:List (List DV)):oE k b (.own t e) = .own t e:=rfl
theorem qY0(k b:Nat):rE k b []=[]:=rfl
theorem n70(k b:Nat)(x:SV)(r:List SV):rE k b (x::r)=oE k b x::rE k b r:=rfl
theorem n80(k b:Nat):expose k b []=[]:=rfl
theorem me0(k b n:Nat)(x:SV)(r:St):expose k b ((.P0 n,.one x)::r)=(.P0 n,.one (oE k b x))::expose k b r:=rfl
theorem mf0(k b:Nat)(cs:List SV)(r:St):expose k b ((.loc k,.row cs)::r)=(.heap b,.row (rE k b cs))::expose k b r:=by simp[expose,CY,Nt]
theorem lh0(b:Nat)(cs:List SV)(r:St)(h:j≠k):expose k b ((.loc j,.row cs)::r)=(.loc j,.row (rE k b cs))::expose k b r:=by simp[expose,CY,Nt,h]
theorem mg0(k b n:Nat)(cs:List SV)(r:St):expose k b ((.heap n,.row cs)::r)=(.heap n,.row (rE k b cs))::expose k b r:=rfl
theorem qZ0(k b n:Nat)(q:List (Int × DV))(r:St):expose k b ((.heap n,.mp q)::r)=(.heap n,.mp q)::expose k b r:=rfl
theorem q00(k b n:Nat)(q:Ob)(r:St):expose k b ((.heap n,.ob q)::r)=(.heap n,.ob q)::expose k b r:=rfl
theorem n90(k b t E n:Nat)(r:St):expose k b ((.tok t,.tk E n)::r)=(.tok t,.tk E n)::expose k b r:=rfl
theorem ua0(b:Nat):newB b []=True:=rfl
theorem q20(b n:Nat)(v:LV)(r:St):newB b ((.heap n,v)::r)=(n≠b/\newB b r):=rfl
theorem q30(b n:Nat)(v:LV)(r:St):newB b ((.P0 n,v)::r)=newB b r:=rfl
theorem ub0(b n:Nat)(v:LV)(r:St):newB b ((.loc n,v)::r)=newB b r:=rfl
theorem uc0(b n:Nat)(v:LV)(r:St):newB b ((.tok n,v)::r)=newB b r:=rfl
attribute [go_sem] q00 qZ0 qX0 n60 AU0 yn0 yo0 t90 qY0 n70 n80 me0 mf0 lh0 mg0 n90 ua0 q20 q30 ub0 uc0
end
section
def YC(P:Program)(gl:X8)(D0:Nat->Nat->Prop)(w0:World)(l:Nat)(r:Loop)(args:List DV)(φ:G3)(R:Bool->G3->Loop->Prop):Prop:=
 ∀(D:Nat->Nat->Prop) (w:World) (vs:Array Value),iU D0 w0 D w->w0.heap.size<=w.heap.size->Wf gl D w->vs.size=args.length->(∀(i:Nat) (x:DV) (v:Value),args[i]? = some x->vs[i]? = some v->RV D w x v)->HeapOK D w φ->w.heap[l]? = some (.loop r) ->
  RoundIn Fence.wide 0 P l r.fn ((r.params.zip vs).foldl (fun tmps (t,a)=>tmps.setIfInBounds t a) r.tmps) r.assign r.body w fun e w'=>∃b D' I2 r',e = .returned (.bool b)/\R b I2 r'/\Ext (l::φ.map (·.1)) D w D' w'/\Wf gl D' w'/\HeapOK D' w' I2/\w'.heap[l]? = some (.loop r')/\∀b∈I2.map (·.1),b∈φ.map (·.1)\/w.heap.size<=b
def NE(P:Program)(gl:X8)(f:FuncId)(args:List DV)(φ:G3)(l:Nat)(r:Loop)(Y:(Nat->Nat->Prop)->World->Prop)(R:G3->Loop->Prop):Prop:=
 Rt P f/\∀(D:Nat->Nat->Prop) (w:World) (vs:Array Value),Wf gl D w->vs.size=args.length->(∀(i:Nat) (x:DV) (v:Value),args[i]? = some x->vs[i]? = some v->RV D w x v)->HeapOK D w φ->w.heap[l]? = some (.loop r)->Y D w ->
  Calls P f vs w fun e w'=>∃v D' I2 r',e = .returned v/\R I2 r'/\Ext (l::φ.map (·.1)) D w D' w'/\Wf gl D' w'/\HeapOK D' w' I2/\w'.heap[l]? = some (.loop r')/\∀b∈I2.map (·.1),b∈φ.map (·.1)\/w.heap.size<=b
def IM{D:Nat->Nat->Prop}{gl:X8}{l:Nat}{r:Loop}(dX:Wf gl D w)(hh:HeapOK D w φ)(hl:w.heap[l]? = some (.loop r)):(∀o,¬D l o)/\l∉φ.map (·.1):=by
 refine⟨fun o hd=>?_,fun hm=>?_⟩;· exact (dX.there l o hd).no hl sS sS
 ·obtain⟨⟨b,cs⟩,hq,rfl⟩:=F9.1 hm;obtain⟨c,e,h1,_⟩:=hh.rows b cs hq;simp only at hl;rw[hl]at h1;cases h1
section
variable{X:Ctx}{s:St}{k:List Item}
def GH(args:List DV)(φ:G3)(l:Nat)(r:Loop):St:=(.heap l,.ob r)::entry args φ
def q40{args:List DV}(hl:get (entry args φ) l=some v):(∃i x,l = .P0 i/\v = .one (.v x)/\args[i]? = some x)\/∃b cs,l = .heap b/\v = .row (cs.map b7)/\(b,cs)∈φ:=by
 unfold entry at hl;rw[eE]at hl;rcases Lb.1 hl with hl|⟨-,hl⟩
 ·obtain⟨i,x,h1,h2,h3⟩:=QL hl;exact .inl ⟨i,x,by simpa using h1,h2,h3⟩
 ·exact .inr (tZ hl)
def Wh {gl : X8}{args : List DV}{φ : G3}{l : Nat}{r : Loop}{Y : (Nat -> Nat -> Prop) -> World -> Prop}{R : G3 -> Loop -> Prop}{body : Code}(hf : P.funcs[f]? = some fn)(hb : fn.body = some body)(Dp : (fn.name == "runtime.NumGoroutine") = false)
  (hn:args.length<=fn.ntmps)
  (h:∀X:Ctx,X.P=P->X.gl=gl->X.f=f->X.fn=fn->X.n=fn.ntmps->X.md = .it l R->X.ids=l::φ.map (·.1)->(∀x∈args,J6 x)->l∉φ.map (·.1)->Y X.D0 X.w0->W X [.code body] (GH args φ l r)):NE P gl f args φ l r Y R:=by
 refine⟨⟨fn,hf,by simp[hb],Dp⟩,?_⟩;intro D w vs dX P6 V2 vP HC hY cs;obtain⟨A4,hnm⟩:=IM dX vP HC
 let X:Ctx:={ P:=P,gl:=gl,f:=f,fn:=fn,n:=fn.ntmps,ids:=l::φ.map (·.1),D0:=D,w0:=w,R:=fun _ _=>False,md:=.it l R }
 have G1:∀x∈args,J6 x:=by
  intro x hx;obtain⟨i,hi,rfl⟩:=yM.1 hx;exact RV.fit (V2 i _ vs[i] (uB hi) (uG oO))
 have hW:=h X rfl rfl rfl rfl rfl rfl rfl G1 hnm hY
 let a:Act:={ tmps:=vs++La (fn.ntmps - vs.size) undef,defers:=[] }
 have Rl:Rel X { D:=D,ν:=fun _=>0,τ:=fun _=>(none,0) } (GH args φ l r) a w:=by
  have d8:∀m v,get (GH args φ l r) m=some v->(m = .heap l/\v = .ob r)\/(∃i x,m = .P0 i/\v = .one (.v x)/\args[i]? = some x)\/∃b cs,m = .heap b/\v = .row (cs.map b7)/\(b,cs)∈φ:=by
   intro m v hm;simp only[GH,get]at hm;split at hm;· rename_i e;cases hm;exact .inl ⟨e.symm,rfl⟩
   ·exact .inr (q40 hm)
  refine⟨by simp[a,X];omega,⟨[],rfl,Lc,sS⟩,Ext.refl _ _ _,dX,rfl,fun m v hm=>?_,fun m v m' v' b hm rP hb X2=>?_,fun m v b hm hb=>?_,fun m v b o hm hb _=>?_⟩
  ·rcases d8 m v hm with⟨rfl,rfl⟩|⟨i,x,rfl,rfl,hx⟩|⟨b,cs,rfl,rfl,hq⟩;· exact HC
   ·have hi:i<vs.size:=by rw[P6];exact (uA hx).1
    have hv:vs[i]? = some vs[i]:=uG hi;show RV D w x _;have:a.tmps.getD i undef=vs[i]:=by
     simp[a,Array.getElem?_append_left hi,hv]
    rw[this];exact V2 i x _ hx hv
   ·exact IC (G:={ D:=D,ν:=fun _=>0,τ:=fun _=>(none,0) }) vP hq
  ·have Fr:∀m v,((m = .heap l/\v = .ob r)\/(∃i x,m = .P0 i/\v = .one (.v x)/\args[i]? = some x)\/∃b cs,m = .heap b/\v = .row (cs.map b7)/\(b,cs)∈φ)->D5 { D:=D,ν:=fun _=>0,τ:=fun _=>(none,0) } m v=some b->m = .heap b:=by
    rintro m v (⟨rfl,rfl⟩|⟨i,x,rfl,rfl,hx⟩|⟨b',cs,rfl,rfl,hm⟩) hb;· simp only[D5,uC]at hb;rw[hb]
    ·cases hb
    ·simp only[D5,uC]at hb;rw[hb]
   rw[Fr m v (d8 m v hm) hb,Fr m' v' (d8 m' v' rP) X2]
  ·rcases d8 m v hm with⟨rfl,rfl⟩|⟨i,x,rfl,rfl,hx⟩|⟨b1,cs,rfl,rfl,hq⟩
   ·simp only[D5,uC]at hb;subst hb;exact .inr ⟨by simp[X],rfl⟩
   ·cases hb
   ·simp only[D5,uC]at hb;subst hb;exact .inr ⟨iJ _ (F9.2 ⟨_,hq,rfl⟩),rfl⟩
  ·rcases d8 m v hm with⟨rfl,rfl⟩|⟨i,x,rfl,rfl,hx⟩|⟨b1,cs,rfl,rfl,hq⟩
   ·simp only[D5,uC]at hb;subst hb;exact A4 o
   ·cases hb
   ·simp only[D5,uC]at hb;subst hb;exact vP.nodata _ _ hq o
 let b:Frame:={ (default:Frame) with fn:=f,kind:=.normal }
 have Hl:Pt P f vs .normal=b.atR a [.code body]:=by
  simp[Pt,aD0,hf,hb,b,a];rfl
 obtain⟨w',fr,⟨v,D',I2,r',k1,⟨k2,k3,k4,k5⟩,k6,k7,k8⟩,h2⟩:=hW _ a w b cs rfl rfl rfl Rl;rw[<- Hl]at h2;refine⟨.returned v,w',fr,⟨v,D',I2,r',rfl,k1,k2,k3,k4,k6,fun b hb=>?_⟩,h2,k7,k8⟩;rcases k5 b hb with h|h
 ·rcases u5.1 h with rfl|h;· exact absurd hb (IM k3 k4 k6).2
  ·exact .inl h
 ·exact .inr h
theorem Rel.yield(R:Rel X G s a w){I2:G3}(S4:v7 (get s) φ){l:Nat}{r r':Loop}(hl:get s (.heap l)=some (.ob r)){D':Nat->Nat->Prop}(hx:Ext (l::φ.map (·.1)) G.D w D' w')(dX:Wf X.gl D' w'){x:DV}{v:Value}(hr:RV D' w' x v)
  (hh:HeapOK D' w' I2) (L8:w'.heap[l]? = some (.loop r')) (K1:∀b∈I2.map (·.1),b∈φ.map (·.1)\/w.heap.size<=b) {d:Nat} (hd:d<X.n) :
  Rel X { D:=D',ν:=G.ν,τ:=G.τ } (L2 (aX (dJ (L2 s (.P0 d) (.one (.v x))) φ) I2) (.heap l) (.ob r')) (a.put (some d) v) w':=by
 have hp:=qT a (some d) v;have tW:∀b∈φ.map (·.1),∃cs,get s (.heap b)=some (.row (Y3 b7 cs)):=by
  intro b hb;obtain⟨⟨b',N7⟩,hm,rfl⟩:=F9.1 hb;exact⟨N7,S4 b' N7 hm⟩
 have tQ:w.heap[l]? = some (.loop r):=R.holds _ _ hl;obtain⟨TI,GP0⟩:=IM dX hh L8;have T:Trans X G a w { D:=D',ν:=G.ν,τ:=G.τ } (a.put (some d) v) w' (fun b=>b∈l::φ.map (·.1)\/mA G.D w b):=by
  refine⟨hp.1,fun h=>h.keep hp.2 fun D hD=>(hx.block D (fB.1 hD).1 (fun hm=>?_) (R.wf.unsoft hD sS sS)).trans hD,hx.os,hx.tape,hx.output,hx.size,fun b hb hn=>hx.block b hb (fun h=>hn (.inl h)) fun h=>hn (.inr h),fun b hb=>?_,hx.grow,fun b o hD hn=>⟨.inl (hx.new b o hD hn),dX.there b o hD⟩,R.nil⟩
  ·rcases u5.1 hm with rfl|hm;· rw[tQ]at hD;cases hD
   ·obtain⟨cs,hg⟩:=tW D hm;obtain⟨c,e,h4,_⟩:=R.holds _ _ hg;rw[hD]at h4;cases h4
  ·rcases hb with hb|hb
   ·rcases u5.1 hb with rfl|hb;· exact (R.own _ _ b hl rfl).imp id fun h=>.inl h.1
    ·obtain⟨cs,hg⟩:=tW b hb;exact (R.own _ _ b hg rfl).imp id fun h=>.inl h.1
   ·exact (R.ext.soft hb).imp id .inr
 refine R.step T (fun m u=>(m = .heap l/\u = .ob r')\/(m = .P0 d/\u = .one (.v x))\/∃b cs,m = .heap b/\u = .row (cs.map b7)/\(b,cs)∈I2) (fun m u h=>?_) (fun m u h=>?_) (fun m u m' u' b h h' hb X2=>?_)
 ·rw[T5]at h;split at h;· rename_i e;cases h;exact .inl (.inl ⟨e.symm,rfl⟩)
  ·rename_i Kz;rcases Qk _ _ _ _ h with h|⟨h,X1⟩;· exact .inl (.inr (.inr h))
   ·obtain⟨h,hn⟩:=Vl _ _ _ _ h;rw[T5]at h;split at h;· rename_i hl;cases h;exact .inl (.inr (.inl ⟨hl.symm,rfl⟩))
    ·rename_i fS;refine .inr ⟨h,fun n hn=>zC _ _ _ _ (fun e=>fS (by rw[hn,e])),fun b hb hB=>?_,fun _ _=>rfl,fun _ _=>rfl⟩;rcases hB with hB|hB
     ·rcases u5.1 hB with rfl|hB;· exact Kz (R.sep _ _ _ _ b hl h rfl hb)
      ·obtain⟨cs,hg⟩:=tW b hB;exact hn b hB (R.sep _ _ _ _ b hg h rfl hb).symm
     ·exact R.unsoft h hb hB
 ·rcases h with⟨rfl,rfl⟩|⟨rfl,rfl⟩|⟨b,cs,rfl,rfl,hm⟩
  ·refine⟨L8,fun b hb=>?_⟩;simp only[D5,uC]at hb;subst hb;exact⟨.inr (.inl sS),R.own _ _ l hl rfl,fun _ o=>TI o⟩
  ·refine⟨?_,fun b hb=>by cases hb⟩;show RV D' w' x _;rw[zB _ _ _ (by rw[R.size];exact hd)];exact hr
  ·refine⟨IC hh hm,fun b' X2=>?_⟩;simp only[D5,uC]at X2;subst X2;have BO:b∈I2.map (·.1):=F9.2 ⟨_,hm,rfl⟩;refine⟨(K1 b BO).symm.imp id fun h=>.inl (iJ _ h),?_,fun _ o=>hh.nodata b cs hm o⟩;rcases K1 b BO with h1|h1
   ·obtain⟨N7,hg⟩:=tW b h1;exact R.own _ _ b hg rfl
   ·exact .inl (cH R.ext.size h1)
 ·have Fr:∀m u,((m = .heap l/\u = .ob r')\/(m = .P0 d/\u = .one (.v x))\/∃b cs,m = .heap b/\u = .row (cs.map b7)/\(b,cs)∈I2)->D5 { D:=D',ν:=G.ν,τ:=G.τ } m u=some b->m = .heap b:=by
   rintro m u (⟨rfl,rfl⟩|⟨rfl,rfl⟩|⟨b',cs,rfl,rfl,hm⟩) hb;· simp only[D5,uC]at hb;rw[hb]
   ·cases hb
   ·simp only[D5,uC]at hb;rw[hb]
  rw[Fr m u h hb,Fr m' u' h' X2]
theorem q50{y:Operand}(ho:o.op = .call { callee:=.value y,args:=args,argTypes:=X5 }){l:Nat}(hy:M2 X (get s) y=some (.v (.K0 (.func (.yield l) #[] #[]))))
  {ds:List DV} (V2:aZ X (get s) args.toList=some ds) {r:Loop} (kT:r.params.size=ds.length) {φ:G3} {R:Bool->G3->Loop->Prop} (hc:YC X.P X.gl X.D0 X.w0 l r ds φ R) (S4:v7 (get s) φ) (A4:(φ.map (·.1)).Nodup) (hl:get s (.heap l)=some (.ob r))
  {d:Nat} (hd:o.dst=some d) (C7:d<X.n) {G:Gh} {a:Act} {w:World} (R0:Rel X G s a w) (next:Act->World->Prop) (Q:Exit->Act->World->Prop)
  (hk:∀b I2 r' G' a' w',R b I2 r'->(∀c∈I2.map (·.1),c∈φ.map (·.1)\/∀m v,get s m=some v->D5 G m v≠some c)->Rel X G' (L2 (aX (dJ (L2 s (.P0 d) (.one (.v (.K0 (.bool b))))) φ) I2) (.heap l) (.ob r')) a' w'->next a' w'):o.wpIn X.F 0 X.P a w next Q:=by
 have rQ:=(X6 (O4 R0 hy)).1;obtain⟨q1,q2⟩:=FZ R0 V2;have Fw:args.size=ds.length:=by simpa using q1
 have tQ:w.heap[l]? = some (.loop r):=R0.holds _ _ hl;have O7:(execOp a.eval o).run X.P w = .ok (.round l r.fn ((r.params.zip (args.map a.eval)).foldl (fun tmps (t,a)=>tmps.setIfInBounds t a) r.tmps) r.assign r.body) w:=by
  simp[execOp,ho,resolve,rQ,aA0,invoke,run_yield tQ,kT,Fw,v9]
 refine⟨fun _ _=>trivial,?_⟩;rw[Oper.semAt_eq _ _ _ (by intro c e;rw[ho]at e;cases e),O7,Oper.uponIn_round];refine⟨fun h=>(by cases h),?_⟩;refine RoundIn.mono (hc G.D w (args.map a.eval) R0.ext.grow R0.ext.size R0.wf (by simp[Fw]) (fun i x v hx hv=>?_) (LX R0 S4 A4) tQ) ?_
 ·refine q2 i x v hx ?_;rw[<- DN]at hv
  simpa using hv
 ·rintro e w' ⟨b,D',I2,r',rfl,hR,hx,dX,hh,L8,K1⟩;simp only[hd];refine hk b I2 r' _ _ w' hR (fun c hc=>(K1 c hc).imp id fun h m v hg qA=>?_) (R0.yield S4 hl hx dX (.K0 (.bool b) tT) hh L8 K1 C7);have:=mT (R0.holds m v hg) qA;omega
theorem RQ{l:Nat}{r:Loop}(oI:X.rd=some l)(hl:get s (.heap l)=some (.ob r))(hr:r.state = .ready)(h:W X k (L2 s (.heap l) (.ob (.lp { r with state:=.busy })))):W X (.beginRound::k) s:=by
 intro G a w b cs hf hk jM R;have tQ:w.heap[l]? = some (.loop r):=R.holds _ _ hl;have O7:=run_beginRound (P:=X.P) tQ hr;have X1:∀b,b≠l->(w.putObj l (.loop { r with state:=.busy })).heap[b]? = w.heap[b]?:=fun b hb=>aw0 hb;have ai0:(w.putObj l (.loop { r with state:=.busy })).heap[l]? = some (.loop { r with state:=.busy }):=World.putObj_heap_same (fB.1 tQ).1
 have KK:∀b o,G.D b o->b≠l:=fun b o hd e=>by
  subst e;exact (R.wf.there b o hd).no tQ sS sS
 have T:Trans X G a w G a (w.putObj l (.loop { r with state:=.busy })) (fun b=>b=l):=by
  refine⟨rfl,fun h=>h.keep rfl fun D hD=>(X1 D fun e=>by subst e;rw[tQ]at hD;cases hD).trans hD,rfl,rfl,rfl,sS,fun b _ hb=>X1 b hb,fun b hb=>by subst hb;exact (R.own _ _ b hl rfl).imp id fun h=>.inl h.1,fun b o hd=>⟨hd,.of (X1 b (KK b o hd))⟩,fun _ _ h k=>absurd h k,R.nil⟩
 have R':Rel X G (L2 s (.heap l) (.ob (.lp { r with state:=.busy }))) a (w.putObj l (.loop { r with state:=.busy })):=by
  refine R.step T (fun m u=>m = .heap l/\u = .ob (.lp { r with state:=.busy })) (fun m u hm=>?_) (fun m u hm=>?_) (fun m u m' u' b h h' _ _=>h.1.trans h'.1.symm)
  ·rw[T5]at hm;split at hm;· rename_i e;cases hm;exact .inl ⟨e.symm,rfl⟩
   ·rename_i e;refine .inr ⟨hm,fun _ _=>rfl,fun b hb he=>?_,fun _ _=>rfl,fun _ _=>rfl⟩;subst he;exact e (R.sep _ _ _ _ b hl hm rfl hb)
  ·obtain⟨rfl,rfl⟩:=hm;refine⟨ai0,fun b hb=>?_⟩;simp only[D5,uC]at hb;subst hb;exact⟨.inr rfl,R.own _ _ l hl rfl,fun _ o hd=>KK l o hd rfl⟩
 obtain⟨w',fr,h1,h2⟩:=h G a _ b cs hf hk jM R';exact⟨w',fr,h1,.head (stepR_beginRound (jM.trans oI) O7) h2⟩
end
end
section
def Af(tmps:Array Value):List (Nat × Value)->Array Value
 | []=>tmps
 | (t,v)::r=>Af (tmps.setIfInBounds t v) r
def oa0(l:List (Nat × Value)):∀tmps:Array Value,l.foldl (fun tmps p=>tmps.setIfInBounds p.1 p.2) tmps=Af tmps l:=by
 induction l with
 | nil=>intro tmps;rfl
 | cons p r ih=>intro tmps;exact ih _
def q60(l:List (Nat × Value)):∀tmps:Array Value,(Af tmps l).size=tmps.size:=by
 induction l with
 | nil=>intro tmps;rfl
 | cons p r ih=>intro tmps;simp only[Af,ih,Array.size_setIfInBounds]
def cT0(l:List (Nat × Value)):∀tmps:Array Value,n∉l.map (·.1)->(Af tmps l).getD n undef=tmps.getD n undef:=by
 induction l with
 | nil=>intro tmps _;rfl
 | cons p r ih=>
  intro tmps h;simp only[G4,u5,not_or]at h;simp only[Af,ih _ h.2];simp[Array.getElem?_setIfInBounds_ne (f8 h.1)]
def yp0{v:Value}(l:List (Nat × Value)):∀tmps:Array Value,(l.map (·.1)).Nodup->(n,v)∈l->n<tmps.size->(Af tmps l).getD n undef=v:=by
 induction l with
 | nil=>intro tmps _ h;cases h
 | cons p r ih=>
  intro tmps hn h I1;simp only[G4,Ck]at hn;simp only[Af];rcases u5.1 h with rfl|h
  ·rw[cT0 _ _ hn.1];simp[I1]
  ·exact ih _ hn.2 h (by simpa using I1)
def Xp(D0:Nat->Nat->Prop)(w0:World)(tmps:Array Value)(SL:List (Nat × DV)):Prop:=∀n x,(n,x)∈SL->RV D0 w0 x (tmps.getD n undef)
def EB:List (Nat × DV)->St
 | []=>[]
 | (n,x)::r=>(.P0 n,.one (.v x))::EB r
def ob0{SL:List (Nat × DV)}(h:get (EB SL) l=some v):∃n x,l = .P0 n/\v = .one (.v x)/\(n,x)∈SL:=by
 induction SL with
 | nil=>cases h
 | cons p r ih=>
  obtain⟨n,x⟩:=p;simp only[EB,get]at h;split at h;· rename_i e;cases h;exact⟨n,x,e.symm,rfl,sS⟩
  ·obtain⟨n',x',h1,h2,h3⟩:=ih h;exact⟨n',x',h1,h2,iJ _ h3⟩
def EH:List Nat->List DV->St
 | p::ps,x::xs=>(.P0 p,.one (.v x))::EH ps xs
 | _,_=>[]
def q70{ps:List Nat}{xs:List DV}(h:get (EH ps xs) l=some v):∃(i p:Nat) (x:DV),l = .P0 p/\v = .one (.v x)/\ps[i]? = some p/\xs[i]? = some x:=by
 induction ps generalizing xs with
 | nil=>cases h
 | cons p ps ih=>
  cases xs with
  | nil=>cases h
  | cons x xs=>
   simp only[EH,get]at h;split at h;· rename_i e;cases h;exact⟨0,p,x,e.symm,rfl,rfl,rfl⟩
   ·obtain⟨i,p',x',h1,h2,h3,h4⟩:=ih h;exact⟨i+1,p',x',h1,h2,by simpa using h3,by simpa using h4⟩
def CQ(ps:List Nat)(args:List DV)(SL:List (Nat × DV))(φ:G3)(l:Nat)(r:Loop):St:=(.heap l,.ob r)::(EH ps args++(EB SL++U3 φ))
def xK(r:Loop)(j:Option Code):Loop:={ r with state:=if j.isNone then .ready else .done,pending:=j }
def WH{P:Program}{gl:X8}{D0:Nat->Nat->Prop}{w0:World}{l:Nat}{r:Loop}{args:List DV}{φ:G3}{R:Bool->G3->Loop->Prop}(n:Nat)(OP:r.tmps.size=n){SL:List (Nat × DV)}(ZQ:Xp D0 w0 r.tmps SL)(kG:r.state = .ready)
  (kT:r.params.size=args.length) (hpn:∀p∈r.params.toList,p<n) (A4:r.params.toList.Nodup) (cS:∀p∈r.params.toList,p∉SL.map (·.1))
  (h:∀X:Ctx,X.P=P->X.gl=gl->X.f=r.fn->X.n=n->X.md = .rd l r (fun j I2=>R j.isNone I2 (xK r j))->X.ids=l::φ.map (·.1)->l∉φ.map (·.1)->(∀x∈args,J6 x)->W X [.code r.assign,.beginRound,.code r.body] (CQ r.params.toList args SL φ l r)):YC P gl D0 w0 l r args φ R:=by
 intro D w vs F60 _ dX P6 V2 vP HC;obtain⟨dV,hnm⟩:=IM dX vP HC;have G1:∀x∈args,J6 x:=by
  intro x hx;obtain⟨i,hi,rfl⟩:=yM.1 hx;exact RV.fit (V2 i _ vs[i] (uB hi) (uG oO))
 let X:Ctx:={ P:=P,gl:=gl,f:=r.fn,fn:=default,n:=n,ids:=l::φ.map (·.1),D0:=D,w0:=w,R:=fun _ _=>False,md:=.rd l r (fun j I2=>R j.isNone I2 (xK r j)) }
 have hW:=h X rfl rfl rfl rfl rfl rfl hnm G1;have qE:(r.params.zip vs).foldl (fun tmps (t,a)=>tmps.setIfInBounds t a) r.tmps=Af r.tmps (r.params.toList.zip vs.toList):=by
  rw[<- Array.foldl_toList,Array.toList_zip];exact oa0 _ _
 rw[qE];have Tt:(r.params.toList.zip vs.toList).map (·.1)=r.params.toList:=by
  rw[List.map_fst_zip];simp only[aB0];omega
 let a:Act:={ tmps:=Af r.tmps (r.params.toList.zip vs.toList),defers:=[] }
 have Rl:Rel X { D:=D,ν:=fun _=>0,τ:=fun _=>(none,0) } (CQ r.params.toList args SL φ l r) a w:=by
  have d8:∀m v,get (CQ r.params.toList args SL φ l r) m=some v->(m = .heap l/\v = .ob r)\/(∃(i p:Nat) (x:DV),m = .P0 p/\v = .one (.v x)/\r.params.toList[i]? = some p/\args[i]? = some x)\/(∃n x,m = .P0 n/\v = .one (.v x)/\(n,x)∈SL)\/∃b cs,m = .heap b/\v = .row (cs.map b7)/\(b,cs)∈φ:=by
   intro m v hm;simp only[CQ,get]at hm;split at hm;· rename_i e;cases hm;exact .inl ⟨e.symm,rfl⟩
   ·rw[eE]at hm;rcases Lb.1 hm with hm|⟨-,hm⟩;· exact .inr (.inl (q70 hm))
    ·rw[eE]at hm;rcases Lb.1 hm with hm|⟨-,hm⟩;· exact .inr (.inr (.inl (ob0 hm)))
     ·exact .inr (.inr (.inr (tZ hm)))
  have Fr:∀m v b,get (CQ r.params.toList args SL φ l r) m=some v->D5 { D:=D,ν:=fun _=>0,τ:=fun _=>(none,0) } m v=some b->m = .heap b:=by
   intro m v b hm hb;rcases d8 m v hm with⟨rfl,rfl⟩|⟨i,p,x,rfl,rfl,hx⟩|⟨p,x,rfl,rfl,hx⟩|⟨b',cs,rfl,rfl,hq⟩;· simp only[D5,uC]at hb;rw[hb]
   ·cases hb
   ·cases hb
   ·simp only[D5,uC]at hb;rw[hb]
  refine⟨by simp[a,X,q60,OP],⟨[],rfl,Lc,sS⟩,Ext.refl _ _ _,dX,rfl,fun m v hm=>?_,fun m v m' v' b hm rP hb X2=>?_,fun m v b hm hb=>?_,fun m v b o hm hb _=>?_⟩
  ·rcases d8 m v hm with⟨rfl,rfl⟩|⟨i,p,x,rfl,rfl,hp,hx⟩|⟨p,x,rfl,rfl,hx⟩|⟨b',cs,rfl,rfl,hq⟩;· exact HC
   ·have hi:i<vs.size:=by rw[P6];exact (uA hx).1
    have hv:vs[i]? = some vs[i]:=uG hi;show RV D w x _;have iC:(p,vs[i])∈r.params.toList.zip vs.toList:=by
     refine uE (i:=i) ?_;rw[List.getElem?_zip_eq_some];exact⟨hp,by simp[hv]⟩
    have:a.tmps.getD p undef=vs[i]:=yp0 _ _ (by rw[Tt];exact A4) iC (by rw[OP];exact hpn p (uE hp));rw[this];exact V2 i x _ hx hv
   ·show RV D w x _;have:a.tmps.getD p undef=r.tmps.getD p undef:=cT0 _ _ (by rw[Tt];exact fun hm=>cS p hm (F9.2 ⟨_,hx,rfl⟩));rw[this];exact (ZQ p x hx).mono F60
   ·exact IC (G:={ D:=D,ν:=fun _=>0,τ:=fun _=>(none,0) }) vP hq
  ·rw[Fr m v b hm hb,Fr m' v' b rP X2]
  ·rcases d8 m v hm with⟨rfl,rfl⟩|⟨i,p,x,rfl,rfl,hp,hx⟩|⟨p,x,rfl,rfl,hx⟩|⟨b',cs,rfl,rfl,hq⟩
   ·simp only[D5,uC]at hb;subst hb;exact .inr ⟨by simp[X],rfl⟩
   ·cases hb
   ·cases hb
   ·simp only[D5,uC]at hb;subst hb;exact .inr ⟨iJ _ (F9.2 ⟨_,hq,rfl⟩),rfl⟩
  ·rcases d8 m v hm with⟨rfl,rfl⟩|⟨i,p,x,rfl,rfl,hp,hx⟩|⟨p,x,rfl,rfl,hx⟩|⟨b',cs,rfl,rfl,hq⟩
   ·simp only[D5,uC]at hb;subst hb;exact dV o
   ·cases hb
   ·cases hb
   ·simp only[D5,uC]at hb;subst hb;exact vP.nodata _ _ hq o
 refine⟨trivial,fun c cs _=>?_⟩
 let b:Frame:={ (default:Frame) with fn:=r.fn,kind:=.normal,roundOf:=some l }
 have dF:Frame.round l r.fn (Af r.tmps (r.params.toList.zip vs.toList)) r.assign r.body .normal=b.atR a [.code r.assign,.beginRound,.code r.body]:=by
  simp[Frame.round,aD0,b,a]
 obtain⟨w1,fr,⟨a1,k1,j,D',I2,rfl,hj,hR,⟨q1,q2,q3,q4⟩,gQ⟩,ae0⟩:=hW _ a w b (c::cs) rfl rfl rfl Rl;have Kw:=run_endRound (P:=P) j gQ;have I1:l<w1.heap.size:=(fB.1 gQ).1;have X1:∀b',b'≠l->(w1.putObj l (.loop (xK r j))).heap[b']? = w1.heap[b']?:=fun b' hb=>aw0 hb;have oN:step P (lone (b.atR a1 k1) (c::cs) w1) = .next (lone (c.finish (.bool j.isNone)) cs (w1.putObj l (.loop (xK r j)))):=by
  cases j with
  | none=>obtain rfl:=hj;exact stepR_round_end rfl rfl Kw
  | some jc=>
   cases jc with
   | ret=>obtain⟨k2,rfl⟩:=hj;exact stepR_round_ret rfl rfl Kw
   | exit id=>obtain⟨k2,rfl,hx⟩:=hj;exact stepR_round_exit rfl rfl hx Kw
   | goto t=>obtain⟨k2,rfl,hx⟩:=hj;exact stepR_round_goto rfl rfl hx Kw
   | _=>exact hj.elim
 obtain⟨F40,io0⟩:=IM q2 q3 gQ;have KK:∀b' o,D' b' o->b'≠l:=fun b' o hd e=>by subst e;exact F40 o hd
 have W5:∀b' o,D' b' o->BH b' o w1 (w1.putObj l (.loop (xK r j))):=fun b' o hd=>.of (X1 b' (KK b' o hd));have g2:iU D' w1 D' (w1.putObj l (.loop (xK r j))):=fun b' o hd=>⟨hd,W5 b' o hd⟩;refine⟨.returned (.bool j.isNone),w1.putObj l (.loop (xK r j)),⟨j.isNone,D',I2,xK r j,rfl,hR,?_,?_,?_,World.putObj_heap_same I1,fun b' X2=>?_⟩,?_⟩
 ·refine⟨q1.os,q1.tape,q1.output,by simpa using q1.size,fun b' X2 hn hs=>?_,q1.grow.trans g2,q1.new⟩;have:b'≠l:=fun e=>hn (by simp[e]);exact (X1 b' this).trans (q1.block b' X2 hn hs)
 ·refine⟨fun b' o hd=>?_,fun g els hg=>?_⟩;· exact (q2.there b' o hd).keep (W5 b' o hd) fun _ h=>h
  ·obtain⟨cap,hr⟩:=q2.globs g els hg;exact⟨cap,hr.mono g2⟩
 ·refine⟨fun b' N7 hm=>?_,q3.nodata,q3.nodup⟩;obtain⟨c',e',h1,h2,h3⟩:=q3.rows b' N7 hm;have qA:b'≠l:=fun e=>io0 (by rw[<- e];exact F9.2 ⟨_,hm,rfl⟩);refine⟨c',e',(X1 b' qA).trans h1,h2,fun i x hx=>?_⟩;obtain⟨k1,v,k2,k3⟩:=h3 i x hx;exact⟨k1,v,k2,k3.mono g2⟩
 ·rcases q4 b' X2 with h|h
  ·rcases u5.1 h with rfl|h;· exact absurd X2 io0
   ·exact .inl h
  ·exact .inr h
 ·show StepsIn _ _ _ _;rw[dF];exact stepsIn_wide.2 (Ps ae0 (.head oN (.refl _ _)))
def yq0{gl:X8}{D:Nat->Nat->Prop}(g:iU D w D w')(h:Wf gl D w):Wf gl D w':=by
 refine⟨fun b o hd=>?_,fun i els hg=>?_⟩;· exact (h.there b o hd).keep (g b o hd).2 fun _ h=>h
 ·obtain⟨cap,hr⟩:=h.globs i els hg;exact⟨cap,hr.mono g⟩
def cf0{D:Nat->Nat->Prop}(g:iU D w D w')(hb:∀b∈φ.map (·.1),w'.heap[b]? = w.heap[b]?)(h:HeapOK D w φ):HeapOK D w' φ:=by
 refine⟨fun b cs hm=>?_,h.nodata,h.nodup⟩;obtain⟨c,e,h1,h2,h3⟩:=h.rows b cs hm;refine⟨c,e,(hb b (F9.2 ⟨_,hm,rfl⟩)).trans h1,h2,fun i x hx=>?_⟩;obtain⟨k1,v,k2,k3⟩:=h3 i x hx;exact⟨k1,v,k2,k3.mono g⟩
section
variable{X:Ctx}{s:St}{k:List Item}
theorem Vn(t9:X.md = .fn){g:Operand}{ps:Array Tmp}{assign body:Code}{fi ca:Array Value}(hg:M2 X (get s) g=some (.v (.K0 (.func (.func f) fi ca))))(Kv:∀v∈fi.toList++ca.toList,aY v)
  {φ:G3} (S4:v7 (get s) φ) (A4:(φ.map (·.1)).Nodup) {Y:Nat->Loop->(Nat->Nat->Prop)->World->Prop} {R:G3->Loop->Prop} {SL:List (Nat × DV)} (ZQ:∀n x,(n,x)∈SL->get s (.P0 n)=some (.one (.v x)))
  (AL:∀l r,r.state = .ready->r.pending=none->r.params=ps->l∉φ.map (·.1)->NE X.P X.gl f (fi.toList.map rY++rY (.func (.yield l) #[] #[])::ca.toList.map rY) φ l r (Y l r) R)
  (hY:∀l r D0 w0,r.state = .ready->r.pending=none->r.params=ps->r.fn=X.f->r.tmps.size=X.n->r.assign=assign->r.body=body->l∉φ.map (·.1)->Xp D0 w0 r.tmps SL->Y l r D0 w0)
  (kG:∀I2 r',R I2 r'->r'.state≠.busy)
  (after:∀I2 r',R I2 r'->(∀b∈I2.map (·.1),b∈φ.map (·.1)\/newB b s)->W X ((r'.pending.map Item.code).toList++k) (aX (dJ s φ) I2)):W X (.code (.rangeFunc g ps assign body)::k) s:=by
 intro G a w b cs hf hk jM R0;have HD:=jM.trans (gz0 t9);have hgv:=(X6 (O4 R0 hg)).1
 let r:Loop:={ state:=.ready,pending:=none,fn:=b.fn,tmps:=a.tmps,params:=ps,assign,body,defers:=w.heap.size }
 let w1:World:=(w.alloc (.deferred (some []))).alloc (.loop r)
 have GX0:w1.heap.size=w.heap.size+2:=by simp[w1]
 have hold:∀b',b'<w.heap.size->w1.heap[b']? = w.heap[b']?:=fun b' hb=>(aI _ _ b' (by simp;omega)).trans (aI w _ b' hb);have HC:w1.heap[w.heap.size+1]? = some (.loop r):=by
  have:=Ej (w.alloc (.deferred (some []))) (.loop r);rw[show (w.alloc (.deferred (some []))).heap.size=w.heap.size+1 from sS]at this;exact this
 have it0:w1.heap[w.heap.size]? = some (.deferred (some [])):=(aI _ _ _ sS).trans (Ej w _);have F20:∀b' o,G.D b' o->BH b' o w w1:=fun b' o hd=>.of (hold b' (R0.wf.lt hd));have g1:iU G.D w G.D w1:=fun b' o hd=>⟨hd,F20 b' o hd⟩;have he:(Instr.enterLoop b.fn a.tmps ps assign body b.roundOf).run X.P w = .ok (w.heap.size+1,[pM w.heap.size]) w1:=by
  rw[HD];exact run_enterLoop_outer _ _ _ _ _
 have ad0:∀b'∈φ.map (·.1),b'<w.heap.size:=fun b' hb=>by
  obtain⟨⟨b2,N7⟩,hm,rfl⟩:=F9.1 hb;exact mT (R0.holds _ _ (S4 b2 N7 hm)) rfl
 have BP:w.heap.size+1∉φ.map (·.1):=fun hm=>by have:=ad0 _ hm;omega
 have iz0:=yq0 g1 R0.wf;have hh1:=cf0 g1 (fun b' hb=>hold b' (ad0 b' hb)) (LX R0 S4 A4);obtain⟨FJ0,FI0⟩:=AL (w.heap.size+1) r rfl rfl rfl BP;have Gb0:Xp G.D w1 r.tmps SL:=fun n x hm=>RV.mono g1 (R0.holds _ _ (ZQ n x hm));have hYr:=hY (w.heap.size+1) r G.D w1 rfl rfl rfl hf R0.size rfl rfl BP Gb0;have bU:(resolve a.eval (rangeCall g (w.heap.size+1)) 0).run X.P w1 = .ok { target:=.fn (.func f) ca,args:=fi++#[.func (.yield (w.heap.size+1)) #[] #[]] } w1:=by
  have e:(#[Operand.const (.func (.yield (w.heap.size+1)) #[] #[])]:Array Operand).map a.eval = #[.func (.yield (w.heap.size+1)) #[] #[]]:=by simp[Act.eval]
  simp only[resolve,rangeCall,e,hgv];rfl
 have hinv:(invoke (.fn (.func f) ca) (fi++#[.func (.yield (w.heap.size+1)) #[] #[]])).run X.P w1 = .ok (.enter f (fi++#[.func (.yield (w.heap.size+1)) #[] #[]]++ca)) w1:=by
  simp only[invoke];exact Qf FJ0 _ _
 have Hl:=stepR_rangeFunc (P:=X.P) (b:=b) (a:=a) (k:=k) (cs:=cs) (w:=w) he bU hinv
 obtain⟨e,w2,fr,⟨v,D',I2,r',rfl,hR,hx,hy0,KJ,fU,K1⟩,ae0,X0,FT0⟩:=FI0 G.D w1 (fi++#[.func (.yield (w.heap.size+1)) #[] #[]]++ca) iz0 (by simp;omega) (by
  have hp:∀v∈(fi++#[i30 (.yield (w.heap.size+1)) #[] #[]]++ca).toList,aY v:=by
   intro v hv;simp only[Array.toList_append,t6]at hv;rcases hv with (hv|hv)|hv;· exact Kv v (t6.2 (.inl hv))
   ·simp only[List.mem_singleton]at hv;subst hv;trivial
   ·exact Kv v (t6.2 (.inr hv))
  intro i x v hx hv;have p9:(fi++#[i30 (.yield (w.heap.size+1)) #[] #[]]++ca).toList[i]? = some v:=by rw[DN];exact hv
  have he:fi.toList.map rY++rY (.func (.yield (w.heap.size+1)) #[] #[])::ca.toList.map rY=((fi++#[i30 (.yield (w.heap.size+1)) #[] #[]]++ca).toList).map rY:=sS;rw[he,cI,p9]at hx;cases hx;exact .K0 v (hp v (uE p9))) hh1 HC hYr (b.atR { a with defers:=[pM w.heap.size]++a.defers } (.inRangeFunc (w.heap.size+1)::k)::cs)
 have pT:=step_leave_returned (cs:=cs) (c:=b.atR { a with defers:=[pM w.heap.size]++a.defers } (.inRangeFunc (w.heap.size+1)::k)) FT0;rw[finish_atR_inRangeFunc]at pT;have Kw:=run_endLoop (P:=X.P) fU (kG I2 r' hR);have Ge0:=stepR_endRangeFunc (P:=X.P) (b:=b) (a:={ a with defers:=[pM w.heap.size]++a.defers }) (k:=k) (cs:=cs) Kw
 let w3:World:=w2.putObj (w.heap.size+1) (.loop { r' with state:=.exhausted })
 obtain⟨FB0,FG0⟩:=IM hy0 KJ fU;have X1:∀b',b'≠w.heap.size+1->w3.heap[b']? = w2.heap[b']?:=fun b' hb=>aw0 hb;have iw0:∀b' o,D' b' o->BH b' o w2 w3:=fun b' o hd=>.of (X1 b' (fun e=>by subst e;exact FB0 o hd));have hsoft1:∀b',b'<w.heap.size->¬mA G.D w b'->¬mA G.D w1 b':=fun b' hb hs h=>hs (h.back (hold b' hb) fun _ h=>h);have g3:iU D' w2 D' w3:=fun b' o hd=>⟨hd,iw0 b' o hd⟩;have GV0:w.heap.size+2<=w3.heap.size:=by simp only[w3,World.putObj_size];have:=hx.size;omega
 have tW:∀b∈φ.map (·.1),∃cs,get s (.heap b)=some (.row (Y3 b7 cs)):=by
  intro b hb;obtain⟨⟨b',N7⟩,hm,rfl⟩:=F9.1 hb;exact⟨N7,S4 b' N7 hm⟩
 have im0:∀b',b'<w.heap.size->¬(b'∈φ.map (·.1)\/mA G.D w b')->w3.heap[b']? = w.heap[b']?:=fun b' hb hn=>by
  have dG:=fun h=>hn (.inr h);have hn:=fun h=>hn (.inl h);refine (X1 b' oO).trans ((hx.block b' oO ?_ (hsoft1 b' hb dG)).trans (hold b' hb));simp only[u5,not_or];exact⟨oO,hn⟩
 have hD3:w3.heap[w.heap.size]? = some (.deferred (some [])):=by
  refine (X1 _ oO).trans ((hx.block _ oO ?_ (iz0.unsoft it0 sS sS)).trans it0);simp only[u5,not_or];exact⟨oO,fun hm=>by have:=ad0 _ hm;omega⟩
 have FL0:∀D∈φ.map (·.1),w.heap[D]?≠some (.deferred (some [])):=fun D hm hD=>by
  obtain⟨cs,hg⟩:=tW D hm;obtain⟨c,e,h4,_⟩:=R0.holds _ _ hg;rw[hD]at h4;cases h4
 have T:Trans X G a w { D:=D',ν:=G.ν,τ:=G.τ } { a with defers:=[pM w.heap.size]++a.defers } w3 (fun b'=>b'∈φ.map (·.1)\/mA G.D w b'):=by
  refine⟨rfl,fun ⟨Ds,h1,h2,h3⟩=>⟨w.heap.size::Ds,by simp[h1],Ck.2 ⟨fun hm=>?_,h2⟩,fun D hD=>?_⟩,hx.os,hx.tape,hx.output,oO,im0,fun b' hb=>?_,(g1.trans hx.grow).trans g3,fun b' o hd hn=>⟨.inl ?_,?_⟩,R0.nil⟩;· have:=(fB.1 (h3 _ hm).1).1;omega
  ·rcases u5.1 hD with rfl|hD;· exact⟨hD3,R0.ext.size⟩
   ·have h4:=h3 D hD;exact⟨(im0 D (fB.1 h4.1).1 (fun hm=>hm.elim (fun hm=>FL0 D hm h4.1) (R0.wf.unsoft h4.1 sS sS))).trans h4.1,h4.2⟩
  ·rcases hb with hb|hb
   ·obtain⟨cs,hg⟩:=tW b' hb;exact (R0.own _ _ b' hg rfl).imp id fun h=>.inl h.1
   ·exact (R0.ext.soft hb).imp id .inr
  ·have:=hx.new b' o hd hn;omega
  ·exact (hy0.there b' o hd).keep (iw0 b' o hd) fun _ h=>h
 have oR:∀b'∈I2.map (·.1),b'∈φ.map (·.1)\/w.heap.size<=b':=fun b' hb=>(K1 b' hb).imp id fun h=>oO;have hh3:HeapOK D' w3 I2:=cf0 g3 (fun b' hb=>X1 b' (fun e=>by subst e;exact FG0 hb)) KJ;have R3:Rel X { D:=D',ν:=G.ν,τ:=G.τ } (aX (dJ s φ) I2) { a with defers:=[pM w.heap.size]++a.defers } w3:=by
  refine R0.step T (fun m u=>∃b' cs,m = .heap b'/\u = .row (cs.map b7)/\(b',cs)∈I2) (fun m u h=>?_) (fun m u h=>?_) (fun m u m' u' b' h h' hb X2=>?_)
  ·rcases Qk _ _ _ _ h with h|⟨h,TM⟩;· exact .inl h
   ·obtain⟨h,hn⟩:=Vl _ _ _ _ h;refine .inr ⟨h,fun _ _=>rfl,fun b' hb hB=>?_,fun _ _=>rfl,fun _ _=>rfl⟩;rcases hB with hB|hB
    ·obtain⟨cs,hg⟩:=tW b' hB;exact hn b' hB (R0.sep _ _ _ _ b' hg h rfl hb).symm
    ·exact R0.unsoft h hb hB
  ·obtain⟨b',cs,rfl,rfl,hm⟩:=h;refine⟨IC hh3 hm,fun b2 X2=>?_⟩;simp only[D5,uC]at X2;subst X2;have BO:b'∈I2.map (·.1):=F9.2 ⟨_,hm,rfl⟩;refine⟨(oR b' BO).symm.imp id .inl,?_,fun _ o=>hh3.nodata b' cs hm o⟩;rcases oR b' BO with h1|h1
   ·obtain⟨N7,hg⟩:=tW b' h1;exact R0.own _ _ b' hg rfl
   ·exact .inl (cH R0.ext.size h1)
  ·obtain⟨b1,cs1,rfl,rfl,KN⟩:=h;obtain⟨b2,cs2,rfl,rfl,Fc⟩:=h';simp only[D5,uC]at hb X2;rw[hb,X2]
 obtain⟨w',qH,h1,h2⟩:=after I2 r' hR (fun b' hb=>(oR b' hb).imp id fun h=>Jt fun u hu=>by
  have Am:=R0.holds _ _ hu;cases u with
  | row cs=>have:=mT Am rfl;omega
  | ob q=>have:=mT Am rfl;omega
  | mp q=>have:=mT Am rfl;omega
  | one x=>exact Am.elim
  | tk E n=>exact Am.elim) _ _ w3 b cs hf hk jM R3
 exact⟨w',qH,h1,.head Hl (Ps ae0 (.head pT (.head Ge0 h2)))⟩
def q80{A:St}{I2:G3}{l:Nat}{x:DV}{r':Loop}(hA:∀m v,(m,v)∈A->get s m=some v/\m≠.P0 d/\m≠.heap l/\∀b∈φ.map (·.1),m≠.heap b)(A4:(I2.map (·.1)).Nodup)(hl:l∉I2.map (·.1))(K1:∀c∈I2.map (·.1),c∈φ.map (·.1)\/newB c s):
  iZ ((.P0 d,.one (.v x))::(.heap l,.ob r')::(A++U3 I2)) (L2 (aX (dJ (L2 s (.P0 d) (.one (.v x))) φ) I2) (.heap l) (.ob r')):=by
 have Uf:∀(I2:G3) (s:St) (b:Nat) (cs:List DV),(I2.map (·.1)).Nodup->(b,cs)∈I2->get (aX s I2) (.heap b)=some (.row (cs.map b7)):=by
  intro I2
  induction I2 with
  | nil=>intro s b cs _ h;cases h
  | cons p r ih=>
   obtain⟨b0,c0⟩:=p;intro s b cs hn h;simp only[G4,Ck]at hn;simp only[aX,T5];rcases u5.1 h with e|h;· cases e;simp
   ·have:b0≠b:=fun e=>hn.1 (by rw[e];exact F9.2 ⟨_,h,rfl⟩);simp only[kI.injEq,this,if_false];exact ih s b cs hn.2 h
 have AD:∀(I2:G3) (s:St) (m:Loc),(∀b∈I2.map (·.1),m≠.heap b)->get (aX s I2) m=get s m:=by
  intro I2
  induction I2 with
  | nil=>intro s m _;rfl
  | cons p r ih=>
   obtain⟨b0,c0⟩:=p;intro s m h;simp only[aX,T5];rw[if_neg (fun e=>h b0 sS e.symm)];exact ih s m fun b hb=>h b (by simp[hb])
 have iA0:∀(φ:G3) (s:St) (m:Loc),(∀b∈φ.map (·.1),m≠.heap b)->get (dJ s φ) m=get s m:=by
  intro φ
  induction φ with
  | nil=>intro s m _;rfl
  | cons p r ih=>
   obtain⟨b0,c0⟩:=p;intro s m h;simp only[dJ];rw[ih _ m fun b hb=>h b (by simp[hb]),nV,if_neg (fun e=>h b0 sS e.symm)]
 intro m v hm;simp only[get]at hm;rw[T5];split at hm
 ·rename_i e;subst e;cases hm;simp only[reduceCtorEq,if_false];rw[AD _ _ _ sS,iA0 _ _ _ sS,T5,if_pos rfl]
 ·rename_i fS;split at hm
  ·rename_i e;subst e;cases hm;simp
  ·rename_i Zr;rw[if_neg Zr];rw[eE]at hm;rcases Lb.1 hm with hm|⟨-,hm⟩
   ·obtain⟨h1,h2,h3,h4⟩:=hA m v (MG hm);have h5:∀b∈I2.map (·.1),m≠.heap b:=by
     rintro b hb rfl;rcases K1 b hb with h|h;· exact h4 b h rfl
     ·have key:∀s:St,newB b s->get s (.heap b)=none:=by
       intro s
       induction s with
       | nil=>intro _;rfl
       | cons p r ih=>
        obtain⟨m,u⟩:=p;intro hn;cases m with
        | heap b'=>simp only[newB]at hn;simp only[get,kI.injEq,hn.1,if_false];exact ih hn.2
        | P0 n=>simp only[newB]at hn;simp only[get,reduceCtorEq,if_false];exact ih hn
        | loc n=>simp only[newB]at hn;simp only[get,reduceCtorEq,if_false];exact ih hn
        | tok n=>simp only[newB]at hn;simp only[get,reduceCtorEq,if_false];exact ih hn
      rw[key s h]at h1;cases h1
    rw[AD _ _ _ h5,iA0 _ _ _ h4,T5,if_neg (fun e=>h2 e.symm)];exact h1
   ·obtain⟨b,cs,rfl,rfl,iC⟩:=tZ hm;exact Uf _ _ b cs A4 iC
theorem VF{L1:List Nat}{ops:Array Oper}{ll:List Oper}{K:St->Prop}{d:Tmp}{y:Operand}{args:Array Operand}{X5:Array TypeId}{ty:TypeId}{pos:String}{af:Array Edge}{l:Nat}(hy:M2 X (get s) y=some (.v (.K0 (.func (.yield l) #[] #[]))))
  {ds J9:List DV} {P:Program} {gl:X8} (hP:X.P=P) (G0:X.gl=gl) {r:Loop} {φ:G3} {R:Bool->G3->Loop->Prop} (hc:YC P gl X.D0 X.w0 l r J9 φ R) (kT:r.params.size=J9.length) (V2:aZ X (get s) args.toList=some ds) (c8:ds=J9) (S4:v7 (get s) φ) (A4:(φ.map (·.1)).Nodup) (hl:get s (.heap l)=some (.ob r)) (C7:d<X.n)
  (A:St) (hA:∀m v,(m,v)∈A->get s m=some v/\m≠.P0 d/\m≠.heap l/\∀b∈φ.map (·.1),m≠.heap b)
  (h:∀b I2 r',R b I2 r'->(I2.map (·.1)).Nodup/\l∉I2.map (·.1)) (hk:∀b I2 r',R b I2 r'->(∀c∈I2.map (·.1),c∈φ.map (·.1)\/newB c s)->vc X L1 ops ll ((.P0 d,.one (.v (.K0 (.bool b))))::(.heap l,.ob r')::(A++U3 I2)) K) :
  cB X L1 ops ll K ⟨some d,.call { callee:=.value y,args:=args,argTypes:=X5 },ty,pos,af,none⟩ s (H4 X L1 s ⟨some d,.call { callee:=.value y,args:=args,argTypes:=X5 },ty,pos,af,none⟩):=by
 subst c8;have e:H4 X L1 s ⟨some d,.call { callee:=.value y,args:=args,argTypes:=X5 },ty,pos,af,none⟩=none:=by
  simp only[H4,dA,N8,oB,A9];split <;> rfl
 rw[e];intro n hn G a w R0;obtain⟨h1,h2⟩:=pA hn;simp only[B4,qJ,wpOpsIn,h1,fD,if_true];refine q50 (o:=⟨some d,.call { callee:=.value y,args:=args,argTypes:=X5 },ty,pos,af,none⟩) rfl hy V2 kT (by rw[hP,G0];exact hc) S4 A4 hl rfl C7 R0 _ _ fun b I2 r' G' a' w' hR K1 R'=>?_
 have oR:∀c∈I2.map (·.1),c∈φ.map (·.1)\/newB c s:=fun c hc=>(K1 c hc).imp id fun hh=>Jt fun v hv=>by
  have Am:=R0.holds _ _ hv;cases v with
  | row cs=>exact hh _ _ hv rfl
  | ob r=>exact hh _ _ hv rfl
  | mp l=>exact hh _ _ hv rfl
  | one x=>exact Am.elim
  | tk E n=>exact Am.elim
 exact bW (hk b I2 r' hR oR) (n+1) h2 G' a' w' (R'.weaken (q80 hA (h b I2 r' hR).1 (h b I2 r' hR).2 oR))
theorem bz0(φ:G3)(n:Nat):get (U3 φ) (.P0 n)=none:=by
 induction φ with
 | nil=>rfl
 | cons p r ih=>obtain⟨b,cs⟩:=p;simp[U3,get,ih]
theorem ky0(φ:G3)(n:Nat):D8 (U3 φ) (.P0 n)=U3 φ:=by
 induction φ with
 | nil=>rfl
 | cons p r ih=>obtain⟨b,cs⟩:=p;simp[U3,D8,ih]
theorem kG0(φ:G3)(n:Nat):D8 (U3 φ) (.loc n)=U3 φ:=by
 induction φ with
 | nil=>rfl
 | cons p r ih=>obtain⟨b,cs⟩:=p;simp[U3,D8,ih]
theorem kQ0(φ:G3):lB (U3 φ)=[]:=by
 induction φ with
 | nil=>rfl
 | cons p r ih=>obtain⟨b,cs⟩:=p;simp[U3,lB,ih]
def dK0(d:Nat)(cs:List DV):eH d (cs.map b7)=false:=by
 induction cs with
 | nil=>rfl
 | cons c r ih=>simp[eH,jS,ih]
def q90(d:Nat)(cs:List DV):qY d (cs.map b7)=false:=by
 induction cs with
 | nil=>rfl
 | cons c r ih=>simp[qY,pE,ih]
theorem UU(d:Nat)(φ:G3):A8 d (U3 φ)=true:=by
 induction φ with
 | nil=>rfl
 | cons p r ih=>obtain⟨b,cs⟩:=p;simp[U3,A8,ih,dK0]
theorem UV(d:Nat)(φ:G3):a9 d (U3 φ)=true:=by
 induction φ with
 | nil=>rfl
 | cons p r ih=>obtain⟨b,cs⟩:=p;simp[U3,a9,ih,q90]
def Vo(hn:(φ.map (·.1)).Nodup):∀{A:St},(∀m v,(m,v)∈A->∀b∈φ.map (·.1),m≠.heap b)->v7 (get (A++U3 φ)) φ:=by
 intro A hA b cs hm;have h1:get (U3 φ) (.heap b)=some (.row (cs.map b7)):=by
  induction φ with
  | nil=>cases hm
  | cons p r ih=>
   obtain⟨b0,c0⟩:=p;simp only[G4,Ck]at hn;simp only[U3,get];rcases u5.1 hm with e|hm;· cases e;simp
   ·have:b0≠b:=fun e=>hn.1 (by rw[e];exact F9.2 ⟨_,hm,rfl⟩);simp only[kI.injEq,this,if_false];exact ih hn.2 (fun m v h b hb=>hA m v h b (by simp[hb])) hm
 rw[eE,h1];cases hq:get A (.heap b) with
 | none=>rfl
 | some v=>exact absurd rfl (hA _ _ (MG hq) b (F9.2 ⟨_,hm,rfl⟩))
def Sn{A A':St}(hA:∀m v,(m,v)∈A'->get A m=some v)(h:W X kk (A'++U3 φ))(hd:∀m v,(m,v)∈A->∀b∈φ.map (·.1),m≠.heap b):W X kk (A++U3 φ):=by
 intro G a w b cs hf hk hr R;refine h G a w b cs hf hk hr (R.weaken fun m v hm=>?_);rw[eE]at hm ⊢;rcases Lb.1 hm with hm|⟨-,hm⟩;· rw[hA m v (MG hm)];rfl
 ·obtain⟨b,cs,rfl,rfl,iC⟩:=tZ hm;cases hq:get A (.heap b) with
  | none=>exact hm
  | some u=>exact absurd rfl (hd _ _ (MG hq) b (F9.2 ⟨_,iC,rfl⟩))
def IH(h:v7 (get s) φ):v7 (get ((.P0 n,v)::s)) φ:=fun b cs hm=>by
 simp only[get,reduceCtorEq,if_false];exact h b cs hm
def II(hn:n∉φ.map (·.1))(h:v7 (get s) φ):v7 (get ((.heap n,v)::s)) φ:=fun b cs hm=>by
 have:n≠b:=fun e=>hn (by rw[e];exact F9.2 ⟨_,hm,rfl⟩);simp only[get,kI.injEq,this,if_false];exact h b cs hm
def Bh(hn:(φ.map (·.1)).Nodup):v7 (get (U3 φ)) φ:=Vo (A:=[]) hn sS
def cZ(h:get s (.heap b)=some (.row (cs.map b7)))(h':v7 (get s) φ):v7 (get s) ((b,cs)::φ):=by
 intro b' N7 hm;rcases u5.1 hm with e|hm;· cases e;exact h
 ·exact h' b' N7 hm
attribute [go_sem] bz0 ky0 kG0 kQ0 UU UV
end
end
section
section
variable{X:Ctx}{s:St}
theorem Qm{E:Nat}:∀{ys:List (List DV)},(∀e∈ys,e.length=E)->∀{k:Nat} {d:DV},ys.flatten[k]? = some d->∃i j e,ys[i]? = some e/\e[j]? = some d/\k=i * E+j
 | [],_,k,d,h=>by simp at h
 | e::r,hE,k,d,h=>by
  have he:=hE e sS;by_cases hk:k<e.length
  ·rw[FI,cJ hk]at h;exact⟨0,k,e,sS,h,sS⟩
  ·rw[FI,cK oO]at h;obtain⟨i,j,e',h1,h2,h3⟩:=Qm (fun e he=>hE e (by simp[he])) h;refine⟨i+1,j,e',by simpa using h1,h2,?_⟩;rw[Y9];omega
theorem IJ{E:Nat}:∀{ys:List (List DV)},(∀e∈ys,e.length=E)->ys.flatten.length=ys.length * E
 | [],_=>sS
 | e::r,hE=>by
  have:=IJ (ys:=r) fun e he=>hE e (by simp[he]);rw[FI,List.length_append,this,hE e sS,B4,Y9];omega
def C4(ys:List (List DV)):List SV:=ys.flatten.map b7
def li0{y:Operand}{T T2:TypeId}(ho:o.op = .call { callee:=.builtin .append,args:=#[x,y],argTypes:=#[T,T2] })(hd:o.dst=some d)(hn:d<X.n)
  {E B:Nat} (he:l9 X.P T=some (E,B)) (hB:0<B/\B<=1024) (h2:(X7 X.P T2).isSome=true) (hx:M2 X (get s) x=some (.own 0 [])) {ys:List (List DV)} (hy:(M2 X (get s) y).bind dN=some ys)
  (gM:0<ys.length) (d7:ys.length<=M5) (S7:∀e∈ys,e.length=E) {G:Gh} {a:Act} {w:World} (R:Rel X G s a w) (next:Act->World->Prop) (Q:Exit->Act->World->Prop)
  (hK:∀b cap,ys.length<=cap->newB b s->X.w0.heap.size<=b->∀G' a' w',Rel X G' (L2 (L2 s (.P0 d) (.one (.v (.K0 (.slice (some ⟨b,0,none⟩) ys.length cap))))) (.heap b) (.row (C4 ys))) a' w'->next a' w') :
  o.wpIn X.F 0 X.P a w next Q:=by
 obtain⟨hv,hr⟩:=Xm R hx;rw[R.nil]at hv;obtain⟨q,hq,eX⟩:=mH.1 hy;obtain⟨yb,Of,rQ,lK,-⟩:=Bi eX (O4 R hq);obtain⟨c2,g,g1,g2,g3⟩:=Gv lK S7
 have DG:∀w':World,w'.heap=w.heap->(kV E ys.length (a.eval y)).run X.P w' = .ok (dS g (ys.length * E)) w':=fun w' hw=>by
  refine Bg (D:=G.D) ?_;rcases g3 with h|⟨b,o',cap,h,hc⟩;· exact .inl h
  ·exact .inr ⟨b,o',cap,h,fun k hk=>by rw[Ec hw];exact hc k hk⟩
 obtain⟨c,e,nc,r1,r2,r3,r4,r5⟩:=bE0 (P:=X.P) (t:=T) (ty:=o.type) (t2:=T2) (w:=w) he hB h2 (base:=none) (len:=0) (cap:=0) (old:=#[]) (fun w' _=>CA (P:=X.P) lK w') DG (fun w' _=>by simp[kV]) oO oO sS (Bp _ _);rw[G8]at r1 r2
 have FK0:newB w.heap.size s:=Jt fun v hv=>by
  have hh:=R.holds _ _ hv;cases v with
  | row cs=>exact absurd (mT hh rfl) (vX _)
  | ob r=>exact absurd (mT hh rfl) (vX _)
  | mp l=>exact absurd (mT hh rfl) (vX _)
  | one x=>exact hh.elim
  | tk E n=>exact hh.elim
 have C9:(execOp a.eval o).run X.P w = .ok (.value (.slice (some ⟨w.heap.size,0,none⟩) ys.length nc)) (w.drew.alloc (.cells c e)):=by
  have u6:(Builtin.append_ #[T,T2] o.type #[a.eval x,a.eval y]).run X.P w = .ok (.slice (some ⟨w.heap.size,0,none⟩) ys.length nc) (w.drew.alloc (.cells c e)):=by rw[hv];exact r1
  simp[execOp,ho,resolve,invoke,builtin,u6]
 refine bP (by intro c e;rw[ho]at e;cases e) ?_;rw[C9,fF,hd];have hp:=qT a (some d) (.slice (some ⟨w.heap.size,0,none⟩) ys.length nc);have T':Trans X G a w G (a.put (some d) (.slice (some ⟨w.heap.size,0,none⟩) ys.length nc)) (w.drew.alloc (.cells c e)) (fun _=>False):=by
  refine⟨hp.1,fun h=>(h.heap fun b hb=>aI w.drew _ b hb).put hp.2,rfl,rfl,rfl,sS,fun b hb _=>aI w.drew _ b hb,fun _ h=>h.elim,fun b k hD=>⟨hD,.of (aI w.drew _ _ (R.wf.lt hD))⟩,fun b k hD dV=>absurd hD dV,R.nil⟩
 refine hK w.heap.size nc r2 FK0 R.ext.size G _ _ ?_;have hlen:=IJ S7;refine R.step T' (fun l u=>(l = .P0 d/\u = .one (.v (.K0 (.slice (some ⟨w.heap.size,0,none⟩) ys.length nc))))\/(l = .heap w.heap.size/\u = .row (C4 ys))) (fun l u h=>?_) (fun l u h=>?_) (fun l u l' u' b h h' hb X2=>?_)
 ·rw[T5,T5]at h;by_cases h1:kI w.heap.size=l;· rw[if_pos h1]at h;cases h;exact .inl (.inr ⟨h1.symm,rfl⟩)
  ·rw[if_neg h1]at h;by_cases h3:mI d=l;· rw[if_pos h3]at h;cases h;exact .inl (.inl ⟨h3.symm,rfl⟩)
   ·rw[if_neg h3]at h;exact .inr ⟨h,fun n hn=>zC _ _ _ _ (fun e=>h3 (by rw[hn,e])),fun b hb DA=>DA.elim,fun _ _=>rfl,fun _ _=>rfl⟩
 ·rcases h with⟨rfl,rfl⟩|⟨rfl,rfl⟩
  ·refine⟨?_,fun b hb=>by cases hb⟩;show B7 G _ (.v _) _;rw[zB _ _ _ (by rw[R.size];exact hn)];exact .K0 _ tT
  ·refine⟨⟨c,e,Ej w.drew _,?_,fun i x hx=>?_⟩,fun b hb=>?_⟩
   ·simp only[C4,fV];rw[hlen,r3];exact yO _ r2
   ·simp only[C4,cI]at hx;cases iF:ys.flatten[i]? with
    | none=>rw[iF]at hx;cases hx
    | some dd=>
     rw[iF]at hx;cases hx;obtain⟨i1,j1,e1,k1,k2,rfl⟩:=Qm S7 iF;have hj:j1<E:=by rw[<- S7 e1 (uE k1)];exact (uA k2).1
     have hi:i1<ys.length:=(uA k1).1;refine⟨c2 e1 (uE k1) dd (uE k2),g (i1 * E+j1),?_,(g1 i1 j1 e1 dd k1 k2).mono T'.grow⟩;have:=r5 (i1 * E+j1) (vD hi hj);rw[FC,G8]at this;rw[this];exact Bu _ _ _ (vD hi hj)
   ·cases hb;exact⟨.inl (I5 _),.inl R.ext.size,fun _ o hD=>absurd (R.wf.lt hD) (vX _)⟩
 ·rcases h with⟨rfl,rfl⟩|⟨rfl,rfl⟩;· cases hb
  ·rcases h' with⟨rfl,rfl⟩|⟨rfl,rfl⟩;· cases X2
   ·rfl
def cg0{L1:List Nat}{ops:Array Oper}{l:List Oper}{K:St->Prop}{d:Tmp}{x y:Operand}{T T2 ty:TypeId}{pos:String}{af:Array Edge}{q:Option (Prop × St)}
  {E B:Nat} {ys:List (List DV)} (hx:M2 X (get s) x=some (.own 0 [])) (hy:(M2 X (get s) y).bind dN=some ys) (he:l9 X.P T=some (E,B)) (hB:0<B/\B<=1024) (h2:(X7 X.P T2).isSome=true) (hn:d<X.n)
  (S7:∀e∈ys,e.length=E) (gM:0<ys.length) (d7:ys.length<=M5) (hq:q=none)
  (h:∀b cap,ys.length<=cap->newB b s->X.w0.heap.size<=b->vc X L1 ops l (L2 (L2 s (.P0 d) (.one (.v (.K0 (.slice (some ⟨b,0,none⟩) ys.length cap))))) (.heap b) (.row (C4 ys))) K) :
  cB X L1 ops l K ⟨some d,.call { callee:=.builtin .append,args:=#[x,y],argTypes:=#[T,T2] },ty,pos,af,none⟩ s q:=by
 subst hq;intro n pV G a w R0;obtain⟨h1,h3⟩:=pA pV;simp only[B4,qJ,wpOpsIn,h1,fD,if_true];refine li0 (o:=⟨some d,.call { callee:=.builtin .append,args:=#[x,y],argTypes:=#[T,T2] },ty,pos,af,none⟩) rfl rfl hn he hB h2 hx hy gM d7 S7 R0 _ _ fun b cap hc hb hw G' a' w' R'=>?_;exact bW (h b cap hc hb hw) (n+1) h3 G' a' w' R'
def dK(b:Nat)(ys:List (List DV)):SV->SV
 | .v (.K0 (.slice (some ⟨b',0,none⟩) n cap))=>if b' = b/\n=ys.length/\n<=cap then .v (.sl ys) else .v (.K0 (.slice (some ⟨b',0,none⟩) n cap))
 | x=>x
def vE(b:Nat)(ys:List (List DV)):List SV->List SV
 | []=>[]
 | x::r=>dK b ys x::vE b ys r
def EI(b:Nat)(ys:List (List DV)):LV->LV
 | .one x=>.one (dK b ys x)
 | .row cs=>.row (vE b ys cs)
 | .tk E n=>.tk E n
 | .ob r=>.ob r
 | .mp l=>.mp l
def xV(b:Nat)(ys:List (List DV)):St->St
 | []=>[]
 | (l,v)::r=>(l,EI b ys v)::xV b ys r
def Xq(b:Nat)(ys:List (List DV))(s:St)(l:Loc):get (xV b ys s) l=(get s l).map (EI b ys):=by
 induction s with
 | nil=>rfl
 | cons p r ih=>
  obtain⟨m,v⟩:=p;simp only[xV,get];split;· rfl
  ·exact ih
def oc0(b:Nat)(ys:List (List DV))(cs:List SV):(vE b ys cs).length=cs.length/\∀i:Nat,(vE b ys cs)[i]? = cs[i]?.map (dK b ys):=by
 induction cs with
 | nil=>simp[vE]
 | cons x r ih=>
  refine⟨by simp[vE,ih.1],fun i=>?_⟩;cases i with
  | zero=>simp[vE]
  | succ i=>simp[vE,ih.2]
def ch0(fS:∀cap,ys.length<=cap->RV G.D w (.sl ys) (.slice (some ⟨b,0,none⟩) ys.length cap)){x:SV}{v:Value}(h:B7 G w x v):B7 G w (dK b ys x) v:=by
 unfold dK;split
 ·rename_i b' n cap;split
  ·rename_i hc;obtain⟨rfl,rfl,bL⟩:=hc;have:=(X6 h).1;rw[this];exact fS cap bL
  ·exact h
 ·exact h
def od0{x:SV}(h:x.isCell=true):(dK b ys x).isCell=true:=by
 unfold dK;split;· split <;> rfl
 ·exact h
def Rel.told(R:Rel X G s a w)(b:Nat)(ys:List (List DV))(fS:∀cap,ys.length<=cap->RV G.D w (.sl ys) (.slice (some ⟨b,0,none⟩) ys.length cap)):Rel X G (xV b ys s) a w:=by
 have nP:∀l v,D5 G l (EI b ys v)=D5 G l v:=by
  intro l v;cases v <;> cases l <;> rfl
 have d8:∀l v,get (xV b ys s) l=some v->∃v0,get s l=some v0/\v=EI b ys v0:=by
  intro l v h;rw[Xq]at h;obtain⟨v0,h1,h2⟩:=vV.1 h;exact⟨v0,h1,h2.symm⟩
 have A5:∀k cs,jT G w k cs->jT G w k (vE b ys cs):=by
  rintro k cs ⟨c,e,h1,h2,h3⟩;obtain⟨f1,f2⟩:=oc0 b ys cs;refine⟨c,e,h1,oO,fun i x hx=>?_⟩;rw[f2]at hx;obtain⟨x0,h4,rfl⟩:=vV.1 hx;obtain⟨k1,v,k2,k3⟩:=h3 i x0 h4;exact⟨od0 k1,v,k2,ch0 fS k3⟩
 refine⟨R.size,R.defers,R.ext,R.wf,R.nil,fun l v hg=>?_,fun l v l' v' b' hg dY hb X2=>?_,fun l v b' hg hb=>?_,fun l v b' o hg hb ht=>?_⟩
 ·obtain⟨v0,h1,rfl⟩:=d8 l v hg;have hh:=R.holds l v0 h1;cases l <;> cases v0 <;> first|exact hh.elim|exact ch0 fS hh|exact A5 _ _ hh|exact hh
 ·obtain⟨v0,h1,rfl⟩:=d8 l v hg;obtain⟨v1,h2,rfl⟩:=d8 l' v' dY;rw[nP]at hb X2;exact R.sep l v0 l' v1 b' h1 h2 hb X2
 ·obtain⟨v0,h1,rfl⟩:=d8 l v hg;rw[nP]at hb;exact R.own l v0 b' h1 hb
 ·obtain⟨v0,h1,rfl⟩:=d8 l v hg;rw[nP]at hb;exact R.data l v0 b' o h1 hb ht
def Rel.freeze(R:Rel X G s a w)(hE:∀e∈ys,e.length=E)(d7:ys.length<=M5)(hw:X.w0.heap.size<=b)(A5:get s (.heap b)=some (.row (C4 ys))):
  ∃G',Rel X G' (xV b ys (D8 s (.heap b))) a w:=by
 obtain⟨c,e,h1,h2,h3⟩:=R.holds _ _ A5;have hlen:=IJ hE;have BS:(C4 ys).length=ys.length * E:=by simp only[C4,fV];exact hlen
 rw[BS]at h2;have W5:∀k,w.cell? ⟨b,k,none⟩=c[k]?:=fun k=>by simp[rW,h1]
 let G':Gh:={ D:=qU G.D b 0 (ys.length * E),ν:=G.ν,τ:=G.τ }
 have T:Trans X G a w G' a w (fun b'=>b' = b):=by
  refine⟨rfl,fun h=>h,rfl,rfl,rfl,I5 _,fun _ _ _=>rfl,fun b' hb=>by subst hb;exact .inl hw,fun _ _ hD=>⟨.inl hD,.refl _ _ _⟩,fun b' k hD dV=>?_,R.nil⟩;rcases hD with hD|⟨rfl,_,hk⟩;· exact absurd hD dV
  ·exact⟨.inr ⟨rfl,hw,R.unsoft A5 rfl⟩,.inl ⟨_,(W5 k).trans (uG oO)⟩⟩
 have R1:Rel X G' (D8 s (.heap b)) a w:=by
  refine R.step T (fun _ _=>False) (fun l u h=>?_) (fun l u h=>h.elim) (fun l u l' u' b h _ _ _=>h.elim);rw[nV]at h;by_cases hl:kI b=l;· rw[if_pos hl]at h;cases h
  ·rw[if_neg hl]at h;refine .inr ⟨h,fun _ _=>rfl,fun b' X2 he=>?_,fun _ _=>rfl,fun _ _=>rfl⟩;subst he;exact hl (R.sep _ _ _ _ b' A5 h rfl X2)
 refine⟨G',R1.told b ys fun cap bL=>?_⟩;have d8:∀i j e' d,ys[i]? = some e'->e'[j]? = some d->d.isCell=true/\∃v,c[i * E+j]? = some v/\RV G.D w d v:=by
  intro i j e' d hi hj;have hk:ys.flatten[i * E+j]? = some d:=by
   clear h2 h3 BS hlen A5 R1 T G' d7 bL
   induction ys generalizing i with
   | nil=>simp at hi
   | cons y r ih=>
    have hy:=hE y sS;cases i with
    | zero=>
     simp at hi;subst hi;have Hm:=(uA hj).1;rw[FC,G8,FI,cJ Hm];exact hj
    | succ i=>
     rw[FI,cK (by rw[hy,Y9];omega),hy];rw[show (i+1) * E+j - E=i * E+j by rw[Y9];omega];exact ih (fun e he=>hE e (by simp[he])) i (by simpa using hi)
  obtain⟨k1,v,k2,k3⟩:=h3 (i * E+j) (.v d) (by simp only[C4,cI,hk];rfl);exact⟨k1,v,k2,k3⟩
 refine Qu (E:=E) (f:=fun k=>c[k]?.getD undef) d7 bL hE (fun e' DD d hd=>?_) (fun k hk=>?_) (fun i j e' d hi hj=>?_)
 ·obtain⟨i,hi⟩:=FJ.1 DD;obtain⟨j,hj⟩:=FJ.1 hd;exact (d8 i j e' d hi hj).1
 ·have I1:k<c.size:=oO;refine⟨?_,.inr ⟨rfl,oO,oO⟩⟩;rw[G8,W5,uG I1];rfl
 ·obtain⟨-,v,k2,k3⟩:=d8 i j e' d hi hj;simp only[k2,Cj];exact k3.mono T.grow
def WI(A5:get s (.heap b)=some (.row (C4 ys)))(hE:∀e∈ys,e.length=E)(d7:ys.length<=M5)(hw:X.w0.heap.size<=b)(h:W X kk (xV b ys (D8 s (.heap b)))):W X kk s:=by
 intro G a w b' cs hf nO hr R;obtain⟨G',R'⟩:=R.freeze hE d7 hw A5;exact h G' a w b' cs hf nO hr R'
def Xr(hE:∀e∈ys,e.length=E)(hi:i<ys.length){z:List DV}(hz:z.length=E):put (C4 ys) (i * E) (z.map b7)=C4 (ys.set i z):=by
 have hlen:=IJ hE;have BS:(C4 ys).length=ys.length * E:=by simp only[C4,fV];exact hlen
 have hle:i * E+(z.map b7).length<=(C4 ys).length:=by
  rw[BS,fV,hz]
  calc i * E+E=(i+1) * E:=by rw[Y9,Ih]
   _<=ys.length * E:=yO _ hi
 apply List.ext_getElem?;intro k;rw[MF _ _ _ _ hle];clear hle BS hlen;simp only[C4,fV,hz,cI]
 induction ys generalizing i k with
 | nil=>simp at hi
 | cons y r ih=>
  have hy:=hE y sS;cases i with
  | zero=>
   simp only[FC,aH,true_and,G8,Nat.sub_zero,List.set_cons_zero,FI];split
   ·rename_i hk;rw[cJ oO]
   ·rename_i hk;rw[cK oO,cK oO,hy,hz]
  | succ i=>
   simp only[List.set_cons_succ,FI];have ih':=ih (fun e he=>hE e (by simp[he])) (i:=i) (by simpa using hi) (k - E);by_cases hk:k<E;· rw[if_neg (by rw[Y9];omega),cJ oO,cJ oO]
   ·rw[cK oO,cK oO,hy,<- ih'];have e1:(i+1) * E=i * E+E:=by rw[Y9,Ih]
    by_cases h2:i * E<=k - E/\k - E<i * E+E
    ·rw[if_pos h2,if_pos oO]
     congr 2;omega
    ·rw[if_neg h2,if_neg oO]
end
end
section
section
variable{X:Ctx}{s:St}{k:List Item}
def bU0(ho:o.op = .call { callee:=.value x,args:=args,argTypes:=X5 })(hx:M2 X (get s) x=some (.v (.m6 f cs)))
  {d0:List DV} (iF:aZ X (get s) args.toList=some d0) {φ I2:G3} {r:DV} (hc:P8 X.P X.gl f (d0++cs) φ r I2) (S4:v7 (get s) φ) (A4:(φ.map (·.1)).Nodup) {d:Nat} (hd:o.dst=some d) (C7:d<X.n) :
  bX X s o (aX (dJ (L2 s (.P0 d) (.one (.v r))) φ) I2):=by
 intro G a w R0 next Q hK
 have hr:=O4 R0 hx;generalize Dv:a.eval x=xv at hr;cases hr with
 | m6 _ _ ca hl hh=>
  obtain⟨q1,q2⟩:=FZ R0 iF;have Fw:args.size=d0.length:=by simpa using q1
  refine bP (by intro c e;rw[ho]at e;cases e) ?_;have O7:(execOp a.eval o).run X.P w = .ok (.enter f (#[]++args.map a.eval++ca)) w:=by
   simp[execOp,ho,resolve,Dv,aA0,invoke,Qf hc.1]
  rw[O7,Wa];refine (hc.2 G.D w _ R0.wf ?_ ?_ (LX R0 S4 A4)).mono ?_;· simp[<- Fw,hl]
  ·intro i y v hy hv;have e:(#[]++args.map a.eval++ca).toList=args.toList.map a.eval++ca.toList:=sS;have p9:(args.toList.map a.eval++ca.toList)[i]? = some v:=by rw[<- e,DN];exact hv
   by_cases h2:i<args.size
   ·rw[cJ oO]at hy;rw[cJ (by simpa using h2)]at p9;exact q2 _ _ _ hy p9
   ·rw[cK oO]at hy;rw[cK (by simp;omega)]at p9;simp only[fV,aB0,Fw]at p9;exact hh _ _ _ hy (by rw[<- DN];exact p9)
  ·rintro e w' ⟨v,D',r',φ2,rfl,⟨rfl,rfl⟩,Fg,dX,Du,hhh,K1⟩;rw[hd];exact hK _ _ _ (R0.call S4 Fg dX Du hhh K1 C7)
def Wi{L1:List Nat}{ops:Array Oper}{l:List Oper}{K:St->Prop}{d:Tmp}{x:Operand}{f:FuncId}{args:Array Operand}{X5:Array TypeId}{ty:TypeId}{pos:String}{af:Array Edge}{gl:X8}(hP:X.P=P)(G0:X.gl=gl)
  {J9:List DV} {φ I2:G3} {r:DV} (hc:P8 P gl f J9 φ r I2) (hx:M2 X (get s) x=some (.v (.m6 f (J9.drop args.toList.length)))) (V2:aZ X (get s) args.toList=some (J9.take args.toList.length)) (S4:v7 (get s) φ) (A4:(φ.map (·.1)).Nodup) (C7:d<X.n)
  (h:vc X L1 ops l (aX (dJ (L2 s (.P0 d) (.one (.v r))) φ) I2) K) :
  cB X L1 ops l K ⟨some d,.call { callee:=.value x,args:=args,argTypes:=X5 },ty,pos,af,none⟩ s (H4 X L1 s ⟨some d,.call { callee:=.value x,args:=args,argTypes:=X5 },ty,pos,af,none⟩):=by
 have e:H4 X L1 s ⟨some d,.call { callee:=.value x,args:=args,argTypes:=X5 },ty,pos,af,none⟩=none:=by
  simp only[H4,dA,N8,oB,A9];split <;> rfl
 rw[e];exact Yo (zN (.inl rfl) (bU0 (o:=⟨some d,.call { callee:=.value x,args:=args,argTypes:=X5 },ty,pos,af,none⟩) rfl hx V2 (by rw[hP,G0,FK];exact hc) S4 A4 rfl C7)) (bW h)
def Qx{L1:List Nat}{ops:Array Oper}{s0:St}{K:St->Prop}{l:List Oper}{k:St->List Ev->Prop}{ev:List Ev}{s s1:St}{fp wr:List Loc}{d:Tmp}{x:Operand}{f:FuncId}{args:Array Operand}{X5:Array TypeId}{ty:TypeId}{pos:String}{af:Array Edge}
  (hk:∀s ev,k s ev->VD X ops s0 l s ev K) {P:Program} {gl:X8} (hP:X.P=P) (G0:X.gl=gl) {J9:List DV} {φ I2:G3} {r:DV} (hc:P8 P gl f J9 φ r I2) (hx:M2 X (get s) x=some (.v (.m6 f (J9.drop args.toList.length)))) (V2:aZ X (get s) args.toList=some (J9.take args.toList.length)) (S4:v7 (get s) φ) (A4:(φ.map (·.1)).Nodup) (C7:d<X.n)
  (h:rM k ev s (S6 (x::args.toList)++pK φ) [] ((.P0 d,some (.one (.v r)))::(BK φ++BL I2))) :
  Ae X ops s0 l K k ⟨some d,.call { callee:=.value x,args:=args,argTypes:=X5 },ty,pos,af,none⟩ ev s fp wr (H4 X L1 s1 ⟨some d,.call { callee:=.value x,args:=args,argTypes:=X5 },ty,pos,af,none⟩):=by
 have e:H4 X L1 s1 ⟨some d,.call { callee:=.value x,args:=args,argTypes:=X5 },ty,pos,af,none⟩=none:=by
  simp only[H4,dA,N8,oB,A9];split <;> rfl
 rw[e];show VD X ops s0 _ s ev K;have fS:∀m∈S6 args.toList,m∈S6 (x::args.toList)++pK φ:=fun m hm=>t6.2 (.inl (by cases x <;> simp[S6,hm]));refine Bv ⟨S6 (x::args.toList)++pK φ,_,[]⟩ (fun s' hs _=>zN (.inl rfl) ?_) (hk _ _ h);refine (bU0 (o:=⟨some d,.call { callee:=.value x,args:=args,argTypes:=X5 },ty,pos,af,none⟩) rfl (LZ (fun t ht=>t6.2 (.inl (by subst ht;simp[S6]))) hs hx) (Gb hs fS V2) (by rw[hP,G0,FK];exact hc) ?_ A4 rfl C7).congr fun m=>?_
 ·intro b cs hm;exact hs _ _ (Cv (t6.2 (.inr (QO hm))) (S4 b cs hm))
 ·simp only[apply,LA,Qv,Qw]
def Ju{L1:List Nat}{ops:Array Oper}{l:List Oper}{K:St->Prop}{d:Tmp}{f:FuncId}{ca:Array Operand}{ty:TypeId}{pos:String}{af:Array Edge}{q:Option (Prop × St)}(ha:aZ X (get s) ca.toList=some ds)(hn:d<X.n)(hq:q=none)
  (h:vc X L1 ops l (L2 s (.P0 d) (.one (.v (.m6 f ds)))) K):cB X L1 ops l K ⟨some d,.makeFunc (.func f) #[] ca,ty,pos,af,none⟩ s q:=by
 subst hq;refine wS rfl (s':=L2 s (.P0 d) (.one (.v (.m6 f ds)))) (fun G a w R next Q hK=>?_) (bW h);obtain⟨q1,q2⟩:=FZ R ha;refine bP (by intro c e;cases e) ?_;have C9:(execOp a.eval ⟨some d,.makeFunc (.func f) #[] ca,ty,pos,af,none⟩).run X.P w = .ok (.value (.func (.func f) #[] (ca.map a.eval))) w:=by
  simp[execOp,Instr.makeFunc,v9]
 rw[C9,fF];refine hK G _ w (R.setSlot (oU X G a w R.nil) rfl rfl (fun _ h=>h) hn (.m6 f ds _ (by simpa using q1) fun i c v hc hv=>q2 i c v hc ?_));rw[<- Array.toList_map,DN];exact hv
def GD.bool{D:Nat->Nat->Prop}{w:World}{b o:Nat}{ok:Bool}(h:GD D w b o ok):∃v,w.cell? ⟨b,o,none⟩=some (.bool v)/\(ok=false->v=false):=by
 cases ok with
 | true=>obtain⟨m,-,-,-,hb⟩:=h.1 rfl;obtain⟨v,hv⟩:=hb.cell;exact⟨v,hv,fun e=>by cases e⟩
 | false=>exact⟨false,(h.2 rfl).2,fun _=>rfl⟩
def dL0{L1:List Nat}{ops:Array Oper}{l:List Oper}{K:St->Prop}{d:Tmp}{T:TypeId}{ty:TypeId}{pos:String}{af:Array Edge}{q:Option (Prop × St)}{ok:Bool}(hx:M2 X (get s) x=some (.v (.flag ok)))(hl:G5 X.P T=some (false,1))(hn:d<X.n)(hq:q=none)
  (h:∀v,(ok=false->v=false)->vc X L1 ops l (L2 s (.P0 d) (.one (.v (.K0 (.bool v))))) K):cB X L1 ops l K ⟨some d,.load T x,ty,pos,af,none⟩ s q:=by
 subst hq;intro m hm G a w R0;obtain⟨p1,p3⟩:=pA hm;simp only[B4,qJ,wpOpsIn,p1,fD,if_true];have hr:=O4 R0 hx;generalize Dv:a.eval x=xv at hr;cases hr with
 | flag _ b o hs=>
  obtain⟨v,hv,O8⟩:=hs.bool
  have O7:=Lw (P:=X.P) (w:=w) hl b o [.bool v] (fun j u hj=>by
   cases j with
   | zero=>simp at hj;subst hj;exact hv
   | succ j=>simp at hj) (fun h=>by cases h) (.bool v) sS
  refine bP (by intro c e;cases e) ?_;have C9:(execOp a.eval ⟨some d,.load T x,ty,pos,af,none⟩).run X.P w = .ok (.value (.bool v)) w:=by
   simp[execOp,Dv,Instr.loadAt,Instr.sureAddr,O7]
  rw[C9,fF];exact bW (h v O8) (m+1) p3 G _ w (R0.setSlot (oU X G a w R0.nil) rfl rfl (fun _ h=>h) hn (.K0 _ tT))
theorem cU0{L1:List Nat}{ops:Array Oper}{l:List Oper}{K:St->Prop}{T:TypeId}{y:Operand}{ty:TypeId}{pos:String}{af:Array Edge}{q:Option (Prop × St)}{v:Bool}(hx:M2 X (get s) x=some (.v (.flag true)))(hy:M2 X (get s) y=some (.v (.K0 (.bool v))))(hl:G5 X.P T=some (false,1))(hq:q=none)
  (h:vc X L1 ops l s K):cB X L1 ops l K ⟨none,.store T x y,ty,pos,af,none⟩ s q:=by
 subst hq;intro m hm G a w R0;obtain⟨p1,p3⟩:=pA hm;simp only[B4,qJ,wpOpsIn,p1,fD,if_true];have hr:=O4 R0 hx;have rQ:=(X6 (O4 R0 hy)).1;generalize Dv:a.eval x=xv at hr;cases hr with
 | flag _ b o hs=>
  obtain⟨u,e1,e2,e3,c,e,u0,hb,HU⟩:=hs.1 rfl;have W5:∀j,w.cell? ⟨b,j,none⟩=c[j]?:=fun j=>by simp[rW,hb]
  have e4:=e3;rw[W5]at e4;have ho:o<c.size:=(fB.1 HU).1;have dV:¬G.D b o:=by
   rcases R0.wf.there b u e2 with⟨v,hv⟩|⟨es,cl,hm⟩|⟨-,-,h3⟩;· rw[e3]at hv;cases hv
   ·rw[hb]at hm;cases hm
   ·exact e1 ▸ h3
  have kG:=PY (P:=X.P) b o e [.bool v] 0 c w hb (by simp;omega) (by simp[Value.oneCell']);rw[UP (vs:=#[.bool v])]at kG;have V9:=LD c o #[.bool v] (by simp;omega);have hcell':∀j,(w.setRow b (lW c o #[.bool v])).cell? ⟨b,j,none⟩=(lW c o #[.bool v])[j]?:=fun j=>cell_setRow_same _ _ _ _ _ _ _ hb;have C9:(execOp a.eval ⟨none,.store T x y,ty,pos,af,none⟩).run X.P w = .ok .skip (w.setRow b (lW c o #[.bool v])):=by
   have h1:=UT (P:=X.P) (w:=w) (v:=.bool v) hl rfl (b:=b) (off:=o) kG;rw[<- Dv]at h1;simp only[execOp,rQ,v9,h1,cW,kH]
  refine bP (by intro c e;cases e) ?_;rw[C9,Mj];have T':Trans X G a w G a (w.setRow b (lW c o #[.bool v])) (fun b'=>b' = b):=by
   refine⟨rfl,fun h=>h.but hb fun b' X1=>setRow_other _ _ _ _ X1,rfl,rfl,rfl,sS,fun b' _ X1=>setRow_other _ _ _ _ X1,fun b' e=>?_,fun b' j hD=>⟨hD,?_⟩,fun _ _ h k=>absurd h k,R0.nil⟩
   ·subst e;exact (R0.ext.soft ⟨u,e2,e3⟩).imp id .inr
   ·by_cases Fl:b' = b
    ·subst Fl;have TA:o≠j:=fun e=>dV (e ▸ hD);refine⟨?_,fun ⟨es,cl,hm⟩=>by (rw[hb]at hm;cases hm),fun _ hq=>?_⟩;· rw[hcell',W5,V9.2,if_neg (by simp;omega)]
     ·obtain⟨c2,e2,v2,q1,q2⟩:=hq;rw[hb]at q1;cases q1;have KF:=setRow_heap _ _ _ (lW c o #[.bool v]) _ _ hb;by_cases hoo:o=j % 1024;· exact⟨_,_,v,KF,by rw[V9.2,if_pos (by simp;omega)];simp[hoo]⟩
      ·exact⟨_,_,v2,KF,by rw[V9.2,if_neg (by simp;omega)];exact q2⟩
    ·exact .of (setRow_other _ _ _ _ Fl)
  refine bW h (m+1) p3 G a _ (R0.step T' (fun _ _=>False) (fun l u9 hg=>.inr ⟨hg,fun _ _=>rfl,fun b' X2 he=>?_,fun _ _=>rfl,fun _ _=>rfl⟩) (fun _ _ h=>h.elim) fun _ _ _ _ _ h=>h.elim);subst he;exact R0.unsoft hg X2 ⟨u,e2,e3⟩
def AV0(d m:Nat)(ok:Bool){kk:List Item}(hm:get s (.P0 m)=some (.one (.loc d 0)))(A5:get s (.loc d)=some (.row (cs.map b7++[.v (.K0 (.bool false))])))(hlen:cs.length<1024)(K1:X.ids=[])
  (h:W X kk (L2 (D8 s (.loc d)) (.P0 m) (.one (.v (.soft cs ok))))):W X kk s:=by
 intro G a w b' N7 hf nO hr R;obtain⟨c,e,h1,h2,h3⟩:=R.holds _ _ A5;have hw:X.w0.heap.size<=G.ν d:=by
  rcases R.own _ _ _ A5 rfl with h|⟨h,-⟩;· exact h
  ·rw[K1]at h;cases h
 have P6:cs.length+1<=c.size:=by simpa using h2
 have A4:∀o,¬G.D (G.ν d) o:=fun o=>R.data _ _ _ o A5 rfl rfl;have W5:∀j,w.cell? ⟨G.ν d,j,none⟩=c[j]?:=fun j=>by simp[rW,h1]
 obtain⟨-,vf,hvf,hrf⟩:=h3 cs.length (.v (.K0 (.bool false))) sS;have hrf:vf = .bool false:=(X6 hrf).1;subst hrf
 let mk:=(c.size+1) * 1024+cs.length
 have hmk1:mk % 1024=cs.length:=by simp only[mk];omega
 have hmk2:c.size<=mk:=by simp only[mk];omega
 let G':Gh:={ D:=fun b o=>G.D b o\/(b=G.ν d/\(o<cs.length\/(ok=true/\o=mk)\/(ok=false/\o=cs.length))),ν:=G.ν,τ:=G.τ }
 have hnone:w.cell? ⟨G.ν d,mk,none⟩=none:=by rw[W5,Array.getElem?_eq_none hmk2]
 have hbool:GC w (G.ν d) cs.length:=⟨c,e,false,h1,hvf⟩;have T:Trans X G a w G' a w (fun b=>b=G.ν d):=by
  refine⟨rfl,fun h=>h,rfl,rfl,rfl,I5 _,fun _ _ _=>rfl,fun b hb=>by subst hb;exact .inl hw,fun _ _ hD=>⟨.inl hD,.refl _ _ _⟩,fun b o hD dV=>?_,R.nil⟩;rcases hD with hD|⟨rfl,hD⟩;· exact absurd hD dV
  ·refine⟨.inr ⟨rfl,hw,R.unsoft A5 rfl⟩,?_⟩;rcases hD with hD|⟨O8,rfl⟩|⟨O8,rfl⟩;· exact .inl ⟨_,(W5 o).trans (uG oO)⟩
   ·refine .inr (.inr ⟨hnone,hmk1 ▸ hbool,?_⟩);rw[hmk1];rintro (hD|⟨-,hD|⟨-,hD⟩|⟨hD,-⟩⟩);· exact A4 _ hD
    ·omega
    ·omega
    ·rw[O8]at hD;cases hD
   ·exact .inl ⟨_,(W5 _).trans hvf⟩
 have hn:m<a.tmps.size\/True:=.inr tT;refine h G' a w b' N7 hf nO hr (R.step T (fun l u=>l = .P0 m/\u = .one (.v (.soft cs ok))) (fun l u hg=>?_) (fun l u hq=>?_) fun l u l' u' b h h' hb X2=>by obtain⟨rfl,rfl⟩:=h;cases hb)
 ·rw[T5,nV]at hg;by_cases q1:mI m=l;· rw[if_pos q1]at hg;cases hg;exact .inl ⟨q1.symm,rfl⟩
  ·rw[if_neg q1]at hg;by_cases q2:Loc.loc d=l;· rw[if_pos q2]at hg;cases hg
   ·rw[if_neg q2]at hg;refine .inr ⟨hg,fun _ _=>rfl,fun b hb he=>?_,fun _ _=>rfl,fun _ _=>rfl⟩;subst he;exact q2 (R.sep _ _ _ _ _ A5 hg rfl hb)
 ·obtain⟨rfl,rfl⟩:=hq;refine⟨?_,fun b hb=>by cases hb⟩;have hv:a.tmps.getD m undef = .pointer (some ⟨G.ν d,0,none⟩):=R.holds _ _ hm;show RV G'.D w (.soft cs ok) _;rw[hv];refine .soft cs ok (G.ν d) (fun j=>(c[j]?).getD undef) (fun x hx=>?_) (fun j hj=>?_) (fun j hj=>.inr ⟨rfl,.inl oO⟩) ⟨fun O8=>?_,fun O8=>?_⟩ fun j x hx=>?_
  ·obtain⟨j,hj⟩:=FJ.1 hx;exact (h3 j (.v x) (by rw[cJ (by simpa using (uA hj).1),cI,hj];rfl)).1
  ·rw[G8,W5,uG oO];rfl
  ·rw[G8];exact⟨mk,hmk1,.inr ⟨rfl,.inr (.inl ⟨O8,rfl⟩)⟩,hnone,hbool⟩
  ·rw[G8];exact⟨.inr ⟨rfl,.inr (.inr ⟨O8,rfl⟩)⟩,(W5 _).trans hvf⟩
  ·obtain⟨-,v,hv,hr⟩:=h3 j (.v x) (by rw[cJ (by simpa using (uA hx).1),cI,hx];rfl);rw[hv];exact RV.mono T.grow hr
def DM0(m:Nat){l:List (Int × Value)}{kk:List Item}(hm:get s (.P0 m)=some (.one (.v (.K0 (.map (some b))))))(A5:get s (.heap b)=some (.mp (l.map fun p=>(p.1,.K0 p.2))))(K1:b∉X.ids)
  (h:W X kk (L2 (D8 s (.heap b)) (.P0 m) (.one (.v (.mpd l))))):W X kk s:=by
 intro G a w b' N7 hf nO hr R;obtain⟨es,cl,h1,h2,h3,-⟩:=R.holds _ _ A5;have hw:X.w0.heap.size<=b:=by
  rcases R.own _ _ _ A5 rfl with h|⟨h,-⟩;· exact h
  ·exact absurd h K1
 let G':Gh:={ D:=fun b1 o=>G.D b1 o\/(b1=b/\o=0),ν:=G.ν,τ:=G.τ }
 have T:Trans X G a w G' a w (fun b1=>b1=b):=by
  refine⟨rfl,fun h=>h,rfl,rfl,rfl,I5 _,fun _ _ _=>rfl,fun b hb=>by subst hb;exact .inl hw,fun _ _ hD=>⟨.inl hD,.refl _ _ _⟩,fun b1 o hD dV=>?_,R.nil⟩;rcases hD with hD|⟨rfl,rfl⟩;· exact absurd hD dV
  ·exact⟨.inr ⟨rfl,hw,R.unsoft A5 rfl⟩,.inr (.inl ⟨_,_,h1⟩)⟩
 refine h G' a w b' N7 hf nO hr (R.step T (fun l' u=>l' = .P0 m/\u = .one (.v (.mpd l))) (fun l' u hg=>?_) (fun l' u hq=>?_) fun l u l' u' b h h' hb X2=>by obtain⟨rfl,rfl⟩:=h;cases hb)
 ·rw[T5,nV]at hg;by_cases q1:mI m=l';· rw[if_pos q1]at hg;cases hg;exact .inl ⟨q1.symm,rfl⟩
  ·rw[if_neg q1]at hg;by_cases q2:kI b=l';· rw[if_pos q2]at hg;cases hg
   ·rw[if_neg q2]at hg;refine .inr ⟨hg,fun _ _=>rfl,fun b1 hb he=>?_,fun _ _=>rfl,fun _ _=>rfl⟩;subst he;exact q2 (R.sep _ _ _ _ _ A5 hg rfl hb)
 ·obtain⟨rfl,rfl⟩:=hq;refine⟨?_,fun b hb=>by cases hb⟩;have hv:a.tmps.getD m undef = .map (some b):=(X6 (R.holds _ _ hm)).1;show RV G'.D w (.mpd l) _;rw[hv];refine .mpd l b es cl 0 (.inr ⟨rfl,rfl⟩) h1 (by simpa using h2) fun i k v en hi he=>?_;obtain⟨q1,q2⟩:=h3 i k (.K0 v) en (by rw[cI,hi];rfl) he;exact⟨q1,X6 q2⟩
end
end
section
structure Hid (p:Prop):Prop where
 out:p
abbrev sV(n:Nat)(x:DV):Loc × LV:=(.P0 n,.one (.v x))
abbrev sP(n:Nat):Loc × LV:=(.P0 n,.one (.loc n 0))
abbrev sL(n:Nat)(r:List SV):Loc × LV:=(.loc n,.row r)
abbrev sB(n:Nat)(r:List SV):Loc × LV:=(.heap n,.row r)
@[go_sem] theorem Gx0 (n:Nat) (x:DV):sV n x=(.P0 n,.one (.v x)):=rfl
@[go_sem] theorem Gy0 (n:Nat):sP n=(.P0 n,.one (.loc n 0)):=rfl
@[go_sem] theorem Gz0 (n:Nat) (r:List SV):sL n r=(.loc n,.row r):=rfl
@[go_sem] theorem GA0 (n:Nat) (r:List SV):sB n r=(.heap n,.row r):=rfl
theorem j2{p q:Prop}(a:p)(b:q):p/\q:=⟨a,b⟩
def gR0(_:List (Nat × Nat)):Prop:=True
def wr(l:List (Nat × Nat)):gR0 l:=trivial
def bQ{a b c d e f g i p:Prop}(h:a/\b/\c/\d/\e/\f/\g/\i)(k:a->b->c->d->e->f->g->p):p:=k h.1 h.2.1 h.2.2.1 h.2.2.2.1 h.2.2.2.2.1 h.2.2.2.2.2.1 h.2.2.2.2.2.2.1
def Q1{q p:Prop}(k:q)(h:Hid q->p:=by
 intro zk;try refine bQ zX fun hP G0 hf X0 hn hR K1=>?_
 repeat (first|refine Nd ?_|refine GF ?_|refine RM ?_|refine Gi ?_|refine Gw ?_|refine JH rfl ?_)
 exact zk.out):p:=h ⟨k⟩
def m5{q p:Prop}(k:q)(h:Hid q->p:=by
 intro zk;repeat (first|refine Gi ?_|refine GF ?_|refine Gw ?_|refine JH rfl ?_)
 exact zk.out):p:=h ⟨k⟩
def K4{q p:Prop}(k:q)(h:Hid q->p:=by
 intro zk;repeat (refine⟨oO,?_⟩)
 first|refine hK _ ?_|refine⟨by rfl,hK _ ?_⟩
 exact zk.out):p:=h ⟨k⟩
def Wbx(_:List Nat):Prop:=True
def bx(l:List Nat):Wbx l:=trivial
def f40{k:List Item}(_:Wbx L1)(h:∀K:St->Prop,(∀s',W X k s'->K s')->vc X L1 ops ops.toList s K):W X (.code (.region id ops false)::k) s:=O9 L1 h
def E4{NZ K6 q p:Prop}(zl:NZ)(ze:K6)(k:q)(h:NZ->K6->Hid q->p:=by
 intro zl ze zk;try refine bQ zX fun hP G0 hf X0 hn hR K1=>?_
 refine Q1 ?_;refine f40 zl fun K hK=>?_;simp[go_sem,hP,G0,hn,ze];repeat (refine⟨oO,?_⟩)
 first|refine hK _ ?_|refine⟨by rfl,hK _ ?_⟩
 clear hK K;exact zk.out):p:=h zl ze ⟨k⟩
def K2{q p:Prop}(k:q)(h:Hid q->p:=by
 intro zk;try refine bQ zX fun hP G0 hf X0 hn hR K1=>?_
 refine Q1 ?_;first|refine O9 [] fun K hK=>?_|refine xB (by rw[hP];exact kO) [] fun K hK=>?_
 simp[go_sem,hP,G0,hn];repeat (refine⟨oO,?_⟩)
 first|refine hK _ ?_|refine⟨by rfl,hK _ ?_⟩
 clear hK K;exact zk.out):p:=h ⟨k⟩
def N2{q p:Prop}(k:q)(h:Hid q->p:=by
 intro zk;try refine bQ zX fun hP G0 hf X0 hn hR K1=>?_
 repeat (first|refine Nd ?_|refine GF ?_|refine RM ?_|refine Gi ?_|refine Gw ?_|refine JH rfl ?_|((first|refine O9 [] fun K hK=>?_|refine xB (by rw[hP];exact kO) [] fun K hK=>?_);simp[go_sem,hP,G0,hn];(repeat (refine⟨oO,?_⟩));(first|refine hK _ ?_|refine⟨by rfl,hK _ ?_⟩);clear hK K)|refine aB rfl (fun _=>?_) (fun hq=>False.elim (by first|(simp;done)|(simp;omega)|(simp at hq;done)|(simp at hq;omega)))|refine aB rfl (fun hq=>False.elim (by first|(simp;done)|(simp;omega)|(simp at hq;done)|(simp at hq;omega))) (fun _=>?_))
 exact zk.out):p:=h ⟨k⟩
def Fm0{q p:Prop}(k:q)(h:Hid q->p:=by
 intro zk;try refine bQ zX fun hP G0 hf X0 hn hR K1=>?_
 refine Q1 ?_;refine aB rfl ?_ ?_;rotate_left;· intro hq;first|(simp at hq;done)|(simp at hq;omega)
 intro _;exact zk.out):p:=h ⟨k⟩
def Fn0{q p:Prop}(k:q)(h:Hid q->p:=by
 intro zk;try refine bQ zX fun hP G0 hf X0 hn hR K1=>?_
 refine Q1 ?_;refine aB rfl ?_ ?_;· intro hq;first|(simp at hq;done)|(simp at hq;omega)
 intro _;exact zk.out):p:=h ⟨k⟩
def R4{K6 q p:Prop}(ze:K6)(k:q)(h:K6->Hid q->p:=by
 intro ze zk;try refine bQ zX fun hP G0 hf X0 hn hR K1=>?_
 refine Q1 ?_;first|refine O9 [] fun K hK=>?_|refine xB (by rw[hP];exact kO) [] fun K hK=>?_
 simp[go_sem,hP,G0,hn,ze];repeat (refine⟨oO,?_⟩)
 first|refine hK _ ?_|refine⟨by rfl,hK _ ?_⟩
 clear hK K;exact zk.out):p:=h ze ⟨k⟩
def U1{K6 q p:Prop}(ze:K6)(k:q)(h:K6->Hid q->p:=by
 intro ze zk;try refine bQ zX fun hP G0 hf X0 hn hR K1=>?_
 repeat (first|refine Nd ?_|refine GF ?_|refine RM ?_|refine Gi ?_|refine Gw ?_|refine JH rfl ?_|((first|refine O9 [] fun K hK=>?_|refine xB (by rw[hP];exact kO) [] fun K hK=>?_);simp[go_sem,hP,G0,hn,ze];(repeat (refine⟨oO,?_⟩));(first|refine hK _ ?_|refine⟨by rfl,hK _ ?_⟩);clear hK K)|refine aB rfl (fun _=>?_) (fun hq=>False.elim (by first|(simp[ze];done)|(simp[ze];omega)|(simp[ze]at hq;done)|(simp[ze]at hq;omega)))|refine aB rfl (fun hq=>False.elim (by first|(simp[ze];done)|(simp[ze];omega)|(simp[ze]at hq;done)|(simp[ze]at hq;omega))) (fun _=>?_))
 exact zk.out):p:=h ze ⟨k⟩
def Kk{K6 q p:Prop}(ze:K6)(k:q)(h:K6->Hid q->p:=by
 intro ze zk;try refine bQ zX fun hP G0 hf X0 hn hR K1=>?_
 refine Q1 ?_;refine aB rfl ?_ ?_;rotate_left;· intro hq;first|(simp[ze]at hq;done)|(simp[ze]at hq;omega)
 intro _;exact zk.out):p:=h ze ⟨k⟩
def Kl{K6 q p:Prop}(ze:K6)(k:q)(h:K6->Hid q->p:=by
 intro ze zk;try refine bQ zX fun hP G0 hf X0 hn hR K1=>?_
 refine Q1 ?_;refine aB rfl ?_ ?_;· intro hq;first|(simp[ze]at hq;done)|(simp[ze]at hq;omega)
 intro _;exact zk.out):p:=h ze ⟨k⟩
def sZ{q p:Prop}(k:q)(h:Hid q->p:=by
 intro zk;try refine bQ zX fun hP G0 hf X0 hn hR K1=>?_
 refine Q1 ?_;refine aB rfl ?_ ?_;rotate_left;· intro h;simp at h;try omega
 intro _;exact zk.out):p:=h ⟨k⟩
def Z6{q p:Prop}(k:q)(h:Hid q->p:=by
 intro zk;try refine bQ zX fun hP G0 hf X0 hn hR K1=>?_
 refine Q1 ?_;refine aB rfl ?_ ?_;· intro h;simp at h;try omega
 intro _;exact zk.out):p:=h ⟨k⟩
def Z7{K6 pc q p:Prop}(ze:K6)(c:pc)(k:q)(h:K6->pc->Hid q->p:=by
 intro ze c zk;try refine bQ zX fun hP G0 hf X0 hn hR K1=>?_
 repeat (refine⟨oO,?_⟩)
 first|refine ev0 hP G0 c (by simp[go_sem,hP,G0,hn,ze]) rfl (by simp[go_sem]) sS (by rw[hn];exact uF rfl) ?_|refine dI0 (fun _ _=>iN) hP G0 c (by simp[go_sem,hP,G0,hn,ze]) rfl (by simp[go_sem]) sS (by rw[hn];exact uF rfl) ?_|refine qU0 hP G0 c (by simp[go_sem,hP,G0,hn,ze]) rfl (by simp[go_sem]) sS (by rw[hn];exact uF rfl) (by simp[go_sem];rfl) (by rw[hn];exact uF rfl) (by simp[go_sem]) ?_|refine n50 (fun _ _=>iN) hP G0 c (by simp[go_sem,hP,G0,hn,ze]) rfl (by simp[go_sem]) sS (by rw[hn];exact uF rfl) (by simp[go_sem];rfl) (by rw[hn];exact uF rfl) (by simp[go_sem]) ?_|refine Wi hP G0 c (by simp[go_sem,hP,G0,hn,ze]) (by simp[go_sem,hP,G0,hn,ze]) (by simp[go_sem,hP,G0,hn,ze]) (by simp[go_sem,hP,G0,hn,ze]) (by rw[hn];exact uF rfl) ?_|refine Qx (fun _ _=>iN) hP G0 c (by simp[go_sem,hP,G0,hn,ze]) (by simp[go_sem,hP,G0,hn,ze]) (by simp[go_sem,hP,G0,hn,ze]) (by simp[go_sem,hP,G0,hn,ze]) (by rw[hn];exact uF rfl) ?_
 simp[go_sem,hP,G0,hn,ze];exact zk.out):p:=h ze c ⟨k⟩
def Ha{q p:Prop}(k:q)(h:Hid q->p:=by
 intro zk;repeat (first|refine Nd ?_|refine GF ?_|refine Gi ?_|refine Gw ?_)
 exact zk.out):p:=h ⟨k⟩
def T7{q p:Prop}(k:q)(h:Hid q->p:=by
 intro zk;try refine bQ zX fun hP G0 hf X0 hn hR K1=>?_
 refine K2 ?_;refine Z6 ?_;exact zk.out):p:=h ⟨k⟩
def K5{q p:Prop}(k:q)(h:Hid q->p:=by
 intro zk;try refine bQ zX fun hP G0 hf X0 hn hR K1=>?_
 refine K2 ?_;refine sZ ?_;exact zk.out):p:=h ⟨k⟩
def U6{X:Ctx}{kk:List Item}{K6 p:Prop}{q:(St->Prop)->Prop}(ze:K6)(k:∀K:St->Prop,(∀s',W X kk s'->K s')->q K)(h:K6->Hid (∀K:St->Prop,(∀s',W X kk s'->K s')->q K)->p:=by
 intro ze zk;try refine bQ zX fun hP G0 hf X0 hn hR K1=>?_
 refine Q1 ?_;first|refine O9 [] fun K hK=>?_|refine xB (by rw[hP];exact kO) [] fun K hK=>?_
 simp[go_sem,hP,G0,hn,ze];exact zk.out K hK):p:=h ze ⟨k⟩
def E5{α:Type}{l a r:List α}{x:α}(h:l=a++x::r):a.length<l.length:=by rw[h];simp
def nN{p:Prop}(h:p:=by rw[hn];exact uF rfl):p:=h
def sG{p:Prop}(h:p:=by simp[go_sem]):p:=h
def sH{p:Prop}(h:p:=by simp[go_sem,hP,G0,hn]):p:=h
def Fo0{a b p:Prop}(h:a/\b)(k:a->b->p):p:=k h.1 h.2
def H0:True:=trivial
def M0{pa:Prop}(a:pa):pa/\True:=⟨a,trivial⟩
def P3{pa pb:Prop}(a:pa)(b:pb):pa/\pb/\True:=⟨a,b,trivial⟩
def E8{pa pb pc:Prop}(a:pa)(b:pb)(c:pc):pa/\pb/\pc/\True:=⟨a,b,c,trivial⟩
def cQ{pa pb pc pd:Prop}(a:pa)(b:pb)(c:pc)(d:pd):pa/\pb/\pc/\pd/\True:=⟨a,b,c,d,trivial⟩
def T9{pa pb pc pd pe:Prop}(a:pa)(b:pb)(c:pc)(d:pd)(e:pe):pa/\pb/\pc/\pd/\pe/\True:=⟨a,b,c,d,e,trivial⟩
def nD{pa pb pc pd pe pf:Prop}(a:pa)(b:pb)(c:pc)(d:pd)(e:pe)(f:pf):pa/\pb/\pc/\pd/\pe/\pf/\True:=⟨a,b,c,d,e,f,trivial⟩
def vM{pa pb pc pd pe pf pg:Prop}(a:pa)(b:pb)(c:pc)(d:pd)(e:pe)(f:pf)(g:pg):pa/\pb/\pc/\pd/\pe/\pf/\pg/\True:=⟨a,b,c,d,e,f,g,trivial⟩
def Te{pa pb pc pd pe pf pg ph:Prop}(a:pa)(b:pb)(c:pc)(d:pd)(e:pe)(f:pf)(g:pg)(h:ph):pa/\pb/\pc/\pd/\pe/\pf/\pg/\ph/\True:=⟨a,b,c,d,e,f,g,h,trivial⟩
def cC{pa pb pc pd pe pf pg ph q:Prop}(a:pa)(b:pb)(c:pc)(d:pd)(e:pe)(f:pf)(g:pg)(h:ph)(i:q):pa/\pb/\pc/\pd/\pe/\pf/\pg/\ph/\q:=⟨a,b,c,d,e,f,g,h,i⟩
def N1{K6 pcs q p:Prop}(ze:K6)(cs:pcs)(k:q)(h:K6->pcs->Hid q->p:=by
 intro ze cs zk;try refine bQ zX fun hP G0 hf X0 hn hR K1=>?_
 repeat (refine Fo0 cs fun c cs=>?_;first|refine Z7 ze c ?_|(refine K4 ?_;clear hK K;refine U1 ze ?_;(first|refine O9 [] fun K hK=>?_|refine xB (by rw[hP];exact kO) [] fun K hK=>?_);simp[go_sem,hP,G0,hn,ze];refine Z7 ze c ?_)|(refine U1 ze ?_;(first|refine O9 [] fun K hK=>?_|refine xB (by rw[hP];exact kO) [] fun K hK=>?_);simp[go_sem,hP,G0,hn,ze];refine Z7 ze c ?_))
 try (refine K4 ?_;clear hK K)
 exact zk.out):p:=h ze cs ⟨k⟩
def V3{K6 pcs q p:Prop}(ze:K6)(cs:pcs)(k:q)(h:K6->pcs->Hid q->p:=by
 intro ze cs zk;try refine bQ zX fun hP G0 hf X0 hn hR K1=>?_
 refine N1 ze cs ?_;refine U1 ze ?_;exact zk.out):p:=h ze cs ⟨k⟩
def W3{NZ pz2 K6 pzt p:Prop}(zl:NZ)(z2:pz2)(ze:K6)(zt:pzt)(h:NZ->pz2->K6->pzt->p:=by
 intro zl z2 ze zt;try refine bQ zX fun hP G0 hf X0 hn hR K1=>?_
 repeat (first|(refine AW0 zl (by simp[go_sem]) (by simp[go_sem,z2] <;> omega) (by simp[go_sem]) zt)|refine Nd ?_|refine GF ?_|refine RM ?_|refine Gi ?_|refine Gw ?_|refine JH rfl ?_|((first|refine O9 [] fun K hK=>?_|refine xB (by rw[hP];exact kO) [] fun K hK=>?_);simp[go_sem,hP,G0,hn,ze];(repeat (refine⟨oO,?_⟩));(first|refine hK _ ?_|refine⟨by rfl,hK _ ?_⟩);clear hK K)|refine aB rfl (fun _=>?_) (fun hq=>False.elim (by first|(simp[ze];done)|(simp[ze];omega)|(simp[ze]at hq;done)|(simp[ze]at hq;omega)))|refine aB rfl (fun hq=>False.elim (by first|(simp[ze];done)|(simp[ze];omega)|(simp[ze]at hq;done)|(simp[ze]at hq;omega))) (fun _=>?_))):p:=h zl z2 ze zt
def N3{q p:Prop}(k:q)(h:Hid q->p:=by
 intro zk;try refine bQ zX fun hP G0 hf X0 hn hR K1=>?_
 refine Q1 ?_;first|refine xD hP hf X0 hR ?_|refine xE hP hf X0 hR ?_
 exact zk.out):p:=h ⟨k⟩
def YE{K6 pc q p:Prop}(ze:K6)(c:pc)(k:q)(h:K6->pc->Hid q->p:=by
 intro ze c zk;try refine bQ zX fun hP G0 hf X0 hn hR K1=>?_
 repeat (refine⟨oO,?_⟩)
 first|refine ev0 hP G0 c (by simp[go_sem,hP,G0,hn,ze]) rfl (by simp[go_sem,hP,G0,hn,ze]) (by simp[ze]) (by rw[hn];exact uF rfl) ?_|refine dI0 (fun _ _=>iN) hP G0 c (by simp[go_sem,hP,G0,hn,ze]) rfl (by simp[go_sem,hP,G0,hn,ze]) (by simp[ze]) (by rw[hn];exact uF rfl) ?_|refine Wi hP G0 c (by simp[go_sem,hP,G0,hn,ze]) (by simp[go_sem,hP,G0,hn,ze]) (by simp[go_sem,hP,G0,hn,ze]) (by simp[ze]) (by rw[hn];exact uF rfl) ?_|refine Qx (fun _ _=>iN) hP G0 c (by simp[go_sem,hP,G0,hn,ze]) (by simp[go_sem,hP,G0,hn,ze]) (by simp[go_sem,hP,G0,hn,ze]) (by simp[ze]) (by rw[hn];exact uF rfl) ?_
 simp[go_sem,hP,G0,hn,ze];exact zk.out):p:=h ze c ⟨k⟩
def j3{pa pb pc:Prop}(a:pa)(b:pb)(c:pc):pa/\pb/\pc:=⟨a,b,c⟩
def j4{pa pb pc pd:Prop}(a:pa)(b:pb)(c:pc)(d:pd):pa/\pb/\pc/\pd:=⟨a,b,c,d⟩
def j5{pa pb pc pd pe:Prop}(a:pa)(b:pb)(c:pc)(d:pd)(e:pe):pa/\pb/\pc/\pd/\pe:=⟨a,b,c,d,e⟩
def j6{pa pb pc pd pe pf:Prop}(a:pa)(b:pb)(c:pc)(d:pd)(e:pe)(f:pf):pa/\pb/\pc/\pd/\pe/\pf:=⟨a,b,c,d,e,f⟩
def j7{pa pb pc pd pe pf pg:Prop}(a:pa)(b:pb)(c:pc)(d:pd)(e:pe)(f:pf)(g:pg):pa/\pb/\pc/\pd/\pe/\pf/\pg:=⟨a,b,c,d,e,f,g⟩
def j8{pa pb pc pd pe pf pg ph:Prop}(a:pa)(b:pb)(c:pc)(d:pd)(e:pe)(f:pf)(g:pg)(h:ph):pa/\pb/\pc/\pd/\pe/\pf/\pg/\ph:=⟨a,b,c,d,e,f,g,h⟩
def YF{K6 pc1 q p:Prop}(ze:K6)(c1:pc1)(k:q)(h:K6->pc1->Hid q->p:=by
 intro ze c1 zk;try refine bQ zX fun hP G0 hf X0 hn hR K1=>?_
 refine Q1 ?_;first|refine O9 [] fun K hK=>?_|refine xB (by rw[hP];exact kO) [] fun K hK=>?_
 simp[go_sem,hP,G0,hn,ze];refine YE ze c1 ?_;repeat (refine⟨oO,?_⟩)
 first|refine hK _ ?_|refine⟨by rfl,hK _ ?_⟩
 clear hK K;exact zk.out):p:=h ze c1 ⟨k⟩
def f9{p:Prop}(h:p:=by simp[Ty.dv,Ty.cells_eq,Ty.kind_mk,Ty.args_mk,Tm.dv,Tm.cells_eq,Tm.kind_mk,Tm.index_mk,Tm.type_mk,Tm.args_mk,Val.dv,Val.cells_eq,Val.kind_mk,Val.num_mk,Val.list_mk,Val.args_mk,Fm.dv,Fm.cells_eq,Fm.kind_mk,Fm.type_mk,Fm.terms_mk,Fm.args_mk,Pf.dv,Pf.cells_eq,Pf.kind_mk,Pf.index_mk,Pf.type_mk,Pf.terms_mk,Pf.forms_mk,Pf.args_mk,P2]):p:=h
def rF{p:Prop}(h:p:=by
 try refine bQ zX fun hP G0 hf X0 hn hR K1=>?_
 refine Q1 ?_;first|refine xD hP hf X0 hR ?_|refine xE hP hf X0 hR ?_
 simp[go_sem,hP,G0,hn] <;> (try omega)):p:=h
def aN{K6 p:Prop}(ze:K6)(h:K6->p:=by
 intro ze;try refine bQ zX fun hP G0 hf X0 hn hR K1=>?_
 refine Q1 ?_;first|refine xD hP hf X0 hR ?_|refine xE hP hf X0 hR ?_
 simp[go_sem,hP,G0,hn,ze] <;> (try omega)):p:=h ze
def JK{p:Prop}(h:p:=by
 try refine bQ zX fun hP G0 hf X0 hn hR K1=>?_
 refine Q1 ?_;first|refine xD hP hf X0 hR ?_|refine xE hP hf X0 hR ?_
 simp[go_sem,hP,G0,hn] <;> (try omega);all_goals exact f9):p:=h
def s7{K6 p:Prop}(Ol:G3)(ze:K6)(h:∀zf:G3,zf=Ol->K6->p:=by
 intro zf zw ze;try refine bQ zX fun hP G0 hf X0 hn hR K1=>?_
 refine Q1 ?_;first|refine gA hP hf X0 _ zf (by subst zw;first|(simp[go_sem,hP,G0,hn,ze];done)|(simp[go_sem,hP,G0,hn,ze];rfl)) (by subst zw;simp[go_sem,hP,G0,hn,ze]) (by subst zw;simp[ze]) ?_ hR.2|refine XQ hP hf X0 _ zf (by subst zw;first|(simp[go_sem,hP,G0,hn,ze];done)|(simp[go_sem,hP,G0,hn,ze];rfl)) (by subst zw;simp[go_sem,hP,G0,hn,ze]) (by subst zw;simp[ze]) ?_ hR.2
 rw[hR.1];subst zw;refine⟨?_,by simp[ze]⟩;try simp[ze]
 try all_goals exact f9):p:=h Ol rfl ze
def AW0{k:List Item}{l:List (Nat × Nat)}(_:gR0 l)(h0:eI l 0=0)(hs:eO (eI l) s s')(hi:CP (eI l) (lB s'))(h:W X k s'):W X k s:=aM l h0 hs hi h
def G2{X:Ctx}{k:List Item}{s s':St}{e:Prop}(l:List (Nat × Nat))(ze:e)(h:W X k s')(h0:eI l 0=0:=by simp[go_sem])(hs:e->eO (eI l) s s':=by
 intro ze;simp[go_sem,ze] <;> omega) (hi:CP (eI l) (lB s'):=by simp[go_sem]):W X k s:=aM l h0 (hs ze) hi h
def H2{gl:X8}{args:List DV}{φ:G3}{R:DV->G3->Prop}{body:Code}(hf:P.funcs[f]? = some fn)
  (h:∀X:Ctx,X.P=P->X.gl=gl->X.f=f->X.fn=fn->X.n=fn.ntmps->X.R=R/\X.md = .fn->X.ids=φ.map (·.1)->(∀x∈args,DV.fit x)->W X [.code body] (entry args φ))
  (hb : fn.body = some body := by rfl) (Dp : (fn.name == "runtime.NumGoroutine") = false := by kernel_rfl) (hn : args.length <= fn.ntmps := by exact uF rfl) : lF P gl f args φ R :=
 dC0 hf hb Dp hn h
def A3{gl:X8}{args:List DV}{φ:G3}{R:DV->G3->Prop}{body:Code}(hf:P.funcs[f]? = some fn)
  (h:∀X:Ctx,(X.P=P/\X.gl=gl/\X.f=f/\X.fn=fn/\X.n=fn.ntmps/\(X.R=R/\X.md = .fn)/\X.ids=φ.map (·.1)/\∀x∈args,DV.fit x)->W X [.code body] (entry args φ))
  (hb : fn.body = some body := by rfl) (Dp : (fn.name == "runtime.NumGoroutine") = false := by kernel_rfl) (hn : args.length <= fn.ntmps := by exact uF rfl) : lF P gl f args φ R :=
 dC0 hf hb Dp hn fun X a b c d e f g i=>h X ⟨a,b,c,d,e,f,g,i⟩
def O1{K6 pc p:Prop}(ze:K6)(cs:pc)(h:K6->pc->p:=by
 intro ze cs;try refine bQ zX fun hP G0 hf X0 hn hR K1=>?_
 refine N1 ze cs ?_;refine U1 ze ?_;refine Q1 ?_;first|refine xD hP hf X0 hR ?_|refine xE hP hf X0 hR ?_
 simp[go_sem,hP,G0,hn,ze] <;> (try omega)):p:=h ze cs
def B2{pf K6 pc p:Prop}(zi:pf)(ze:K6)(cs:pc)(h:pf->K6->pc->p:=by
 intro zi ze cs;refine H2 zi ?_;intro X hP G0 hf X0 hn hR K1 G1;exact O1 ze cs):p:=h zi ze cs
def P4{K6 pc p:Prop}(ze:K6)(cs:pc)(h:K6->pc->p:=by
 intro ze cs;try refine bQ zX fun hP G0 hf X0 hn hR K1=>?_
 refine N1 ze cs ?_;refine U1 ze ?_;refine Q1 ?_;first|refine xD hP hf X0 hR ?_|refine xE hP hf X0 hR ?_
 simp[go_sem,hP,G0,hn,ze] <;> (try omega);all_goals exact f9):p:=h ze cs
def G7{pf K6 pc p:Prop}(zi:pf)(ze:K6)(cs:pc)(h:pf->K6->pc->p:=by
 intro zi ze cs;refine H2 zi ?_;intro X hP G0 hf X0 hn hR K1 G1;exact P4 ze cs):p:=h zi ze cs
def v8{K6 pc p:Prop}(Ol:G3)(ze:K6)(cs:pc)(h:∀zf:G3,zf=Ol->K6->pc->p:=by
 intro zf zw ze cs;try refine bQ zX fun hP G0 hf X0 hn hR K1=>?_
 refine N1 ze cs ?_;refine U1 ze ?_;refine Q1 ?_;first|refine gA hP hf X0 _ zf (by subst zw;first|(simp[go_sem,hP,G0,hn,ze];done)|(simp[go_sem,hP,G0,hn,ze];rfl)) (by subst zw;simp[go_sem,hP,G0,hn,ze]) (by subst zw;simp[ze]) ?_ hR.2|refine XQ hP hf X0 _ zf (by subst zw;first|(simp[go_sem,hP,G0,hn,ze];done)|(simp[go_sem,hP,G0,hn,ze];rfl)) (by subst zw;simp[go_sem,hP,G0,hn,ze]) (by subst zw;simp[ze]) ?_ hR.2
 rw[hR.1];subst zw;refine⟨?_,by simp[ze]⟩;try simp[ze]
 try all_goals exact f9):p:=h Ol rfl ze cs
end
section
def P2(l:List Int):List (List DV):=l.map fun n=>[j0 n]
def GR{α:Type}(f:α->List DV)(g:α->DV)(hg:∀a,g a = .agg (f a))(l:List α):J6 (.sl (l.map f))↔l.length<=M5/\∀a∈l,(g a).fit:=by
 simp only[J6,fV];refine and_congr Lf ?_;rw[dz0];constructor
 ·intro h a ha;obtain⟨i,hi,rfl⟩:=yM.1 ha;rw[hg];show J6.fits _;rw[fits_iff];intro j c hc;exact h i j _ c (by simp[hi]) hc
 ·intro h i j e c he hc;rw[cI]at he;cases hq:l[i]? with
  | none=>simp[hq]at he
  | some a=>
   simp[hq]at he;subst he;have:=h a (uE hq);rw[hg]at this;exact (fits_iff _).1 this j c hc
def So{α:Type}(f:α->List DV)(g:α->DV)(hg:∀a,g a = .agg (f a)){p:α->Prop}(hp:∀a,(g a).fit↔p a)(l:List α):J6 (.sl (l.map f))↔l.length<=M5/\∀a∈l,p a:=by
 rw[GR f g hg];simp only[hp]
def Rw(l:List Int):J6 (.sl (P2 l))↔l.length<=M5/\∀n∈l,y6 .i64 n:=by
 unfold P2;rw[So (fun n=>[j0 n]) (fun n=>.agg [j0 n]) (fun _=>rfl) (p:=fun n=>y6 .i64 n) (fun n=>by simp[J6,J6.fits,aY,y6])]
def Mn{α:Type}(f:α->α->Bool)(g:List α->List α->Bool)(h0:g [] []=true)(h1:∀a r,g (a::r) []=false)(h2:∀a r,g [] (a::r)=false)(h3:∀a r b t,g (a::r) (b::t)=(f a b&&g r t))(az bs:List α) :
  g az bs=true↔az.length=bs.length/\∀(i:Nat) (a b:α),az[i]? = some a->bs[i]? = some b->f a b=true:=by
 induction az generalizing bs with
 | nil=>cases bs <;> simp[h0,h2]
 | cons a r ih=>
  cases bs with
  | nil=>simp[h1]
  | cons b t=>
   simp only[h3,uH,ih,B4,Nat.add_right_cancel_iff];constructor
   ·rintro⟨h1,h2,h3⟩;refine⟨h2,fun i x y hx hy=>?_⟩;cases i with
    | zero=>simp at hx hy;subst hx hy;exact h1
    | succ i=>exact h3 i x y (by simpa using hx) (by simpa using hy)
   ·rintro⟨h1,h2⟩;exact⟨h2 0 a b rfl rfl,h1,fun i x y hx hy=>h2 (i+1) x y (by simpa using hx) (by simpa using hy)⟩
def Br{α:Type}{f:α->α->Bool}{b:Bool}{az bs:List α}(h:b=true↔az.length=bs.length/\∀(i:Nat) (a b:α),az[i]? = some a->bs[i]? = some b->f a b=true)(ih:∀a∈az,∀b,f a b=true↔a=b):b=true↔az=bs:=by
 rw[h];constructor
 ·rintro⟨h2,h3⟩;apply List.ext_getElem h2;intro i hi hj;exact (ih _ (List.getElem_mem hi) _).1 (h3 i _ _ (uB hi) (uB hj))
 ·rintro rfl;exact⟨rfl,fun i x y hx hy=>by rw[hx]at hy;cases hy;exact (ih x (uE hx) x).2 rfl⟩
theorem cj0(l:List Int):(P2 l).length=l.length:=by simp[P2]
def zL{l:List Int}{n:Int}(h:l[i]? = some n):(P2 l)[i]? = some [j0 n]:=by simp[P2,h]
theorem c7:P2 []=[]:=rfl
theorem cl0(l m:List Int):P2 (l++m)=P2 l++P2 m:=by simp[P2]
theorem Wj(n:Int)(m:List Int):P2 (n::m)=[j0 n]::P2 m:=rfl
theorem ra0(l:List Int):(∀e∈P2 l,e.length=1)=True:=by simp[P2]
attribute [go_sem] cj0 ra0 cl0
inductive Ty where
 | mk (o0:Int) (B0:List Ty)
namespace Ty
def o0:Ty->Int | .mk x _=>x
def B0:Ty->List Ty | .mk _ x=>x
def ind{p:Ty->Prop}(h:∀t:Ty,(∀a∈t.B0,p a)->p t)(t:Ty):p t:=
 Ty.rec (motive_1:=p) (motive_2:=fun az=>∀a∈az,p a) (fun v0 v1 ih=>h (.mk v0 v1) ih) (fun a ha=>by cases ha)
  (fun a r ha hr b hb=>by
   rcases u5.1 hb with rfl|hb;· exact ha
   ·exact hr b hb) t
def E0:Ty->List DV
 | .mk v0 v1=>[j0 v0,.sl (all v1)]
where
 all:List Ty->List (List DV)
  | []=>[]
  | a::r=>E0 a::all r
def all_map(az:List Ty):E0.all az=az.map E0:=by
 induction az with
 | nil=>rfl
 | cons a r ih=>simp[E0.all,ih]
theorem cells_eq(t:Ty):t.E0=[j0 t.o0,.sl (Y3 E0 t.B0)]:=by
 cases t with
 | mk v0 v1=>simp[E0,o0,B0,all_map]
def dv(t:Ty):DV:=.agg t.E0
theorem fold(t:Ty):eM [j0 t.o0,.sl (Y3 Ty.E0 t.B0)]=t.dv:=by rw[Ty.dv,Ty.cells_eq]
def cells_mk(o0:Int)(B0:List Ty):(mk o0 B0).E0=[j0 o0,.sl (Y3 Ty.E0 B0)]:=by rw[cells_eq];rfl
def fold_mk(o0:Int)(B0:List Ty):eM [j0 o0,.sl (Y3 Ty.E0 B0)]=(mk o0 B0).dv:=by rw[dv,cells_mk]
theorem cellsD_dv(t:Ty):aL t.dv=[j0 t.o0,.sl (Y3 Ty.E0 t.B0)]:=by rw[Ty.dv,aL,Ty.cells_eq]
def length_cells(t:Ty):t.E0.length=2:=by rw[cells_eq];rfl
theorem isCell_dv(t:Ty):t.dv.isCell=false:=rfl
theorem isAgg_dv(t:Ty):t.dv.isAgg=true:=rfl
def eta(t:Ty):Ty.mk t.o0 t.B0=t:=by cases t;rfl
theorem kind_mk(o0:Int)(B0:List Ty):(mk o0 B0).o0=o0:=rfl
theorem args_mk(o0:Int)(B0:List Ty):(mk o0 B0).B0=B0:=rfl
def fit:Ty->Prop
 | .mk v0 v1=>y6 .i64 v0/\v1.length<=M5/\fits v1
where
 fits:List Ty->Prop
  | []=>True
  | a::r=>fit a/\fits r
def fits_iff(az:List Ty):fit.fits az↔∀a∈az,a.fit:=by
 induction az with
 | nil=>simp[fit.fits]
 | cons a r ih=>simp[fit.fits,ih]
def fit_eq(t:Ty):t.fit↔y6 .i64 t.o0/\t.B0.length<=M5/\∀a∈t.B0,a.fit:=by
 cases t with
 | mk v0 v1=>simp only[fit,fits_iff,o0,B0]
def dv_fit(t:Ty):t.dv.fit↔t.fit:=by
 induction t using Ty.ind with
 | h t ih=>
  rw[fit_eq,<- fold];have hs:J6 (.sl (t.B0.map E0))↔t.B0.length<=M5/\∀a∈t.B0,a.fit:=by
   rw[GR E0 dv (fun _=>rfl)];exact and_congr Lf ⟨fun h a ha=>(ih a ha).1 (h a ha),fun h a ha=>(ih a ha).2 (h a ha)⟩
  rw[<- hs];simp only[J6,J6.fits,aY,y6,and_true,and_assoc]
def same:Ty->Ty->Bool
 | .mk v0 v1,.mk w0 w1=>v0==w0&&sames v1 w1
where
 sames:List Ty->List Ty->Bool
  | [],[]=>true
  | a::r,b::t=>same a b&&sames r t
  | _,_=>false
def sames_iff(az bs:List Ty):same.sames az bs=true↔az.length=bs.length/\∀(i:Nat) (a b:Ty),az[i]? = some a->bs[i]? = some b->a.same b=true:=
 Mn same same.sames rfl (fun _ _=>rfl) (fun _ _=>rfl) (fun _ _ _ _=>rfl) az bs
def same_eq(a b:Ty):a.same b=(a.o0==b.o0&&same.sames a.B0 b.B0):=by
 cases a;cases b;rfl
def same_iff(a b:Ty):a.same b=true↔a=b:=by
 induction a using Ty.ind generalizing b with
 | h a ih=>
  have hs:same.sames a.B0 b.B0=true↔a.B0=b.B0:=Br (sames_iff _ _) ih;rw[same_eq];simp only[uH,beq_iff_eq,hs];constructor
  ·intro h;cases a;cases b;simp only[o0,B0]at h;simp_all
  ·rintro rfl;simp
def sames_eq(az bs:List Ty):same.sames az bs=true↔az=bs:=Br (sames_iff _ _) fun a _=>same_iff a
end Ty
attribute [go_sem] Ty.cells_eq Ty.fold Ty.cellsD_dv Ty.isCell_dv Ty.isAgg_dv Ty.kind_mk Ty.args_mk
inductive Tm where
 | mk (o0:Int) (O0:Int) (I0:Ty) (B0:List Tm)
namespace Tm
def o0:Tm->Int | .mk x _ _ _=>x
def O0:Tm->Int | .mk _ x _ _=>x
def I0:Tm->Ty | .mk _ _ x _=>x
def B0:Tm->List Tm | .mk _ _ _ x=>x
def ind{p:Tm->Prop}(h:∀t:Tm,(∀a∈t.B0,p a)->p t)(t:Tm):p t:=
 Tm.rec (motive_1:=p) (motive_2:=fun az=>∀a∈az,p a) (fun v0 v1 v2 v3 ih=>h (.mk v0 v1 v2 v3) ih) (fun a ha=>by cases ha)
  (fun a r ha hr b hb=>by
   rcases u5.1 hb with rfl|hb;· exact ha
   ·exact hr b hb) t
def E0:Tm->List DV
 | .mk v0 v1 v2 v3=>[j0 v0,j0 v1,j0 v2.o0,.sl (Y3 Ty.E0 v2.B0),.sl (all v3)]
where
 all:List Tm->List (List DV)
  | []=>[]
  | a::r=>E0 a::all r
def all_map(az:List Tm):E0.all az=az.map E0:=by
 induction az with
 | nil=>rfl
 | cons a r ih=>simp[E0.all,ih]
theorem cells_eq(t:Tm):t.E0=[j0 t.o0,j0 t.O0,j0 t.I0.o0,.sl (Y3 Ty.E0 t.I0.B0),.sl (Y3 E0 t.B0)]:=by
 cases t with
 | mk v0 v1 v2 v3=>simp[E0,o0,O0,I0,B0,all_map]
def dv(t:Tm):DV:=.agg t.E0
theorem fold(t:Tm):eM [j0 t.o0,j0 t.O0,j0 t.I0.o0,.sl (Y3 Ty.E0 t.I0.B0),.sl (Y3 Tm.E0 t.B0)]=t.dv:=by rw[Tm.dv,Tm.cells_eq]
def cells_mk(o0:Int)(O0:Int)(I0:Ty)(B0:List Tm):(mk o0 O0 I0 B0).E0=[j0 o0,j0 O0,j0 I0.o0,.sl (Y3 Ty.E0 I0.B0),.sl (Y3 Tm.E0 B0)]:=by rw[cells_eq];rfl
def fold_mk(o0:Int)(O0:Int)(I0:Ty)(B0:List Tm):eM [j0 o0,j0 O0,j0 I0.o0,.sl (Y3 Ty.E0 I0.B0),.sl (Y3 Tm.E0 B0)]=(mk o0 O0 I0 B0).dv:=by rw[dv,cells_mk]
theorem cellsD_dv(t:Tm):aL t.dv=[j0 t.o0,j0 t.O0,j0 t.I0.o0,.sl (Y3 Ty.E0 t.I0.B0),.sl (Y3 Tm.E0 t.B0)]:=by rw[Tm.dv,aL,Tm.cells_eq]
def length_cells(t:Tm):t.E0.length=5:=by rw[cells_eq];rfl
theorem isCell_dv(t:Tm):t.dv.isCell=false:=rfl
theorem isAgg_dv(t:Tm):t.dv.isAgg=true:=rfl
def eta(t:Tm):Tm.mk t.o0 t.O0 t.I0 t.B0=t:=by cases t;rfl
theorem kind_mk(o0:Int)(O0:Int)(I0:Ty)(B0:List Tm):(mk o0 O0 I0 B0).o0=o0:=rfl
theorem index_mk(o0:Int)(O0:Int)(I0:Ty)(B0:List Tm):(mk o0 O0 I0 B0).O0=O0:=rfl
theorem type_mk(o0:Int)(O0:Int)(I0:Ty)(B0:List Tm):(mk o0 O0 I0 B0).I0=I0:=rfl
theorem args_mk(o0:Int)(O0:Int)(I0:Ty)(B0:List Tm):(mk o0 O0 I0 B0).B0=B0:=rfl
def fit:Tm->Prop
 | .mk v0 v1 v2 v3=>y6 .i64 v0/\y6 .i64 v1/\v2.fit/\v3.length<=M5/\fits v3
where
 fits:List Tm->Prop
  | []=>True
  | a::r=>fit a/\fits r
def fits_iff(az:List Tm):fit.fits az↔∀a∈az,a.fit:=by
 induction az with
 | nil=>simp[fit.fits]
 | cons a r ih=>simp[fit.fits,ih]
def fit_eq(t:Tm):t.fit↔y6 .i64 t.o0/\y6 .i64 t.O0/\t.I0.fit/\t.B0.length<=M5/\∀a∈t.B0,a.fit:=by
 cases t with
 | mk v0 v1 v2 v3=>simp only[fit,fits_iff,o0,O0,I0,B0]
def dv_fit(t:Tm):t.dv.fit↔t.fit:=by
 induction t using Tm.ind with
 | h t ih=>
  rw[fit_eq,<- fold];have hs:J6 (.sl (t.B0.map E0))↔t.B0.length<=M5/\∀a∈t.B0,a.fit:=by
   rw[GR E0 dv (fun _=>rfl)];exact and_congr Lf ⟨fun h a ha=>(ih a ha).1 (h a ha),fun h a ha=>(ih a ha).2 (h a ha)⟩
  have Pc:J6 (j0 t.I0.o0)/\J6 (.sl (Y3 Ty.E0 t.I0.B0))↔t.I0.fit:=by
   rw[<- Ty.dv_fit,<- Ty.fold];simp only[J6,J6.fits,and_true,and_assoc]
  rw[<- hs,<- Pc];simp only[J6,J6.fits,aY,y6,and_true,and_assoc]
def same:Tm->Tm->Bool
 | .mk v0 v1 v2 v3,.mk w0 w1 w2 w3=>v0==w0&&v1==w1&&v2.same w2&&sames v3 w3
where
 sames:List Tm->List Tm->Bool
  | [],[]=>true
  | a::r,b::t=>same a b&&sames r t
  | _,_=>false
def sames_iff(az bs:List Tm):same.sames az bs=true↔az.length=bs.length/\∀(i:Nat) (a b:Tm),az[i]? = some a->bs[i]? = some b->a.same b=true:=
 Mn same same.sames rfl (fun _ _=>rfl) (fun _ _=>rfl) (fun _ _ _ _=>rfl) az bs
def same_eq(a b:Tm):a.same b=(a.o0==b.o0&&a.O0==b.O0&&a.I0.same b.I0&&same.sames a.B0 b.B0):=by
 cases a;cases b;rfl
def same_iff(a b:Tm):a.same b=true↔a=b:=by
 induction a using Tm.ind generalizing b with
 | h a ih=>
  have hs:same.sames a.B0 b.B0=true↔a.B0=b.B0:=Br (sames_iff _ _) ih;rw[same_eq];simp only[uH,beq_iff_eq,hs,Ty.same_iff];constructor
  ·intro h;cases a;cases b;simp only[o0,O0,I0,B0]at h;simp_all
  ·rintro rfl;simp
def sames_eq(az bs:List Tm):same.sames az bs=true↔az=bs:=Br (sames_iff _ _) fun a _=>same_iff a
end Tm
attribute [go_sem] Tm.cells_eq Tm.fold Tm.cellsD_dv Tm.isCell_dv Tm.isAgg_dv Tm.kind_mk Tm.index_mk Tm.type_mk Tm.args_mk
inductive Val where
 | mk (o0:Int) (Z3:Int) (list:List Int) (B0:List Val)
namespace Val
def o0:Val->Int | .mk x _ _ _=>x
def Z3:Val->Int | .mk _ x _ _=>x
def list:Val->List Int | .mk _ _ x _=>x
def B0:Val->List Val | .mk _ _ _ x=>x
def ind{p:Val->Prop}(h:∀t:Val,(∀a∈t.B0,p a)->p t)(t:Val):p t:=
 Val.rec (motive_1:=p) (motive_2:=fun az=>∀a∈az,p a) (fun v0 v1 v2 v3 ih=>h (.mk v0 v1 v2 v3) ih) (fun a ha=>by cases ha)
  (fun a r ha hr b hb=>by
   rcases u5.1 hb with rfl|hb;· exact ha
   ·exact hr b hb) t
def E0:Val->List DV
 | .mk v0 v1 v2 v3=>[j0 v0,j0 v1,.sl (P2 v2),.sl (all v3)]
where
 all:List Val->List (List DV)
  | []=>[]
  | a::r=>E0 a::all r
def all_map(az:List Val):E0.all az=az.map E0:=by
 induction az with
 | nil=>rfl
 | cons a r ih=>simp[E0.all,ih]
theorem cells_eq(t:Val):t.E0=[j0 t.o0,j0 t.Z3,.sl (P2 t.list),.sl (Y3 E0 t.B0)]:=by
 cases t with
 | mk v0 v1 v2 v3=>simp[E0,o0,Z3,list,B0,all_map]
def dv(t:Val):DV:=.agg t.E0
theorem fold(t:Val):eM [j0 t.o0,j0 t.Z3,.sl (P2 t.list),.sl (Y3 Val.E0 t.B0)]=t.dv:=by rw[Val.dv,Val.cells_eq]
def cells_mk(o0:Int)(Z3:Int)(list:List Int)(B0:List Val):(mk o0 Z3 list B0).E0=[j0 o0,j0 Z3,.sl (P2 list),.sl (Y3 Val.E0 B0)]:=by rw[cells_eq];rfl
def fold_mk(o0:Int)(Z3:Int)(list:List Int)(B0:List Val):eM [j0 o0,j0 Z3,.sl (P2 list),.sl (Y3 Val.E0 B0)]=(mk o0 Z3 list B0).dv:=by rw[dv,cells_mk]
theorem cellsD_dv(t:Val):aL t.dv=[j0 t.o0,j0 t.Z3,.sl (P2 t.list),.sl (Y3 Val.E0 t.B0)]:=by rw[Val.dv,aL,Val.cells_eq]
def length_cells(t:Val):t.E0.length=4:=by rw[cells_eq];rfl
theorem isCell_dv(t:Val):t.dv.isCell=false:=rfl
theorem isAgg_dv(t:Val):t.dv.isAgg=true:=rfl
def eta(t:Val):Val.mk t.o0 t.Z3 t.list t.B0=t:=by cases t;rfl
theorem kind_mk(o0:Int)(Z3:Int)(list:List Int)(B0:List Val):(mk o0 Z3 list B0).o0=o0:=rfl
theorem num_mk(o0:Int)(Z3:Int)(list:List Int)(B0:List Val):(mk o0 Z3 list B0).Z3=Z3:=rfl
theorem list_mk(o0:Int)(Z3:Int)(list:List Int)(B0:List Val):(mk o0 Z3 list B0).list=list:=rfl
theorem args_mk(o0:Int)(Z3:Int)(list:List Int)(B0:List Val):(mk o0 Z3 list B0).B0=B0:=rfl
def fit:Val->Prop
 | .mk v0 v1 v2 v3=>y6 .i64 v0/\y6 .i64 v1/\(v2.length<=M5/\∀n∈v2,y6 .i64 n)/\v3.length<=M5/\fits v3
where
 fits:List Val->Prop
  | []=>True
  | a::r=>fit a/\fits r
def fits_iff(az:List Val):fit.fits az↔∀a∈az,a.fit:=by
 induction az with
 | nil=>simp[fit.fits]
 | cons a r ih=>simp[fit.fits,ih]
def fit_eq(t:Val):t.fit↔y6 .i64 t.o0/\y6 .i64 t.Z3/\(t.list.length<=M5/\∀n∈t.list,y6 .i64 n)/\t.B0.length<=M5/\∀a∈t.B0,a.fit:=by
 cases t with
 | mk v0 v1 v2 v3=>simp only[fit,fits_iff,o0,Z3,list,B0]
def dv_fit(t:Val):t.dv.fit↔t.fit:=by
 induction t using Val.ind with
 | h t ih=>
  rw[fit_eq,<- fold];have hs:J6 (.sl (t.B0.map E0))↔t.B0.length<=M5/\∀a∈t.B0,a.fit:=by
   rw[GR E0 dv (fun _=>rfl)];exact and_congr Lf ⟨fun h a ha=>(ih a ha).1 (h a ha),fun h a ha=>(ih a ha).2 (h a ha)⟩
  rw[<- hs];rw[<- Rw t.list];simp only[J6,J6.fits,aY,y6,and_true,and_assoc]
def same:Val->Val->Bool
 | .mk v0 v1 v2 v3,.mk w0 w1 w2 w3=>v0==w0&&v1==w1&&v2==w2&&sames v3 w3
where
 sames:List Val->List Val->Bool
  | [],[]=>true
  | a::r,b::t=>same a b&&sames r t
  | _,_=>false
def sames_iff(az bs:List Val):same.sames az bs=true↔az.length=bs.length/\∀(i:Nat) (a b:Val),az[i]? = some a->bs[i]? = some b->a.same b=true:=
 Mn same same.sames rfl (fun _ _=>rfl) (fun _ _=>rfl) (fun _ _ _ _=>rfl) az bs
def same_eq(a b:Val):a.same b=(a.o0==b.o0&&a.Z3==b.Z3&&a.list==b.list&&same.sames a.B0 b.B0):=by
 cases a;cases b;rfl
def same_iff(a b:Val):a.same b=true↔a=b:=by
 induction a using Val.ind generalizing b with
 | h a ih=>
  have hs:same.sames a.B0 b.B0=true↔a.B0=b.B0:=Br (sames_iff _ _) ih;rw[same_eq];simp only[uH,beq_iff_eq,hs];constructor
  ·intro h;cases a;cases b;simp only[o0,Z3,list,B0]at h;simp_all
  ·rintro rfl;simp
def sames_eq(az bs:List Val):same.sames az bs=true↔az=bs:=Br (sames_iff _ _) fun a _=>same_iff a
end Val
attribute [go_sem] Val.cells_eq Val.fold Val.cellsD_dv Val.isCell_dv Val.isAgg_dv Val.kind_mk Val.num_mk Val.list_mk Val.args_mk
inductive Fm where
 | mk (o0:Int) (I0:Ty) (M1:List Tm) (B0:List Fm)
namespace Fm
def o0:Fm->Int | .mk x _ _ _=>x
def I0:Fm->Ty | .mk _ x _ _=>x
def M1:Fm->List Tm | .mk _ _ x _=>x
def B0:Fm->List Fm | .mk _ _ _ x=>x
def ind{p:Fm->Prop}(h:∀t:Fm,(∀a∈t.B0,p a)->p t)(t:Fm):p t:=
 Fm.rec (motive_1:=p) (motive_2:=fun az=>∀a∈az,p a) (fun v0 v1 v2 v3 ih=>h (.mk v0 v1 v2 v3) ih) (fun a ha=>by cases ha)
  (fun a r ha hr b hb=>by
   rcases u5.1 hb with rfl|hb;· exact ha
   ·exact hr b hb) t
def E0:Fm->List DV
 | .mk v0 v1 v2 v3=>[j0 v0,j0 v1.o0,.sl (Y3 Ty.E0 v1.B0),.sl (v2.map Tm.E0),.sl (all v3)]
where
 all:List Fm->List (List DV)
  | []=>[]
  | a::r=>E0 a::all r
def all_map(az:List Fm):E0.all az=az.map E0:=by
 induction az with
 | nil=>rfl
 | cons a r ih=>simp[E0.all,ih]
theorem cells_eq(t:Fm):t.E0=[j0 t.o0,j0 t.I0.o0,.sl (Y3 Ty.E0 t.I0.B0),.sl (t.M1.map Tm.E0),.sl (Y3 E0 t.B0)]:=by
 cases t with
 | mk v0 v1 v2 v3=>simp[E0,o0,I0,M1,B0,all_map]
def dv(t:Fm):DV:=.agg t.E0
theorem fold(t:Fm):eM [j0 t.o0,j0 t.I0.o0,.sl (Y3 Ty.E0 t.I0.B0),.sl (t.M1.map Tm.E0),.sl (Y3 Fm.E0 t.B0)]=t.dv:=by rw[Fm.dv,Fm.cells_eq]
def cells_mk(o0:Int)(I0:Ty)(M1:List Tm)(B0:List Fm):(mk o0 I0 M1 B0).E0=[j0 o0,j0 I0.o0,.sl (Y3 Ty.E0 I0.B0),.sl (M1.map Tm.E0),.sl (Y3 Fm.E0 B0)]:=by rw[cells_eq];rfl
def fold_mk(o0:Int)(I0:Ty)(M1:List Tm)(B0:List Fm):eM [j0 o0,j0 I0.o0,.sl (Y3 Ty.E0 I0.B0),.sl (M1.map Tm.E0),.sl (Y3 Fm.E0 B0)]=(mk o0 I0 M1 B0).dv:=by rw[dv,cells_mk]
theorem cellsD_dv(t:Fm):aL t.dv=[j0 t.o0,j0 t.I0.o0,.sl (Y3 Ty.E0 t.I0.B0),.sl (t.M1.map Tm.E0),.sl (Y3 Fm.E0 t.B0)]:=by rw[Fm.dv,aL,Fm.cells_eq]
def length_cells(t:Fm):t.E0.length=5:=by rw[cells_eq];rfl
theorem isCell_dv(t:Fm):t.dv.isCell=false:=rfl
theorem isAgg_dv(t:Fm):t.dv.isAgg=true:=rfl
def eta(t:Fm):Fm.mk t.o0 t.I0 t.M1 t.B0=t:=by cases t;rfl
theorem kind_mk(o0:Int)(I0:Ty)(M1:List Tm)(B0:List Fm):(mk o0 I0 M1 B0).o0=o0:=rfl
theorem type_mk(o0:Int)(I0:Ty)(M1:List Tm)(B0:List Fm):(mk o0 I0 M1 B0).I0=I0:=rfl
theorem terms_mk(o0:Int)(I0:Ty)(M1:List Tm)(B0:List Fm):(mk o0 I0 M1 B0).M1=M1:=rfl
theorem args_mk(o0:Int)(I0:Ty)(M1:List Tm)(B0:List Fm):(mk o0 I0 M1 B0).B0=B0:=rfl
def fit:Fm->Prop
 | .mk v0 v1 v2 v3=>y6 .i64 v0/\v1.fit/\(v2.length<=M5/\∀a∈v2,a.fit)/\v3.length<=M5/\fits v3
where
 fits:List Fm->Prop
  | []=>True
  | a::r=>fit a/\fits r
def fits_iff(az:List Fm):fit.fits az↔∀a∈az,a.fit:=by
 induction az with
 | nil=>simp[fit.fits]
 | cons a r ih=>simp[fit.fits,ih]
def fit_eq(t:Fm):t.fit↔y6 .i64 t.o0/\t.I0.fit/\(t.M1.length<=M5/\∀a∈t.M1,a.fit)/\t.B0.length<=M5/\∀a∈t.B0,a.fit:=by
 cases t with
 | mk v0 v1 v2 v3=>simp only[fit,fits_iff,o0,I0,M1,B0]
def dv_fit(t:Fm):t.dv.fit↔t.fit:=by
 induction t using Fm.ind with
 | h t ih=>
  rw[fit_eq,<- fold];have hs:J6 (.sl (t.B0.map E0))↔t.B0.length<=M5/\∀a∈t.B0,a.fit:=by
   rw[GR E0 dv (fun _=>rfl)];exact and_congr Lf ⟨fun h a ha=>(ih a ha).1 (h a ha),fun h a ha=>(ih a ha).2 (h a ha)⟩
  have Pc:J6 (j0 t.I0.o0)/\J6 (.sl (Y3 Ty.E0 t.I0.B0))↔t.I0.fit:=by
   rw[<- Ty.dv_fit,<- Ty.fold];simp only[J6,J6.fits,and_true,and_assoc]
  rw[<- hs,<- Pc];rw[<- So Tm.E0 Tm.dv (fun _=>rfl) Tm.dv_fit t.M1];simp only[J6,J6.fits,aY,y6,and_true,and_assoc]
def same:Fm->Fm->Bool
 | .mk v0 v1 v2 v3,.mk w0 w1 w2 w3=>v0==w0&&v1.same w1&&Tm.same.sames v2 w2&&sames v3 w3
where
 sames:List Fm->List Fm->Bool
  | [],[]=>true
  | a::r,b::t=>same a b&&sames r t
  | _,_=>false
def sames_iff(az bs:List Fm):same.sames az bs=true↔az.length=bs.length/\∀(i:Nat) (a b:Fm),az[i]? = some a->bs[i]? = some b->a.same b=true:=
 Mn same same.sames rfl (fun _ _=>rfl) (fun _ _=>rfl) (fun _ _ _ _=>rfl) az bs
def same_eq(a b:Fm):a.same b=(a.o0==b.o0&&a.I0.same b.I0&&Tm.same.sames a.M1 b.M1&&same.sames a.B0 b.B0):=by
 cases a;cases b;rfl
def same_iff(a b:Fm):a.same b=true↔a=b:=by
 induction a using Fm.ind generalizing b with
 | h a ih=>
  have hs:same.sames a.B0 b.B0=true↔a.B0=b.B0:=Br (sames_iff _ _) ih;rw[same_eq];simp only[uH,beq_iff_eq,hs,Ty.same_iff,Tm.sames_eq];constructor
  ·intro h;cases a;cases b;simp only[o0,I0,M1,B0]at h;simp_all
  ·rintro rfl;simp
def sames_eq(az bs:List Fm):same.sames az bs=true↔az=bs:=Br (sames_iff _ _) fun a _=>same_iff a
end Fm
attribute [go_sem] Fm.cells_eq Fm.fold Fm.cellsD_dv Fm.isCell_dv Fm.isAgg_dv Fm.kind_mk Fm.type_mk Fm.terms_mk Fm.args_mk
inductive Pf where
 | mk (o0:Int) (O0:Int) (I0:Ty) (M1:List Tm) (V4:List Fm) (B0:List Pf)
namespace Pf
def o0:Pf->Int | .mk x _ _ _ _ _=>x
def O0:Pf->Int | .mk _ x _ _ _ _=>x
def I0:Pf->Ty | .mk _ _ x _ _ _=>x
def M1:Pf->List Tm | .mk _ _ _ x _ _=>x
def V4:Pf->List Fm | .mk _ _ _ _ x _=>x
def B0:Pf->List Pf | .mk _ _ _ _ _ x=>x
def ind{p:Pf->Prop}(h:∀t:Pf,(∀a∈t.B0,p a)->p t)(t:Pf):p t:=
 Pf.rec (motive_1:=p) (motive_2:=fun az=>∀a∈az,p a) (fun v0 v1 v2 v3 v4 v5 ih=>h (.mk v0 v1 v2 v3 v4 v5) ih) (fun a ha=>by cases ha)
  (fun a r ha hr b hb=>by
   rcases u5.1 hb with rfl|hb;· exact ha
   ·exact hr b hb) t
def E0:Pf->List DV
 | .mk v0 v1 v2 v3 v4 v5=>[j0 v0,j0 v1,j0 v2.o0,.sl (Y3 Ty.E0 v2.B0),.sl (v3.map Tm.E0),.sl (v4.map Fm.E0),.sl (all v5)]
where
 all:List Pf->List (List DV)
  | []=>[]
  | a::r=>E0 a::all r
def all_map(az:List Pf):E0.all az=az.map E0:=by
 induction az with
 | nil=>rfl
 | cons a r ih=>simp[E0.all,ih]
theorem cells_eq(t:Pf):t.E0=[j0 t.o0,j0 t.O0,j0 t.I0.o0,.sl (Y3 Ty.E0 t.I0.B0),.sl (t.M1.map Tm.E0),.sl (t.V4.map Fm.E0),.sl (Y3 E0 t.B0)]:=by
 cases t with
 | mk v0 v1 v2 v3 v4 v5=>simp[E0,o0,O0,I0,M1,V4,B0,all_map]
def dv(t:Pf):DV:=.agg t.E0
theorem fold(t:Pf):eM [j0 t.o0,j0 t.O0,j0 t.I0.o0,.sl (Y3 Ty.E0 t.I0.B0),.sl (t.M1.map Tm.E0),.sl (t.V4.map Fm.E0),.sl (Y3 Pf.E0 t.B0)]=t.dv:=by rw[Pf.dv,Pf.cells_eq]
def cells_mk(o0:Int)(O0:Int)(I0:Ty)(M1:List Tm)(V4:List Fm)(B0:List Pf):(mk o0 O0 I0 M1 V4 B0).E0=[j0 o0,j0 O0,j0 I0.o0,.sl (Y3 Ty.E0 I0.B0),.sl (M1.map Tm.E0),.sl (V4.map Fm.E0),.sl (Y3 Pf.E0 B0)]:=by rw[cells_eq];rfl
def fold_mk(o0:Int)(O0:Int)(I0:Ty)(M1:List Tm)(V4:List Fm)(B0:List Pf):eM [j0 o0,j0 O0,j0 I0.o0,.sl (Y3 Ty.E0 I0.B0),.sl (M1.map Tm.E0),.sl (V4.map Fm.E0),.sl (Y3 Pf.E0 B0)]=(mk o0 O0 I0 M1 V4 B0).dv:=by rw[dv,cells_mk]
theorem cellsD_dv(t:Pf):aL t.dv=[j0 t.o0,j0 t.O0,j0 t.I0.o0,.sl (Y3 Ty.E0 t.I0.B0),.sl (t.M1.map Tm.E0),.sl (t.V4.map Fm.E0),.sl (Y3 Pf.E0 t.B0)]:=by rw[Pf.dv,aL,Pf.cells_eq]
def length_cells(t:Pf):t.E0.length=7:=by rw[cells_eq];rfl
theorem isCell_dv(t:Pf):t.dv.isCell=false:=rfl
theorem isAgg_dv(t:Pf):t.dv.isAgg=true:=rfl
def eta(t:Pf):Pf.mk t.o0 t.O0 t.I0 t.M1 t.V4 t.B0=t:=by cases t;rfl
theorem kind_mk(o0:Int)(O0:Int)(I0:Ty)(M1:List Tm)(V4:List Fm)(B0:List Pf):(mk o0 O0 I0 M1 V4 B0).o0=o0:=rfl
theorem index_mk(o0:Int)(O0:Int)(I0:Ty)(M1:List Tm)(V4:List Fm)(B0:List Pf):(mk o0 O0 I0 M1 V4 B0).O0=O0:=rfl
theorem type_mk(o0:Int)(O0:Int)(I0:Ty)(M1:List Tm)(V4:List Fm)(B0:List Pf):(mk o0 O0 I0 M1 V4 B0).I0=I0:=rfl
theorem terms_mk(o0:Int)(O0:Int)(I0:Ty)(M1:List Tm)(V4:List Fm)(B0:List Pf):(mk o0 O0 I0 M1 V4 B0).M1=M1:=rfl
theorem forms_mk(o0:Int)(O0:Int)(I0:Ty)(M1:List Tm)(V4:List Fm)(B0:List Pf):(mk o0 O0 I0 M1 V4 B0).V4=V4:=rfl
theorem args_mk(o0:Int)(O0:Int)(I0:Ty)(M1:List Tm)(V4:List Fm)(B0:List Pf):(mk o0 O0 I0 M1 V4 B0).B0=B0:=rfl
def fit:Pf->Prop
 | .mk v0 v1 v2 v3 v4 v5=>y6 .i64 v0/\y6 .i64 v1/\v2.fit/\(v3.length<=M5/\∀a∈v3,a.fit)/\(v4.length<=M5/\∀a∈v4,a.fit)/\v5.length<=M5/\fits v5
where
 fits:List Pf->Prop
  | []=>True
  | a::r=>fit a/\fits r
def fits_iff(az:List Pf):fit.fits az↔∀a∈az,a.fit:=by
 induction az with
 | nil=>simp[fit.fits]
 | cons a r ih=>simp[fit.fits,ih]
def fit_eq(t:Pf):t.fit↔y6 .i64 t.o0/\y6 .i64 t.O0/\t.I0.fit/\(t.M1.length<=M5/\∀a∈t.M1,a.fit)/\(t.V4.length<=M5/\∀a∈t.V4,a.fit)/\t.B0.length<=M5/\∀a∈t.B0,a.fit:=by
 cases t with
 | mk v0 v1 v2 v3 v4 v5=>simp only[fit,fits_iff,o0,O0,I0,M1,V4,B0]
def dv_fit(t:Pf):t.dv.fit↔t.fit:=by
 induction t using Pf.ind with
 | h t ih=>
  rw[fit_eq,<- fold];have hs:J6 (.sl (t.B0.map E0))↔t.B0.length<=M5/\∀a∈t.B0,a.fit:=by
   rw[GR E0 dv (fun _=>rfl)];exact and_congr Lf ⟨fun h a ha=>(ih a ha).1 (h a ha),fun h a ha=>(ih a ha).2 (h a ha)⟩
  have Pc:J6 (j0 t.I0.o0)/\J6 (.sl (Y3 Ty.E0 t.I0.B0))↔t.I0.fit:=by
   rw[<- Ty.dv_fit,<- Ty.fold];simp only[J6,J6.fits,and_true,and_assoc]
  rw[<- hs,<- Pc];rw[<- So Tm.E0 Tm.dv (fun _=>rfl) Tm.dv_fit t.M1];rw[<- So Fm.E0 Fm.dv (fun _=>rfl) Fm.dv_fit t.V4];simp only[J6,J6.fits,aY,y6,and_true,and_assoc]
def same:Pf->Pf->Bool
 | .mk v0 v1 v2 v3 v4 v5,.mk w0 w1 w2 w3 w4 w5=>v0==w0&&v1==w1&&v2.same w2&&Tm.same.sames v3 w3&&Fm.same.sames v4 w4&&sames v5 w5
where
 sames:List Pf->List Pf->Bool
  | [],[]=>true
  | a::r,b::t=>same a b&&sames r t
  | _,_=>false
def sames_iff(az bs:List Pf):same.sames az bs=true↔az.length=bs.length/\∀(i:Nat) (a b:Pf),az[i]? = some a->bs[i]? = some b->a.same b=true:=
 Mn same same.sames rfl (fun _ _=>rfl) (fun _ _=>rfl) (fun _ _ _ _=>rfl) az bs
def same_eq(a b:Pf):a.same b=(a.o0==b.o0&&a.O0==b.O0&&a.I0.same b.I0&&Tm.same.sames a.M1 b.M1&&Fm.same.sames a.V4 b.V4&&same.sames a.B0 b.B0):=by
 cases a;cases b;rfl
def same_iff(a b:Pf):a.same b=true↔a=b:=by
 induction a using Pf.ind generalizing b with
 | h a ih=>
  have hs:same.sames a.B0 b.B0=true↔a.B0=b.B0:=Br (sames_iff _ _) ih;rw[same_eq];simp only[uH,beq_iff_eq,hs,Ty.same_iff,Tm.sames_eq,Fm.sames_eq];constructor
  ·intro h;cases a;cases b;simp only[o0,O0,I0,M1,V4,B0]at h;simp_all
  ·rintro rfl;simp
def sames_eq(az bs:List Pf):same.sames az bs=true↔az=bs:=Br (sames_iff _ _) fun a _=>same_iff a
end Pf
attribute [go_sem] Pf.cells_eq Pf.fold Pf.cellsD_dv Pf.isCell_dv Pf.isAgg_dv Pf.kind_mk Pf.index_mk Pf.type_mk Pf.terms_mk Pf.forms_mk Pf.args_mk
def A7:List (List DV):=P2 [0,0,1,2,0,1,3,0,2,3,2,1,1,0]
def jY(ix ty:Bool)(a b c d e f:Int):List DV:=[O2 ix,O2 ty,j0 a,j0 b,j0 c,j0 d,j0 e,j0 f]
def CZ:List (List DV):=[jY false false 0 0 0 0 0 0,jY true false 0 0 0 0 0 0,jY true false 0 0 0 0 0 0,jY false false 0 0 2 0 0 0,jY false false 0 0 1 0 0 0,jY false false 0 0 1 0 0 0,jY false false 0 1 1 0 0 1,jY false false 0 0 2 0 0 0,jY false true 0 0 1 0 1 0,jY false false 1 0 1 0 0 0,jY false false 1 1 1 0 0 0,jY false false 0 0 2 0 1 1,jY false true 0 0 1 0 1 0,jY false false 1 0 1 0 0 0,jY false false 1 1 1 0 0 0,jY false false 0 0 2 0 1 1,jY false false 1 1 2 1 1 1,jY false false 1 1 2 1 2 1,jY false false 1 0 0 0 0 0,jY false false 0 1 2 1 0 0,jY false false 0 0 1 0 0 0]
def EJ:List (List DV):=[0,1,28,2,29,14,24,3,30,22,20,15,25,17,4,8,31,27,13,23,21,19,16,7,26,12,18,6,11,5,10,9].map fun n:Int=>[.K0 (.int .u8 n)]
def gl:X8:=[(0,EJ),(1,CZ),(2,A7)]
abbrev tM(t:Ty):List SV:=[.v (j0 t.o0),.v (.sl (t.B0.map Ty.E0))]
@[go_sem] theorem Gt0 (t:Ty):tM t=[.v (j0 t.o0),.v (.sl (t.B0.map Ty.E0))]:=rfl
abbrev gG(t:Tm):List SV:=[.v (j0 t.o0),.v (j0 t.O0),.v (j0 t.I0.o0),.v (.sl (t.I0.B0.map Ty.E0)),.v (.sl (t.B0.map Tm.E0))]
@[go_sem] theorem Gu0 (t:Tm):gG t=[.v (j0 t.o0),.v (j0 t.O0),.v (j0 t.I0.o0),.v (.sl (t.I0.B0.map Ty.E0)),.v (.sl (t.B0.map Tm.E0))]:=rfl
abbrev mB(t:Fm):List SV:=[.v (j0 t.o0),.v (j0 t.I0.o0),.v (.sl (t.I0.B0.map Ty.E0)),.v (.sl (t.M1.map Tm.E0)),.v (.sl (t.B0.map Fm.E0))]
@[go_sem] theorem Gv0 (t:Fm):mB t=[.v (j0 t.o0),.v (j0 t.I0.o0),.v (.sl (t.I0.B0.map Ty.E0)),.v (.sl (t.M1.map Tm.E0)),.v (.sl (t.B0.map Fm.E0))]:=rfl
abbrev nF(t:Pf):List SV:=[.v (j0 t.o0),.v (j0 t.O0),.v (j0 t.I0.o0),.v (.sl (t.I0.B0.map Ty.E0)),.v (.sl (t.M1.map Tm.E0)),.v (.sl (t.V4.map Fm.E0)),.v (.sl (t.B0.map Pf.E0))]
@[go_sem] theorem Gw0 (t:Pf):nF t=[.v (j0 t.o0),.v (j0 t.O0),.v (j0 t.I0.o0),.v (.sl (t.I0.B0.map Ty.E0)),.v (.sl (t.M1.map Tm.E0)),.v (.sl (t.V4.map Fm.E0)),.v (.sl (t.B0.map Pf.E0))]:=rfl
end
section
def kO:W0.follows .mixedOrders=true:=kK
theorem Fp0:G5 W0 3=some (false,1):=kK
theorem Fq0:K7 W0 3=some [.v (.K0 (.int .i64 (0)))]:=kK
theorem Fr0:GP W0 3=some (.int .i64 (0)):=kK
theorem Fs0:zW W0 3=true:=kK
theorem Ft0:EP W0 3=some .i64:=kK
theorem Fu0:G5 W0 4=some (false,1):=kK
theorem Fv0:K7 W0 4=some [.v (.K0 (.bool false))]:=kK
theorem Fw0:G5 W0 5=some (false,1):=kK
theorem Fx0:EP W0 5=some .u8:=kK
theorem DN0:G5 W0 22=some (false,1):=kK
theorem DO0:X7 W0 22=some 1:=kK
theorem DP0:l9 W0 22=some (1,8):=kK
theorem DQ0:G5 W0 27=some (false,1):=kK
theorem DR0:X7 W0 27=some 2:=kK
theorem DS0:l9 W0 27=some (2,32):=kK
theorem DT0:G5 W0 29=some (true,2):=kK
theorem DU0:K7 W0 29=some [.v (.K0 (.int .i64 (0))),.own 0 []]:=kK
theorem DV0:aK W0 29=some [(0,1),(1,1)]:=kK
theorem yr0:M4 W0 29 0=some (false,0,1):=kK
theorem ys0:M4 W0 29 1=some (false,1,1):=kK
theorem DW0:G5 W0 30=some (false,1):=kK
theorem DX0:X7 W0 30=some 5:=kK
theorem DY0:l9 W0 30=some (5,72):=kK
theorem DZ0:G5 W0 31=some (false,1):=kK
theorem D00:X7 W0 31=some 5:=kK
theorem D10:l9 W0 31=some (5,88):=kK
theorem D20:G5 W0 33=some (true,5):=kK
theorem D30:K7 W0 33=some [.v (.K0 (.int .i64 (0))),.v (.K0 (.int .i64 (0))),.own 0 [],.own 0 [],.own 0 []]:=kK
theorem D40:aK W0 33=some [(0,1),(1,2),(3,1),(4,1)]:=kK
theorem yt0:M4 W0 33 0=some (false,0,1):=kK
theorem yu0:M4 W0 33 1=some (true,1,2):=kK
theorem yw0:M4 W0 33 2=some (false,3,1):=kK
theorem yx0:M4 W0 33 3=some (false,4,1):=kK
theorem D50:G5 W0 34=some (false,1):=kK
theorem D60:X7 W0 34=some 7:=kK
theorem D70:l9 W0 34=some (7,120):=kK
theorem D80:G5 W0 36=some (true,7):=kK
theorem D90:K7 W0 36=some [.v (.K0 (.int .i64 (0))),.v (.K0 (.int .i64 (0))),.v (.K0 (.int .i64 (0))),.own 0 [],.own 0 [],.own 0 [],.own 0 []]:=kK
theorem Ea0:aK W0 36=some [(0,1),(1,1),(2,2),(4,1),(5,1),(6,1)]:=kK
theorem yy0:M4 W0 36 0=some (false,0,1):=kK
theorem yz0:M4 W0 36 1=some (false,1,1):=kK
theorem yA0:M4 W0 36 2=some (true,2,2):=kK
theorem yB0:M4 W0 36 3=some (false,4,1):=kK
theorem yC0:M4 W0 36 4=some (false,5,1):=kK
theorem yD0:M4 W0 36 5=some (false,6,1):=kK
theorem Eb0:G5 W0 40=some (false,1):=kK
theorem Ec0:K7 W0 40=some [.own 0 []]:=kK
theorem Ed0:X7 W0 40=some 1:=kK
theorem Ee0:l9 W0 40=some (1,1):=kK
theorem Ef0:G5 W0 41=some (false,1):=kK
theorem Eg0:K7 W0 41=some [.v (.K0 (.int .i64 (0)))]:=kK
theorem Eh0:G5 W0 45=some (true,2):=kK
theorem Ei0:K7 W0 45=some [.own 0 [],.own 0 []]:=kK
theorem Ej0:aK W0 45=some [(0,1),(1,1)]:=kK
theorem yE0:M4 W0 45 0=some (false,0,1):=kK
theorem yF0:M4 W0 45 1=some (false,1,1):=kK
theorem Ek0:G5 W0 48=some (true,6):=kK
theorem El0:K7 W0 48=some [.v (.K0 (.int .i64 (0))),.v (.K0 (.int .i64 (0))),.own 0 [],.own 0 [],.own 0 [],.own 0 []]:=kK
theorem Em0:aK W0 48=some [(0,5),(5,1)]:=kK
theorem yG0:M4 W0 48 0=some (true,0,5):=kK
theorem yH0:M4 W0 48 1=some (false,5,1):=kK
theorem En0:G5 W0 52=some (true,5):=kK
theorem Eo0:K7 W0 52=some [.v (.K0 (.int .i64 (0))),.v (.K0 (.int .i64 (0))),.v (.K0 (.int .i64 (0))),.own 0 [],.own 0 []]:=kK
theorem Ep0:aK W0 52=some [(0,1),(1,1),(2,2),(4,1)]:=kK
theorem yI0:M4 W0 52 0=some (false,0,1):=kK
theorem yJ0:M4 W0 52 1=some (false,1,1):=kK
theorem yK0:M4 W0 52 2=some (true,2,2):=kK
theorem yL0:M4 W0 52 3=some (false,4,1):=kK
theorem Eq0:G5 W0 55=some (false,1):=kK
theorem Er0:X7 W0 55=some 4:=kK
theorem Es0:l9 W0 55=some (4,64):=kK
theorem Et0:G5 W0 57=some (true,4):=kK
theorem Eu0:K7 W0 57=some [.v (.K0 (.int .i64 (0))),.v (.K0 (.int .i64 (0))),.own 0 [],.own 0 []]:=kK
theorem Ev0:aK W0 57=some [(0,1),(1,1),(2,1),(3,1)]:=kK
theorem yM0:M4 W0 57 0=some (false,0,1):=kK
theorem yN0:M4 W0 57 1=some (false,1,1):=kK
theorem yO0:M4 W0 57 2=some (false,2,1):=kK
theorem yP0:M4 W0 57 3=some (false,3,1):=kK
theorem Ew0:G5 W0 61=some (false,1):=kK
theorem Ex0:K7 W0 66=some [.own 0 [],.v (.K0 (.int .i64 (0)))]:=kK
theorem Ey0:aK W0 66=some [(0,1),(1,1)]:=kK
theorem yQ0:M4 W0 66 0=some (false,0,1):=kK
theorem yR0:M4 W0 66 1=some (false,1,1):=kK
theorem Ez0:G5 W0 81=some (false,1):=kK
theorem EA0:K7 W0 84=some [.own 0 [],.v (.K0 (.map none))]:=kK
theorem EB0:aK W0 84=some [(0,1),(1,1)]:=kK
theorem yS0:M4 W0 84 1=some (false,1,1):=kK
theorem EC0:G5 W0 86=some (false,1):=kK
theorem ED0:K7 W0 86=some [.v (.K0 (.int .u32 (0)))]:=kK
theorem EE0:G5 W0 88=some (true,6):=kK
theorem EF0:K7 W0 88=some [.v (.K0 (.int .i64 (0))),.v (.K0 (.int .i64 (0))),.own 0 [],.own 0 [],.own 0 [],.v (.K0 (.int .u32 (0)))]:=kK
theorem EG0:aK W0 88=some [(0,5),(5,1)]:=kK
theorem yT0:M4 W0 88 0=some (true,0,5):=kK
theorem yU0:M4 W0 88 1=some (false,5,1):=kK
theorem EH0:G5 W0 92=some (true,2):=kK
theorem yV0:M4 W0 92 0=some (false,0,1):=kK
theorem yW0:M4 W0 92 1=some (false,1,1):=kK
theorem EI0:G5 W0 94=some (false,1):=kK
theorem EJ0:X7 W0 94=some 3:=kK
theorem EK0:l9 W0 94=some (3,40):=kK
theorem EL0:G5 W0 95=some (false,1):=kK
theorem EM0:X7 W0 95=some 6:=kK
theorem EN0:l9 W0 95=some (6,96):=kK
theorem EO0:G5 W0 97=some (true,4):=kK
theorem EP0:K7 W0 97=some [.v (.K0 (.int .i64 (0))),.v (.K0 (.int .i64 (0))),.own 0 [],.own 0 []]:=kK
theorem EQ0:aK W0 97=some [(0,2),(2,1),(3,1)]:=kK
theorem yX0:M4 W0 97 0=some (true,0,2):=kK
theorem yY0:M4 W0 97 1=some (false,2,1):=kK
theorem yZ0:M4 W0 97 2=some (false,3,1):=kK
theorem AX0:G5 W0 101=some (false,1):=kK
theorem AY0:G5 W0 105=some (false,1):=kK
theorem AZ0:X7 W0 105=some 1:=kK
theorem A00:l9 W0 105=some (1,8):=kK
theorem A10:K7 W0 107=some [.v (.K0 (.int .i64 (0))),.v (.K0 (.int .i64 (0))),.v (.K0 (.int .i64 (0))),.own 0 [],.own 0 [],.own 0 [],.own 0 [],.v (.K0 (.int .i64 (0))),.v (.K0 (.int .i64 (0))),.own 0 [],.own 0 [],.own 0 [],.own 0 [],.v (.K0 (.bool false)),.own 0 []]:=kK
theorem A20:aK W0 107=some [(0,7),(7,5),(12,1),(13,1),(14,1)]:=kK
theorem ud0:M4 W0 107 0=some (true,0,7):=kK
theorem ue0:M4 W0 107 1=some (true,7,5):=kK
theorem uf0:M4 W0 107 2=some (false,12,1):=kK
theorem ug0:M4 W0 107 3=some (false,13,1):=kK
theorem uh0:M4 W0 107 4=some (false,14,1):=kK
theorem A30:G5 W0 109=some (false,1):=kK
theorem A40:X7 W0 109=some 6:=kK
theorem A50:l9 W0 109=some (6,80):=kK
theorem A60:G5 W0 110=some (false,1):=kK
theorem A70:X7 W0 110=some 8:=kK
theorem A80:l9 W0 110=some (8,96):=kK
theorem A90:G5 W0 112=some (true,4):=kK
theorem Ba0:K7 W0 112=some [.v (.K0 (.int .i64 (0))),.v (.K0 (.int .i64 (0))),.own 0 [],.own 0 []]:=kK
theorem Bb0:aK W0 112=some [(0,1),(1,1),(2,1),(3,1)]:=kK
theorem ui0:M4 W0 112 0=some (false,0,1):=kK
theorem uj0:M4 W0 112 1=some (false,1,1):=kK
theorem uk0:M4 W0 112 2=some (false,2,1):=kK
theorem ul0:M4 W0 112 3=some (false,3,1):=kK
theorem Bc0:X7 W0 116=some 1:=kK
theorem Bd0:l9 W0 116=some (1,16):=kK
theorem Be0:G5 W0 119=some (false,1):=kK
theorem Bf0:K7 W0 119=some [.v (.K0 .nilIface)]:=kK
theorem Bg0:G5 W0 123=some (false,1):=kK
theorem Bh0:K7 W0 125=some [.v (.K0 (.int .i64 (0))),.v (.K0 (.int .i64 (0)))]:=kK
theorem Bi0:aK W0 125=some [(0,1),(1,1)]:=kK
theorem um0:M4 W0 125 0=some (false,0,1):=kK
theorem un0:M4 W0 125 1=some (false,1,1):=kK
theorem Bj0:G5 W0 159=some (true,3):=kK
theorem Bk0:K7 W0 159=some [.own 0 [],.own 0 [],.own 0 []]:=kK
theorem Bl0:aK W0 159=some [(0,1),(1,1),(2,1)]:=kK
theorem uo0:M4 W0 159 0=some (false,0,1):=kK
theorem up0:M4 W0 159 1=some (false,1,1):=kK
theorem uq0:M4 W0 159 2=some (false,2,1):=kK
theorem Bm0:G5 W0 165=some (false,1):=kK
theorem Bn0:K7 W0 165=some [.v (.K0 .nilFunc)]:=kK
theorem Bo0:G5 W0 176=some (false,1):=kK
theorem Bp0:K7 W0 176=some [.v (.K0 .nilFunc)]:=kK
theorem Bq0:G5 W0 181=some (true,1):=kK
theorem Br0:K7 W0 181=some [.own 0 []]:=kK
theorem Bs0:aK W0 181=some [(0,1)]:=kK
theorem Bt0:G5 W0 188=some (true,3):=kK
theorem Bu0:K7 W0 188=some [.v (.K0 (.int .i64 (0))),.own 0 [],.v (.K0 (.int .i64 (0)))]:=kK
theorem Bv0:aK W0 188=some [(0,2),(2,1)]:=kK
theorem ur0:M4 W0 188 0=some (true,0,2):=kK
theorem ut0:M4 W0 188 1=some (false,2,1):=kK
theorem Bw0:G5 W0 194=some (false,1):=kK
theorem Bx0:K7 W0 194=some [.v (.K0 (.pointer none))]:=kK
theorem By0:rI W0 194=true:=kK
theorem Bz0:GP W0 194=some (.pointer none):=kK
theorem BA0:zW W0 194=true:=kK
theorem BB0:K7 W0 199=some [.v (.K0 (.int .i64 (0))),.v (.K0 (.pointer none))]:=kK
theorem BC0:aK W0 199=some [(0,1),(1,1)]:=kK
theorem uu0:M4 W0 199 0=some (false,0,1):=kK
theorem uv0:M4 W0 199 1=some (false,1,1):=kK
theorem BD0:GP W0 200=some (.pointer none):=kK
theorem BE0:zW W0 200=true:=kK
theorem BF0:K7 W0 202=some [.v (.K0 .nilIface),.v (.K0 .nilIface)]:=kK
theorem BG0:aK W0 202=some [(0,1),(1,1)]:=kK
theorem uw0:M4 W0 202 0=some (false,0,1):=kK
theorem ux0:M4 W0 202 1=some (false,1,1):=kK
theorem BH0:K7 W0 204=some []:=kK
theorem BI0:aK W0 204=some []:=kK
theorem BJ0:zW W0 204=true:=kK
theorem BK0:G5 W0 209=some (false,1):=kK
theorem BL0:GP W0 211=some (.pointer none):=kK
theorem BM0:zW W0 211=true:=kK
theorem BN0:K7 W0 213=some [.v (.K0 (.int .i64 (0))),.v (.K0 (.int .i64 (0))),.v (.K0 (.int .i64 (0))),.own 0 [],.own 0 [],.v (.K0 (.pointer none))]:=kK
theorem BO0:aK W0 213=some [(0,5),(5,1)]:=kK
theorem uy0:M4 W0 213 0=some (true,0,5):=kK
theorem uz0:M4 W0 213 1=some (false,5,1):=kK
theorem BP0:G5 W0 214=some (true,3):=kK
theorem BQ0:K7 W0 214=some [.v (.K0 .nilIface),.v (.K0 .nilIface),.v (.K0 .nilIface)]:=kK
theorem BR0:X7 W0 214=none:=kK
theorem BS0:Dd W0 214=some (3,1):=kK
theorem BT0:K7 W0 219=some [.v (.K0 .nilIface),.v (.K0 (.pointer none))]:=kK
theorem BU0:aK W0 219=some [(0,1),(1,1)]:=kK
theorem u00:M4 W0 219 0=some (false,0,1):=kK
theorem u10:M4 W0 219 1=some (false,1,1):=kK
theorem BV0:G5 W0 233=some (false,1):=kK
theorem BW0:K7 W0 233=some [.v (.K0 .nilFunc)]:=kK
theorem BX0:K7 W0 236=some [.v (.K0 (.int .i64 (0))),.v (.K0 (.bool false))]:=kK
theorem BY0:aK W0 236=some [(0,1),(1,1)]:=kK
theorem u20:M4 W0 236 0=some (false,0,1):=kK
theorem u30:M4 W0 236 1=some (false,1,1):=kK
theorem BZ0:G5 W0 250=some (true,12):=kK
theorem B00:K7 W0 250=some [.v (.K0 (.int .i64 (0))),.v (.K0 (.int .i64 (0))),.v (.K0 (.int .i64 (0))),.v (.K0 (.int .i64 (0))),.own 0 [],.own 0 [],.own 0 [],.v (.K0 (.int .i64 (0))),.v (.K0 (.int .i64 (0))),.v (.K0 (.int .i64 (0))),.own 0 [],.own 0 []]:=kK
theorem B10:aK W0 250=some [(0,1),(1,5),(6,1),(7,5)]:=kK
theorem u40:M4 W0 250 0=some (false,0,1):=kK
theorem u50:M4 W0 250 1=some (true,1,5):=kK
theorem u60:M4 W0 250 2=some (false,6,1):=kK
theorem u70:M4 W0 250 3=some (true,7,5):=kK
theorem B20:G5 W0 258=some (true,6):=kK
theorem B30:K7 W0 258=some [.v (.K0 (.int .i64 (0))),.v (.K0 (.int .i64 (0))),.own 0 [],.own 0 [],.own 0 [],.v (.K0 (.int .i64 (0)))]:=kK
theorem B40:aK W0 258=some [(0,5),(5,1)]:=kK
theorem u80:M4 W0 258 0=some (true,0,5):=kK
theorem u90:M4 W0 258 1=some (false,5,1):=kK
theorem B50:X7 W0 259=none:=kK
theorem B60:Dd W0 259=some (32,1):=kK
theorem B70:G5 W0 262=some (true,3):=kK
theorem B80:K7 W0 262=some [.own 0 [],.own 0 [],.v (.K0 (.pointer none))]:=kK
theorem B90:aK W0 262=some [(0,1),(1,1),(2,1)]:=kK
theorem va0:M4 W0 262 0=some (false,0,1):=kK
theorem vb0:M4 W0 262 1=some (false,1,1):=kK
theorem vc0:M4 W0 262 2=some (false,2,1):=kK
theorem Ca0:G5 W0 274=some (true,6):=kK
theorem Cb0:K7 W0 274=some [.v (.K0 (.int .i64 (0))),.v (.K0 (.int .i64 (0))),.v (.K0 (.int .i64 (0))),.own 0 [],.own 0 [],.v (.K0 (.int .i64 (0)))]:=kK
theorem Cc0:aK W0 274=some [(0,5),(5,1)]:=kK
theorem vd0:M4 W0 274 0=some (true,0,5):=kK
theorem ve0:M4 W0 274 1=some (false,5,1):=kK
theorem Cd0:G5 W0 276=some (true,8):=kK
theorem Ce0:K7 W0 276=some [.v (.K0 (.int .i64 (0))),.v (.K0 (.int .i64 (0))),.v (.K0 (.int .i64 (0))),.own 0 [],.own 0 [],.v (.K0 (.int .i64 (0))),.v (.K0 (.bool false)),.v (.K0 (.int .i64 (0)))]:=kK
theorem Cf0:aK W0 276=some [(0,6),(6,1),(7,1)]:=kK
theorem vf0:M4 W0 276 0=some (true,0,6):=kK
theorem vg0:M4 W0 276 1=some (false,6,1):=kK
theorem Cg0:G5 W0 279=some (true,9):=kK
theorem Ch0:K7 W0 279=some [.v (.K0 (.int .i64 (0))),.own 0 [],.v (.K0 (.int .i64 (0))),.v (.K0 (.int .i64 (0))),.own 0 [],.v (.K0 (.int .i64 (0))),.v (.K0 (.int .i64 (0))),.own 0 [],.v (.K0 (.int .i64 (0)))]:=kK
theorem Ci0:X7 W0 279=none:=kK
theorem Cj0:Dd W0 279=some (3,3):=kK
theorem Ck0:G5 W0 285=some (false,1):=kK
theorem Cl0:X7 W0 285=some 1:=kK
theorem Cm0:l9 W0 285=some (1,8):=kK
theorem Cn0:G5 W0 292=some (true,5):=kK
theorem Co0:K7 W0 292=some [.v (.K0 (.int .i64 (0))),.v (.K0 (.int .i64 (0))),.v (.K0 (.int .i64 (0))),.v (.K0 (.bool false)),.v (.K0 (.bool false))]:=kK
theorem Cp0:aK W0 292=some [(0,1),(1,1),(2,1),(3,1),(4,1)]:=kK
theorem vh0:M4 W0 292 0=some (false,0,1):=kK
theorem vi0:M4 W0 292 1=some (false,1,1):=kK
theorem vj0:M4 W0 292 2=some (false,2,1):=kK
theorem vk0:M4 W0 292 3=some (false,3,1):=kK
theorem vl0:M4 W0 292 4=some (false,4,1):=kK
theorem Cq0:G5 W0 301=some (false,1):=kK
theorem Cr0:G5 W0 305=some (true,8):=kK
theorem Cs0:K7 W0 305=some [.v (.K0 (.bool false)),.v (.K0 (.bool false)),.v (.K0 (.int .i64 (0))),.v (.K0 (.int .i64 (0))),.v (.K0 (.int .i64 (0))),.v (.K0 (.int .i64 (0))),.v (.K0 (.int .i64 (0))),.v (.K0 (.int .i64 (0)))]:=kK
theorem vm0:M4 W0 305 0=some (false,0,1):=kK
theorem vn0:M4 W0 305 1=some (false,1,1):=kK
theorem vo0:M4 W0 305 2=some (false,2,1):=kK
theorem vp0:M4 W0 305 3=some (false,3,1):=kK
theorem vq0:M4 W0 305 4=some (false,4,1):=kK
theorem Ct0:G5 W0 340=some (false,1):=kK
theorem Cu0:X7 W0 341=none:=kK
theorem Cv0:Dd W0 341=some (21,8):=kK
theorem Cw0:G5 W0 345=some (false,1):=kK
theorem Cx0:rI W0 345=true:=kK
theorem Cy0:K7 W0 348=some [.v (.K0 (.pointer none)),.v (.K0 (.int .i64 (0)))]:=kK
theorem Cz0:aK W0 348=some [(0,1),(1,1)]:=kK
theorem vr0:M4 W0 348 0=some (false,0,1):=kK
theorem vt0:M4 W0 348 1=some (false,1,1):=kK
theorem CA0:G5 W0 362=some (false,1):=kK
theorem CB0:X7 W0 362=some 1:=kK
theorem CC0:l9 W0 362=some (1,8):=kK
theorem CD0:K7 W0 368=some [.v (.K0 (.int .i64 (0))),.v (.K0 (.int .i64 (0))),.v (.K0 (.int .i64 (0))),.own 0 [],.own 0 [],.v (.K0 (.int .i64 (0))),.v (.K0 (.int .i64 (0))),.v (.K0 (.bool false))]:=kK
theorem CE0:aK W0 368=some [(0,1),(1,1),(2,2),(4,1),(5,1),(6,1),(7,1)]:=kK
theorem vu0:M4 W0 368 0=some (false,0,1):=kK
theorem vv0:M4 W0 368 1=some (false,1,1):=kK
theorem vw0:M4 W0 368 2=some (true,2,2):=kK
theorem vx0:M4 W0 368 3=some (false,4,1):=kK
theorem vy0:M4 W0 368 4=some (false,5,1):=kK
theorem vz0:M4 W0 368 5=some (false,6,1):=kK
theorem vA0:M4 W0 368 6=some (false,7,1):=kK
theorem CF0:X7 W0 373=none:=kK
theorem CG0:Dd W0 373=some (14,1):=kK
attribute [go_sem] Fp0 Fq0 Fr0 Fs0 Ft0 Fu0 Fv0 Fw0 Fx0 DN0 DO0 DP0 DQ0 DR0 DS0 DT0 DU0 DV0 yr0 ys0 DW0 DX0 DY0 DZ0 D00 D10 D20 D30 D40 yt0 yu0 yw0 yx0 D50 D60 D70 D80 D90 Ea0 yy0 yz0 yA0 yB0 yC0 yD0 Eb0 Ec0 Ed0 Ee0 Ef0 Eg0 Eh0 Ei0 Ej0 yE0 yF0 Ek0 El0 Em0 yG0 yH0 En0 Eo0 Ep0 yI0 yJ0 yK0 yL0 Eq0 Er0 Es0 Et0 Eu0 Ev0 yM0 yN0 yO0 yP0 Ew0 Ex0 Ey0 yQ0 yR0 Ez0 EA0 EB0 yS0 EC0 ED0 EE0 EF0 EG0 yT0 yU0 EH0 yV0 yW0 EI0 EJ0 EK0 EL0 EM0 EN0 EO0 EP0 EQ0 yX0 yY0 yZ0 AX0 AY0 AZ0 A00 A10 A20 ud0 ue0 uf0 ug0 uh0 A30 A40 A50 A60 A70 A80 A90 Ba0 Bb0 ui0 uj0 uk0 ul0 Bc0 Bd0 Be0 Bf0 Bg0 Bh0 Bi0 um0 un0 Bj0 Bk0 Bl0 uo0 up0 uq0 Bm0 Bn0 Bo0 Bp0 Bq0 Br0 Bs0 Bt0 Bu0 Bv0 ur0 ut0 Bw0 Bx0 By0 Bz0 BA0 BB0 BC0 uu0 uv0 BD0 BE0 BF0 BG0 uw0 ux0 BH0 BI0 BJ0 BK0 BL0 BM0 BN0 BO0 uy0 uz0 BP0 BQ0 BR0 BS0 BT0 BU0 u00 u10 BV0 BW0 BX0 BY0 u20 u30 BZ0 B00 B10 u40 u50 u60 u70 B20 B30 B40 u80 u90 B50 B60 B70 B80 B90 va0 vb0 vc0 Ca0 Cb0 Cc0 vd0 ve0 Cd0 Ce0 Cf0 vf0 vg0 Cg0 Ch0 Ci0 Cj0 Ck0 Cl0 Cm0 Cn0 Co0 Cp0 vh0 vi0 vj0 vk0 vl0 Cq0 Cr0 Cs0 vm0 vn0 vo0 vp0 vq0 Ct0 Cu0 Cv0 Cw0 Cx0 Cy0 Cz0 vr0 vt0 CA0 CB0 CC0 CD0 CE0 vu0 vv0 vw0 vx0 vy0 vz0 vA0 CF0 CG0
abbrev cT:=P8 W0 gl
abbrev cU(f:FuncId)(a:List DV)(r:DV):Prop:=P8 W0 gl f a [] r []
def yZ(t:Ty):cU 188 [t.dv] t.dv:=by
 induction t using Ty.ind with
 | h t ih=>
 refine H2 Tryz.func188 ?_;intro X hP G0 hf X0 hn hR K1 G1;have htf:t.fit:=(Ty.dv_fit t).1 (G1 _ sS);have hlen:t.B0.length<=2147483648:=((Ty.fit_eq t).1 htf).2.1;refine K2 ?_;refine K2 ?_;refine K2 ?_;refine Q1 ?_
 refine aM [(1003,0)] ?_ ?_ ?_ (y7 t.B0 (fun done rest=>[(.P0 2,.one (.loc 2 0)),(.loc 2,.row [.v (j0 0),.own 0 []]),(.P0 1,.one (.loc 1 0)),(.loc 1,.row (tM t)),
   (.P0 3,.one (.own 1003 (done.map Ty.E0))),(.tok 1003,.tk 2 done.length),(.P0 7,.one (.v (.sl (t.B0.map Ty.E0)))),(.P0 8,.one (.v (j0 t.B0.length))),(.P0 9,.one (.v (j0 done.length)))]) ?_ ?_)
 ·simp[go_sem]
 ·simp[go_sem]
 ·simp[go_sem]
 ·intro done x rest hL hg Z1;have I1:=E5 hL;refine K5 ?_;refine R4 @hg ?_;refine U6 tT fun K hK=>?_;refine Z7 tT (ih x (uE hg)) ?_;refine K4 ?_;clear hK K;refine K2 ?_;refine m5 ?_;refine G2 [(1003,17)] tT Z1
 ·refine K2 ?_;refine Z6 ?_;refine K2 ?_;exact rF
def gU(a b:Ty):cU 162 [a.dv,b.dv] (O2 (a.same b)):=by
 induction a using Ty.ind generalizing b with
 | h a ih=>
 refine H2 Tryz.func162 ?_;intro X hP G0 hf X0 hn hR K1 G1;have Q6:a.fit:=(Ty.dv_fit a).1 (G1 _ sS);have dU:b.fit:=(Ty.dv_fit b).1 (G1 _ sS);have KH:a.B0.length<=2147483648:=((Ty.fit_eq a).1 Q6).2.1;have o8:b.B0.length<=2147483648:=((Ty.fit_eq b).1 dU).2.1;refine K2 ?_;by_cases hk:a.o0=b.o0
 ·refine R4 @hk ?_;by_cases hl:a.B0.length=b.B0.length
  ·refine Q1 ?_;refine aB rfl ?_ ?_;· intro h;simp[hl]at h
   intro _;refine K2 ?_;refine Q1 ?_
   refine aM [] ?_ ?_ ?_ (xF a.B0.length (fun i=>∀(j:Nat) (x y:Ty),j<i->a.B0[j]? = some x->b.B0[j]? = some y->x.same y=true)
    (fun i=>[(.P0 2,.one (.loc 2 0)),(.loc 2,.row (tM a)),(.P0 3,.one (.loc 3 0)),(.loc 3,.row (tM b)),(.P0 22,.one (.v (j0 a.B0.length))),(.P0 23,.one (.v (j0 i)))]) (by intro j x y h;omega) ?_ ?_)
   ·simp[go_sem]
   ·simp[go_sem,hk,hl]
   ·simp[go_sem]
   ·intro i hi hI Z1;obtain⟨x,hx⟩:∃x,a.B0[i]? = some x:=⟨_,uB hi⟩;obtain⟨y,hy⟩:∃y,b.B0[i]? = some y:=⟨_,uB oO⟩;refine K5 ?_;refine K2 ?_;refine U6 (j2 @hx @hy) fun K hK=>?_;refine Z7 tT (ih x (uE hx) y) ?_;refine K4 ?_;clear hK K;by_cases hs:x.same y=true
    ·refine Q1 ?_;refine aB rfl ?_ ?_;· intro h;simp[hs]at h
     intro _;refine K2 ?_;refine m5 ?_;refine G2 [] tT (Z1 ?_);intro j x' y' hj R7 K8;by_cases vS:j=i;· subst vS;rw[hx]at R7;rw[hy]at K8;cases R7;cases K8;exact hs
     ·exact hI j x' y' oO R7 K8
    ·refine Q1 ?_;refine aB rfl ?_ ?_;rotate_left;· intro h;simp[hs]at h
     intro _;refine K2 ?_;refine N3 ?_;simp[go_sem,hP,G0,hn] <;> (try omega);refine AT.2 ?_;intro h;rw[Ty.same_eq,uH,Ty.sames_iff]at h;exact hs (h.2.2 i x y hx hy)
   ·intro hI;refine T7 ?_;refine K2 ?_;refine N3 ?_;simp[go_sem,hP,G0,hn] <;> (try omega);rw[Ty.same_eq,uH,Ty.sames_iff];exact⟨by simp[hk],hl,fun i x y hx hy=>hI i x y (uA hx).1 hx hy⟩
  ·refine Q1 ?_;refine aB rfl ?_ ?_;rotate_left;· intro h;simp at h;omega
   intro _;refine K2 ?_;refine N3 ?_;simp[go_sem,hP,G0,hn] <;> (try omega);refine AT.2 ?_;intro h;rw[Ty.same_eq,uH,Ty.sames_iff]at h;exact hl h.2.1
 ·refine R4 @hk ?_;refine Q1 ?_;refine aB rfl ?_ ?_;rotate_left;· intro h;simp at h
  intro _;refine K2 ?_;refine N3 ?_;simp[go_sem,hP,G0,hn] <;> (try omega);simp[Ty.same_eq,hk]
def iM:cU 173 [] (Ty.mk 1 []).dv:=by
 refine A3 Tryz.func173 fun X zX=>?_;refine K2 ?_;refine K2 ?_;exact JK
def Eb:cU 174 [] (Ty.mk 2 []).dv:=by
 refine A3 Tryz.func174 fun X zX=>?_;refine K2 ?_;refine K2 ?_;exact JK
def UW:cU 248 [] (Ty.mk 5 []).dv:=by
 refine A3 Tryz.func248 fun X zX=>?_;refine K2 ?_;refine K2 ?_;exact JK
def bV0(a b:Ty):cU 249 [a.dv,b.dv] (Ty.mk 3 [a,b]).dv:=by
 refine A3 Tryz.func249 fun X zX=>?_;refine K2 ?_;refine U6 tT fun K hK=>?_;refine Z7 tT (yZ a) ?_;refine Z7 tT (yZ b) ?_;refine K4 ?_;clear hK K;exact JK
def Tm.fit_len{t:Tm}(h:t.dv.fit):t.B0.length<=2147483648:=((Tm.fit_eq t).1 ((Tm.dv_fit t).1 h)).2.2.2.1
def sQ{l:List (List DV)}(h:J6 (.sl l)):l.length<=2147483648:=by simp[J6,M5]at h;exact h.1
def Lx(t:Tm):cU 189 [t.dv] t.dv:=by
 induction t using Tm.ind with
 | h t ih=>
 refine H2 Tryz.func189 ?_;intro X hP G0 hf X0 hn hR K1 G1;have hlen:=Tm.fit_len (G1 t.dv sS);refine K2 ?_;refine K2 ?_;refine K2 ?_;refine Q1 ?_;refine G2 [(1003,0)] tT (y7 (t.B0) (fun done rest=>[sV 9 (j0 done.length),sV 8 (j0 t.B0.length),sV 7 (.sl (t.B0.map Tm.E0)),(.P0 3,.one (.own 1003 (done.map Tm.E0))),(.tok 1003,.tk 5 done.length),sL 2 [.v (j0 0),.v (j0 0),.v (j0 0),.own 0 [],.own 0 []],sP 2,sL 1 (gG t),sP 1]) ?_ ?_)
 ·intro done x rest hL hg Z1;have I1:=E5 hL;refine K5 ?_;refine R4 @hg ?_;refine U6 tT fun K hK=>?_;refine Z7 tT (ih x (uE hg)) ?_;refine K4 ?_;clear hK K;refine K2 ?_;refine m5 ?_;refine G2 [(1003,17)] tT Z1
 ·refine K2 ?_;refine Z6 ?_;refine U6 tT fun K hK=>?_;refine Z7 tT (yZ t.I0) ?_;refine K4 ?_;clear hK K;exact rF
def Tm.A0:Tm->Nat
 | .mk _ _ _ l=>1+Z0 l
where
 Z0:List Tm->Nat
  | []=>0
  | a::r=>a.A0+Z0 r
def Tm.count_eq(t:Tm):t.A0=1+Tm.A0.Z0 t.B0:=by cases t;rfl
def Tm.counts_append(l m:List Tm):Tm.A0.Z0 (l++m)=Tm.A0.Z0 l+Tm.A0.Z0 m:=by
 induction l with
 | nil=>simp[Tm.A0.Z0]
 | cons a r ih=>simp[Tm.A0.Z0,ih];omega
def Tm.len_counts(l:List Tm):l.length<=Tm.A0.Z0 l:=by
 induction l with
 | nil=>exact I5 0
 | cons a r ih=>have:=Tm.count_eq a;simp only[B4,Tm.A0.Z0];omega
def lR(t:Tm)(hc:t.A0<=2147483648):cU 321 [t.dv] (j0 t.A0):=by
 induction t using Tm.ind with
 | h t ih=>
 refine H2 Tryz.func321 ?_;intro X hP G0 hf X0 hn hR K1 G1;have hlen:=Tm.fit_len (G1 t.dv sS);rw[Tm.count_eq]at hc;refine K2 ?_;refine K2 ?_;refine K2 ?_;refine Q1 ?_;refine G2 [] (j2 @Tm.A0.Z0.eq_1 @Tm.A0.Z0.eq_2) (y7 (t.B0) (fun done rest=>[sV 9 (j0 done.length),sV 8 (j0 t.B0.length),sV 7 (.sl (t.B0.map Tm.E0)),sV 3 (j0 (1+Tm.A0.Z0 done:Nat))]) ?_ ?_)
 ·intro done x rest hL hg Z1;have I1:=E5 hL;have I8:Tm.A0.Z0 t.B0=Tm.A0.Z0 done+(x.A0+Tm.A0.Z0 rest):=by rw[hL,Tm.counts_append];rfl
  refine K5 ?_;refine R4 @hg ?_;refine U6 tT fun K hK=>?_;refine Z7 tT (ih x (uE hg) oO) ?_;refine K4 ?_;clear hK K;refine K2 ?_;refine m5 ?_;refine G2 [] (j3 @Tm.counts_append @Tm.A0.Z0.eq_1 @Tm.A0.Z0.eq_2) Z1
 ·refine K2 ?_;refine Z6 ?_;refine K2 ?_;exact aN @Tm.count_eq
def dI(k:Int)(l:List Tm):cU 170 [j0 k,.sl (l.map Tm.E0)] (Tm.mk k 0 (Ty.mk 0 []) l).dv:=by
 refine H2 Tryz.func170 ?_;intro X hP G0 hf X0 hn hR K1 G1;have hlen:l.length<=2147483648:=by simpa using sQ (G1 (.sl (l.map Tm.E0)) sS)
 refine K2 ?_;refine K2 ?_;refine K2 ?_;refine Q1 ?_;refine G2 [(1005,0)] tT (y7 (l) (fun done rest=>[sV 10 (j0 done.length),sV 9 (j0 l.length),sV 8 (.sl (l.map Tm.E0)),(.P0 5,.one (.own 1005 (done.map Tm.E0))),(.tok 1005,.tk 5 done.length),sL 4 [.v (j0 0),.v (j0 0),.v (j0 0),.own 0 [],.own 0 []],sP 4,sV 0 (j0 k)]) ?_ ?_)
 ·intro done x rest hL hg Z1;have I1:=E5 hL;refine K5 ?_;refine R4 @hg ?_;refine U6 tT fun K hK=>?_;refine Z7 tT (Lx x) ?_;refine K4 ?_;clear hK K;refine K2 ?_;refine m5 ?_;refine G2 [(1005,18)] tT Z1
 ·refine K2 ?_;refine Z6 ?_;refine K2 ?_;exact JK
def bM0(a b:Tm):cU 366 [a.dv,b.dv] (O2 (a.same b)):=by
 induction a using Tm.ind generalizing b with
 | h a ih=>
 refine H2 Tryz.func366 ?_;intro X hP G0 hf X0 hn hR K1 G1;have KH:=Tm.fit_len (G1 a.dv sS);have o8:=Tm.fit_len (G1 b.dv sS);refine K2 ?_;by_cases hk:a.o0=b.o0
 ·by_cases hi:a.O0=b.O0
  ·refine U6 (j2 @hk @hi) fun K hK=>?_;refine Z7 tT (gU a.I0 b.I0) ?_;by_cases ht:a.I0.same b.I0=true
   ·simp[go_sem,hP,hn,ht];refine K4 ?_;clear hK K;by_cases hl:a.B0.length=b.B0.length
    ·refine Q1 ?_;refine aB rfl ?_ ?_;· intro h;simp[hl]at h
     intro _;refine K2 ?_;refine Q1 ?_;refine G2 [] (j3 @hk @hi @hl) (xF (a.B0.length) (fun i=>∀(j:Nat) (x y:Tm),j<i->a.B0[j]? = some x->b.B0[j]? = some y->x.same y=true) (fun i=>[sV 38 (j0 i),sV 37 (j0 a.B0.length),sP 3,sL 3 (gG b),sP 2,sL 2 (gG a)]) (by intro j x y h;omega) ?_ ?_)
     ·intro i I1 hI Z1;obtain⟨x,hx⟩:∃x,a.B0[i]? = some x:=⟨_,uB I1⟩;obtain⟨y,hy⟩:∃y,b.B0[i]? = some y:=⟨_,uB oO⟩;refine K5 ?_;refine K2 ?_;refine U6 (j2 @hx @hy) fun K hK=>?_;refine Z7 tT (ih x (uE hx) y) ?_;refine K4 ?_;clear hK K;by_cases hs:x.same y=true
      ·refine Q1 ?_;refine aB rfl ?_ ?_;· intro h;simp[hs]at h
       intro _;refine K2 ?_;refine m5 ?_;refine G2 [] tT (Z1 ?_);intro j x' y' hj R7 K8;by_cases vS:j=i;· subst vS;rw[hx]at R7;rw[hy]at K8;cases R7;cases K8;exact hs
       ·exact hI j x' y' oO R7 K8
      ·refine Q1 ?_;refine aB rfl ?_ ?_;rotate_left;· intro h;simp[hs]at h
       intro _;refine K2 ?_;refine N3 ?_;simp[go_sem,hP,G0,hn] <;> (try omega);refine AT.2 ?_;intro h;rw[Tm.same_eq]at h;simp only[uH,Tm.sames_iff]at h;exact hs (h.2.2 i x y hx hy)
     ·intro hI;refine T7 ?_;refine K2 ?_;refine N3 ?_;simp[go_sem,hP,G0,hn] <;> (try omega);rw[Tm.same_eq];simp only[uH,Tm.sames_iff];exact⟨⟨⟨by simp[hk],by simp[hi]⟩,ht⟩,hl,fun i x y hx hy=>hI i x y (uA hx).1 hx hy⟩
    ·refine Q1 ?_;refine aB rfl ?_ ?_;rotate_left;· intro h;simp at h;omega
     intro _;refine K2 ?_;refine N3 ?_;simp[go_sem,hP,G0,hn] <;> (try omega);refine AT.2 ?_;intro h;rw[Tm.same_eq]at h;simp only[uH,Tm.sames_iff]at h;exact hl h.2.1
   ·simp[go_sem,hP,hn,ht];refine K4 ?_;clear hK K;refine Q1 ?_;refine aB rfl ?_ ?_;rotate_left;· intro h;simp at h
    intro _;refine K2 ?_;refine N3 ?_;simp[go_sem,hP,G0,hn] <;> (try omega);simp[Tm.same_eq,ht]
  ·refine R4 (j2 @hk @hi) ?_;refine Q1 ?_;refine aB rfl ?_ ?_;rotate_left;· intro h;simp at h
   intro _;refine K2 ?_;refine N3 ?_;simp[go_sem,hP,G0,hn] <;> (try omega);simp[Tm.same_eq,hi]
 ·refine R4 @hk ?_;refine Q1 ?_;refine aB rfl ?_ ?_;rotate_left;· intro h;simp at h
  intro _;refine K2 ?_;refine N3 ?_;simp[go_sem,hP,G0,hn] <;> (try omega);simp[Tm.same_eq,hk]
end
section
def mV(k:Int)(n:Nat):Bool:=(decide (k=1\/k=2\/k=5)&&n==0)||(decide (k=3\/k=4)&&n==2)
namespace Ty
def shape:Ty->Bool
 | .mk k a=>mV k a.length&&shapes a
where
 shapes:List Ty->Bool
  | []=>true
  | a::r=>a.shape&&shapes r
def shape_eq(t:Ty):t.shape=(mV t.o0 t.B0.length&&shape.shapes t.B0):=by cases t;rfl
def shapes_append(l m:List Ty):shape.shapes (l++m)=(shape.shapes l&&shape.shapes m):=by
 induction l with
 | nil=>simp[shape.shapes]
 | cons a r ih=>simp[shape.shapes,ih,Ut]
def shapes_iff(l:List Ty):shape.shapes l=true↔∀a∈l,a.shape=true:=by
 induction l with
 | nil=>simp[shape.shapes]
 | cons a r ih=>simp[shape.shapes,ih]
def A0:Ty->Nat
 | .mk _ a=>1+Z0 a
where
 Z0:List Ty->Nat
  | []=>0
  | a::r=>a.A0+Z0 r
def count_eq(t:Ty):t.A0=1+A0.Z0 t.B0:=by cases t;rfl
def counts_append(l m:List Ty):A0.Z0 (l++m)=A0.Z0 l+A0.Z0 m:=by
 induction l with
 | nil=>simp[A0.Z0]
 | cons a r ih=>simp[A0.Z0,ih];omega
def count_mem{l:List Ty}{a:Ty}(h:a∈l):a.A0<=A0.Z0 l:=by
 induction l with
 | nil=>cases h
 | cons b r ih=>
  simp only[A0.Z0];rcases u5.1 h with rfl|h;· omega
  ·have:=ih h;omega
def L4(t:Ty):Int:=if t.shape=true then if 64<t.A0 then 4 else 0 else 2
def zero(t:Ty):Bool:=decide (t.o0=0)&&decide (t.B0.length=0)
end Ty
def C5(k:Int):Int:=
 if k=1\/k=4\/k=7\/k=13 then 0 else if k=2\/k=5\/k=11\/k=12 then 1 else if k=3\/k=8\/k=10 then 2 else if k=6\/k=9 then 3 else -1
def cP(k:Int)(t:Ty):Bool:=if k=2\/k=6\/k=9 then decide (t.L4=0) else t.zero
def qZ(k i:Int)(t:Ty)(n:Nat):Bool:=decide ((n:Int)=C5 k)&&decide (0<=i)&&(decide (k=1)||decide (i=0))&&cP k t
namespace Tm
def shape:Tm->Bool
 | .mk k i t a=>qZ k i t a.length&&shapes a
where
 shapes:List Tm->Bool
  | []=>true
  | a::r=>a.shape&&shapes r
def shape_eq(t:Tm):t.shape=(qZ t.o0 t.O0 t.I0 t.B0.length&&shape.shapes t.B0):=by cases t;rfl
def shapes_append(l m:List Tm):shape.shapes (l++m)=(shape.shapes l&&shape.shapes m):=by
 induction l with
 | nil=>simp[shape.shapes]
 | cons a r ih=>simp[shape.shapes,ih,Ut]
def shapes_iff(l:List Tm):shape.shapes l=true↔∀a∈l,a.shape=true:=by
 induction l with
 | nil=>simp[shape.shapes]
 | cons a r ih=>simp[shape.shapes,ih]
def count_mem{l:List Tm}{a:Tm}(h:a∈l):a.A0<=A0.Z0 l:=by
 induction l with
 | nil=>cases h
 | cons b r ih=>
  simp only[A0.Z0];rcases u5.1 h with rfl|h;· omega
  ·have:=ih h;omega
def count_pos(t:Tm):1<=t.A0:=by rw[count_eq];omega
def tys:Tm->Prop
 | .mk _ _ t a=>t.A0<=1073741824/\tyss a
where
 tyss:List Tm->Prop
  | []=>True
  | a::r=>a.tys/\tyss r
def vB0(l:List Tm):tys.tyss l↔∀a∈l,a.tys:=by
 induction l with
 | nil=>simp[tys.tyss]
 | cons a r ih=>simp[tys.tyss,ih]
def tys_eq(t:Tm):t.tys↔t.I0.A0<=1073741824/\∀a∈t.B0,a.tys:=by cases t;simp only[tys,vB0,I0,B0]
def L4(t:Tm):Int:=if t.shape=true then if 4096<t.A0 then 4 else 0 else 2
end Tm
def Ty.fit_len{t:Ty}(h:t.dv.fit):t.B0.length<=2147483648:=((Ty.fit_eq t).1 ((Ty.dv_fit t).1 h)).2.1
end
section
abbrev M3(b:Nat):DV:=.K0 (.pointer (some ⟨b,0,none⟩))
abbrev R5(l:List Int)(p:Nat):List DV:=[.sl (P2 l),j0 p]
def Kg(n k:Int):Int:=(n.tmod k+k).tmod k
def fm0(n k:Int)(h:1<=k):0<=Kg n k/\Kg n k<k/\-k<n.tmod k/\n.tmod k<k:=by
 have h1:-k<n.tmod k:=by
  have:=Int.lt_tmod_of_pos n (show 0<k from oO);omega
 have h2:n.tmod k<k:=Int.tmod_lt_of_pos n oO;refine⟨?_,Int.tmod_lt_of_pos _ oO,h1,h2⟩;exact Int.tmod_nonneg _ oO
def CH0(n k:Int)(h1:1<=k)(h2:k<=2147483648):cU 56 [j0 n,j0 k] (j0 (Kg n k)):=by
 refine A3 Tryz.func56 fun X zX=>?_;have hb:=fm0 n k h1;unfold Kg at hb;refine K2 ?_;refine U6 tT fun K hK=>?_;have oK:¬k=0:=oO;refine⟨⟨oK,oO⟩,?_⟩;refine⟨oO,⟨oK,oO⟩,?_⟩;refine K4 ?_;clear hK K;exact aN @Kg.eq_1
def f50(l:List Int):cU 5 [.sl (P2 l)] (O2 (decide (l.length<=500))):=by
 refine A3 Tryz.func5 fun X zX=>?_;refine K2 ?_;refine K2 ?_;exact rF
def CI0(l:List Int):lF W0 gl 6 [.sl (P2 l)] [] fun r φ=>∃b,r=M3 b/\φ=[(b,R5 l 0)]:=by
 refine H2 Tryz.func6 ?_;intro X hP G0 hf X0 hn hR K1 G1;refine K2 ?_;refine K2 ?_;refine fG 5 (by simp[go_sem];rfl) ?_;intro b hb;simp[go_sem];refine gA hP hf X0 (M3 b) [(b,R5 l 0)] sH sG sS (by rw[hR.1];exact⟨b,rfl,rfl⟩) hR.2
def Y2(l:List Int)(p:Nat)(n:Int):Int × Nat:=
 if n<1 then (0,p) else match l[p]? with
  | some x=>(Kg x n,p+1)
  | none=>(0,p)
def fX(b:Nat)(l:List Int)(p:Nat)(n:Int)(dG:n<=2147483648)(hp:p<=2147483648) :
  cT 15 [M3 b,j0 n] [(b,R5 l p)] (j0 (Y2 l p n).1) [(b,R5 l (Y2 l p n).2)]:=by
 refine A3 Tryz.func15 fun X zX=>?_;refine K2 ?_;by_cases I1:n<1
 ·refine R4 @I1 ?_;refine Q1 ?_;refine aB rfl ?_ ?_;rotate_left;· intro h;simp at h
  intro _;refine K2 ?_;exact s7 [(b,R5 l p)] (j2 @Y2.eq_1 @I1)
 ·by_cases hle:l.length<=p
  ·refine R4 (j2 @I1 @hle) ?_;refine Q1 ?_;refine aB rfl ?_ ?_;rotate_left;· intro h;simp[hle]at h
   intro _;refine K2 ?_;have hg:l[p]? = none:=List.getElem?_eq_none hle;exact s7 [(b,R5 l p)] (j3 @Y2.eq_1 @I1 @hg)
  ·refine R4 (j2 @I1 @hle) ?_;refine Q1 ?_;refine aB rfl ?_ ?_;· intro h;simp[hle]at h
   intro _;obtain⟨x,hx⟩:∃x,l[p]? = some x:=⟨_,uB oO⟩;have hg:=zL hx;refine R4 @hg ?_;refine K2 ?_;refine U6 tT fun K hK=>?_;refine Z7 tT (CH0 x n oO dG) ?_;refine K4 ?_;clear hK K;exact s7 [(b,R5 l (p+1))] (j3 @Y2.eq_1 @I1 @hx)
end
end Go.Proofs.YtmilnfebjgkkcaaGreatDoor.Lift
