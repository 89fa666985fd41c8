import Derived.Test.YtmilnfebjgkkcaaGreatDoorQz4
set_option maxHeartbeats 8000000
set_option maxRecDepth 100000
set_option linter.all false
namespace Go.Proofs.YtmilnfebjgkkcaaGreatDoor.Lift
open DV renaming sl->KU
open Int renaming ofNat->gS
open List renaming append_assoc->yQ,cons_append->R6,drop_length->Uw,getElem?_eq_none->ja0,getElem?_map->cI,getElem?_take_of_lt->tX,length_append->mJ,length_map->fV,length_take->rX,map->Y3,map_nil->O5,mem_append->t6,mem_map->F9,mem_singleton->bM,nil_append->aT,replicate->wG
open MV renaming both->UC,le->Bb,list->UB,nle->cN,nles->u7,nles_mono->kY,Z3->PO,Q2->cY,Z4->UD
open Nat renaming add_zero->qI,zero_le->aH
open Option renaming isNone_none->bd0
open Tm renaming B0->J5,o0->W6,typeE->FQ,typedE->AW
open Tryz renaming func48->UA,func51->bg0,func55->bf0,prog->W0
open Ty renaming E0->P1,cells_eq->mK,mk->L0
open Val renaming E0->vZ,mk->dH
open Go
variable{a:T}{c d i:Nat}{full:List (List DV)}{l:List MV}{t:Tm}{v:MV}
section
def oS0{most:Nat}(hm:most<=1073741824)(H:lD W0 gl 53 most (cE d))(Ht:SJ W0 gl 156 most (cE d)):
  lD W0 gl 53 most (cE (d+1)):=by
 intro t e u v c b M h hu hM he;have hN:=RZ most d;have gM:=zx0 h;by_cases T4:u+1<=most;rotate_left
 ·have d7:¬u+c<=most:=oO;rw[wW d7,nW d7];exact zB0 hm t b hu T4
 rw[cE]at h;by_cases h1:t.o0=1
 ·rw[if_pos h1]at h;split at h
  ·rename_i hi;simp only[uC,uD]at h;obtain⟨rfl,rfl⟩:=h;exact zy0 hm t b hu h1 hi
  ·cases h
 rw[if_neg h1]at h;by_cases h2:t.o0=2
 ·rw[if_pos h2]at h;split at h;· cases h
  ·rename_i ha;simp only[uC,uD]at h;obtain⟨rfl,rfl⟩:=h;cases V2:t.B0 with
   | nil=>rw[V2]at ha;exact absurd rfl ha
   | cons body rest=>
    have:t.argN 0=body:=by simp[Tm.argN,V2]
    rw[this];exact zz0 hm t b hu h2 V2
 rw[if_neg h2]at h;split at h;· cases h
 rename_i h3;have h3:t.B0.length<=3:=oO;split at h;· cases h
 rename_i vs c1 u4;split at h;· cases h
 rename_i w c2 L6;simp only[uC,uD]at h;obtain⟨rfl,rfl⟩:=h;have e0:u+(1+c1+c2)=u+1+c1+c2:=oO;rw[e0];by_cases s4:u+1+c1<=most;rotate_left
 ·have d7:¬u+1+c1+c2<=most:=oO;rw[wW d7,nW d7];exact rJ0 hm H hN t b M hu hM he h3 h1 h2 u4 T4 s4
 unfold SI at L6;split at L6;rotate_left;· cases L6
 rename_i hk;unfold JW at L6;by_cases k3:t.o0=3
 ·rw[if_pos k3]at L6;split at L6;· exact wj0 hm H hN t b M hu hM he h3 k3 u4 T4 s4 L6
  ·cases L6
 rw[if_neg k3]at L6;by_cases k4:t.o0=4
 ·rw[if_pos k4]at L6;simp only[uC,uD]at L6;obtain⟨rfl,rfl⟩:=L6;rw[qI,nU s4,G6 s4,Gn];exact wk0 hm H hN t b M hu hM he h3 k4 u4 T4 s4
 rw[if_neg k4]at L6;by_cases k5:t.o0=5
 ·rw[if_pos k5]at L6;split at L6
  ·simp only[uC,uD]at L6;obtain⟨rfl,rfl⟩:=L6;rw[qI,nU s4,G6 s4,Gn];exact wm0 hm H hN t b M hu hM he h3 k5 u4 T4 s4
  ·cases L6
 rw[if_neg k5]at L6;by_cases k6:t.o0=6
 ·rw[if_pos k6]at L6;split at L6;· exact wo0 hm H hN t b M hu hM he h3 k6 u4 T4 s4 L6
  ·cases L6
 rw[if_neg k6]at L6;by_cases k7:t.o0=7
 ·rw[if_pos k7]at L6;simp only[uC,uD]at L6;obtain⟨rfl,rfl⟩:=L6;rw[qI,nU s4,G6 s4,LQ];exact wp0 hm H hN t b M hu hM he h3 k7 u4 T4 s4
 rw[if_neg k7]at L6;by_cases k8:t.o0=8
 ·rw[if_pos k8]at L6;split at L6
  ·simp only[uC,uD]at L6;obtain⟨rfl,rfl⟩:=L6;rw[qI,nU s4,G6 s4,LQ];exact wr0 hm H hN t b M hu hM he h3 k8 u4 T4 s4
  ·cases L6
 rw[if_neg k8]at L6;by_cases k9:t.o0=9
 ·rw[if_pos k9]at L6;split at L6;· exact wq0 hm H hN Ht t b M hu hM he h3 k9 u4 T4 s4 L6
  ·cases L6
 rw[if_neg k9]at L6;by_cases k10:t.o0=10
 ·rw[if_pos k10]at L6;split at L6
  ·simp only[uC,uD]at L6;obtain⟨rfl,rfl⟩:=L6;rw[qI,nU s4,G6 s4,VT];exact rN0 hm H hN t b M hu hM he h3 k10 u4 T4 s4
  ·cases L6
 rw[if_neg k10]at L6;by_cases k11:t.o0=11
 ·rw[if_pos k11]at L6;split at L6
  ·simp only[uC,uD]at L6;obtain⟨rfl,rfl⟩:=L6;rw[qI,nU s4,G6 s4];exact rK0 hm H hN t b M hu hM he h3 k11 u4 T4 s4
  ·cases L6
 rw[if_neg k11]at L6;by_cases Zx:t.o0=12
 ·rw[if_pos Zx]at L6;split at L6
  ·simp only[uC,uD]at L6;obtain⟨rfl,rfl⟩:=L6;rw[qI,nU s4,G6 s4];exact rL0 hm H hN t b M hu hM he h3 Zx u4 T4 s4
  ·cases L6
 rw[if_neg Zx]at L6;have k13:t.o0=13:=oO;simp only[uC,uD]at L6;obtain⟨rfl,rfl⟩:=L6;rw[qI,nU s4,G6 s4,oQ0];exact rM0 hm H hN t b M hu hM he h3 k13 u4 T4 s4
theorem Wu{most:Nat}(hm:most<=1073741824)(Ht:∀ev,lD W0 gl 53 most ev->iX most ev->SJ W0 gl 156 most ev) :
  ∀d,lD W0 gl 53 most (cE d)
 | 0=>by intro t e u v c b M h;cases h
 | d+1=>oS0 hm (Wu hm Ht d) (Ht _ (Wu hm Ht d) (RZ most d))
def rO0{E:Nat}(hE:∀e∈full,e.length=E){e:List DV}(h:full[i]? = some e):bZ (((C4 full).drop (i * E)).take E)=some e:=by
 have he:=hE e (uE h);have h1:((C4 full).drop (i * E)).take E=e.map SV.v:=by
  apply List.ext_getElem?;intro j;by_cases hj:j<E
  ·rw[tX hj,List.getElem?_drop];have hje:e[j]? = some (e[j]'oO):=uB oO;simp only[C4,cI,LO hE h hje,hje]
  ·rw[ja0 (by simp;omega),ja0 (by simp;omega)]
 rw[h1];exact sD0 e
theorem oT0(d:Nat)(ys:List (List DV)):eH d (C4 ys)=false:=dK0 d _
attribute [go_sem] oT0
def ws0(σ:Nat->Nat)(l:List DV):lX σ (l.map SV.v) (l.map SV.v):=by
 induction l with
 | nil=>simp[lX]
 | cons x r ih=>simp[lX,nC,ih]
def Rb(σ:Nat->Nat)(ys:List (List DV)):lX σ (C4 ys) (C4 ys):=ws0 σ _
def nA:List T->Nat
 | []=>0
 | a::r=>a.size+nA r
def b30(l r:List T):nA (l++r)=nA l+nA r:=by
 induction l with
 | nil=>simp[nA]
 | cons a l ih=>simp[nA,ih];omega
def wt0(a:T):1<=a.size:=by cases a <;> simp only[T.size] <;> omega
def d80(l:List T):l.length<=nA l:=by
 induction l with
 | nil=>simp[nA]
 | cons a l ih=>have:=wt0 a;simp only[nA,List.length_cons];omega
def T.parts:T->List T
 | .pair a b=>[a,b]
 | _=>[]
theorem oU0(a:T)(h:a.plain):nA a.parts+1=a.size:=by
 cases a with
 | pair a b=>simp only[T.parts,nA,T.size];omega
 | fn a b=>exact h.elim
 | _=>rfl
def mC0(a:T)(h:a.plain):∀x∈a.parts,x.plain:=by
 cases a with
 | pair a b=>intro x hx;simp[T.parts]at hx;rcases hx with rfl|rfl;exact h.1;exact h.2
 | fn a b=>exact h.elim
 | _=>intro x hx;simp[T.parts]at hx
theorem oV0(a:T)(h:a.plain):a.ty.B0.map P1=a.parts.map fun x=>x.ty.E0:=by
 cases a with
 | fn a b=>exact h.elim
 | _=>rfl
def rP0(a:T):a.parts.length<=2:=by cases a <;> simp[T.parts]
def oW0(a:T)(h:a.plain):¬a.ty.o0=4:=by
 cases a with
 | fn a b=>exact h.elim
 | _=>simp[T.ty,Ty.o0]
def lC(l:List T):List (List DV):=l.map fun x=>x.ty.E0
def oX0(l:List T):(lC l).length=l.length:=by simp[lC]
def dj0(l:List T):∀e∈lC l,e.length=2:=by
 intro e he;simp only[lC,F9]at he;obtain⟨x,-,rfl⟩:=he;exact Ty.length_cells _
def d90{init parts:List T}(h:full.take init.length=lC init)(rest:List (List DV)):(full.take init.length++lC parts++rest).take (init++parts).length=lC (init++parts):=by
 rw[h];have e:lC init++lC parts=lC (init++parts):=by simp[lC]
 rw[e];exact List.take_left' (oX0 _)
def eQ0{n:Nat}{zs rest:List (List DV)}(h:∀e∈full,e.length=2)(h1:∀e∈zs,e.length=2)(h2:∀e∈rest,e.length=2):∀e∈full.take n++zs++rest,e.length=2:=by
 intro e he;rcases t6.1 he with he|he
 ·rcases t6.1 he with he|he;· exact h e (List.mem_of_mem_take he)
  ·exact h1 e he
 ·exact h2 e he
def CV0{α:Type}{X:Ctx}{k kk:List Item}{s:St}(E:α->Prop)(S:α->St)(h1:(∀x,E x->W X kk (S x))->W X k s)(h2:∀x,E x->W X kk (S x)):W X k s:=h1 h2
def oY0(a0:T)(lL:a0.plain)(bK:a0.size<=1000000)(b0 lp:Nat)(r:Loop)(kT:r.params.size=1) :
  NE W0 gl 242 [.K0 (.func (.yield lp) #[] #[]),M3 b0] [(b0,a0.ty.E0)] lp r (fun D0 w0=>∀a:T,a.plain->YC W0 gl D0 w0 lp r [a.ty.dv] [] fun b I2 r'=>b=true/\I2=[]/\r' = r) (fun I2 r'=>I2=[(b0,a0.ty.E0)]/\r' = r):=by
 refine Wh Tryz.func242 rfl kK (uF rfl) ?_;intro X hP G0 hf X0 hn t9 K1 G1 HL hY;have o8:¬lp=b0:=by simpa using HL
 have mG:¬b0=lp:=fun e=>o8 e.symm;simp only[GH,entry,bA,U3,List.map_cons,O5,R6,aT];have n8:=mK a0.ty;refine Q1 ?_;refine O9 [6] fun K hK=>?_;simp[go_sem,hP,G0,hn,o8,mG,n8];refine vK0 (E:=2) (els:=[[j0 a0.ty.o0,.sl (a0.ty.B0.map P1)]]) (by simp[go_sem,hP];rfl) sH ⟨rfl,dD⟩ nN (by rfl) ?_;intro b hb hw;simp[go_sem]at hb;simp[go_sem,hP,G0,hn,o8,mG,hb];repeat (refine⟨oO,?_⟩)
 refine hK _ ?_;clear hK K;have V8:¬b=lp:=fun e=>hb.1 e.symm;have Z8:¬b=b0:=fun e=>hb.2 e.symm;refine Q1 ?_
 refine aM [] sG (by simp[go_sem,V8,Z8,hb,o8,mG,lC,n8,Rb]) sG (mQ
  (fun x:Nat × Nat × List (List DV) × List T=>x.2.2.1.length=x.2.1/\(∀e∈x.2.2.1,e.length=2)/\x.2.2.1.take x.2.2.2.length=lC x.2.2.2/\x.2.2.2.length<=x.2.1/\(∀a∈x.2.2.2,a.plain)/\nA x.2.2.2<=1000000/\¬x.1=lp/\¬x.1=b0)
  (fun x=>[(.P0 0,.one (.v (.K0 (.func (.yield lp) #[] #[])))),(.P0 1,.one (.v (M3 b0))),(.P0 3,.one (.v (iV x.1 x.2.2.2.length x.2.1))),(.heap lp,.ob r),(.heap b0,.row (tM a0.ty)),(.heap x.1,.row (C4 x.2.2.1))])
  (fun x=>nA x.2.2.2) (b,1,lC [a0],[a0]) ⟨rfl,dj0 _,rfl,Nat.le_refl _,by simpa using lL,by simpa [nA] using bK,V8,Z8⟩ ?_)
 clear hb V8 Z8 b hw;rintro⟨b,cap,full,rest⟩ ⟨i1,i2,i3,i4,i5,i6,i7,i8⟩ ih;simp only at i1 i2 i3 i4 i5 i6 i7 i8;have AN:¬lp=b:=fun e=>i7 e.symm;have Ao:¬b0=b:=fun e=>i8 e.symm;rcases List.eq_nil_or_concat rest with rfl|⟨init,a,Q3⟩
 ·refine R4 (j6 @o8 @mG @i7 @i8 @AN @Ao) ?_;refine Z6 ?_;refine Q1 ?_;refine MI t9 (φ:=[(b0,a0.ty.E0)]) (q:=r) (r:=.H1 []) (by rw[hP,hf,X0];exact Tryz.func242) (by rw[X0];simp[go_sem]) (cZ ?_ (by simp[v7])) sS ?_ ⟨rfl,rfl⟩ Ml;· simp[go_sem,o8,mG,i7,i8,AN,Ao,n8]
  ·simp[go_sem,o8,mG,i7,i8,AN,Ao]
 ·rw[List.concat_eq_append]at Q3;subst Q3;have ha:=i5 a sS;have Fo:(init++[a]).length=init.length+1:=sS;have hls:=d80 (init++[a]);rw[Fo]at hls i3 i4;rw[Fo];have d7:init.length+1<=M5:=by unfold M5;omega
  have Q6:full[init.length]? = some a.ty.E0:=by
   have h1:(full.take (init.length+1))[init.length]? = some a.ty.E0:=by rw[i3];simp[lC]
   rw[tX oO]at h1;exact h1
  have oI:=rO0 i2 Q6;rw[mK a.ty]at oI;have GH0:=oU0 a ha;have K9:=rP0 a;have V2:=oV0 a ha;have P6:=b30 init [a];have GN0:=b30 init a.parts;simp only[nA]at P6;have Gm0:=d80 (init++a.parts);rw[mJ]at Gm0;have aG:=Ty.fold a.ty;have htr:lC a.parts=a.ty.B0.map P1:=V2.symm;have BS:(C4 full).length=cap * 2:=by rw[sK i2,i1]
  refine R4 (j7 @d7 @o8 @mG @i7 @i8 @AN @Ao) ?_;refine sZ ?_;have I1:((init.length:Nat):Int)<(init.length:Nat)+1:=oO;refine R4 (j8 @d7 @o8 @mG @i7 @i8 @AN @Ao @oI) ?_;have M7:init.length+(a.ty.B0.map P1).length<=M5:=by
   rw[V2,fV];unfold M5;omega
  have ZZ:∀e∈a.ty.B0.map P1,e.length=2:=by rw[V2];exact dj0 a.parts
  have pX:(a.ty.B0.map P1).length=a.parts.length:=by rw[V2,fV]
  have J8:(init++a.parts).length=init.length+a.parts.length:=mJ;have ho0:full.take init.length=lC init:=by
   have h1:(full.take (init.length+1)).take init.length=(lC (init++[a])).take init.length:=by rw[i3]
   rw[List.take_take,Nat.min_eq_left oO]at h1;rw[h1];simp[lC]
  generalize a.ty.B0.map P1=zs at *
  apply CV0 (fun x:Nat × Nat × List (List DV)=>x.2.2.length=x.2.1/\(∀e∈x.2.2,e.length=2)/\x.2.2.take (init++a.parts).length=lC (init++a.parts)/\(init++a.parts).length<=x.2.1/\¬x.1=lp/\¬x.1=b0)
   (fun x=>[(.P0 0,.one (.v (.K0 (.func (.yield lp) #[] #[])))),(.P0 1,.one (.v (M3 b0))),(.P0 3,.one (.v (iV x.1 (init++a.parts).length x.2.1))),(.P0 4,.one (.loc 4 0)),(.loc 4,.row [.v (j0 a.ty.o0),.v (.sl zs)]),(.heap lp,.ob r),(.heap b0,.row (tM a0.ty)),(.heap x.1,.row (C4 x.2.2))])
  ·intro Q3;refine Q1 ?_;refine CL0 (by rw[hP];exact kO) 7 ?_ ?_ [] [23] fun K hK=>?_;· decide
   ·rfl
   simp[go_sem,hP,G0,hn,d7,o8,mG,i7,i8,AN,Ao,oI];repeat (refine⟨oO,?_⟩)
   refine⟨by rfl,?_⟩;refine cn0 (E:=2) (B:=32) (b:=b) (n:=init.length) (cap:=cap) (full:=full) (zs:=zs) (zd:=[j0 0,.sl []]) sH sH (by simp[go_sem,o8,mG,i7,i8,AN,Ao]) (by simp[go_sem,hP]) (by rw[hP];kernel_rfl) rfl ⟨dD,dD⟩ (by rw[hP];rfl) nN i1 oO M7 i2 ZZ rfl ?_ ?_
   ·intro hle;simp[go_sem,hP,G0,hn,o8,mG,i7,i8,AN,Ao];refine hK _ ?_;clear hK K;rw[pX]at hle;have q1:(full.take init.length++zs++full.drop (init.length+zs.length)).length=cap:=by
     simp only[mJ,rX,List.length_drop,i1,pX];omega
    have q2:=eQ0 (n:=init.length) i2 ZZ (rest:=full.drop (init.length+zs.length)) fun e he=>i2 e (List.mem_of_mem_drop he);have q3:=d90 (parts:=a.parts) ho0 (full.drop (init.length+zs.length));rw[htr]at q3;have q4:(init++a.parts).length<=cap:=by rw[J8];exact hle
    have q5:init.length+zs.length=(init++a.parts).length:=by rw[J8,pX]
    have bU:=Q3 (b,cap,_) ⟨q1,q2,q3,q4,i7,i8⟩;simp only at bU;rw[<- q5]at bU;rw[yQ]at bU;generalize full.take init.length++(zs++full.drop (init.length+zs.length))=fl at *;refine m5 ?_;refine G2 [] (j7 @o8 @mG @i7 @i8 @AN @Ao @Rb) bU
   ·intro I1 b' s8 hc X2 hw';simp[go_sem]at X2;simp[go_sem,hP,G0,hn,o8,mG,i7,i8,AN,Ao,X2];refine hK _ ?_;clear hK K;have k1:¬b' = lp:=fun e=>X2.1 e.symm;have k2:¬b' = b0:=fun e=>X2.2.1 e.symm;have k3:¬b=b':=fun e=>X2.2.2 e;have q1:(full.take init.length++zs++wG (s8 - (init.length+zs.length)) [j0 0,KU []]).length=s8:=by
     simp only[mJ,rX,List.length_replicate,i1];omega
    have q2:=eQ0 (n:=init.length) i2 ZZ (rest:=wG (s8 - (init.length+zs.length)) [j0 0,KU []]) fun e he=>by rw[(List.mem_replicate.1 he).2];rfl
    have q3:=d90 (parts:=a.parts) ho0 (wG (s8 - (init.length+zs.length)) [j0 0,KU []]);rw[htr]at q3;have q5:init.length+zs.length=(init++a.parts).length:=by rw[J8,pX]
    have q4:(init++a.parts).length<=s8:=by rw[<- q5];exact hc
    have bU:=Q3 (b',s8,_) ⟨q1,q2,q3,q4,k1,k2⟩;simp only at bU;rw[<- q5]at bU;rw[yQ]at bU;generalize full.take init.length++(zs++wG (s8 - (init.length+zs.length)) [j0 0,KU []])=fl at *;refine m5 ?_;refine G2 [] (j8 @o8 @mG @i7 @i8 @AN @Ao @X2 (j4 @k1 @k2 @k3 @Rb)) bU
  ·rintro⟨b',s8,gX0⟩ ⟨w1,w2,w3,w4,w5,w6⟩;simp only at w1 w2 w3 w4 w5 w6 ⊢;have OQ:¬lp=b':=fun e=>w5 e.symm;have Ou:¬b0=b':=fun e=>w6 e.symm;have w7:∀x∈init++a.parts,x.plain:=by
    intro x hx;rcases t6.1 hx with hx|hx;· exact i5 x (by simp[hx])
    ·exact mC0 a ha x hx
   have w8:nA (init++a.parts)<=1000000:=oO;have w9:nA (init++a.parts)<nA (init++[a]):=oO;have bU:=ih (b',s8,gX0,init++a.parts) ⟨w1,w2,w3,w4,w7,w8,w5,w6⟩ w9;simp only at bU;generalize hnn:(init++a.parts).length=nn at *;refine U6 (j7 @o8 @mG @w5 @w6 @OQ @Ou @aG) fun K hK=>?_;repeat (refine⟨oO,?_⟩)
   refine VF sG hP G0 (hY a ha) kT (by simp[go_sem,o8,mG,w5,w6,OQ,Ou,aG]) rfl (by simp[v7]) sS (by simp[go_sem,o8,mG,w5,w6,OQ,Ou]) nN [(.P0 0,.one (.v (.K0 (.func (.yield lp) #[] #[])))),(.P0 1,.one (.v (M3 b0))),(.P0 3,.one (.v (iV b' nn s8))),(.heap b0,.row (tM a0.ty)),(.heap b',.row (C4 gX0))] ?_ ?_ ?_
   ·intro m v h;simp only[List.mem_cons,List.not_mem_nil,or_false,uD]at h;rcases h with⟨rfl,rfl⟩|⟨rfl,rfl⟩|⟨rfl,rfl⟩|⟨rfl,rfl⟩|⟨rfl,rfl⟩ <;> simp[go_sem,o8,mG,w5,w6,OQ,Ou]
   ·rintro _ _ _ ⟨rfl,rfl,rfl⟩;simp
   ·rintro _ _ _ ⟨rfl,rfl,rfl⟩ -;simp only[R6,aT];simp[go_sem,hP,G0,hn];refine K4 ?_;clear hK K;refine Z6 ?_;refine m5 ?_;refine G2 [] (j7 @o8 @mG @w5 @w6 @OQ @Ou @Rb) bU
def kJ0(a:T):lF W0 gl 152 [a.ty.dv] [] fun r φ=>∃b,r = .K0 (.func (.func 242) #[] #[.pointer (some ⟨b,0,none⟩)])/\φ=[(b,a.ty.E0)]:=by
 have n8:=mK a.ty;refine H2 Tryz.func152 ?_;intro X hP G0 hf X0 hn hR K1 G1;refine K2 ?_;refine fG 1 (by simp[go_sem];rfl) ?_;intro b hb;simp[go_sem];refine K2 ?_;refine Q1 ?_;refine gA hP hf X0 (.K0 (.func (.func 242) #[] #[.pointer (some ⟨b,0,none⟩)])) [(b,a.ty.E0)] sH (by simp[go_sem,n8]) sS (by rw[hR.1];exact⟨b,rfl,rfl⟩) hR.2
def rQ0(a:T)(hp:a.plain)(ho:a.ok):cU 52 [a.ty.dv] (.H1 [O2 true,j0 0]):=by
 have hs:a.size<=64:=ho;have hc:=T.ty_count a;have h0:a.ty.L4=0:=(Ty.checkN_iff _).2 (T.ok_ty ho);have wc:=US a.ty oO;rw[h0]at wc;have n8:=mK a.ty;refine H2 Tryz.func52 ?_;intro X hP G0 hf X0 hn hR K1 G1;refine V3 H0 (M0 wc) ?_;refine U6 tT fun K hK=>?_;repeat (refine⟨oO,?_⟩)
 refine IV hP G0 (kJ0 a) sG rfl sG sS nN ?_;rintro r ψ ⟨b0,rfl,rfl⟩ -;simp[go_sem];refine K4 ?_;clear hK K;refine Q1 ?_;refine Vn hR.2 (f:=242) (fi:=#[]) (ca:=#[.pointer (some ⟨b0,0,none⟩)]) sG (by simp[aY]) (φ:=[(b0,a.ty.E0)]) ?_ ?_ (Y:=fun lp r D0 w0=>∀x:T,x.plain->YC X.P X.gl D0 w0 lp r [x.ty.dv] [] fun b I2 r'=>b=true/\I2=[]/\r' = r) (R:=fun I2 r'=>I2=[(b0,a.ty.E0)]/\r'.state = .ready/\r'.pending=none) (SL:=[]) ?_ ?_ ?_ ?_ ?_;· exact cZ (by simp[go_sem,n8]) (by simp[v7])
 ·simp
 ·intro n x h;cases h
 ·intro lp r h1 h2 h3 h4;have:=oY0 a hp oO b0 lp r (by rw[h3];rfl);rw[hP,G0];refine⟨this.1,fun D w vs a1 a2 a3 a4 a5 a6=>(this.2 D w vs a1 a2 a3 a4 a5 a6).mono ?_⟩;rintro e w' ⟨v1,D',I2,r',rfl,NQ,rest⟩;refine⟨v1,D',I2,r',rfl,?_,rest⟩;obtain⟨rfl,rfl⟩:=NQ;exact⟨rfl,h1,h2⟩
 ·intro lp r D0 w0 h1 h2 h3 h4 h5 h6 h7 h8 h9 x hx;rw[hP,G0];refine WH X.n h5 h9 h1 (by rw[h3];rfl) (by rw[h3,hn];decide) (by rw[h3];decide) (by rw[h3];simp) ?_;intro X' Ic OI Fp pV AA oR L8 hY0;rw[h3,h6,h7];rw[hn]at pV;clear hP G0 hn;have hP:=Ic;have G0:=OI;have hn:=pV;have hk:=oW0 x hx;simp only[CQ,h3,EH,EB,U3,R6,aT,O5];refine K2 ?_;refine RQ (r:=r) (l:=lp) (by simp[Ctx.rd,AA]) sG h1 ?_;simp[go_sem];refine K2 ?_;refine Q1 ?_;refine aB rfl ?_ ?_;· intro h;exact absurd (by simpa using h) hk
  intro _;refine Q1 ?_;refine MJ AA (φ:=[]) (by simp[v7]) sS sG none rfl ?_;simp only[bd0,true_and];cases r;simp only[xK]at h1 h2 ⊢;subst h1 h2;rfl
 ·rintro I2 r' ⟨-,h,-⟩;rw[h];simp
 ·rintro I2 r' ⟨rfl,-,h⟩ -;rw[h];simp[go_sem];refine K2 ?_;exact rF
def dk0(n:Nat):(PO n).Q2 = .iface 3 (j0 (n:Int)):=by rw[cY]
def cy0(l:List Nat):(UB l).Q2 = .iface 194 (n9 l):=by rw[cY]
def cz0(a b:MV):(UC a b).Q2 = .iface 200 (.ref [a.Q2,b.Q2]):=by rw[cY]
def cA0:UD.Q2 = .iface 204 (.agg []):=by rw[cY]
def ls0(n:Nat):cU 55 [(PO n).Q2] (dH 1 (n:Nat) [] []).dv:=by
 rw[dk0];exact G7 bf0 H0 H0
def k30:cU 55 [UD.Q2] (dH 4 0 [] []).dv:=by
 rw[cA0];exact G7 bf0 H0 H0
def rR0(l:List Nat)(n:Nat):P2 (Y3 gS l)++[[j0 (n:Int)]]=P2 (Y3 gS (l++[n])):=by simp[P2]
def k40(l:List Nat)(hl:l.length<=1073741824):cU 55 [(UB l).Q2] (dH 2 0 (Y3 gS l) []).dv:=by
 rw[cy0];refine A3 bf0 fun X zX=>?_;refine N2 ?_;refine Q1 ?_;refine G2 [(1005,0)] @P2.eq_1 (mQ (fun x:List Nat × List Nat=>x.1++x.2=l) (fun x:List Nat × List Nat=>[sV 4 (n9 x.2),sP 5,sL 5 [.v (j0 2),.v (j0 0),.own 1005 (P2 (x.1.map gS)),.own 0 []],(.tok 1005,.tk 1 x.1.length),sP 2,sL 2 [.v (j0 0),.v (j0 0),.own 0 [],.own 0 []]]) (fun x:List Nat × List Nat=>x.2.length) (([]:List Nat),l) (rfl) ?_);rintro⟨ds,q⟩ hq ih;simp only at hq;have hql:ds.length+q.length=l.length:=by rw[<- hq];simp
 cases q with
 | nil=>
  have gJ:=Ra;rw[gJ];have c8:ds=l:=by rw[<- hq];simp
  subst c8;refine T7 ?_;exact P4 H0 H0
 | cons n q=>
  have gJ:=LR n q;have TN:=rR0 ds n;have Fs:∀e:List DV,e∈P2 (Y3 gS ds)->e.length=1:=by intro e he;simp only[P2,F9]at he;obtain⟨x,-,rfl⟩:=he;rfl
  have gQ:(P2 (Y3 gS ds)).length=ds.length:=by simp[P2]
  have bT:ds.length<=2147483647:=by simp at hql;omega
  have e2:(ds++[n])++q=l:=by rw[<- hq];simp
  have e3:q.length<(n::q).length:=sS;have fU:(ds++[n]).length=ds.length+1:=sS;have hl3:(P2 (Y3 gS (ds++[n]))).length=ds.length+1:=by simp[P2]
  have HZ:=ih (ds++[n],q) e2 e3;rw[<- TN]at HZ;simp only[fU]at HZ;rw[gJ];generalize P2 (Y3 gS ds)=L at *;refine K5 ?_;refine R4 (j3 @bT @Fs @gQ) ?_;refine K2 ?_;refine m5 ?_;refine G2 [(1005,30)] @gQ HZ
def k50(a b:T)(x y:MV)(v w:Val)(h1:cU 55 [x.Q2] v.dv)(h2:cU 55 [y.Q2] w.dv) :
  cU 55 [(UC x y).Q2] (dH 3 0 [] [v,w]).dv:=by
 rw[cz0];exact G7 bf0 H0 (P3 h1 h2)
theorem UJ:∀(a:T) (x:a.V),a.plain->(oH a x).nle 1073741824->cU 55 [(oH a x).Q2] (bB a x).dv
 | .C0,n,_,_=>ls0 n
 | .list,l,_,h=>k40 l (by simp only[oH,cN]at h;exact h.1)
 | .Z4,_,_,_=>k30
 | .pair a b,p,hp,h=>by
  simp only[oH,cN]at h;exact k50 a b _ _ _ _ (UJ a p.1 hp.1 h.1) (UJ b p.2 hp.2 h.2)
 | .fn _ _,_,hp,_=>hp.elim
def mD0(n:Nat):cU 51 [(dH 1 (n:Nat) [] []).dv] (PO n).Q2:=by
 rw[dk0];exact B2 bg0 H0 H0
def lt0:cU 51 [(dH 4 0 [] []).dv] UD.Q2:=by
 rw[cA0];exact B2 bg0 H0 H0
def lu0(x y:MV)(v w:Val)(h1:cU 51 [v.dv] x.Q2)(h2:cU 51 [w.dv] y.Q2) :
  cU 51 [(dH 3 0 [] [v,w]).dv] (UC x y).Q2:=by
 rw[cz0];have fv:=Val.fold v;have fw:=Val.fold w;have lv:=Val.length_cells v;have lw:=Val.length_cells w;refine H2 bg0 ?_;intro X hP G0 hf X0 hn hR K1 G1;refine N2 ?_;refine Q1 ?_;refine xB (by rw[hP];exact kO) [34] fun K hK=>?_;simp[go_sem,hP,G0,hn,fv,fw,lv,lw];refine Z7 (j2 @fv @fw) (h1) ?_;refine Z7 (j2 @fv @fw) (h2) ?_;refine Wt (cs:=[x.Q2,y.Q2]) (y:=.ag [x.Q2,y.Q2] []) (fun _ _=>iN) sH sG sG nN (by rfl) ?_;simp[go_sem,hP,G0,hn];refine K4 ?_;clear hK K;exact rF
def lv0(l:List Nat):cU 51 [(dH 2 0 (Y3 gS l) []).dv] (UB l).Q2:=by
 rw[cy0];have AB:(Y3 gS l).length=l.length:=sS;refine H2 bg0 ?_;intro X hP G0 hf X0 hn hR K1 G1;have fU:=Val.fit_list (G1 (dH 2 0 (Y3 gS l) []).dv sS);rw[show (dH 2 0 (Y3 gS l) []).list=Y3 gS l from rfl]at fU;refine N2 ?_;refine U6 tT fun K hK=>?_;repeat (refine⟨oO,?_⟩)
 refine IV hP G0 (mk0 (Y3 gS l)) sG rfl sG sS nN ?_;rintro r ψ ⟨b0,rfl,rfl⟩ -;simp[go_sem];refine K4 ?_;clear hK K;refine Q1 ?_;refine fG 3 (by simp[go_sem];rfl) ?_;intro b3 hb;simp[go_sem]at hb ⊢;have X2:b0≠b3:=hb
 let Φ:Nat->G3:=fun i=>[(b3,[n9 (l.drop i)])]
 have Ga0:n9 (l.drop l.length)=Nw:=by rw[Uw];rfl
 refine Vn hR.2 (f:=240) (fi:=#[]) (ca:=#[.pointer (some ⟨b0,0,none⟩)]) sG (by simp[aY]) (φ:=(b0,[.sl (P2 (Y3 gS l))])::Φ l.length) ?_ ?_ (Y:=gD0 X.P X.gl (Y3 gS l) Φ (fun _ _=>False)) (R:=fun I2 r'=>I2=(b0,[.sl (P2 (Y3 gS l))])::Φ 0/\r'.state = .ready/\r'.pending=none) (SL:=[(3,M3 b3)]) ?_ ?_ ?_ ?_ ?_
 ·refine cZ sG (cZ ?_ (by simp[v7]));simp only[Ga0];simp[go_sem,X2]
 ·simp[Φ,X2]
 ·intro n x h;simp only[bM,uD]at h;obtain⟨rfl,rfl⟩:=h;simp[go_sem]
 ·intro lp r h1 h2 h3 h4;have:=rb0 (Y3 gS l) oO b0 Φ (fun _=>rfl) (by simp[Φ]) (by simp[Φ];exact X2) (Stop:=fun _ _=>False) (fun _ _ h=>h.elim) lp r (by rw[h3];rfl);rw[AB]at this;rw[hP,G0];refine⟨this.1,fun D w vs a1 a2 a3 a4 a5 a6=>(this.2 D w vs a1 a2 a3 a4 a5 a6).mono ?_⟩;rintro e w' ⟨v1,D',I2,r',rfl,NQ,rest⟩;refine⟨v1,D',I2,r',rfl,?_,rest⟩;rcases NQ with⟨rfl,rfl⟩|⟨ψ,-,h⟩;· exact⟨rfl,h1,h2⟩
  ·exact h.elim
 ·intro lp r D0 w0 h1 h2 h3 h4 h5 h6 h7 h8 h9 i x hx;rw[hP,G0];refine WH X.n h5 h9 h1 (by rw[h3];rfl) (by rw[h3,hn];decide) (by rw[h3];decide) (by rw[h3];simp) ?_;intro X' Ic OI Fp pV AA oR L8 hY0;rw[h3,h6,h7]
  obtain⟨n,rfl,F80⟩:∃n:Nat,x=gS n/\l.drop i=n::l.drop (i+1):=by
   obtain⟨hi,hxx⟩:=uA hx;have s9:i<l.length:=by simpa using hi
   refine⟨l[i],?_,List.drop_eq_getElem_cons s9⟩;rw[<- hxx];simp
  rw[hn]at pV;clear hP G0 hn;have hP:=Ic;have G0:=OI;have hn:=pV;have BQ:lp≠b3:=by simpa [Φ] using L8
  have gJ:=LR n (l.drop (i+1));simp only[CQ,Φ,h3,EH,EB,U3,R6,aT];refine R4 @BQ ?_;refine RQ (r:=r) (l:=lp) (by simp[Ctx.rd,AA]) sG h1 ?_;simp[go_sem,BQ,BQ.symm];refine Q1 ?_;refine O9 [18] fun K hK=>?_;simp[go_sem,hP,G0,hn,BQ,BQ.symm];refine WV (cs:=[j0 (n:Int),n9 (l.drop (i+1))]) (y:=.ag [j0 (n:Int),n9 (l.drop (i+1))] []) sH sG sG nN (by rfl) ?_;simp[go_sem,hP,G0,hn,BQ,BQ.symm];refine K4 ?_;clear hK K;refine Q1 ?_;refine MJ AA (φ:=Φ i) ?_ (by simp[Φ]) (by simp[go_sem,BQ.symm]) none rfl ?_
  ·refine cZ ?_ (by simp[v7]);rw[F80,gJ];simp[go_sem,BQ,BQ.symm]
  ·simp only[bd0,if_true,true_and];cases r;simp only[xK]at h1 h2 ⊢;subst h1 h2;rfl
 ·rintro I2 r' ⟨-,h,-⟩;rw[h];simp
 ·rintro I2 r' ⟨rfl,-,h⟩ -;rw[h];simp[go_sem,Φ,X2,X2.symm];refine R4 @X2 ?_;exact rF
theorem UO:∀(a:T) (x:a.V),a.plain->cU 51 [(bB a x).dv] (oH a x).Q2
 | .C0,n,_=>mD0 n
 | .list,l,_=>lv0 l
 | .Z4,_,_=>lt0
 | .pair a b,p,hp=>lu0 _ _ _ _ (UO a p.1 hp.1) (UO b p.2 hp.2)
 | .fn _ _,_,hp=>hp.elim
def Tl:(a:T)->MV->a.V->Prop
 | .C0,v,n=>v = .Z3 n
 | .list,v,l=>v = .list l
 | .Z4,v,_=>v = .Z4
 | .pair a b,v,p=>∃x y,v = .both x y/\Tl a x p.1/\Tl b y p.2
 | .fn a b,v,f=>∃body e,v = .m6 body e/\∀(x:MV) (y:a.V),Tl a x y->∃(r:MV) (c d0:Nat),(∀d,d0<=d->cE d body (x::e)=some (r,c))/\Tl b r (f y)
def NG:(Γ:List T)->List MV->Q0 Γ->Prop
 | [],e,_=>e=[]
 | a::Γ,e,ρ=>∃x r,e=x::r/\Tl a x ρ.1/\NG Γ r ρ.2
def NG.get{Γ:List T}{p:Q0 Γ->a.V}(h:At Γ i a p):∀{e:List MV} {ρ:Q0 Γ},NG Γ e ρ->i<e.length/\Tl a (e.getD i .Z4) (p ρ):=by
 induction h with
 | zero=>rintro e ρ ⟨x,r,rfl,h1,h2⟩;exact⟨sS,h1⟩
 | succ h ih=>
  rintro e ρ ⟨x,r,rfl,h1,h2⟩;obtain⟨k1,k2⟩:=ih h2;exact⟨by simpa using k1,by simpa using k2⟩
def Gy{b:T}{f:MV}{F:(T.fn a b).V}(hf:Tl (.fn a b) f F){x:MV}{X:a.V}(hx:Tl a x X):∃(v:MV) (c d0:Nat),Tl b v (F X)/\∀d,d0<=d->∀(l:List MV) (w:MV) (c':Nat),iR (cE d) v l=some (w,c')->iR (cE d) f (x::l)=some (w,c+c'):=by
 obtain⟨body,e,rfl,hb⟩:=hf;obtain⟨r,c,d0,h1,h2⟩:=hb x X hx;refine⟨r,c,d0,h2,fun d hd l w c' h=>?_⟩;simp only[iR,h1 d hd,h]
def RC(ev:U9)(v:MV):iR ev v []=some (v,0):=by cases v <;> rfl
theorem gf0{a:T}{f:MV}{F:(T.fn .C0 (.fn a a)).V}(hf:Tl (.fn .C0 (.fn a a)) f F):∀(n k:Nat) {r:MV} {R:a.V},Tl a r R->∃(w:MV) (c d0:Nat),(∀d,d0<=d->xS (cE d) f n k r=some (w,c))/\Tl a w ((List.range' k n).foldl (fun r i=>F i r) R)
 | 0,k,r,R,hr=>⟨r,0,0,fun d _=>rfl,hr⟩
 | n+1,k,r,R,hr=>by
  obtain⟨v,c1,d1,hv,h1⟩:=Gy hf (show Tl .C0 (.Z3 k) k from rfl);obtain⟨u,c2,d2,hu,h2⟩:=Gy hv hr;obtain⟨w,c3,d3,h3,hw⟩:=gf0 hf n (k+1) hu;refine⟨w,c1+(c2+0)+c3,max d1 (max d2 d3),fun d hd=>?_,hw⟩;have e1:iR (cE d) f [.Z3 k,r]=some (u,c1+(c2+0)):=h1 d oO [r] u _ (h2 d oO [] u 0 (RC _ _));simp only[xS,e1,h3 d oO]
theorem fy0{a:T}{f:MV}{F:(T.fn .C0 (.fn .list (.fn a a))).V}(hf:Tl (.fn .C0 (.fn .list (.fn a a))) f F){b:MV}{B:a.V}(hb:Tl a b B):∀(l:List Nat),∃(w:MV) (c d0:Nat),(∀d,d0<=d->oD (cE d) f b l=some (w,c))/\Tl a w (Jw B F l)
 | []=>⟨b,0,0,fun d _=>rfl,hb⟩
 | x::l=>by
  obtain⟨w,c0,d0,h0,hw⟩:=fy0 hf hb l;obtain⟨v,c1,d1,hv,h1⟩:=Gy hf (show Tl .C0 (.Z3 x) x from rfl);obtain⟨u,c2,d2,hu,h2⟩:=Gy hv (show Tl .list (.list l) l from rfl);obtain⟨z,c3,d3,hz,h3⟩:=Gy hu hw;refine⟨z,c0+(c1+(c2+(c3+0))),max d0 (max d1 (max d2 d3)),fun d hd=>?_,hz⟩;have e1:iR (cE d) f [.Z3 x,.list l,w]=some (z,c1+(c2+(c3+0))):=h1 d oO _ _ _ (h2 d oO _ _ _ (h3 d oO [] z 0 (RC _ _)));simp only[oD,h0 d oO,e1]
def wu0{e:List MV}{c1 c2:Nat}(h1:3<=t.o0/\t.o0<=13)(h3:t.B0.length<=3)(hl:bF (cE d) t.B0 e=some (l,c1))(hn:JW (cE d) t.o0 l=some (v,c2)):cE (d+1) t e=some (v,1+c1+c2):=by
 rw[cE,if_neg (show ¬t.o0=1 from oO),if_neg (show ¬t.o0=2 from oO),if_neg (show ¬3<t.B0.length from oO),hl];simp only;unfold SI;rw[if_pos h1,hn]
def gT0(t:Tm)(e:List MV)(P:MV->Prop):Prop:=∃(v:MV) (c d0:Nat),(∀d,d0<=d->cE d t e=some (v,c))/\P v
def zH{e:List MV}{P:MV->Prop}{c1 c2 d0:Nat}(h1:3<=t.o0/\t.o0<=13)(h3:t.B0.length<=3)(hl:∀d,d0<=d->bF (cE d) t.B0 e=some (l,c1)/\JW (cE d) t.o0 l=some (v,c2))(hP:P v):gT0 t e P:=by
 refine⟨v,1+c1+c2,d0+1,fun d hd=>?_,hP⟩;obtain⟨d',rfl⟩:∃d',d=d'+1:=⟨d - 1,oO⟩;exact wu0 h1 h3 (hl d' oO).1 (hl d' oO).2
def wx0{Γ:List T}{F:Q0 Γ->a.V}(h:Dn Γ t a F):∀{e:List MV} {ρ:Q0 Γ},NG Γ e ρ->gT0 t e fun v=>Tl a v (F ρ):=by
 induction h with
 | var h=>
  intro e ρ he;rename_i Γ i a p;obtain⟨k1,k2⟩:=NG.get h he;refine⟨_,1,1,fun d hd=>?_,k2⟩;obtain⟨d',rfl⟩:∃d',d=d'+1:=⟨d - 1,oO⟩;have hi:(vT (i:Nat)).O0=(i:Int):=rfl;rw[cE,if_pos (show (vT (i:Nat)).o0=1 from rfl),hi,if_pos ⟨oO,by simpa using k1⟩];rfl
 | lam ha hb ih=>
  intro e ρ he;rename_i Γ a r b f;refine⟨.m6 b e,1,1,fun d hd=>?_,b,e,rfl,fun x y mD=>?_⟩
  ·obtain⟨d',rfl⟩:∃d',d=d'+1:=⟨d - 1,oO⟩;rw[cE,if_neg (by simp[N6,W6]),if_pos (show (N6 a b).o0=2 from rfl),if_neg (by simp[N6,J5])];rfl
  ·obtain⟨v,c,d0,h1,h2⟩:=ih (ρ:=(y,ρ)) ⟨x,e,rfl,mD,he⟩;exact⟨v,c,d0,h1,h2⟩
 | app hf hx aS D9=>
  intro e ρ he;obtain⟨f',c1,d1,h1,k1⟩:=aS he;obtain⟨x',c2,d2,h2,k2⟩:=D9 he;obtain⟨w,c3,d3,hw,h3⟩:=Gy k1 k2;refine zH (l:=[f',x']) (v:=w) (c1:=c1+(c2+0)) (c2:=c3+0) (d0:=max d1 (max d2 d3)) (by simp[nT,W6]) (by simp[nT,J5]) (fun d hd=>⟨?_,h3 d oO [] w 0 (RC _ _)⟩) hw;simp only[nT,J5,bF,h1 d oO,h2 d oO]
 | zero=>
  intro e ρ he;exact zH (l:=[]) (v:=.Z3 0) (c1:=0) (c2:=0) (d0:=0) (by simp[nT,W6]) (by simp[nT,J5]) (fun d hd=>⟨rfl,rfl⟩) rfl
 | succ hx ih=>
  intro e ρ he;rename_i Γ x X;obtain⟨x',c1,d1,h1,k1⟩:=ih he;have k1:x' = .Z3 (X ρ):=k1;refine zH (l:=[x']) (v:=.Z3 (Nat.succ (X ρ))) (c1:=c1+0) (c2:=0) (d0:=d1) (by simp[nT,W6]) (by simp[nT,J5]) (fun d hd=>⟨?_,by rw[k1];rfl⟩) rfl;simp only[nT,J5,bF,h1 d oO]
 | rc ha hb hf hn eB aS F8=>
  intro e ρ he;obtain⟨b',c1,d1,h1,k1⟩:=eB he;obtain⟨f',c2,d2,h2,k2⟩:=aS he;obtain⟨n',c3,d3,h3,k3⟩:=F8 he;obtain rfl:n' = .Z3 _:=k3;obtain⟨w,c4,d4,h4,hw⟩:=gf0 k2 _ 0 k1;refine zH (l:=[b',f',.Z3 _]) (v:=w) (c1:=c1+(c2+(c3+0))) (c2:=c4) (d0:=max d1 (max d2 (max d3 d4))) (by simp[W6]) (by simp[J5]) (fun d hd=>⟨?_,h4 d oO⟩) (Eq.mpr (congrArg (Tl _ w) (b00 _ _ _)) hw);simp only[J5,bF,h1 d oO,h2 d oO,h3 d oO]
 | nil=>
  intro e ρ he;exact zH (l:=[]) (v:=.list []) (c1:=0) (c2:=0) (d0:=0) (by simp[nT,W6]) (by simp[nT,J5]) (fun d hd=>⟨rfl,rfl⟩) rfl
 | cons hx hl D9 Az=>
  intro e ρ he;obtain⟨x',c1,d1,h1,k1⟩:=D9 he;obtain⟨l',c2,d2,h2,k2⟩:=Az he;obtain rfl:x' = .Z3 _:=k1;obtain rfl:l' = .list _:=k2;refine zH (l:=[.Z3 _,.list _]) (v:=.list (_::_)) (c1:=c1+(c2+0)) (c2:=0) (d0:=max d1 d2) (by simp[nT,W6]) (by simp[nT,J5]) (fun d hd=>⟨?_,rfl⟩) rfl;simp only[nT,J5,bF,h1 d oO,h2 d oO]
 | fold ha hb hf hn eB aS F8=>
  intro e ρ he;obtain⟨b',c1,d1,h1,k1⟩:=eB he;obtain⟨f',c2,d2,h2,k2⟩:=aS he;obtain⟨n',c3,d3,h3,k3⟩:=F8 he;obtain rfl:n' = .list _:=k3;obtain⟨w,c4,d4,h4,hw⟩:=fy0 k2 k1 _;refine zH (l:=[b',f',.list _]) (v:=w) (c1:=c1+(c2+(c3+0))) (c2:=c4) (d0:=max d1 (max d2 (max d3 d4))) (by simp[W6]) (by simp[J5]) (fun d hd=>⟨?_,h4 d oO⟩) hw;simp only[J5,bF,h1 d oO,h2 d oO,h3 d oO]
 | pair hx hy D9 rS=>
  intro e ρ he;obtain⟨x',c1,d1,h1,k1⟩:=D9 he;obtain⟨y',c2,d2,h2,k2⟩:=rS he;refine zH (l:=[x',y']) (v:=.both x' y') (c1:=c1+(c2+0)) (c2:=0) (d0:=max d1 d2) (by simp[nT,W6]) (by simp[nT,J5]) (fun d hd=>⟨?_,rfl⟩) ⟨x',y',rfl,k1,k2⟩;simp only[nT,J5,bF,h1 d oO,h2 d oO]
 | fst hx ih=>
  intro e ρ he;obtain⟨x',c1,d1,h1,k1⟩:=ih he;obtain⟨p,q,rfl,hp,hq⟩:=k1;refine zH (l:=[.both p q]) (v:=p) (c1:=c1+0) (c2:=0) (d0:=d1) (by simp[nT,W6]) (by simp[nT,J5]) (fun d hd=>⟨?_,rfl⟩) hp;simp only[nT,J5,bF,h1 d oO]
 | snd hx ih=>
  intro e ρ he;obtain⟨x',c1,d1,h1,k1⟩:=ih he;obtain⟨p,q,rfl,hp,hq⟩:=k1;refine zH (l:=[.both p q]) (v:=q) (c1:=c1+0) (c2:=0) (d0:=d1) (by simp[nT,W6]) (by simp[nT,J5]) (fun d hd=>⟨?_,rfl⟩) hq;simp only[nT,J5,bF,h1 d oO]
 | Z4=>
  intro e ρ he;exact zH (l:=[]) (v:=.Z4) (c1:=0) (c2:=0) (d0:=0) (by simp[nT,W6]) (by simp[nT,J5]) (fun d hd=>⟨rfl,rfl⟩) rfl
theorem WY:∀(a:T) {v:MV} {x:a.V},a.plain->Tl a v x->v=oH a x
 | .C0,_,_,_,h=>h
 | .list,_,_,_,h=>h
 | .Z4,_,_,_,h=>h
 | .pair a b,v,p,hp,h=>by
  obtain⟨x,y,rfl,h1,h2⟩:=h;rw[WY a hp.1 h1,WY b hp.2 h2];rfl
 | .fn _ _,_,_,hp,_=>hp.elim
theorem XV:∀(a:T) (x:a.V),a.plain->Tl a (oH a x) x
 | .C0,_,_=>rfl
 | .list,_,_=>rfl
 | .Z4,_,_=>rfl
 | .pair a b,p,hp=>⟨_,_,rfl,XV a p.1 hp.1,XV b p.2 hp.2⟩
 | .fn _ _,_,hp=>hp.elim
theorem eR0{r:T}:∀(l:List T) (X:Q0 l) {g:MV} {F:(mC l r).V},JM l->Tl (mC l r) g F->∃(w:MV) (c d0:Nat),(∀d,d0<=d->iR (cE d) g (jV l X)=some (w,c))/\Tl r w (YI l F X)
 | [],_,g,_,_,h=>⟨g,0,0,fun d _=>RC _ _,h⟩
 | a::l,X,g,F,hp,h=>by
  obtain⟨v,c1,d1,hv,h1⟩:=Gy h (XV a X.1 hp.1);obtain⟨w,c2,d2,h2,hw⟩:=eR0 l X.2 hp.2.2 hv;exact⟨w,c1+c2,max d1 d2,fun d hd=>h1 d oO _ _ _ (h2 d oO),hw⟩
def GV(d:Nat)(t:Tm)(xs:List MV):Option (MV × Nat):=
 match cE d t [] with
 | none=>none
 | some (g,c1)=>match iR (cE d) g xs with
  | none=>none
  | some (w,c2)=>some (w,c1+c2)
def mE0{xs:List MV}{w:MV}(h:GV d t xs=some (w,c)):∃g c1 c2,cE d t []=some (g,c1)/\iR (cE d) g xs=some (w,c2)/\c=c1+c2:=by
 unfold GV at h;split at h;· cases h
 ·rename_i g c1 h1;split at h;· cases h
  ·rename_i w' c2 h2;cases h;exact⟨g,c1,c2,h1,h2,rfl⟩
def cB0{l:List T}{r:T}{F:Q0 []->(mC l r).V}(h:Dn [] t (mC l r) F)(X:Q0 l)(hp:JM l)(hr:r.plain):
  ∃c d0,∀d,d0<=d->GV d t (jV l X)=some (oH r (YI l (F ()) X),c):=by
 obtain⟨g,c1,d1,h1,hg⟩:=wx0 h (e:=[]) (ρ:=()) rfl;obtain⟨w,c2,d2,h2,hw⟩:=eR0 l X hp hg;have hw':=WY r hr hw;subst hw';refine⟨c1+c2,max d1 d2,fun d hd=>?_⟩;unfold GV;rw[h1 d oO];simp only;rw[h2 d oO]
def ST(v:Val)(c:Nat)(work:Int):DV:=if (c:Int)<=work then .H1 [v.dv,j0 (c:Int),j0 0] else .H1 [GS.dv,j0 0,j0 5]
def eS0{v:Val}{work:Int}(h:(c:Int)<=work):ST v c work = .H1 [v.dv,j0 (c:Int),j0 0]:=if_pos h
def fz0{v:Val}{work:Int}(h:¬(c:Int)<=work):ST v c work = .H1 [GS.dv,j0 0,j0 5]:=if_neg h
def vG(l:List MV):List (List DV):=l.map fun x=>[x.Q2]
theorem oZ0:vG []=[]:=rfl
def o00(l:List MV):(vG l).length=l.length:=by simp[vG]
def o10(l:List MV):∀e∈vG l,e.length=1:=by
 intro e he;simp only[vG,F9]at he;obtain⟨x,-,rfl⟩:=he;rfl
def mF0(h:l[i]? = some v):vG (l.take (i+1))=vG (l.take i)++[[v.Q2]]:=by
 rw[List.take_add_one,h];simp[vG]
def bA0(K3:D6 gl 2=some A7)(t:Tm)(l:List T)(r:T)(Z:Q0 l)(y:r.V)(c d:Nat)(aF:GV d t (jV l Z)=some (oH r y,c))(ht:t.L4=0)(hi:t.V1 []=((mC l r).ty,0))(hl:JM l)(AB:l.length<=1000000)(hr:r.plain)(jM:r.ok)(wk:Nat)(hwk:wk<=65536)(M:Nat)(hM:M<=1073000000)(hX:u7 M (jV l Z)) :
  cU 14 [t.dv,.sl ((zU l Z).map vZ),j0 (wk:Int)] (ST (bB r y) c wk):=by
 obtain⟨g,c1,c2,e1,e2,rfl⟩:=mE0 aF;have Pe:=kB0 K3 t _ ht hi;have NU:=dg0 l Z;have Kz:=d00 l Z;have hfz:(L0 0 []).E0=[j0 0,.sl []]:=rfl;refine H2 Tryz.func14 ?_;intro X hP G0 hf X0 hn hR K1 G1;refine V3 H0 (M0 Pe) ?_;refine Q1 ?_;refine G2 [(1011,0)] (j2 @NU @oZ0) (xF (l.length) (fun i=>True) (fun i=>[sV 2 (j0 (wk:Int)),sP 3,sL 3 (gG t),sP 6,sL 6 [.v (j0 0),.v (j0 0),.own 0 [],.own 0 []],sP 9,sL 9 [.v (j0 (mC (l.drop i) r).ty.o0),.v (.sl ((mC (l.drop i) r).ty.B0.map P1))],(.P0 11,.one (.own 1011 (vG ((jV l Z).take i)))),(.tok 1011,.tk 1 i),sV 30 (.sl ((zU l Z).map vZ)),sV 31 (j0 l.length),sV 32 (j0 i)]) (trivial) ?_ ?_)
 ·intro i hi _ Z1;obtain⟨a,x,g1,g2,g3,g4,g5⟩:=fs0 (r:=r) l Z i hi hl;have hvg:(Y3 vZ (zU l Z))[i]? = some (bB a x).E0:=by rw[cI,g1];rfl
  have hvc:=(Qp a x g4).2;have P6:a.size<=64:=g5;have w1:=vH0 (bB a x) oO;rw[mA0 x g4 g5]at w1;have w2:=Cw a.ty a.ty;rw[show a.ty.same a.ty=true from (Ty.same_iff _ _).2 rfl]at w2;have w3:=UO a x g4;have hti:(mC (l.drop i) r).ty=L0 4 [a.ty,(mC (l.drop (i+1)) r).ty]:=by rw[g3,T.ty_fn]
  have Tq:=mF0 g2;have Fo:(vG ((jV l Z).take i)).length=i:=by rw[o00,rX];omega
  have Fd:=o10 ((jV l Z).take i);have J8:i<=2147483647:=oO;have F30:i+1<=2147483647:=oO;generalize (mC (l.drop (i+1)) r).ty=ty' at *;generalize (mC (l.drop i) r).ty=Fy at *;generalize a.ty=ta at *;generalize vG ((jV l Z).take i)=L at *;generalize vG ((jV l Z).take (i+1))=L' at *;subst hti;subst Tq;refine K5 ?_;refine N1 (j5 @hvg @Fd @Fo @J8 @F30) (E8 w1 w2 w3) ?_;refine W3 (wr [(1011,62)]) tT @Fo (Z1 tT)
 ·intro _;have cV:mC (l.drop l.length) r=r:=by rw[Uw];rfl
  have htk:(jV l Z).take l.length=jV l Z:=by rw[<- Kz];exact List.take_length
  rw[cV,htk];have wd:=rQ0 r hr jM;have hwn:¬((wk:Int)<0):=oO;have hwm:¬(65536<(wk:Int)):=oO;have HW:=Wu (most:=wk) oO (fun ev h1 h2=>wi0 oO h1 h2) d;have HN:=RZ wk d;have ng:=HN M e1 (by simp only[u7]);refine T7 ?_;refine V3 (j2 @hwn @hwm) (M0 wd) ?_;refine fG 85 (by simp[go_sem];rfl) ?_;intro b hb;simp[go_sem]at hb ⊢;have we:=HW b M e1 (aH _) oO (by simp only[u7]);have Gi0:MV.envM []=Nw:=by rw[MV.envM]
  rw[Gi0,Nat.zero_add,G6 (aH _)]at we;by_cases T4:c1<=wk
  ·rw[nU T4,G6 T4]at we;have wc:=RB (most:=wk) oO HW HN b (M+c1) e2 T4 oO ng (kY oO _ hX);rw[G6 T4]at wc;have hmt:(jV l Z).map (fun x=>[x.Q2])=vG (jV l Z):=rfl;rw[hmt]at wc;by_cases s4:c1+c2<=wk
   ·rw[nU s4,G6 s4]at wc;have tS:=Jn HN e2 ng (kY oO _ hX);have wp:=UJ r y hr (MV.nle_mono oO _ tS);rw[eS0 oO]at hR;exact P4 H0 (E8 we wc wp)
   ·rw[wW s4,nW s4]at wc;rw[fz0 oO]at hR;exact P4 @GS.eq_1 (P3 we wc)
  ·rw[wW T4,nW T4]at we;rw[fz0 oO]at hR;exact P4 @GS.eq_1 (M0 we)
def ks0(g:List Ty)(hc:∀t∈g,t.A0<=2147483648):cU 114 [.sl (g.map P1)] (j0 (gD g)):=by
 refine H2 Tryz.func114 ?_;intro X hP G0 hf X0 hn hR K1 G1;have hlen:=sQ (G1 (.sl (g.map P1)) sS);simp only[fV]at hlen;by_cases h:16<g.length
 ·have h2:(16:Int)<(g.length:Int):=oO;exact P4 (j3 @h2 @gD.eq_1 @h) H0
 ·have fU:¬(16<(g.length:Int)):=oO;refine U1 @fU ?_;refine Q1 ?_;refine G2 [] tT (dB (g) (fun done=>mW done=0) (fun done rest=>[sV 11 (j0 done.length),sV 10 (j0 g.length),sV 9 (.sl (g.map P1)),sV 2 (j0 0)]) (rfl) ?_ ?_)
  ·intro done x rest hL B3 hI Z1;have I1:=E5 hL;have hx:=Qd done (x::rest) hI;rw[<- hL]at hx;have w:=US x (hc x (uE B3));refine K5 ?_;refine U1 @B3 ?_;by_cases yB:x.L4=0
   ·rw[yB]at w;refine N1 @B3 (M0 w) ?_;refine W3 (wr []) tT tT (Z1 (by rw[Qd done [x] hI];simp[mW,yB]))
   ·exact P4 (j7 @B3 @yB @gD.eq_1 @h @hx @mW.eq_1 @mW.eq_2) (M0 w)
  ·intro hI;refine T7 ?_;exact P4 (j3 @gD.eq_1 @h @hI) H0
def CW0(y:Ty):(eT y).2=0\/(eT y).1=I4:=by
 unfold eT;split;· exact .inl rfl
 ·exact .inr rfl
def CX0{c:Prop}[Decidable c]{a b:Ty × Int}(ha:a.2=0\/a.1=I4)(hb:b.2=0\/b.1=I4):(if c then a else b).2=0\/(if c then a else b).1=I4:=by
 by_cases h:c;· rw[if_pos h];exact ha
 ·rw[if_neg h];exact hb
def zC0(k:Int)(y:Ty)(l:List Ty):(g7 k y l).2=0\/(g7 k y l).1=I4:=by
 unfold g7;repeat' first|exact CW0 _|exact .inl rfl|exact .inr rfl|apply CX0
def rS0{k:Int}{y:Ty}{l:List Ty}(h:(g7 k y l).2≠0):(g7 k y l).1=I4:=(zC0 k y l).resolve_left h
def fA0{g:List Ty}(h:(t.V1 g).2≠0):(t.V1 g).1=I4:=by
 rw[Tm.inferN_eq]at h ⊢;by_cases h1:t.o0=1
 ·rw[if_pos h1]at h ⊢;split at h;· rename_i q;rw[if_pos q]
  ·exact absurd rfl h
 ·rw[if_neg h1]at h ⊢;generalize (if t.o0=2 then g++[t.I0] else g)=g' at *;split at h;· rename_i q;rw[if_pos q];exact rS0 h
  ·rename_i q;rw[if_neg q]
def kv0(K3:D6 gl 2=some A7)(t:Tm)(g:List Ty)(hg:∀x∈g,x.A0<=2147483648)(ht:t.tys)(hc:t.A0<=1073741824) :
  cU 48 [.sl (g.map P1),t.dv] (.H1 [(t.typeE g).1.dv,j0 (t.typeE g).2]):=by
 have w1:=ks0 g hg;have w2:=ID K3 t ht oO;have fz:I4.dv=DV.agg [j0 0,.sl []]:=rfl;unfold FQ AW;by_cases h1:gD g=0;rotate_left
 ·rw[if_neg h1];generalize gD g=e at *;exact G7 UA (j2 @h1 @I4.eq_1) (M0 w1)
 rw[if_pos h1];rw[h1]at w1;obtain⟨G0,ZG⟩:=eD0 h1;by_cases h2:t.L4=0;rotate_left
 ·rw[if_neg h2];generalize t.L4=e at *;exact G7 UA (j2 @h2 @I4.eq_1) (P3 w1 w2)
 rw[if_pos h2];obtain⟨hs,gK⟩:=(Tm.checkN_iff t).1 h2;by_cases h3:(t.V1 g).2=0
 ·have h4:t.V1 g=((t.V1 g).1,0):=by rw[<- h3]
  have w:=ku0 K3 g ZG G0 t _ h2 h4;rw[h3];exact w
 ·have hz:=fA0 h3;rw[h2]at w2;have w3:=b10 t g oO hs ZG h3 rfl;have w5:=Qb g ZG G0;rw[hz];generalize (t.V1 g).2=e at *;generalize g.map Q4=GG at *;exact G7 UA (j2 @h3 @I4.eq_1) (cQ w1 w2 w5 w3)
def bB0(K3:D6 gl 2=some A7){F:Q0 []->a.V}(h:Dn [] t a F)(hc:t.A0<=536870912):
  cU 48 [.sl [],t.dv] (if (t.typeE []).2=0 then .H1 [a.ty.dv,j0 0] else .H1 [(L0 0 []).dv,j0 4]):=by
 have hs:=Z5 h;have w:=kv0 K3 t [] sS (gV t hs) oO;simp only[O5]at w;have N4:gD []=0:=rfl;by_cases hk:t.L4=0
 ·have C6:t.typeE []=t.V1 []:=by
   unfold FQ AW;rw[if_pos N4,if_pos hk]
  rw[C6]at w ⊢;rcases Vt h with h1|h1
  ·have h1:t.V1 []=(a.ty,0):=h1;rw[h1]at w ⊢;rw[if_pos rfl];exact w
  ·have h1:(t.V1 []).2=4:=h1;rw[if_neg (by rw[h1];decide)];rw[h1,fA0 (t:=t) (g:=[]) (by rw[h1];decide)]at w;exact w
 ·have DC:t.L4=4:=by
   unfold Tm.L4 at hk ⊢;rw[if_pos hs]at hk ⊢;split at hk;· rename_i q;rw[if_pos q]
   ·exact absurd rfl hk
  have C6:t.typeE []=(I4,4):=by
   unfold FQ AW;rw[if_pos N4,if_neg hk,DC]
  rw[C6]at w ⊢;rw[if_neg dD];exact w
def tE(t:Tm)(v:Val)(c:Nat)(work:Int):Val × Int × Int:=if (t.typeE []).2=0 then (if (c:Int)<=work then (v,(c:Int),0) else (GS,0,5)) else (GS,0,4)
def rT0(t:Tm)(v:Val)(c:Nat)(work:Int):(tE t v c work).2.2=4\/(tE t v c work).2.2=5\/((tE t v c work).2.2=0/\(tE t v c work).1=v):=by
 unfold tE;split
 ·split;· exact .inr (.inr ⟨rfl,rfl⟩)
  ·exact .inr (.inl rfl)
 ·exact .inl rfl
def mG0{F:Q0 []->a.V}(h:Dn [] t a F)(h0:(t.typeE []).2=0):t.L4=0/\t.V1 []=(a.ty,0):=by
 have N4:gD []=0:=rfl;by_cases hk:t.L4=0
 ·refine⟨hk,?_⟩;have C6:t.typeE []=t.V1 []:=by
   unfold FQ AW;rw[if_pos N4,if_pos hk]
  rcases Vt h with h1|h1;· exact h1
  ·have h1:(t.V1 []).2=4:=h1;rw[C6,h1]at h0;cases h0
 ·unfold FQ AW at h0;rw[if_pos N4,if_neg hk]at h0;exact absurd h0 hk
def bC0(K3:D6 gl 2=some A7){l:List T}{r:T}{F:Q0 []->(mC l r).V}(h:Dn [] t (mC l r) F)(hc:t.A0<=536870912)(Z:Q0 l)(y:r.V)(hl:JM l)(AB:l.length<=1000000)(hr:r.plain)(jM:r.ok)(aF:GV d t (jV l Z)=some (oH r y,c))(wk:Nat)(hwk:wk<=65536)(M:Nat)(hM:M<=1073000000)(hX:u7 M (jV l Z)):
  cU 14 [t.dv,.sl ((zU l Z).map vZ),j0 (wk:Int)] (.H1 [(tE t (bB r y) c wk).1.dv,j0 (tE t (bB r y) c wk).2.1,j0 (tE t (bB r y) c wk).2.2]):=by
 unfold tE;by_cases h0:(t.typeE []).2=0
 ·rw[if_pos h0];obtain⟨h1,h2⟩:=mG0 h h0;have w:=bA0 K3 t l r Z _ c d aF h1 h2 hl AB hr jM wk hwk M hM hX;unfold ST at w;split at w;· rename_i q;rw[if_pos q];exact w
  ·rename_i q;rw[if_neg q];exact w
 ·rw[if_neg h0];have Pe:=bB0 K3 h hc;rw[if_neg h0]at Pe;have fz:(L0 0 []).dv = .agg [j0 0,.sl []]:=rfl;rw[fz]at Pe;exact G7 Tryz.func14 @GS.eq_1 (M0 Pe)
mutual
theorem XA{n:Nat}:∀v:MV,v.le (n:Int)->v.nle n
 | .Z3 k,h=>by simp only[Bb,cN]at h ⊢;omega
 | .list l,h=>by
  simp only[Bb,cN]at h ⊢;exact⟨oO,fun x hx=>by have:=h.2 x hx;omega⟩
 | .both a b,h=>by simp only[Bb,cN]at h ⊢;exact⟨XA a h.1,XA b h.2⟩
 | .Z4,_=>by simp only[cN]
 | .m6 _ e,h=>by simp only[Bb,cN]at h ⊢;exact Rc e h.2
theorem Rc{n:Nat}:∀l:List MV,MV.les (n:Int) l->u7 n l
 | [],_=>by simp only[u7]
 | v::l,h=>by simp only[MV.les,u7]at h ⊢;exact⟨XA v h.1,Rc l h.2⟩
end
def fe(O:Nat->Val × Int × Int):Nat->Int
 | 0=>0
 | n+1=>if fe O n=0 then (O n).2.2 else fe O n
def Aj(l:List Int)(p:Nat):Tm × Nat:=(Tm.mk 2 0 (L0 1 []) [(l8 l 2 (L0 1 []) [L0 1 []] p).1],(l8 l 2 (L0 1 []) [L0 1 []] p).2)
def b40(b:Nat)(l:List Int)(p:Nat)(hl:l.length<=500)(hp:p<=l.length) :
  cT 25 [M3 b] [(b,R5 l p)] (Aj l p).1.dv [(b,R5 l (Aj l p).2)]:=by
 have wn:=IQ;have hg:∀x∈[L0 1 []],x.small:=by intro x hx;rw[bM.1 hx];exact aJ
 have wt:=QA b l hl 2 dD (L0 1 []) [L0 1 []] p aJ hg sS hp;unfold Aj;generalize l8 l 2 (L0 1 []) [L0 1 []] p=xd at *;obtain⟨x,q⟩:=xd;simp only at wt ⊢;have wl:=eF (L0 1 []) x;have hfx:=Tm.fold x;have gI:=Tm.fold (Tm.mk 2 0 (L0 1 []) [x]);generalize Tm.mk 2 0 (L0 1 []) [x]=y at *;have e1:(L0 1 []).dv = .agg [j0 1,.sl []]:=rfl;have e2:Y3 P1 [L0 1 []]=[[j0 1,.sl []]]:=rfl;rw[e1]at wn wt wl;rw[e2]at wt;refine A3 Tryz.func25 fun X zX=>?_;refine N2 ?_;refine N1 @hfx (T9 wn wn wn wt wl) ?_;exact s7 [(b,R5 l q)] tT
def o20(l:List Int){p:Nat}(hp:p<=l.length):∃F:Q0 []->(T.fn .C0 .C0).V,Dn [] (Aj l p).1 (mC [.C0] .C0) F/\(Aj l p).1.A0<=1500/\(Aj l p).2<=l.length:=by
 have hg:∀x∈[L0 1 []],x.small:=by intro x hx;rw[bM.1 hx];exact aJ
 obtain⟨F,hF⟩:=RA l 2 aJ hg hp (G:=[.C0]) (a:=.C0) rfl rfl;have hc:=LG l 2 (L0 1 []) [L0 1 []] p aJ hg hp;rw[show GT 2=485 from rfl]at hc;have hle:=(Ef dd0 2 (L0 1 []) [L0 1 []] p aJ hg hp).1;refine⟨_,.lam (a:=.C0) (by unfold T.ok;decide) hF,?_,hle⟩;show 1+((l8 l 2 (L0 1 []) [L0 1 []] p).1.A0+0)<=1500;omega
end
end Go.Proofs.YtmilnfebjgkkcaaGreatDoor.Lift
