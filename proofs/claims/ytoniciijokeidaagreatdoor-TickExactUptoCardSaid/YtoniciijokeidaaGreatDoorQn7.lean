import Derived.Test.YtoniciijokeidaaGreatDoorQn6
set_option maxHeartbeats 8000000
set_option maxRecDepth 100000
set_option linter.unusedSimpArgs false
set_option linter.unusedVariables false
set_option linter.unnecessarySimpa false
namespace Go.Proofs.YtoniciijokeidaaGreatDoor.Lift
open Go
section
def CS (l:List Int):Nat->Nat->Ty × Nat
 | 0,p=>
  if (AW l p 7).1=3 then (Ty.mk 2 [],(AW l p 7).2) else if (AW l p 7).1=4 then (Ty.mk 5 [],(AW l p 7).2) else (Ty.mk 1 [],(AW l p 7).2)
 | n+1,p=>
  if (AW l p 7).1=3 then (Ty.mk 2 [],(AW l p 7).2) else if (AW l p 7).1=4 then (Ty.mk 5 [],(AW l p 7).2)
  else if (AW l p 7).1=5 then (Ty.mk 3 [(CS l n (AW l p 7).2).1,(CS l n (CS l n (AW l p 7).2).2).1],(CS l n (CS l n (AW l p 7).2).2).2)
  else if (AW l p 7).1=6 then (Ty.mk 4 [(CS l n (AW l p 7).2).1,(CS l n (CS l n (AW l p 7).2).2).1],(CS l n (CS l n (AW l p 7).2).2).2)
  else (Ty.mk 1 [],(AW l p 7).2)
def JI (l:List Int):Nat->Nat->List Ty × Nat
 | 0,p=>([],p)
 | n+1,p=>((CS l 1 p).1::(JI l n (CS l 1 p).2).1,(JI l n (CS l 1 p).2).2)
def tO (l:List Int)(p:Nat):List Ty × Nat:=JI l (AW l p 4).1.toNat (AW l p 4).2
def HG (g:List Ty)(i:Nat):Ty:=g.getD (g.length - 1 - i) A9
def ES (g:List Ty)(t:Ty):List Nat:=(List.range g.length).filter fun i=>(HG g i).same t
def tP (g:List Ty)(t:Ty):Option Nat:=(List.range g.length).find? fun i=>decide ((HG g i).kind=4)&&((HG g i).arg 1).same t
def NJ (l:List Int)(t:Ty)(g:List Ty)(p:Nat):Option Tm × Nat:=
 if (ES g t).length=0 then (none,p)
 else if (AW l p 3).1=0 then (none,(AW l p 3).2)
 else (some (vT ((ES g t).getD (AW l (AW l p 3).2 (ES g t).length).1.toNat 0:Nat)),(AW l (AW l p 3).2 (ES g t).length).2)
def aW (l:List Int)(p:Nat):Tm × Nat:=(IU (AW l p 3).1.toNat,(AW l p 3).2)
def FB (l:List Int)(t:Ty)(g:List Ty)(p:Nat):Tm × Nat:=
 match NJ l t g p with
 | (some x,q)=>(x,q)
 | (none,q)=>
  match t with
  | .mk k ts=>
   if k=1 then aW l q
   else if k=2 then (nT 7 [],q)
   else match ts with
    | [a,b]=>
     if k=3 then (nT 10 [(FB l a g q).1,(FB l b g (FB l a g q).2).1],(FB l b g (FB l a g q).2).2)
     else if k=4 then (Tm.mk 2 0 a [(FB l b (g++[a]) q).1],(FB l b (g++[a]) q).2)
     else (nT 13 [],q)
    | _=>(nT 13 [],q)
termination_by SizeOf.sizeOf t
def eQ (l:List Int)(F:Ty->List Ty->Nat->Tm × Nat)(t:Ty)(g:List Ty)(q:Nat):Tm × Nat:=
 if t.kind=1 then
  if (AW l q 5).1=0 then (nT 5 [(F t g (AW l q 5).2).1],(F t g (AW l q 5).2).2)
  else if (AW l q 5).1=1 then (KS EF [(F t g (AW l q 5).2).1,(F t g (F t g (AW l q 5).2).2).1],(F t g (F t g (AW l q 5).2).2).2)
  else if (AW l q 5).1=2 then (KS iT [(F t g (AW l q 5).2).1,(F t g (F t g (AW l q 5).2).2).1],(F t g (F t g (AW l q 5).2).2).2)
  else aW l (AW l q 5).2
 else if t.kind=2 then
  if (AW l q 2).1=0 then (nT 8 [(F (Ty.mk 1 []) g (AW l q 2).2).1,(F t g (F (Ty.mk 1 []) g (AW l q 2).2).2).1],(F t g (F (Ty.mk 1 []) g (AW l q 2).2).2).2)
  else (nT 7 [],(AW l q 2).2)
 else if t.kind=3 then (nT 10 [(F (t.arg 0) g q).1,(F (t.arg 1) g (F (t.arg 0) g q).2).1],(F (t.arg 1) g (F (t.arg 0) g q).2).2)
 else if t.kind=4 then (Tm.mk 2 0 (t.arg 0) [(F (t.arg 1) (g++[t.arg 0]) q).1],(F (t.arg 1) (g++[t.arg 0]) q).2)
 else (nT 13 [],q)
def IX (l:List Int)(F:Ty->List Ty->Nat->Tm × Nat)(t:Ty)(g:List Ty)(k:Int)(q:Nat):Tm × Nat:=
 if k=0 then
  let s:=CS l 0 q
  let x:=F t (g++[s.1]) s.2
  let y:=F s.1 g x.2
  (nT 3 [Tm.mk 2 0 s.1 [x.1],y.1],y.2)
 else if k=1 then
  let s:=CS l 0 q
  let x:=F t g s.2
  let y:=F s.1 g x.2
  (nT 11 [nT 10 [x.1,y.1]],y.2)
 else if k=2 then
  let x:=F t (g++[Ty.mk 1 [],t]) q
  let y:=F t g x.2
  let z:=aW l y.2
  (Tm.mk 6 0 t [y.1,Tm.mk 2 0 (Ty.mk 1 []) [Tm.mk 2 0 t [x.1]],z.1],z.2)
 else if k=3 then
  let x:=F t (g++[Ty.mk 1 [],Ty.mk 2 [],t]) q
  let y:=F t g x.2
  let z:=F (Ty.mk 2 []) g y.2
  (Tm.mk 9 0 t [y.1,Tm.mk 2 0 (Ty.mk 1 []) [Tm.mk 2 0 (Ty.mk 2 []) [Tm.mk 2 0 t [x.1]]],z.1],z.2)
 else if k=4 then
  let s:=CS l 0 q
  let x:=F s.1 g s.2
  let y:=F t g x.2
  (nT 12 [nT 10 [x.1,y.1]],y.2)
 else if k=5 then
  match tP g t with
  | some i=>(nT 3 [vT i,(F ((HG g i).arg 0) g q).1],(F ((HG g i).arg 0) g q).2)
  | none=>eQ l F t g q
 else eQ l F t g q
def DC (l:List Int):Nat->Ty->List Ty->Nat->Tm × Nat
 | 0,t,g,p=>FB l t g p
 | n+1,t,g,p=>
  match NJ l t g p with
  | (some x,q)=>(x,q)
  | (none,q)=>IX l (DC l n) t g (AW l q 8).1 (AW l q 8).2
theorem aX (l:List Int)(t:Ty)(g:List Ty)(p:Nat)(ht:t.ok):FB l t g p =
  match NJ l t g p with
  | (some x,q)=>(x,q)
  | (none,q)=>
   if t.kind=1 then aW l q
   else if t.kind=2 then (nT 7 [],q)
   else if t.kind=3 then (nT 10 [(FB l (t.arg 0) g q).1,(FB l (t.arg 1) g (FB l (t.arg 0) g q).2).1],(FB l (t.arg 1) g (FB l (t.arg 0) g q).2).2)
   else if t.kind=4 then (Tm.mk 2 0 (t.arg 0) [(FB l (t.arg 1) (g++[t.arg 0]) q).1],(FB l (t.arg 1) (g++[t.arg 0]) q).2)
   else (nT 13 [],q):=by
 rw[FB.eq_def];rcases NJ l t g p with⟨_|x,q⟩
 ·cases t with
  | mk k ts=>
   simp only[Ty.kind];by_cases h1:k=1;· simp[h1]
   by_cases h2:k=2;· simp[h2]
   simp only[h1,h2,if_false];by_cases h34:k=3\/k=4
   ·obtain⟨a,b,e,-,-,e0,e1⟩:=Ty.ok_args ht h34;simp only[Ty.args]at e;subst e;rw[e0,e1];rfl
   ·have h3:k≠3:=fun e=>h34 (.inl e);have h4:k≠4:=fun e=>h34 (.inr e);simp only[h3,h4,if_false]
    match ts with
    | [a,b]=>rfl
    | []=>rfl
    | [_]=>rfl
    | _::_::_::_=>rfl
 ·rfl
theorem UD {k:Int}{a b:Ty}(hk:k=3\/k=4)(ha:a.shape=true)(hb:b.shape=true):(Ty.mk k [a,b]).shape=true:=by
 rcases hk with rfl|rfl <;> simp[Ty.shape,Ty.shape.shapes,HD,ha,hb]
theorem LP (l:List Int):∀(n p:Nat),p<=l.length->(CS l n p).2<=l.length/\(CS l n p).1.shape=true/\(CS l n p).1.count+1<=2 ^ (n+1)
 | 0,p,hp=>by
  have hq:=CO (n:=7) hp;unfold CS;split;· exact⟨hq,rfl,Nat.le_refl 2⟩
  ·split;· exact⟨hq,rfl,Nat.le_refl 2⟩
   ·exact⟨hq,rfl,Nat.le_refl 2⟩
 | n+1,p,hp=>by
  have hq:=CO (n:=7) hp;obtain⟨a1,a2,a3⟩:=LP l n _ hq;obtain⟨b1,b2,b3⟩:=LP l n _ a1;have h2:2<=2 ^ (n+1):=Nat.pow_le_pow_right (n:=2) dD (show 1<=n+1 from oO);have h3:2 ^ (n+1+1)=2 ^ (n+1) * 2:=Nat.pow_succ ..;have hc:∀(k:Int) (a b:Ty),(Ty.mk k [a,b]).count=1+(a.count+(b.count+0)):=fun _ _ _=>rfl;unfold CS;split;· exact⟨hq,rfl,by show 1+0+1<=_;omega⟩
  split;· exact⟨hq,rfl,by show 1+0+1<=_;omega⟩
  split;· exact⟨b1,UD (.inl rfl) a2 b2,by rw[hc];omega⟩
  split;· exact⟨b1,UD (.inr rfl) a2 b2,by rw[hc];omega⟩
  ·exact⟨hq,rfl,by show 1+0+1<=_;omega⟩
def Ty.small (t:Ty):Prop:=t.shape=true/\t.count<=15
theorem Ty.small.ok {t:Ty}(h:t.small):t.ok:=⟨h.1,by have:=h.2;omega⟩
theorem Ty.small.arg {t:Ty}(h:t.small)(hk:t.kind=3\/t.kind=4):(t.arg 0).small/\(t.arg 1).small/\(t.arg 0).count+(t.arg 1).count<t.count:=by
 obtain⟨a,b,e,oa,ob,e0,e1⟩:=Ty.ok_args h.ok hk;have hc:t.count=1+(a.count+(b.count+0)):=by rw[Ty.count_eq,e];rfl
 have:=h.2;rw[e0,e1];exact⟨⟨oa.1,oO⟩,⟨ob.1,oO⟩,oO⟩
theorem FL (l:List Int){n p:Nat}(hp:p<=l.length)(hn:n<=3):(CS l n p).2<=l.length/\(CS l n p).1.small:=by
 obtain⟨h1,h2,h3⟩:=LP l n p hp;have:2 ^ (n+1)<=2 ^ 4:=Nat.pow_le_pow_right dD oO;exact⟨h1,h2,oO⟩
theorem DN:(Ty.mk 1 []).small:=⟨rfl,dD⟩
theorem F7:(Ty.mk 2 []).small:=⟨rfl,dD⟩
theorem VN (l:List Int):∀(n p:Nat),p<=l.length->(JI l n p).2<=l.length/\(∀t∈(JI l n p).1,t.small)/\(JI l n p).1.length=n
 | 0,p,hp=>⟨hp,by simp[JI],rfl⟩
 | n+1,p,hp=>by
  obtain⟨a1,a2⟩:=FL l (n:=1) hp dD;obtain⟨b1,b2,b3⟩:=VN l n _ a1;refine⟨b1,fun t ht=>?_,by simp[JI,b3]⟩;simp only[JI,List.mem_cons]at ht;rcases ht with rfl|ht;· exact a2
  ·exact b2 t ht
theorem tQ (l:List Int){p:Nat}(hp:p<=l.length):(tO l p).2<=l.length/\(∀t∈(tO l p).1,t.small)/\(tO l p).1.length<=3:=by
 obtain⟨h1,h2,h3⟩:=VN l (AW l p 4).1.toNat _ (CO (n:=4) hp);have:=EM (l:=l) (p:=p) (n:=4) dD;exact⟨h1,h2,by show (JI _ _ _).1.length<=3;omega⟩
theorem N3 {g:List Ty}{i:Nat}(h:i<g.length):HG g i∈g/\g[g.length - 1 - i]? = some (HG g i):=by
 have hl:g.length - 1 - i<g.length:=oO;unfold HG;rw[List.getD_eq_getElem?_getD,uB hl];exact⟨List.getElem_mem _,rfl⟩
theorem z3j {g:List Ty}{t:Ty}{i:Nat}(h:i∈ES g t):i<g.length/\HG g i=t:=by
 simp only[ES,List.mem_filter,List.mem_range,Ty.same_iff]at h;exact h
theorem X5 {g:List Ty}{t:Ty}{i:Nat}(h:tP g t=some i):i<g.length/\(HG g i).kind=4/\(HG g i).arg 1=t:=by
 have h1:=List.find?_some h;have h2:=List.mem_of_find?_eq_some h;simp only[uH,decide_eq_true_eq,Ty.same_iff]at h1;exact⟨List.mem_range.1 h2,h1.1,h1.2⟩
theorem PD {l:List Int}{t:Ty}{g:List Ty}{p:Nat}(hp:p<=l.length):(NJ l t g p).2<=l.length:=by
 unfold NJ;split;· exact hp
 ·split;· exact CO hp
  ·exact CO (CO hp)
theorem UE {l:List Int}{t:Ty}{g:List Ty}{p q:Nat}{x:Tm}(h:NJ l t g p=(some x,q)):∃i:Nat,x=vT i/\i<g.length/\HG g i=t:=by
 unfold NJ at h;split at h;· cases h
 ·rename_i Ba;split at h;· cases h
  ·simp only[uD,uC]at h;generalize hk:(AW l (AW l p 3).2 (ES g t).length).1.toNat=k at h;have hb:=EM (l:=l) (p:=(AW l p 3).2) (n:=(ES g t).length) oO;have Ag:k<(ES g t).length:=oO;refine⟨(ES g t)[k],?_,z3j (List.getElem_mem Ag)⟩;rw[<- h.1,List.getD_eq_getElem?_getD,uB Ag,Option.getD_some]
theorem yC {i:Nat}:(vT i).shape=true:=by
 unfold vT;rw[Tm.shape_eq];simp[Tm.kind,Tm.index,Tm.type,Tm.args,Tm.shape.shapes,IM,C4,B5,Ty.zero,Ty.kind,Ty.args]
theorem HH {k:Int}{a:List Tm}(h:(a.length:Int)=B5 k)(hk:¬(k=2\/k=6\/k=9))(ha:∀x∈a,x.shape=true):(nT k a).shape=true:=by
 unfold nT;rw[Tm.shape_eq];have hz:C4 k (Ty.mk 0 [])=true:=by unfold C4;rw[if_neg hk];rfl
 simp only[Tm.kind,Tm.index,Tm.type,Tm.args,(Tm.shapes_iff a).2 ha,IM,hz,h];simp
theorem KA {k:Int}{s:Ty}{a:List Tm}(h:(a.length:Int)=B5 k)(hk:k=2\/k=6\/k=9)(hs:s.ok)(ha:∀x∈a,x.shape=true):(Tm.mk k 0 s a).shape=true:=by
 rw[Tm.shape_eq];simp only[Tm.kind,Tm.index,Tm.type,Tm.args,(Tm.shapes_iff a).2 ha,IM,C4,if_pos hk,h,(Ty.checkN_iff s).2 hs];simp
def TT (l:List Int)(F:Ty->List Ty->Nat->Tm × Nat)(Q:Ty->List Ty->Tm->Prop):Prop:=
 ∀t g p,t.small->(∀x∈g,x.small)->p<=l.length->(F t g p).2<=l.length/\Q t g (F t g p).1
structure DrawOK (Q:Ty->List Ty->Tm->Prop):Prop where
 var:∀g i,i<g.length->Q (HG g i) g (vT (i:Nat))
 num:∀g n,n<3->Q (Ty.mk 1 []) g (IU n)
 app:∀g s t f x,s.small->t.small->Q (Ty.mk 4 [s,t]) g f->Q s g x->Q t g (nT 3 [f,x])
 lam:∀g s t x,s.small->t.small->Q t (g++[s]) x->Q (Ty.mk 4 [s,t]) g (Tm.mk 2 0 s [x])
 lam2:∀g s t r x,s.small->t.small->r.small->Q r (g++[s,t]) x->Q (Ty.mk 4 [s,Ty.mk 4 [t,r]]) g (Tm.mk 2 0 s [Tm.mk 2 0 t [x]])
 lam3:∀g s t u r x,s.small->t.small->u.small->r.small->Q r (g++[s,t,u]) x->Q (Ty.mk 4 [s,Ty.mk 4 [t,Ty.mk 4 [u,r]]]) g (Tm.mk 2 0 s [Tm.mk 2 0 t [Tm.mk 2 0 u [x]]])
 pair:∀g s t x y,s.small->t.small->Q s g x->Q t g y->Q (Ty.mk 3 [s,t]) g (nT 10 [x,y])
 fst:∀g s t x,s.small->t.small->Q (Ty.mk 3 [s,t]) g x->Q s g (nT 11 [x])
 snd:∀g s t x,s.small->t.small->Q (Ty.mk 3 [s,t]) g x->Q t g (nT 12 [x])
 rc:∀g t x f n,t.small->Q t g x->Q (Ty.mk 4 [Ty.mk 1 [],Ty.mk 4 [t,t]]) g f->Q (Ty.mk 1 []) g n->Q t g (Tm.mk 6 0 t [x,f,n])
 fold:∀g t x f n,t.small->Q t g x->Q (Ty.mk 4 [Ty.mk 1 [],Ty.mk 4 [Ty.mk 2 [],Ty.mk 4 [t,t]]]) g f->Q (Ty.mk 2 []) g n->Q t g (Tm.mk 9 0 t [x,f,n])
 succ:∀g x,Q (Ty.mk 1 []) g x->Q (Ty.mk 1 []) g (nT 5 [x])
 plus:∀g x y,Q (Ty.mk 1 []) g x->Q (Ty.mk 1 []) g y->Q (Ty.mk 1 []) g (KS EF [x,y])
 sub:∀g x y,Q (Ty.mk 1 []) g x->Q (Ty.mk 1 []) g y->Q (Ty.mk 1 []) g (KS iT [x,y])
 nil:∀g,Q (Ty.mk 2 []) g (nT 7 [])
 cons:∀g x y,Q (Ty.mk 1 []) g x->Q (Ty.mk 2 []) g y->Q (Ty.mk 2 []) g (nT 8 [x,y])
 unit:∀g,Q (Ty.mk 5 []) g (nT 13 [])
theorem UF {l:List Int}{Q:Ty->List Ty->Tm->Prop}(hQ:DrawOK Q){p:Nat}(hp:p<=l.length)(g:List Ty):(aW l p).2<=l.length/\Q (Ty.mk 1 []) g (aW l p).1:=by
 have:=EM (l:=l) (p:=p) (n:=3) dD;exact⟨CO hp,hQ.num g _ oO⟩
theorem JT {t:Ty}(h:t.small):(t.kind=1/\t=Ty.mk 1 [])\/(t.kind=2/\t=Ty.mk 2 [])\/(t.kind=5/\t=Ty.mk 5 [])\/(t.kind=3/\t=Ty.mk 3 [t.arg 0,t.arg 1])\/(t.kind=4/\t=Ty.mk 4 [t.arg 0,t.arg 1]):=by
 cases t with
 | mk k ts=>
  have h1:=h.1;rw[Ty.shape_eq,uH]at h1;have hk:=h1.1;unfold HD at hk;simp[Ty.kind,Ty.args]at hk;rcases hk with⟨h2,rfl⟩|⟨h2,h3⟩;· rcases of_decide_eq_true h2 with rfl|rfl|rfl <;> simp[Ty.kind]
  ·match ts,h3 with
   | [a,b],_=>rcases of_decide_eq_true h2 with rfl|rfl <;> simp[Ty.kind,Ty.arg,Ty.args]
theorem aY {l:List Int}{F:Ty->List Ty->Nat->Tm × Nat}{Q:Ty->List Ty->Tm->Prop}(hQ:DrawOK Q)(hF:TT l F Q):TT l (eQ l F) Q:=by
 intro t g p ht hg hp;unfold eQ;have h5:=CO (n:=5) hp;have h2:=CO (n:=2) hp;rcases JT ht with⟨h,e⟩|⟨h,e⟩|⟨h,e⟩|⟨h,e⟩|⟨h,e⟩
 ·rw[if_pos h];obtain⟨a1,a2⟩:=hF t g _ ht hg h5;obtain⟨b1,b2⟩:=hF t g _ ht hg a1;rw[e]at a1 a2 b1 b2 ⊢;split;· exact⟨a1,hQ.succ g _ a2⟩
  split;· exact⟨b1,hQ.plus g _ _ a2 b2⟩
  split;· exact⟨b1,hQ.sub g _ _ a2 b2⟩
  ·exact UF hQ h5 g
 ·rw[if_neg oO,if_pos h];obtain⟨a1,a2⟩:=hF _ g _ DN hg h2;obtain⟨b1,b2⟩:=hF t g _ ht hg a1;rw[e]at b1 b2 ⊢;split;· exact⟨b1,hQ.cons g _ _ a2 b2⟩
  ·exact⟨h2,hQ.nil g⟩
 ·rw[if_neg oO,if_neg oO,if_neg oO,if_neg oO];rw[e];exact⟨hp,hQ.unit g⟩
 ·rw[if_neg oO,if_neg oO,if_pos h];obtain⟨s0,s1,_⟩:=ht.arg (.inl h);obtain⟨a1,a2⟩:=hF _ g _ s0 hg hp;obtain⟨b1,b2⟩:=hF _ g _ s1 hg a1;refine⟨b1,?_⟩;rw[e];exact hQ.pair g _ _ _ _ s0 s1 a2 b2
 ·rw[if_neg oO,if_neg oO,if_neg oO,if_pos h];obtain⟨s0,s1,_⟩:=ht.arg (.inr h);obtain⟨a1,a2⟩:=hF (t.arg 1) (g++[t.arg 0]) _ s1 (by intro x hx;rcases List.mem_append.1 hx with hx|hx;exact hg x hx;rw[List.mem_singleton.1 hx];exact s0) hp;refine⟨a1,?_⟩;rw[e];exact hQ.lam g _ _ _ s0 s1 a2
theorem n8 {l:List Int}{F:Ty->List Ty->Nat->Tm × Nat}{Q:Ty->List Ty->Tm->Prop}(hQ:DrawOK Q)(hF:TT l F Q)(k:Int):TT l (fun t g p=>IX l F t g k p) Q:=by
 intro t g p ht hg hp;have Bx:∀a:List Ty,(∀x∈a,x.small)->∀x∈g++a,x.small:=by
  intro a ha x hx;rcases List.mem_append.1 hx with hx|hx;· exact hg x hx
  ·exact ha x hx
 have Jf:∀s:Ty,s.small->∀x∈g++[s],x.small:=fun s hs=>Bx [s] (by simpa using hs);obtain⟨s1,s2⟩:=FL l (n:=0) hp dD;show (IX l F t g k p).2<=l.length/\Q t g (IX l F t g k p).1;unfold IX;split
 ·obtain⟨a1,a2⟩:=hF t _ _ ht (Jf _ s2) s1;obtain⟨b1,b2⟩:=hF _ g _ s2 hg a1;exact⟨b1,hQ.app g _ _ _ _ s2 ht (hQ.lam g _ _ _ s2 ht a2) b2⟩
 split
 ·obtain⟨a1,a2⟩:=hF t g _ ht hg s1;obtain⟨b1,b2⟩:=hF _ g _ s2 hg a1;exact⟨b1,hQ.fst g _ _ _ ht s2 (hQ.pair g _ _ _ _ ht s2 a2 b2)⟩
 split
 ·obtain⟨a1,a2⟩:=hF t _ _ ht (Bx [Ty.mk 1 [],t] (by intro x hx;simp at hx;rcases hx with rfl|rfl;exact DN;exact ht)) hp;obtain⟨b1,b2⟩:=hF t g _ ht hg a1;obtain⟨c1,c2⟩:=UF hQ b1 g;exact⟨c1,hQ.rc g _ _ _ _ ht b2 (hQ.lam2 g _ _ _ _ DN ht ht a2) c2⟩
 split
 ·obtain⟨a1,a2⟩:=hF t _ _ ht (Bx [Ty.mk 1 [],Ty.mk 2 [],t] (by intro x hx;simp at hx;rcases hx with rfl|rfl|rfl;exact DN;exact F7;exact ht)) hp;obtain⟨b1,b2⟩:=hF t g _ ht hg a1;obtain⟨c1,c2⟩:=hF _ g _ F7 hg b1;exact⟨c1,hQ.fold g _ _ _ _ ht b2 (hQ.lam3 g _ _ _ _ _ DN F7 ht ht a2) c2⟩
 split
 ·obtain⟨a1,a2⟩:=hF _ g _ s2 hg s1;obtain⟨b1,b2⟩:=hF t g _ ht hg a1;exact⟨b1,hQ.snd g _ _ _ s2 ht (hQ.pair g _ _ _ _ s2 ht a2 b2)⟩
 split
 ·split
  ·rename_i i hi;obtain⟨f1,f2,f3⟩:=X5 hi;have Lo:=hg _ (N3 f1).1;obtain⟨c0,c1,-⟩:=Lo.arg (.inr f2);obtain⟨a1,a2⟩:=hF _ g _ c0 hg hp;have hv:=hQ.var g i f1;rcases JT Lo with⟨h,e⟩|⟨h,e⟩|⟨h,e⟩|⟨h,e⟩|⟨h,e⟩;· omega
   ·omega
   ·omega
   ·omega
   ·rw[e,f3]at hv;exact⟨a1,hQ.app g _ _ _ _ c0 ht hv a2⟩
  ·exact aY hQ hF t g p ht hg hp
 ·exact aY hQ hF t g p ht hg hp
theorem Y6 {l:List Int}{Q:Ty->List Ty->Tm->Prop}(hQ:DrawOK Q):TT l (FB l) Q:=by
 intro t;generalize hn:t.count=n
 induction n using Nat.strongRecOn generalizing t with
 | _ n ih=>
 intro g p ht hg hp;rw[aX l t g p ht.ok];have hq:=PD (t:=t) (g:=g) hp;split
 ·rename_i x q hx;obtain⟨i,rfl,h1,h2⟩:=UE hx;rw[hx]at hq;have:=hQ.var g i h1;rw[h2]at this;exact⟨hq,this⟩
 ·rename_i q hx;rw[hx]at hq;rcases JT ht with⟨h,e⟩|⟨h,e⟩|⟨h,e⟩|⟨h,e⟩|⟨h,e⟩;· rw[if_pos h,e];exact UF hQ hq g
  ·rw[if_neg oO,if_pos h,e];exact⟨hq,hQ.nil g⟩
  ·rw[if_neg oO,if_neg oO,if_neg oO,if_neg oO,e];exact⟨hq,hQ.unit g⟩
  ·rw[if_neg oO,if_neg oO,if_pos h];obtain⟨s0,s1,hc⟩:=ht.arg (.inl h);have p0:=Ty.count_eq (t.arg 0);have p1:=Ty.count_eq (t.arg 1);obtain⟨a1,a2⟩:=ih _ oO (t.arg 0) rfl g _ s0 hg hq;obtain⟨b1,b2⟩:=ih _ oO (t.arg 1) rfl g _ s1 hg a1;refine⟨b1,?_⟩;have:=hQ.pair g _ _ _ _ s0 s1 a2 b2;rw[<- e]at this;exact this
  ·rw[if_neg oO,if_neg oO,if_neg oO,if_pos h];obtain⟨s0,s1,hc⟩:=ht.arg (.inr h);have p0:=Ty.count_eq (t.arg 0);have p1:=Ty.count_eq (t.arg 1);obtain⟨a1,a2⟩:=ih _ oO (t.arg 1) rfl (g++[t.arg 0]) _ s1 (by intro x hx;rcases List.mem_append.1 hx with hx|hx;exact hg x hx;rw[List.mem_singleton.1 hx];exact s0) hq;refine⟨a1,?_⟩;have:=hQ.lam g _ _ _ s0 s1 a2;rw[<- e]at this;exact this
theorem HV {l:List Int}{Q:Ty->List Ty->Tm->Prop}(hQ:DrawOK Q):∀n,TT l (DC l n) Q
 | 0=>Y6 hQ
 | n+1=>by
  intro t g p ht hg hp;have hq:=PD (t:=t) (g:=g) hp;unfold DC;split
  ·rename_i x q hx;obtain⟨i,rfl,h1,h2⟩:=UE hx;rw[hx]at hq;have:=hQ.var g i h1;rw[h2]at this;exact⟨hq,this⟩
  ·rename_i q hx;rw[hx]at hq;exact n8 hQ (HV hQ n) _ t g _ ht hg (CO hq)
theorem aZ {f x y:Tm}(hf:f.shape=true)(hx:x.shape=true)(hy:y.shape=true):(KS f [x,y]).shape=true:=by
 show (nT 3 [nT 3 [f,x],y]).shape=true;exact HH rfl dD (by intro z hz;simp at hz;rcases hz with rfl|rfl;exact HH rfl dD (by intro z hz;simp at hz;rcases hz with rfl|rfl;exact hf;exact hx);exact hy)
theorem KB:DrawOK (fun _ _ x=>x.shape=true) where
 var _ _ _:=yC
 num _ n _:=fS n
 app _ _ _ _ _ _ _ hf hx:=HH rfl dD (by intro z hz;simp at hz;rcases hz with rfl|rfl;exact hf;exact hx)
 lam _ _ _ _ hs _ hx:=KA rfl (.inl rfl) hs.ok (by intro z hz;simp at hz;rw[hz];exact hx)
 lam2 _ _ _ _ _ hs ht _ hx:=KA rfl (.inl rfl) hs.ok (by intro z hz;simp at hz;rw[hz];exact KA rfl (.inl rfl) ht.ok (by intro z hz;simp at hz;rw[hz];exact hx))
 lam3 _ _ _ _ _ _ hs ht hu _ hx:=KA rfl (.inl rfl) hs.ok (by intro z hz;simp at hz;rw[hz];exact KA rfl (.inl rfl) ht.ok (by intro z hz;simp at hz;rw[hz];exact KA rfl (.inl rfl) hu.ok (by intro z hz;simp at hz;rw[hz];exact hx)))
 pair _ _ _ _ _ _ _ hf hx:=HH rfl dD (by intro z hz;simp at hz;rcases hz with rfl|rfl;exact hf;exact hx)
 fst _ _ _ _ _ _ hx:=HH rfl dD (by intro z hz;simp at hz;rw[hz];exact hx)
 snd _ _ _ _ _ _ hx:=HH rfl dD (by intro z hz;simp at hz;rw[hz];exact hx)
 rc _ _ _ _ _ ht hx hf hn:=KA rfl (.inr (.inl rfl)) ht.ok (by intro z hz;simp at hz;rcases hz with rfl|rfl|rfl;exact hx;exact hf;exact hn)
 fold _ _ _ _ _ ht hx hf hn:=KA rfl (.inr (.inr rfl)) ht.ok (by intro z hz;simp at hz;rcases hz with rfl|rfl|rfl;exact hx;exact hf;exact hn)
 succ _ _ hx:=HH rfl dD (by intro z hz;simp at hz;rw[hz];exact hx)
 plus _ _ _ hx hy:=aZ dD hx hy
 sub _ _ _ hx hy:=aZ dD hx hy
 nil _:=rfl
 cons _ _ _ hf hx:=HH rfl dD (by intro z hz;simp at hz;rcases hz with rfl|rfl;exact hf;exact hx)
 unit _:=rfl
end
section
variable {gl:AF}
theorem Val.okB_kind {v:Val}(h:v.okB=true):(v.kind=1/\0<=v.num/\v.list=[]/\v.args=[])\/(v.kind=2/\v.num=0/\(∀n∈v.list,0<=n)/\v.args=[])\/(v.kind=3/\v.num=0/\v.list=[]/\∃a b,v.args=[a,b])\/(v.kind=4/\v.num=0/\v.list=[]/\v.args=[]):=by
 unfold Val.okB at h;by_cases h1:v.kind=1;· simp[h1]at h;exact .inl ⟨h1,h.1.1,h.1.2,h.2⟩
 by_cases h2:v.kind=2;· simp[h2]at h;exact .inr (.inl ⟨h2,h.1.1,h.1.2,h.2⟩)
 by_cases h3:v.kind=3
 ·simp[h3]at h;refine .inr (.inr (.inl ⟨h3,h.1.1,h.1.2,?_⟩))
  match hq:v.args,h.2 with
  | [a,b],_=>exact⟨a,b,rfl⟩
 by_cases h4:v.kind=4;· simp[h4]at h;exact .inr (.inr (.inr ⟨h4,h.1.1,h.1.2,h.2⟩))
 simp[h1,h2,h3,h4]at h
theorem Val.nodes_flat {v:Val}(h:v.args=[]):v.nodesN.2=v.okB:=by rw[nodesN_eq,h];rfl
theorem Val.nodes_pair {v a b:Val}(h:v.args=[a,b]):v.nodesN.2=(v.okB&&(a.nodesN.2&&b.nodesN.2)):=by
 rw[nodesN_eq,h];cases ho:v.okB <;> simp[nodesN.nodesL];cases ha:a.nodesN.2 <;> simp
theorem Val.nodes_bad {v:Val}(h:v.okB=false):v.nodesN.2=false:=by rw[nodesN_eq,h,nodesL_no]
theorem Val.nodes_count (v:Val)(h:v.nodesN.2=true):v.nodesN.1=v.count:=by
 induction v using Val.ind with
 | h v ih=>
 have key:∀l:List Val,(∀a∈l,a.nodesN.2=true->a.nodesN.1=a.count)->∀(n:Int) (ok:Bool),(nodesN.nodesL l (n,ok)).2=true->(nodesN.nodesL l (n,ok)).1=n+count.counts l:=by
  intro l
  induction l with
  | nil=>intro _ n ok _;simp[nodesN.nodesL,count.counts]
  | cons a r Fy=>
   intro hl n ok Ej;cases ok with
   | false=>rw[nodesL_no]at Ej;cases Ej
   | true=>
    simp only[nodesN.nodesL,if_true]at Ej ⊢;have ha:a.nodesN.2=true:=(nodesL_ok Ej).1;rw[Fy (fun b hb=>hl b (List.mem_cons_of_mem _ hb)) _ _ Ej,hl a sS ha];simp only[count.counts];omega
 rw[nodesN_eq]at h ⊢;rw[key v.args ih _ _ h,count_eq];omega
theorem zqi {l:List Int}{i:Nat}{Q:Int->Prop}(h:∀(j:Nat) (x:Int),j<i->l[j]? = some x->Q x)(h1:∀x,l[i]? = some x->Q x):∀(j:Nat) (x:Int),j<i+1->l[j]? = some x->Q x:=by
 intro j x hj hx;by_cases e:j=i;· rw[e]at hx;exact h1 x hx
 ·exact h j x oO hx
theorem z3k (v:Val):cT gl 185 [v.dv] [] (AK v.nodesN.2) []:=by
 induction v using Val.ind with
 | h v ih=>
 refine A8 Tryz.func185 ?_;intro X hP u7 hf u9 hn hR u6 u5;have Fu:=Val.fit_args (u5 v.dv sS);have Gf:=Val.fit_list (u5 v.dv sS);by_cases h1:v.kind=1
 ·have hv:v.nodesN.2=v.okB:=by
   by_cases ha:v.args=[];· exact Val.nodes_flat ha
   ·have:v.okB=false:=by unfold Val.okB;simp[h1,ha]
    rw[Val.nodes_bad this,this]
  have hb:v.okB=(decide (0<=v.num)&&decide (v.list.length=0)&&decide (v.args.length=0)):=by unfold Val.okB;simp[h1]
  rw[hv,hb]at hR;by_cases q1:0<=v.num
  ·by_cases q2:v.list.length=0
   ·by_cases q3:v.args.length=0
    ·refine A7 (j4 @h1 @q1 @q2 @q3) ?_;exact BD (j3 @q1 @q2 @q3)
    ·refine A7 (j4 @h1 @q1 @q2 @q3) ?_;exact BD (j3 @q1 @q2 @q3)
   ·refine A7 (j3 @h1 @q1 @q2) ?_;exact BD (j2 @q1 @q2)
  ·refine A7 (j2 @h1 @q1) ?_;exact BD @q1
 by_cases h2:v.kind=2
 ·have hv:v.nodesN.2=v.okB:=by
   by_cases ha:v.args=[];· exact Val.nodes_flat ha
   ·have:v.okB=false:=by unfold Val.okB;simp[h2,ha]
    rw[Val.nodes_bad this,this]
  have hb:v.okB=(decide (v.num=0)&&!v.list.any (fun n=>decide (n<0))&&decide (v.args.length=0)):=by unfold Val.okB;simp[h2]
  rw[hv,hb]at hR;refine A7 @h2 ?_;refine BK ?_;refine AC [] tT (FD (v.list.length) (fun i=>∀(j:Nat) (x:Int),j<i->v.list[j]? = some x->0<=x) (fun i=>[sV 29 (A0 i),sV 28 (A0 v.list.length),sV 27 (.sl (AP v.list)),sL 1 [.v (A0 v.kind),.v (A0 v.num),.v (.sl (AP v.list)),.v (.sl (v.args.map Val.cells))],sP 1]) (by intro j x h;omega) ?_ ?_)
  ·intro i hi hI Aa;obtain⟨x,hx⟩:∃x,v.list[i]? = some x:=⟨_,uB hi⟩;have Hi:=IS hx;refine A2 ?_;refine AE ?_;by_cases Mb:x<0
   ·have Ji:v.list.any (fun n=>decide (n<0))=true:=List.any_eq_true.2 ⟨x,uE hx,by simpa using Mb⟩;refine A7 (j2 @Hi @Mb) ?_;exact BD @Ji
   ·refine CR (wr []) tT (j2 @Hi @Mb) (Aa (zqi hI fun y hy=>by rw[hx]at hy;cases hy;omega))
  ·intro hI;have Ji:v.list.any (fun n=>decide (n<0))=false:=by
    rw[List.any_eq_false];intro x hx;obtain⟨j,hj,rfl⟩:=List.mem_iff_getElem.1 hx;have:=hI j _ hj (uB hj)
    simpa using this
   refine A2 ?_;refine B6 ?_;by_cases q1:v.num=0
   ·by_cases q3:v.args.length=0
    ·refine A7 (j2 @q1 @q3) ?_;exact BD (j3 @Ji @q1 @q3)
    ·refine A7 (j2 @q1 @q3) ?_;exact BD (j3 @Ji @q1 @q3)
   ·refine A7 @q1 ?_;exact BD (j2 @Ji @q1)
 by_cases h4:v.kind=4
 ·have hv:v.nodesN.2=v.okB:=by
   by_cases ha:v.args=[];· exact Val.nodes_flat ha
   ·have:v.okB=false:=by unfold Val.okB;simp[h4,ha]
    rw[Val.nodes_bad this,this]
  have hb:v.okB=(decide (v.num=0)&&decide (v.list.length=0)&&decide (v.args.length=0)):=by unfold Val.okB;simp[h4]
  rw[hv,hb]at hR;by_cases q1:v.num=0
  ·by_cases q2:v.list.length=0
   ·by_cases q3:v.args.length=0
    ·refine A7 (j4 @h4 @q1 @q2 @q3) ?_;exact BD (j3 @q1 @q2 @q3)
    ·refine A7 (j4 @h4 @q1 @q2 @q3) ?_;exact BD (j3 @q1 @q2 @q3)
   ·refine A7 (j3 @h4 @q1 @q2) ?_;exact BD (j2 @q1 @q2)
  ·refine A7 (j2 @h4 @q1) ?_;exact BD @q1
 by_cases h3:v.kind=3
 ·have hb:v.okB=(decide (v.num=0)&&decide (v.list.length=0)&&decide (v.args.length=2)):=by unfold Val.okB;simp[h3]
  by_cases q1:v.num=0
  ·by_cases q2:v.list.length=0
   ·by_cases q3:v.args.length=2
    ·obtain⟨a,b,Lg⟩:∃a b,v.args=[a,b]:=by
      match hq:v.args,q3 with
      | [a,b],_=>exact⟨a,b,rfl⟩
     have hv:=Val.nodes_pair Lg;rw[hv,hb]at hR;by_cases ha:a.nodesN.2=true
     ·refine A7 @h3 ?_;refine EW (j5 @h3 @q1 @q2 @Lg @ha) (ih a (by rw[Lg];simp)) (ih b (by rw[Lg];simp)) ?_;exact BD (j4 @q1 @q2 @q3 @ha)
     ·have ha':a.nodesN.2=false:=by simpa using ha
      refine A7 @h3 ?_;refine A3 (j5 @h3 @q1 @q2 @Lg @ha') (ih a (by rw[Lg];simp)) ?_;exact BD (j4 @q1 @q2 @q3 @ha')
    ·rw[Val.nodes_bad (by rw[hb];simp[q3])]at hR;have q4:¬(v.args.length:Int)=2:=oO;refine A7 (j4 @h3 @q1 @q2 @q4) ?_;exact BR
   ·rw[Val.nodes_bad (by rw[hb];simp[q2])]at hR;refine A7 (j3 @h3 @q1 @q2) ?_;exact BR
  ·rw[Val.nodes_bad (by rw[hb];simp[q1])]at hR;refine A7 (j2 @h3 @q1) ?_;exact BR
 rw[Val.nodes_bad (by unfold Val.okB;simp[h1,h2,h3,h4])]at hR;refine A7 (j4 @h1 @h2 @h3 @h4) ?_;exact BR
theorem z3l (v:Val)(hc:v.count<=1073741824):cT gl 186 [v.dv] [] (A0 v.count) []:=by
 induction v using Val.ind with
 | h v ih=>
 refine A8 Tryz.func186 ?_;intro X hP u7 hf u9 hn hR u6 u5;have Fu:=Val.fit_args (u5 v.dv sS);have Et:=Val.count_eq v;refine A4 ?_;refine BK ?_;refine GH [] (by simp[go_sem]) (by simp[go_sem,Val.count.counts] <;> omega) (by simp[go_sem]) (FE (v.args) (fun done rest=>[sV 9 (A0 done.length),sV 8 (A0 v.args.length),sV 7 (.sl (v.args.map Val.cells)),sV 3 (A0 (1+Val.count.counts done:Nat)),sV 2 (A0 0)]) ?_ ?_)
 ·intro done x rest hL Aq Aa;have Ag:done.length<v.args.length:=by rw[hL];simp
  have Dd:=uE Aq;have Df:=Val.counts_append done (x::rest);have Dp:=Val.counts_append done [x];rw[<- hL]at Df;simp only[Val.count.counts]at Df Dp;refine A2 ?_;refine AE ?_;refine A7 @Aq ?_;refine A3 @Aq (ih x Dd oO) ?_;refine CR (wr []) @Dp tT Aa
 ·refine A2 ?_;refine B6 ?_;refine A4 ?_;exact BD @Et
theorem Val.checkN_eq (v:Val):v.checkN=if v.nodesN.2=true then if 64<v.count then 4 else 0 else 2:=by
 unfold Val.checkN;by_cases h:v.nodesN.2=true
 ·rw[if_pos h,if_pos h,Val.nodes_count v h];by_cases h2:64<v.count;· rw[if_pos oO,if_pos h2]
  ·rw[if_neg oO,if_neg h2]
 ·rw[if_neg h,if_neg h]
theorem z3m (v:Val)(hc:v.count<=1073741824):cT gl 172 [v.dv] [] (A0 v.checkN) []:=by
 refine A8 Tryz.func172 ?_;intro X hP u7 hf u9 hn hR u6 u5;rw[Val.checkN_eq]at hR;refine A4 ?_;refine A3 tT (z3k v) ?_;by_cases h:v.nodesN.2=true
 ·rw[if_pos h]at hR;refine A7 @h ?_;refine A3 tT (z3l v hc) ?_;by_cases h2:64<v.count
  ·refine A7 @h2 ?_;exact BD @h2
  ·refine A7 @h2 ?_;exact BD @h2
 ·rw[if_neg h]at hR;refine A7 @h ?_;exact BR
theorem z3n (v:Val)(ht:v.nodesN.2=true):cT gl 173 [v.dv] [] v.tyN.dv []:=by
 induction v using Val.ind with
 | h v ih=>
 refine A8 Tryz.func173 ?_;intro X hP u7 hf u9 hn hR u6 u5;have Ej:v.okB=true:=by
  cases hq:v.okB with
  | true=>rfl
  | false=>rw[Val.nodes_bad hq]at ht;cases ht
 rw[Val.tyN_eq]at hR;rcases Val.okB_kind Ej with⟨h,-⟩|⟨h,-⟩|⟨h,-,-,a,b,Lg⟩|⟨h,-⟩
 ·refine A7 @h ?_;refine A3 tT BM ?_;exact AT @h
 ·refine A7 @h ?_;refine A3 tT EI ?_;exact AT @h
 ·have hv:=Val.nodes_pair Lg;rw[ht,Ej]at hv;simp at hv;refine A7 @h ?_;refine OL (j2 @h @Lg) (ih a (by rw[Lg];simp) hv.1) (ih b (by rw[Lg];simp) hv.2) (K6 a.tyN b.tyN) ?_;exact AT (j2 @h @Lg)
 ·refine A7 @h ?_;refine A3 tT IT ?_;exact AT @h
theorem z3o (v:Val)(hc:v.count<=1073741824):cT gl 145 [v.dv] [] (.tup [v.typeE.1.dv,A0 v.typeE.2]) []:=by
 refine A8 Tryz.func145 ?_;intro X hP u7 hf u9 hn hR u6 u5;refine A4 ?_;refine A3 tT (z3m v hc) ?_;by_cases h:v.checkN=0
 ·have Ej:v.nodesN.2=true:=by
   unfold Val.checkN at h;split at h
   ·assumption
   ·cases h
  refine A7 @h ?_;refine A3 tT (z3n v Ej) ?_;exact AT (j2 @Val.typeE.eq_1 @h)
 ·refine A7 @h ?_;exact AT (j3 @Val.typeE.eq_1 @h @A9.eq_1)
end
section
theorem G4 {Γ:List T}{t:Tm}{a:T}{F:C3 Γ->a.V}(h:Dn Γ t a F):t.shape=true:=by
 have one:∀{x:Tm},x.shape=true->∀z∈[x],z.shape=true:=by intro x hx z hz;rw[List.mem_singleton.1 hz];exact hx
 have two:∀{x y:Tm},x.shape=true->y.shape=true->∀z∈[x,y],z.shape=true:=by
  intro x y hx hy z hz;simp at hz;rcases hz with rfl|rfl;exact hx;exact hy
 have three:∀{x y w:Tm},x.shape=true->y.shape=true->w.shape=true->∀z∈[x,y,w],z.shape=true:=by
  intro x y w hx hy hw z hz;simp at hz;rcases hz with rfl|rfl|rfl;exact hx;exact hy;exact hw
 induction h with
 | var h=>exact yC
 | lam ha hb ih=>exact KA rfl (.inl rfl) (T.ok_ty ha) (one ih)
 | app hf hx Ie Ga=>exact HH rfl dD (two Ie Ga)
 | zero=>rfl
 | succ hx ih=>exact HH rfl dD (one ih)
 | rc ha hb hf hn Cu Ie Dj=>exact KA rfl (.inr (.inl rfl)) (T.ok_ty ha) (three Cu Ie Dj)
 | nil=>rfl
 | cons hx hl Ga Uo=>exact HH rfl dD (two Ga Uo)
 | fold ha hb hf hn Cu Ie Dj=>exact KA rfl (.inr (.inr rfl)) (T.ok_ty ha) (three Cu Ie Dj)
 | pair hx hy Ga Pg=>exact HH rfl dD (two Ga Pg)
 | fst hx ih=>exact HH rfl dD (one ih)
 | snd hx ih=>exact HH rfl dD (one ih)
 | unit=>rfl
theorem At.lt {Γ:List T}{i:Nat}{a:T}{p:C3 Γ->a.V}(h:At Γ i a p):i<Γ.length:=by
 have:=h.get;exact (uA this).1
theorem z9y {Γ:List T}{t:Tm}{a:T}{F:C3 Γ->a.V}(h:Dn Γ t a F):∀m:Int,(Γ.length:Int)+t.count<=m->t.leastN m=true:=by
 have Pp:∀(k:Int) (y:Ty) (m:Int),0<=m->(Tm.mk k 0 y []).leastN m=true:=by
  intro k y m hm;rw[Tm.leastN_eq];have h9:decide (m<(0:Int))=false:=decide_eq_false oO;simp[Tm.index,Tm.args,Tm.leastN.leasts,h9] <;> exact decide_eq_false oO
 have node1:∀(k:Int) (y:Ty) (x:Tm) (m:Int),0<=m->x.leastN m=true->(Tm.mk k 0 y [x]).leastN m=true:=by
  intro k y x m hm h1;rw[Tm.leastN_eq];have h9:decide (m<(0:Int))=false:=decide_eq_false oO;simp[Tm.index,Tm.args,Tm.leastN.leasts,h9,h1] <;> exact decide_eq_false oO
 have node2:∀(k:Int) (y:Ty) (x z:Tm) (m:Int),0<=m->x.leastN m=true->z.leastN m=true->(Tm.mk k 0 y [x,z]).leastN m=true:=by
  intro k y x z m hm h1 h2;rw[Tm.leastN_eq];have h9:decide (m<(0:Int))=false:=decide_eq_false oO;simp[Tm.index,Tm.args,Tm.leastN.leasts,h9,h1,h2] <;> exact decide_eq_false oO
 have node3:∀(k:Int) (y:Ty) (x z w:Tm) (m:Int),0<=m->x.leastN m=true->z.leastN m=true->w.leastN m=true->(Tm.mk k 0 y [x,z,w]).leastN m=true:=by
  intro k y x z w m hm h1 h2 h3;rw[Tm.leastN_eq];have h9:decide (m<(0:Int))=false:=decide_eq_false oO;simp[Tm.index,Tm.args,Tm.leastN.leasts,h9,h1,h2,h3] <;> exact decide_eq_false oO
 induction h with
 | var h=>
  intro m hm;have:=h.lt;rename_i Γ i a p;have h9:decide (m<((i:Nat):Int))=false:=decide_eq_false oO;rw[vT,Tm.leastN_eq];simp[Tm.index,Tm.args,Tm.leastN.leasts,h9] <;> exact decide_eq_false oO
 | lam ha hb ih=>
  intro m hm;rename_i Γ a r b f;have hc:(AY a b).count=1+(b.count+0):=rfl;rw[hc]at hm;exact node1 _ _ _ _ oO (ih m (by simp only[List.length_cons];omega))
 | app hf hx Ie Ga=>
  intro m hm;rename_i Γ a b f x F X;have hc:(nT 3 [f,x]).count=1+(f.count+(x.count+0)):=rfl;rw[hc]at hm;exact node2 _ _ _ _ _ oO (Ie m oO) (Ga m oO)
 | zero=>intro m hm;exact Pp _ _ _ oO
 | succ hx ih=>
  intro m hm;rename_i Γ x X;have hc:(nT 5 [x]).count=1+(x.count+0):=rfl;rw[hc]at hm;exact node1 _ _ _ _ oO (ih m oO)
 | rc ha hb hf hn Cu Ie Dj=>
  intro m hm;rename_i Γ a b f n B F N;have hc:(Tm.mk 6 0 a.ty [b,f,n]).count=1+(b.count+(f.count+(n.count+0))):=rfl;rw[hc]at hm;exact node3 _ _ _ _ _ _ oO (Cu m oO) (Ie m oO) (Dj m oO)
 | nil=>intro m hm;exact Pp _ _ _ oO
 | cons hx hl Ga Uo=>
  intro m hm;rename_i Γ x l X L;have hc:(nT 8 [x,l]).count=1+(x.count+(l.count+0)):=rfl;rw[hc]at hm;exact node2 _ _ _ _ _ oO (Ga m oO) (Uo m oO)
 | fold ha hb hf hn Cu Ie Dj=>
  intro m hm;rename_i Γ a b f n B F N;have hc:(Tm.mk 9 0 a.ty [b,f,n]).count=1+(b.count+(f.count+(n.count+0))):=rfl;rw[hc]at hm;exact node3 _ _ _ _ _ _ oO (Cu m oO) (Ie m oO) (Dj m oO)
 | pair hx hy Ga Pg=>
  intro m hm;rename_i Γ a b x y X Y;have hc:(nT 10 [x,y]).count=1+(x.count+(y.count+0)):=rfl;rw[hc]at hm;exact node2 _ _ _ _ _ oO (Ga m oO) (Pg m oO)
 | fst hx ih=>
  intro m hm;rename_i Γ a b x X;have hc:(nT 11 [x]).count=1+(x.count+0):=rfl;rw[hc]at hm;exact node1 _ _ _ _ oO (ih m oO)
 | snd hx ih=>
  intro m hm;rename_i Γ a b x X;have hc:(nT 12 [x]).count=1+(x.count+0):=rfl;rw[hc]at hm;exact node1 _ _ _ _ oO (ih m oO)
 | unit=>intro m hm;exact Pp _ _ _ oO
theorem FM (t:Tm)(f b:Int):(t.upN f b).count=t.count:=by
 induction t using Tm.ind generalizing f with
 | h t ih=>
 rw[Tm.upN_eq,Tm.count_eq,Tm.count_eq t,Tm.args_mk];have key:∀l:List Tm,(∀a∈l,a∈t.args)->Tm.count.counts (l.map fun x=>x.upN (f+JR t.kind) b)=Tm.count.counts l:=by
  intro l
  induction l with
  | nil=>intro _;rfl
  | cons a r Fy=>intro h;simp only[List.map_cons,Tm.count.counts,ih a (h a sS),Fy fun b hb=>h b (by simp[hb])]
 rw[key t.args fun _ h=>h]
theorem LQ:∀(a:T) (v:a.V),a.plain->(C5 a v).nodesN.2=true/\(C5 a v).count<=a.size
 | .nat,n,_=>⟨by rw[Val.nodes_flat rfl];simp[C5,Val.okB,Val.kind,Val.num,Val.list,Val.args];exact decide_eq_true (Int.natCast_nonneg _),Nat.le_refl _⟩
 | .list,l,_=>⟨by rw[Val.nodes_flat rfl];simp[C5,Val.okB,Val.kind,Val.num,Val.list,Val.args];intro x hx;obtain⟨n,_,rfl⟩:=List.mem_map.1 hx;exact Int.natCast_nonneg _,Nat.le_refl _⟩
 | .unit,_,_=>⟨rfl,Nat.le_refl _⟩
 | .pair a b,p,h=>by
  obtain⟨a1,a2⟩:=LQ a p.1 h.1;obtain⟨b1,b2⟩:=LQ b p.2 h.2;refine⟨?_,?_⟩;· rw[Val.nodes_pair (v:=C5 (.pair a b) p) rfl,a1,b1];rfl
  ·show 1+((C5 a p.1).count+((C5 b p.2).count+0))<=1+a.size+b.size;omega
 | .fn _ _,_,h=>h.elim
abbrev CE:Ty:=Ty.mk 1 []
abbrev zY:Ty:=Ty.mk 0 []
def IN (k:Int)(s:Ty)(l:List Tm):Tm × Int:=if 4096<(Tm.mk k 0 s l).count then (AA,4) else (Tm.mk k 0 s l,0)
def AH (e k:Int)(s:Ty)(l:List Tm):Tm × Int:=if e=0 then IN k s l else (AA,e)
theorem z9z {k:Int}{s:Ty}{l:List Tm}(h:(IN k s l).2=0):(IN k s l).1=Tm.mk k 0 s l/\(Tm.mk k 0 s l).count<=4096:=by
 unfold IN at h ⊢;split at h;· cases h
 ·rename_i hc;rw[if_neg hc];exact⟨rfl,oO⟩
theorem GM {e k:Int}{s:Ty}{l:List Tm}(h:(AH e k s l).2=0):e=0/\(AH e k s l).1=Tm.mk k 0 s l/\(Tm.mk k 0 s l).count<=4096:=by
 unfold AH at h ⊢;by_cases he:e=0;· rw[if_pos he]at h ⊢;exact⟨he,z9z h⟩
 ·rw[if_neg he]at h;exact absurd h he
theorem za0 (e k:Int)(s:Ty)(l:List Tm)(he:e=0\/e=4):(AH e k s l).2=0\/(AH e k s l).2=4:=by
 unfold AH IN;split
 ·split;· exact .inr rfl
  ·exact .inl rfl
 ·exact he
def zgd (t:Tm)(g:List Ty)(a:T):Prop:=t.inferN g=(a.ty,0)\/(t.inferN g).2=4
def tR (g:List Ty):List Tm->List T->Prop
 | [],[]=>True
 | t::r,a::s=>zgd t g a/\tR g r s
 | _,_=>False
theorem b5 {g:List Ty}:∀{l:List Tm} {ts:List T},tR g l ts->(Tm.inferN.infers l g=(ts.map T.ty,0))\/(Tm.inferN.infers l g).2=4
 | [],[],_=>.inl rfl
 | [],_::_,h=>h.elim
 | _::_,[],h=>h.elim
 | t::r,a::s,⟨h,hr⟩=>by
  simp only[Tm.inferN.infers];rcases h with h|h
  ·rw[h];rcases b5 hr with h2|h2;· rw[h2];exact .inl rfl
   ·right;rw[if_pos rfl,if_neg (by rw[h2];decide)];exact h2
  ·right;rw[if_neg (by rw[h];decide)];exact h
theorem FI {k:Int}{y:Ty}{l:List Tm}{g:List Ty}{ts:List T}{a:T}(hk:¬k=1)(h:tR (if k=2 then g++[y] else g) l ts)
  (hr:CD k y (ts.map T.ty)=(a.ty,0)\/(CD k y (ts.map T.ty)).2=4):zgd (Tm.mk k 0 y l) g a:=by
 have e0:(Tm.mk k 0 y l).inferN g=if (Tm.inferN.infers l (if k=2 then g++[y] else g)).2=0 then CD k y (Tm.inferN.infers l (if k=2 then g++[y] else g)).1 else (A9,(Tm.inferN.infers l (if k=2 then g++[y] else g)).2):=by
  rw[Tm.inferN_eq,if_neg (show ¬(Tm.mk k 0 y l).kind=1 from hk)];rfl
 unfold zgd;rw[e0];rcases b5 h with e|e
 ·rw[e,if_pos rfl];exact hr
 ·right
  rw[if_neg (by rw[e];decide)];exact e
theorem yD (y:Ty):X2 y=(y,0)\/(X2 y).2=4:=by
 unfold X2;split;· exact .inl rfl
 ·exact .inr rfl
theorem JU {Γ:List T}{t:Tm}{a:T}{F:C3 Γ->a.V}(h:Dn Γ t a F):zgd t (Γ.reverse.map T.ty) a:=by
 induction h with
 | @var Γ i a p h=>
  left
  have hg:=At.get h;have Ag:i<Γ.length:=(uA hg).1;rw[Tm.inferN_eq,if_pos (show (vT i).kind=1 from rfl)];rw[if_neg (by show ¬(((Γ.reverse.map T.ty).length:Int)<=(i:Int));simp;omega)];have hi:(vT i).index.toNat=i:=rfl;rw[hi,List.getD_eq_getElem?_getD,List.getElem?_map];have:Γ.reverse[(Γ.reverse.map T.ty).length - 1 - i]? = some a:=by
   rw[List.getElem?_reverse (by simp;omega)];simp only[List.length_map,List.length_reverse];rw[show Γ.length - 1 - (Γ.length - 1 - i)=i from oO];exact hg
  rw[this];rfl
 | @lam Γ a r b f ha h ih=>
  refine FI (ts:=[r]) dD ⟨?_,trivial⟩ (yD _);rw[if_pos rfl]
  simpa using ih
 | @app Γ a b f x F X hf hx Bo Bh=>
  refine FI (ts:=[.fn a b,a]) dD ⟨Bo,Bh,trivial⟩ (.inl ?_);show (if (4:Int)=4/\a.ty.same a.ty=true then (b.ty,(0:Int)) else (A9,7))=(b.ty,0);rw[if_pos ⟨rfl,(Ty.same_iff _ _).2 rfl⟩]
 | zero=>exact FI (ts:=[]) dD tT (.inl rfl)
 | succ hx ih=>exact FI (ts:=[.nat]) dD ⟨ih,trivial⟩ (.inl rfl)
 | @rc Γ a b f n B F N ha hb hf hn Bo Bh Gn=>
  refine FI (ts:=[a,.fn .nat (.fn a a),.nat]) dD ⟨Bo,Bh,Gn,trivial⟩ (.inl ?_);show (if a.ty.same a.ty=true/\(T.fn .nat (.fn a a)).ty.same (Ty.mk 4 [Ty.mk 1 [],Ty.mk 4 [a.ty,a.ty]])=true/\(T.ty .nat).same (Ty.mk 1 [])=true then (a.ty,(0:Int)) else (A9,7))=(a.ty,0);rw[if_pos ⟨(Ty.same_iff _ _).2 rfl,(Ty.same_iff _ _).2 rfl,(Ty.same_iff _ _).2 rfl⟩]
 | nil=>exact FI (ts:=[]) dD tT (.inl rfl)
 | cons hx hl Bo Bh=>exact FI (ts:=[.nat,.list]) dD ⟨Bo,Bh,trivial⟩ (.inl rfl)
 | @fold Γ a b f n B F N ha hb hf hn Bo Bh Gn=>
  refine FI (ts:=[a,.fn .nat (.fn .list (.fn a a)),.list]) dD ⟨Bo,Bh,Gn,trivial⟩ (.inl ?_);show (if a.ty.same a.ty=true/\(T.fn .nat (.fn .list (.fn a a))).ty.same (Ty.mk 4 [Ty.mk 1 [],Ty.mk 4 [Ty.mk 2 [],Ty.mk 4 [a.ty,a.ty]]])=true/\(T.ty .list).same (Ty.mk 2 [])=true then (a.ty,(0:Int)) else (A9,7))=(a.ty,0);rw[if_pos ⟨(Ty.same_iff _ _).2 rfl,(Ty.same_iff _ _).2 rfl,(Ty.same_iff _ _).2 rfl⟩]
 | @pair Γ a b x y X Y hx hy Bo Bh=>exact FI (ts:=[a,b]) dD ⟨Bo,Bh,trivial⟩ (yD _)
 | @fst Γ a b x X hx ih=>exact FI (ts:=[.pair a b]) dD ⟨ih,trivial⟩ (.inl rfl)
 | @snd Γ a b x X hx ih=>exact FI (ts:=[.pair a b]) dD ⟨ih,trivial⟩ (.inl rfl)
 | unit=>exact FI (ts:=[]) dD tT (.inl rfl)
def QA:Ty->T
 | .mk k ts=>if k=1 then .nat else if k=2 then .list else if k=3 then .pair ((toTs ts).getD 0 .unit) ((toTs ts).getD 1 .unit) else if k=4 then .fn ((toTs ts).getD 0 .unit) ((toTs ts).getD 1 .unit) else .unit
where
 toTs:List Ty->List T
  | []=>[]
  | x::r=>QA x::toTs r
theorem FU (a:T):QA a.ty=a:=by
 induction a with
 | nat=>rfl
 | list=>rfl
 | unit=>rfl
 | pair a b Fq Cu=>
  show QA (Ty.mk 3 [a.ty,b.ty])=_;rw[QA];simp only[QA.toTs,Fq,Cu];rfl
 | fn a b Fq Cu=>
  show QA (Ty.mk 4 [a.ty,b.ty])=_;rw[QA];simp only[QA.toTs,Fq,Cu];rfl
def tyR (k:Int)(y:Ty)(l:List T):T:=
 if k=3 then (match l.getD 0 .unit with | .fn _ b=>b|_=>.unit)
 else if k=4\/k=5 then .nat
 else if k=6\/k=9 then QA y
 else if k=7\/k=8 then .list
 else if k=10 then .pair (l.getD 0 .unit) (l.getD 1 .unit)
 else if k=11 then (match l.getD 0 .unit with | .pair a _=>a|_=>.unit)
 else if k=12 then (match l.getD 0 .unit with | .pair _ b=>b|_=>.unit)
 else .unit
def GY:List T->Tm->T
 | g,.mk k i y a=>
  if k=1 then g.getD (g.length - 1 - i.toNat) .unit
  else if k=2 then .fn (QA y) ((tysT (g++[QA y]) a).getD 0 .unit)
  else tyR k y (tysT g a)
where
 tysT:List T->List Tm->List T
  | _,[]=>[]
  | g,x::r=>GY g x::tysT g r
theorem L4 (g:List T)(t:Tm):GY g t=if t.kind=1 then g.getD (g.length - 1 - t.index.toNat) .unit else if t.kind=2 then .fn (QA t.type) ((GY.tysT (g++[QA t.type]) t.args).getD 0 .unit) else tyR t.kind t.type (GY.tysT g t.args):=by
 cases t;rw[GY];rfl
theorem za1 {Γ:List T}{i:Nat}{a:T}{p:C3 Γ->a.V}(h:At Γ i a p):Γ.reverse.getD (Γ.reverse.length - 1 - i) .unit=a:=by
 have hg:=At.get h;have Ag:i<Γ.length:=(uA hg).1;rw[List.getD_eq_getElem?_getD,List.getElem?_reverse (by simp;omega)];simp only[List.length_reverse];rw[show Γ.length - 1 - (Γ.length - 1 - i)=i from oO,hg];rfl
theorem B7 {Γ:List T}{t:Tm}{a:T}{F:C3 Γ->a.V}(h:Dn Γ t a F):GY Γ.reverse t=a:=by
 induction h with
 | @var Γ i a p h=>rw[L4,if_pos (show (vT i).kind=1 from rfl)];exact za1 h
 | @lam Γ a r b f ha h ih=>
  rw[L4];show T.fn (QA a.ty) (GY (Γ.reverse++[QA a.ty]) b)=_;rw[FU];have:=ih;simp only[List.reverse_cons]at this;rw[this]
 | @app Γ a b f x F X hf hx Bo Bh=>rw[L4];show (match GY Γ.reverse f with | .fn _ b=>b|_=>.unit)=_;rw[Bo]
 | zero=>rw[L4];rfl
 | succ hx ih=>rw[L4];rfl
 | @rc Γ a b f n B F N ha hb hf hn Bo Bh Gn=>rw[L4];exact FU a
 | nil=>rw[L4];rfl
 | cons hx hl Bo Bh=>rw[L4];rfl
 | @fold Γ a b f n B F N ha hb hf hn Bo Bh Gn=>rw[L4];exact FU a
 | @pair Γ a b x y X Y hx hy Bo Bh=>rw[L4];show T.pair (GY Γ.reverse x) (GY Γ.reverse y)=_;rw[Bo,Bh]
 | @fst Γ a b x X hx ih=>rw[L4];show (match GY Γ.reverse x with | .pair a _=>a|_=>.unit)=_;rw[ih]
 | @snd Γ a b x X hx ih=>rw[L4];show (match GY Γ.reverse x with | .pair _ b=>b|_=>.unit)=_;rw[ih]
 | unit=>rw[L4];rfl
def IH (e f:Int):Int:=if e=0 then f else e
def DD (a:T):Ty:=if a.tk.size<=64 then a.tk.ty else A9
def BS (a:T):Int:=if a.tk.size<=64 then 0 else 4
def FN (y:Ty):Ty:=if y.count+2<=64 then Ty.mk 3 [CE,y] else A9
def GN (y:Ty):Int:=if y.count+2<=64 then 0 else 4
def DY (e:Int)(a:T):Ty × Int:=(FN (DD a),IH (IH e (BS a)) (GN (DD a)))
def G5 (e i:Int):Tm × Int:=AH e 11 zY [vT i]
def F3 (e i:Int):Tm × Int:=AH e 12 zY [vT i]
def VO (e:Int)(o x:Tm):Tm × Int:=AH (AH e 3 zY [EF,o]).2 3 zY [(AH e 3 zY [EF,o]).1,x]
def HX:Int->Tm->List Tm->Tm × Int
 | e,o,[]=>(o,e)
 | e,o,x::r=>HX (VO e o x).2 (VO e o x).1 r
def GE (e:Int)(s:Ty)(is Xe:Tm):Tm × Int:=AH (AH e 2 s [Xe]).2 3 zY [(AH e 2 s [Xe]).1,is]
def AU (i:Int):Tm:=nT 11 [vT i]
def AS (i:Int):Tm:=nT 12 [vT i]
def CG:Tm->List Tm->Tm
 | o,[]=>o
 | o,x::r=>CG (nT 3 [nT 3 [EF,o],x]) r
def C0 (a:T)(is Xe:Tm):Tm:=nT 3 [AY a.wt Xe,is]
def kN (k:Int)(a:T)(x:Tm):Tm:=C0 a x (nT 10 [AU 0,nT k [AS 0]])
def S7 (k:Int)(a b:T)(x y:Tm):Tm:=C0 a x (C0 b (y.upN 0 1) (nT 10 [CG (AU 1) [AU 0],nT k [AS 1,AS 0]]))
def MG (a b:T)(x y:Tm):Tm:=C0 (.fn a b) x (C0 a (y.upN 0 1) (C0 b (nT 3 [AS 1,AS 0]) (nT 10 [nT 5 [CG (AU 2) [AU 1,AU 0]],AS 0])))
def EO (a:T):Tm:=C0 (.fn a a) (nT 3 [AS 3,vT 1]) (C0 a (nT 3 [AS 0,AS 1]) (nT 10 [nT 5 [CG (AU 2) [AU 1,AU 0]],AS 0]))
def CW (a:T):Tm:=C0 (.fn .list (.fn a a)) (nT 3 [AS 4,vT 2]) (C0 (.fn a a) (nT 3 [AS 0,vT 2]) (C0 a (nT 3 [AS 0,AS 2]) (nT 10 [nT 5 [CG (AU 3) [AU 2,AU 1,AU 0]],AS 0])))
def HY (k:Int)(a:T):Tm:=if k=6 then AY .nat (AY a.wt (EO a)) else AY .nat (AY .list (AY a.wt (CW a)))
def F4 (k:Int)(a b0 b1 b2:T)(x y z:Tm):Tm:=
 C0 b0 x (C0 b1 (y.upN 0 1) (C0 b2 (z.upN 0 2) (C0 a (Tm.mk k 0 a.wt.ty [nT 10 [nT 4 [],AS 2],HY k a,AS 0]) (nT 10 [CG (AU 3) [AU 2,AU 1,AU 0],AS 0]))))
def Er (e:Int):Prop:=e=0\/e=4
theorem AN {e:Int}(h:Er e)(k:Int)(s:Ty)(l:List Tm):Er (AH e k s l).2:=za0 _ _ _ _ h
theorem yE {e f:Int}(h:Er e)(h':Er f):Er (IH e f):=by unfold IH;split;exact h';exact h
theorem za2 (a:T):Er (BS a):=by unfold BS;split;exact .inl rfl;exact .inr rfl
theorem zge (y:Ty):Er (GN y):=by unfold GN;split;exact .inl rfl;exact .inr rfl
theorem GO {e:Int}(h:Er e)(a:T):Er (DY e a).2:=yE (yE h (za2 a)) (zge _)
theorem X6:∀(l:List Tm) {e:Int} (_:Er e) (o:Tm),Er (HX e o l).2
 | [],_,h,_=>h
 | _::r,_,h,_=>X6 r (AN (AN h _ _ _) _ _ _) _
theorem JJ {e:Int}(h:Er e)(s:Ty)(x y:Tm):Er (GE e s x y).2:=AN (AN h _ _ _) _ _ _
theorem yF {e f:Int}(h:IH e f=0):e=0/\f=0:=by
 unfold IH at h;split at h;· rename_i h1;exact⟨h1,h⟩
 ·rename_i h1;exact absurd h h1
theorem tS {a:T}(h:BS a=0):a.tk.ok/\DD a=a.tk.ty:=by
 unfold BS at h;unfold DD T.ok;split at h;· rename_i h1;exact⟨h1,if_pos h1⟩
 ·cases h
theorem zgf {e:Int}{a:T}(h:(DY e a).2=0):e=0/\a.wt.ok/\(DY e a).1=a.wt.ty:=by
 obtain⟨h1,h2⟩:=yF h;obtain⟨h3,h4⟩:=yF h1;obtain⟨h5,h6⟩:=tS h4;unfold GN at h2;rw[h6,T.ty_count]at h2;split at h2
 ·rename_i h7;refine⟨h3,by show 1+1+a.tk.size<=64;omega,?_⟩;show FN (DD a)=_;rw[h6];unfold FN;rw[T.ty_count,if_pos h7];rfl
 ·cases h2
theorem zn4 {e i:Int}(h:(G5 e i).2=0):e=0/\(G5 e i).1=AU i:=⟨(GM h).1,(GM h).2.1⟩
theorem zn5 {e i:Int}(h:(F3 e i).2=0):e=0/\(F3 e i).1=AS i:=⟨(GM h).1,(GM h).2.1⟩
theorem za3:∀{l:List Tm} {e:Int} {o:Tm},(HX e o l).2=0->e=0/\(HX e o l).1=CG o l
 | [],_,_,h=>⟨h,rfl⟩
 | x::r,e,o,h=>by
  rw[HX]at h ⊢;obtain⟨h1,h2⟩:=za3 h;unfold VO at h1;obtain⟨h3,h4,-⟩:=GM h1;obtain⟨h5,h6,-⟩:=GM h3;refine⟨h5,h2.trans ?_⟩;show CG (VO e o x).1 r=CG _ r;unfold VO;rw[h4,h6];rfl
theorem zn6 {e:Int}{s:Ty}{x y:Tm}(h:(GE e s x y).2=0):e=0/\(GE e s x y).1=nT 3 [Tm.mk 2 0 s [y],x]:=by
 unfold GE at h ⊢;obtain⟨h3,h4,-⟩:=GM h;obtain⟨h5,h6,-⟩:=GM h3;refine⟨h5,h4.trans ?_⟩;rw[h6];rfl
theorem za4:T.list.ok:=by unfold T.ok;decide
theorem DZ {e k:Int}{s:Ty}{l:List Tm}{r:Tm × Int}(q:r=AH e k s l)(h:r.2=0):e=0/\r.1=Tm.mk k 0 s l:=by subst q;exact⟨(GM h).1,(GM h).2.1⟩
theorem LR {e i:Int}{r:Tm × Int}(q:r=G5 e i)(h:r.2=0):e=0/\r.1=AU i:=by subst q;exact zn4 h
theorem IY {e i:Int}{r:Tm × Int}(q:r=F3 e i)(h:r.2=0):e=0/\r.1=AS i:=by subst q;exact zn5 h
theorem n9 {e:Int}{o:Tm}{l:List Tm}{r:Tm × Int}(q:r=HX e o l)(h:r.2=0):e=0/\r.1=CG o l:=by subst q;exact za3 h
theorem NK {e:Int}{s:Ty}{x y:Tm}{r:Tm × Int}(q:r=GE e s x y)(h:r.2=0):e=0/\r.1=nT 3 [Tm.mk 2 0 s [y],x]:=by subst q;exact zn6 h
theorem JK {e:Int}{a:T}{r:Ty × Int}(q:r=DY e a)(h:r.2=0):e=0/\a.wt.ok/\r.1=a.wt.ty:=by subst q;exact zgf h
def ZB (k:Int)(a:T)(x:Tm):Tm × Int:=
 let w:=DY 0 a
 let f:=G5 w.2 0
 let s:=F3 f.2 0
 let n:=AH s.2 k zY [s.1]
 let c:=AH n.2 10 zY [f.1,n.1]
 GE c.2 w.1 x c.1
theorem UG (k:Int)(a:T)(x:Tm):∃(w:Ty × Int) (f:Tm × Int) (s:Tm × Int) (n:Tm × Int) (c:Tm × Int),w=DY 0 a/\f=G5 w.2 0/\s=F3 f.2 0/\n=AH s.2 k zY [s.1]/\c=AH n.2 10 zY [f.1,n.1]/\ZB k a x=GE c.2 w.1 x c.1:=⟨_,_,_,_,_,rfl,rfl,rfl,rfl,rfl,rfl⟩
theorem zqj (k:Int)(a:T)(x:Tm):Er (ZB k a x).2:=by
 obtain⟨w,f,s,n,c,z0,z1,z2,z3,z4,z5⟩:=UG k a x;have y0:Er w.2:=by rw[z0];exact GO (.inl rfl:Er 0) _
 have y1:Er f.2:=by rw[z1];exact AN y0 _ _ _
 have y2:Er s.2:=by rw[z2];exact AN y1 _ _ _
 have y3:Er n.2:=by rw[z3];exact AN y2 _ _ _
 have y4:Er c.2:=by rw[z4];exact AN y3 _ _ _
 rw[z5];exact JJ y4 _ _ _
def QB (k:Int)(a b:T)(x y:Tm):Tm × Int:=
 let g1:=G5 0 1
 let g0:=G5 g1.2 0
 let s:=HX g0.2 g1.1 [g0.1]
 let s1:=F3 s.2 1
 let s0:=F3 s1.2 0
 let n:=AH s0.2 k zY [s1.1,s0.1]
 let c:=AH n.2 10 zY [s.1,n.1]
 let w0:=DY c.2 a
 let w1:=DY w0.2 b
 let m:=GE w1.2 w1.1 (y.upN 0 1) c.1
 GE m.2 w0.1 x m.1
theorem SS (k:Int)(a b:T)(x y:Tm):∃(g1:Tm × Int) (g0:Tm × Int) (s:Tm × Int) (s1:Tm × Int) (s0:Tm × Int) (n:Tm × Int) (c:Tm × Int) (w0:Ty × Int) (w1:Ty × Int) (m:Tm × Int),g1=G5 0 1/\g0=G5 g1.2 0/\s=HX g0.2 g1.1 [g0.1]/\s1=F3 s.2 1/\s0=F3 s1.2 0/\n=AH s0.2 k zY [s1.1,s0.1]/\c=AH n.2 10 zY [s.1,n.1]/\w0=DY c.2 a/\w1=DY w0.2 b/\m=GE w1.2 w1.1 (y.upN 0 1) c.1/\QB k a b x y=GE m.2 w0.1 x m.1:=⟨_,_,_,_,_,_,_,_,_,_,rfl,rfl,rfl,rfl,rfl,rfl,rfl,rfl,rfl,rfl,rfl⟩
theorem zn7 (k:Int)(a b:T)(x y:Tm):Er (QB k a b x y).2:=by
 obtain⟨g1,g0,s,s1,s0,n,c,w0,w1,m,z0,z1,z2,z3,z4,z5,z6,z7,z8,z9,Bu⟩:=SS k a b x y;have y0:Er g1.2:=by rw[z0];exact AN (.inl rfl:Er 0) _ _ _
 have y1:Er g0.2:=by rw[z1];exact AN y0 _ _ _
 have y2:Er s.2:=by rw[z2];exact X6 _ y1 _
 have y3:Er s1.2:=by rw[z3];exact AN y2 _ _ _
 have y4:Er s0.2:=by rw[z4];exact AN y3 _ _ _
 have y5:Er n.2:=by rw[z5];exact AN y4 _ _ _
 have y6:Er c.2:=by rw[z6];exact AN y5 _ _ _
 have y7:Er w0.2:=by rw[z7];exact GO y6 _
 have y8:Er w1.2:=by rw[z8];exact GO y7 _
 have y9:Er m.2:=by rw[z9];exact JJ y8 _ _ _
 rw[Bu];exact JJ y9 _ _ _
def VP (a b:T)(x y:Tm):Tm × Int:=
 let s1:=F3 0 1
 let s0:=F3 s1.2 0
 let c:=AH s0.2 3 zY [s1.1,s0.1]
 let g2:=G5 c.2 2
 let g1:=G5 g2.2 1
 let g0:=G5 g1.2 0
 let s:=HX g0.2 g2.1 [g1.1,g0.1]
 let u:=AH s.2 5 zY [s.1]
 let z:=F3 u.2 0
 let o:=AH z.2 10 zY [u.1,z.1]
 let w1:=DY o.2 a
 let w2:=DY w1.2 b
 let m2:=GE w2.2 w2.1 c.1 o.1
 let m1:=GE m2.2 w1.1 (y.upN 0 1) m2.1
 let w0:=DY m1.2 (.fn a b)
 GE w0.2 w0.1 x m1.1
theorem VQ (a b:T)(x y:Tm):∃(s1:Tm × Int) (s0:Tm × Int) (c:Tm × Int) (g2:Tm × Int) (g1:Tm × Int) (g0:Tm × Int) (s:Tm × Int) (u:Tm × Int) (z:Tm × Int) (o:Tm × Int) (w1:Ty × Int) (w2:Ty × Int) (m2:Tm × Int) (m1:Tm × Int) (w0:Ty × Int),s1=F3 0 1/\s0=F3 s1.2 0/\c=AH s0.2 3 zY [s1.1,s0.1]/\g2=G5 c.2 2/\g1=G5 g2.2 1/\g0=G5 g1.2 0/\s=HX g0.2 g2.1 [g1.1,g0.1]/\u=AH s.2 5 zY [s.1]/\z=F3 u.2 0/\o=AH z.2 10 zY [u.1,z.1]/\w1=DY o.2 a/\w2=DY w1.2 b/\m2=GE w2.2 w2.1 c.1 o.1/\m1=GE m2.2 w1.1 (y.upN 0 1) m2.1/\w0=DY m1.2 (.fn a b)/\VP a b x y=GE w0.2 w0.1 x m1.1:=⟨_,_,_,_,_,_,_,_,_,_,_,_,_,_,_,rfl,rfl,rfl,rfl,rfl,rfl,rfl,rfl,rfl,rfl,rfl,rfl,rfl,rfl,rfl,rfl⟩
theorem zn8 (a b:T)(x y:Tm):Er (VP a b x y).2:=by
 obtain⟨s1,s0,c,g2,g1,g0,s,u,z,o,w1,w2,m2,m1,w0,z0,z1,z2,z3,z4,z5,z6,z7,z8,z9,Bu,Cj,Ce,Ch,Cl,Cr⟩:=VQ a b x y;have y0:Er s1.2:=by rw[z0];exact AN (.inl rfl:Er 0) _ _ _
 have y1:Er s0.2:=by rw[z1];exact AN y0 _ _ _
 have y2:Er c.2:=by rw[z2];exact AN y1 _ _ _
 have y3:Er g2.2:=by rw[z3];exact AN y2 _ _ _
 have y4:Er g1.2:=by rw[z4];exact AN y3 _ _ _
 have y5:Er g0.2:=by rw[z5];exact AN y4 _ _ _
 have y6:Er s.2:=by rw[z6];exact X6 _ y5 _
 have y7:Er u.2:=by rw[z7];exact AN y6 _ _ _
 have y8:Er z.2:=by rw[z8];exact AN y7 _ _ _
 have y9:Er o.2:=by rw[z9];exact AN y8 _ _ _
 have Uh:Er w1.2:=by rw[Bu];exact GO y9 _
 have Vg:Er w2.2:=by rw[Cj];exact GO Uh _
 have Uc:Er m2.2:=by rw[Ce];exact JJ Vg _ _ _
 have Vq:Er m1.2:=by rw[Ch];exact JJ Uc _ _ _
 have Wc:Er w0.2:=by rw[Cl];exact GO Vq _
 rw[Cr];exact JJ Wc _ _ _
def NL (e:Int)(a:T):Tm × Int:=
 let p0:=F3 e 3
 let c0:=AH p0.2 3 zY [p0.1,vT 1]
 let p1:=F3 c0.2 3
 let q1:=F3 p1.2 0
 let a1:=F3 q1.2 1
 let c1:=AH a1.2 3 zY [q1.1,a1.1]
 let g2:=G5 c1.2 2
 let g1:=G5 g2.2 1
 let g0:=G5 g1.2 0
 let s:=HX g0.2 g2.1 [g1.1,g0.1]
 let u:=AH s.2 5 zY [s.1]
 let z:=F3 u.2 0
 let o:=AH z.2 10 zY [u.1,z.1]
 let w1:=DY o.2 a
 let m1:=GE w1.2 w1.1 c1.1 o.1
 let w0:=DY m1.2 (.fn a a)
 GE w0.2 w0.1 c0.1 m1.1
theorem ST (e:Int)(a:T):∃(p0:Tm × Int) (c0:Tm × Int) (p1:Tm × Int) (q1:Tm × Int) (a1:Tm × Int) (c1:Tm × Int) (g2:Tm × Int) (g1:Tm × Int) (g0:Tm × Int) (s:Tm × Int) (u:Tm × Int) (z:Tm × Int) (o:Tm × Int) (w1:Ty × Int) (m1:Tm × Int) (w0:Ty × Int),p0=F3 e 3/\c0=AH p0.2 3 zY [p0.1,vT 1]/\p1=F3 c0.2 3/\q1=F3 p1.2 0/\a1=F3 q1.2 1/\c1=AH a1.2 3 zY [q1.1,a1.1]/\g2=G5 c1.2 2/\g1=G5 g2.2 1/\g0=G5 g1.2 0/\s=HX g0.2 g2.1 [g1.1,g0.1]/\u=AH s.2 5 zY [s.1]/\z=F3 u.2 0/\o=AH z.2 10 zY [u.1,z.1]/\w1=DY o.2 a/\m1=GE w1.2 w1.1 c1.1 o.1/\w0=DY m1.2 (.fn a a)/\NL e a=GE w0.2 w0.1 c0.1 m1.1:=⟨_,_,_,_,_,_,_,_,_,_,_,_,_,_,_,_,rfl,rfl,rfl,rfl,rfl,rfl,rfl,rfl,rfl,rfl,rfl,rfl,rfl,rfl,rfl,rfl,rfl⟩
theorem za5 (e:Int)(a:T)(he:Er e):Er (NL e a).2:=by
 obtain⟨p0,c0,p1,q1,a1,c1,g2,g1,g0,s,u,z,o,w1,m1,w0,z0,z1,z2,z3,z4,z5,z6,z7,z8,z9,Bu,Cj,Ce,Ch,Cl,Cr,Ee⟩:=ST e a;have y0:Er p0.2:=by rw[z0];exact AN he _ _ _
 have y1:Er c0.2:=by rw[z1];exact AN y0 _ _ _
 have y2:Er p1.2:=by rw[z2];exact AN y1 _ _ _
 have y3:Er q1.2:=by rw[z3];exact AN y2 _ _ _
 have y4:Er a1.2:=by rw[z4];exact AN y3 _ _ _
 have y5:Er c1.2:=by rw[z5];exact AN y4 _ _ _
 have y6:Er g2.2:=by rw[z6];exact AN y5 _ _ _
 have y7:Er g1.2:=by rw[z7];exact AN y6 _ _ _
 have y8:Er g0.2:=by rw[z8];exact AN y7 _ _ _
 have y9:Er s.2:=by rw[z9];exact X6 _ y8 _
 have Uh:Er u.2:=by rw[Bu];exact AN y9 _ _ _
 have Vg:Er z.2:=by rw[Cj];exact AN Uh _ _ _
 have Uc:Er o.2:=by rw[Ce];exact AN Vg _ _ _
 have Vq:Er w1.2:=by rw[Ch];exact GO Uc _
 have Wc:Er m1.2:=by rw[Cl];exact JJ Vq _ _ _
 have y15:Er w0.2:=by rw[Cr];exact GO Wc _
 rw[Ee];exact JJ y15 _ _ _
def NM (e:Int)(a:T):Tm × Int:=
 let p0:=F3 e 4
 let c0:=AH p0.2 3 zY [p0.1,vT 2]
 let p1:=F3 c0.2 4
 let q1:=F3 p1.2 0
 let c1:=AH q1.2 3 zY [q1.1,vT 2]
 let p2:=F3 c1.2 4
 let q2:=F3 p2.2 0
 let a2:=F3 q2.2 2
 let c2:=AH a2.2 3 zY [q2.1,a2.1]
 let g3:=G5 c2.2 3
 let g2:=G5 g3.2 2
 let g1:=G5 g2.2 1
 let g0:=G5 g1.2 0
 let s:=HX g0.2 g3.1 [g2.1,g1.1,g0.1]
 let u:=AH s.2 5 zY [s.1]
 let z:=F3 u.2 0
 let o:=AH z.2 10 zY [u.1,z.1]
 let w2:=DY o.2 a
 let m2:=GE w2.2 w2.1 c2.1 o.1
 let w1:=DY m2.2 (.fn a a)
 let m1:=GE w1.2 w1.1 c1.1 m2.1
 let w0:=DY m1.2 (.fn .list (.fn a a))
 GE w0.2 w0.1 c0.1 m1.1
theorem SU (e:Int)(a:T):∃(p0:Tm × Int) (c0:Tm × Int) (p1:Tm × Int) (q1:Tm × Int) (c1:Tm × Int) (p2:Tm × Int) (q2:Tm × Int) (a2:Tm × Int) (c2:Tm × Int) (g3:Tm × Int) (g2:Tm × Int) (g1:Tm × Int) (g0:Tm × Int) (s:Tm × Int) (u:Tm × Int) (z:Tm × Int) (o:Tm × Int) (w2:Ty × Int) (m2:Tm × Int) (w1:Ty × Int) (m1:Tm × Int) (w0:Ty × Int),p0=F3 e 4/\c0=AH p0.2 3 zY [p0.1,vT 2]/\p1=F3 c0.2 4/\q1=F3 p1.2 0/\c1=AH q1.2 3 zY [q1.1,vT 2]/\p2=F3 c1.2 4/\q2=F3 p2.2 0/\a2=F3 q2.2 2/\c2=AH a2.2 3 zY [q2.1,a2.1]/\g3=G5 c2.2 3/\g2=G5 g3.2 2/\g1=G5 g2.2 1/\g0=G5 g1.2 0/\s=HX g0.2 g3.1 [g2.1,g1.1,g0.1]/\u=AH s.2 5 zY [s.1]/\z=F3 u.2 0/\o=AH z.2 10 zY [u.1,z.1]/\w2=DY o.2 a/\m2=GE w2.2 w2.1 c2.1 o.1/\w1=DY m2.2 (.fn a a)/\m1=GE w1.2 w1.1 c1.1 m2.1/\w0=DY m1.2 (.fn .list (.fn a a))/\NM e a=GE w0.2 w0.1 c0.1 m1.1:=⟨_,_,_,_,_,_,_,_,_,_,_,_,_,_,_,_,_,_,_,_,_,_,rfl,rfl,rfl,rfl,rfl,rfl,rfl,rfl,rfl,rfl,rfl,rfl,rfl,rfl,rfl,rfl,rfl,rfl,rfl,rfl,rfl,rfl,rfl⟩
theorem za6 (e:Int)(a:T)(he:Er e):Er (NM e a).2:=by
 obtain⟨p0,c0,p1,q1,c1,p2,q2,a2,c2,g3,g2,g1,g0,s,u,z,o,w2,m2,w1,m1,w0,z0,z1,z2,z3,z4,z5,z6,z7,z8,z9,Bu,Cj,Ce,Ch,Cl,Cr,Ee,Gm,Hh,Hn,Po,Qi,Qr⟩:=SU e a;have y0:Er p0.2:=by rw[z0];exact AN he _ _ _
 have y1:Er c0.2:=by rw[z1];exact AN y0 _ _ _
 have y2:Er p1.2:=by rw[z2];exact AN y1 _ _ _
 have y3:Er q1.2:=by rw[z3];exact AN y2 _ _ _
 have y4:Er c1.2:=by rw[z4];exact AN y3 _ _ _
 have y5:Er p2.2:=by rw[z5];exact AN y4 _ _ _
 have y6:Er q2.2:=by rw[z6];exact AN y5 _ _ _
 have y7:Er a2.2:=by rw[z7];exact AN y6 _ _ _
 have y8:Er c2.2:=by rw[z8];exact AN y7 _ _ _
 have y9:Er g3.2:=by rw[z9];exact AN y8 _ _ _
 have Uh:Er g2.2:=by rw[Bu];exact AN y9 _ _ _
 have Vg:Er g1.2:=by rw[Cj];exact AN Uh _ _ _
 have Uc:Er g0.2:=by rw[Ce];exact AN Vg _ _ _
 have Vq:Er s.2:=by rw[Ch];exact X6 _ Uc _
 have Wc:Er u.2:=by rw[Cl];exact AN Vq _ _ _
 have y15:Er z.2:=by rw[Cr];exact AN Wc _ _ _
 have y16:Er o.2:=by rw[Ee];exact AN y15 _ _ _
 have y17:Er w2.2:=by rw[Gm];exact GO y16 _
 have y18:Er m2.2:=by rw[Hh];exact JJ y17 _ _ _
 have y19:Er w1.2:=by rw[Hn];exact GO y18 _
 have y20:Er m1.2:=by rw[Po];exact JJ y19 _ _ _
 have y21:Er w0.2:=by rw[Qi];exact GO y20 _
 rw[Qr];exact JJ y21 _ _ _
def b6 (e:Int)(a:T)(t:Ty):Tm × Int:=
 let s:=NL e a
 let m:=AH s.2 2 t [s.1]
 AH m.2 2 CE [m.1]
theorem VR (e:Int)(a:T)(t:Ty):∃(s:Tm × Int) (m:Tm × Int),s=NL e a/\m=AH s.2 2 t [s.1]/\b6 e a t=AH m.2 2 CE [m.1]:=⟨_,_,rfl,rfl,rfl⟩
theorem zgg (e:Int)(a:T)(t:Ty)(he:Er e):Er (b6 e a t).2:=by
 obtain⟨s,m,z0,z1,z2⟩:=VR e a t;have y0:Er s.2:=by rw[z0];exact za5 _ _ he
 have y1:Er m.2:=by rw[z1];exact AN y0 _ _ _
 rw[z2];exact AN y1 _ _ _
def b7 (e:Int)(a:T)(t:Ty):Tm × Int:=
 let s:=NM e a
 let m:=AH s.2 2 t [s.1]
 let n:=AH m.2 2 (T.ty .list) [m.1]
 AH n.2 2 CE [n.1]
theorem VS (e:Int)(a:T)(t:Ty):∃(s:Tm × Int) (m:Tm × Int) (n:Tm × Int),s=NM e a/\m=AH s.2 2 t [s.1]/\n=AH m.2 2 (T.ty .list) [m.1]/\b7 e a t=AH n.2 2 CE [n.1]:=⟨_,_,_,rfl,rfl,rfl,rfl⟩
theorem zgh (e:Int)(a:T)(t:Ty)(he:Er e):Er (b7 e a t).2:=by
 obtain⟨s,m,n,z0,z1,z2,z3⟩:=VS e a t;have y0:Er s.2:=by rw[z0];exact za6 _ _ he
 have y1:Er m.2:=by rw[z1];exact AN y0 _ _ _
 have y2:Er n.2:=by rw[z2];exact AN y1 _ _ _
 rw[z3];exact AN y2 _ _ _
def QC (k e:Int)(a:T)(r:Ty):Tm × Int:=if k=6 then b6 e a r else b7 e a r
theorem za7 (k e:Int)(a:T)(r:Ty)(he:Er e):Er (QC k e a r).2:=by
 unfold QC;split;· exact zgg _ _ _ he
 ·exact zgh _ _ _ he
def DH (k:Int)(a b0 b1 b2:T)(x y z:Tm):Tm × Int:=
 let w:=DY 0 a
 let t:=QC k w.2 a w.1
 let p:=F3 t.2 2
 let c:=AH p.2 10 zY [nT 4 [],p.1]
 let q:=F3 c.2 0
 let d:=AH q.2 k w.1 [c.1,t.1,q.1]
 let g3:=G5 d.2 3
 let g2:=G5 g3.2 2
 let g1:=G5 g2.2 1
 let g0:=G5 g1.2 0
 let s:=HX g0.2 g3.1 [g2.1,g1.1,g0.1]
 let v:=F3 s.2 0
 let o:=AH v.2 10 zY [s.1,v.1]
 let m3:=GE o.2 w.1 d.1 o.1
 let w2:=DY m3.2 b2
 let m2:=GE w2.2 w2.1 (z.upN 0 2) m3.1
 let w1:=DY m2.2 b1
 let m1:=GE w1.2 w1.1 (y.upN 0 1) m2.1
 let w0:=DY m1.2 b0
 GE w0.2 w0.1 x m1.1
theorem L5 (k:Int)(a b0 b1 b2:T)(x y z:Tm):∃(w:Ty × Int) (t:Tm × Int) (p:Tm × Int) (c:Tm × Int) (q:Tm × Int) (d:Tm × Int) (g3:Tm × Int) (g2:Tm × Int) (g1:Tm × Int) (g0:Tm × Int) (s:Tm × Int) (v:Tm × Int) (o:Tm × Int) (m3:Tm × Int) (w2:Ty × Int) (m2:Tm × Int) (w1:Ty × Int) (m1:Tm × Int) (w0:Ty × Int),w=DY 0 a/\t=QC k w.2 a w.1/\p=F3 t.2 2/\c=AH p.2 10 zY [nT 4 [],p.1]/\q=F3 c.2 0/\d=AH q.2 k w.1 [c.1,t.1,q.1]/\g3=G5 d.2 3/\g2=G5 g3.2 2/\g1=G5 g2.2 1/\g0=G5 g1.2 0/\s=HX g0.2 g3.1 [g2.1,g1.1,g0.1]/\v=F3 s.2 0/\o=AH v.2 10 zY [s.1,v.1]/\m3=GE o.2 w.1 d.1 o.1/\w2=DY m3.2 b2/\m2=GE w2.2 w2.1 (z.upN 0 2) m3.1/\w1=DY m2.2 b1/\m1=GE w1.2 w1.1 (y.upN 0 1) m2.1/\w0=DY m1.2 b0/\DH k a b0 b1 b2 x y z=GE w0.2 w0.1 x m1.1:=⟨_,_,_,_,_,_,_,_,_,_,_,_,_,_,_,_,_,_,_,rfl,rfl,rfl,rfl,rfl,rfl,rfl,rfl,rfl,rfl,rfl,rfl,rfl,rfl,rfl,rfl,rfl,rfl,rfl,rfl⟩
theorem z3p (k:Int)(a b0 b1 b2:T)(x y z:Tm):Er (DH k a b0 b1 b2 x y z).2:=by
 obtain⟨w,t,p,c,q,d,g3,g2,g1,g0,s,v,o,m3,w2,m2,w1,m1,w0,z0,z1,z2,z3,z4,z5,z6,z7,z8,z9,Bu,Cj,Ce,Ch,Cl,Cr,Ee,Gm,Hh,Hn⟩:=L5 k a b0 b1 b2 x y z;have y0:Er w.2:=by rw[z0];exact GO (.inl rfl:Er 0) _
 have y1:Er t.2:=by rw[z1];exact za7 _ _ _ _ y0
 have y2:Er p.2:=by rw[z2];exact AN y1 _ _ _
 have y3:Er c.2:=by rw[z3];exact AN y2 _ _ _
 have y4:Er q.2:=by rw[z4];exact AN y3 _ _ _
 have y5:Er d.2:=by rw[z5];exact AN y4 _ _ _
 have y6:Er g3.2:=by rw[z6];exact AN y5 _ _ _
 have y7:Er g2.2:=by rw[z7];exact AN y6 _ _ _
 have y8:Er g1.2:=by rw[z8];exact AN y7 _ _ _
 have y9:Er g0.2:=by rw[z9];exact AN y8 _ _ _
 have Uh:Er s.2:=by rw[Bu];exact X6 _ y9 _
 have Vg:Er v.2:=by rw[Cj];exact AN Uh _ _ _
 have Uc:Er o.2:=by rw[Ce];exact AN Vg _ _ _
 have Vq:Er m3.2:=by rw[Ch];exact JJ Uc _ _ _
 have Wc:Er w2.2:=by rw[Cl];exact GO Vq _
 have y15:Er m2.2:=by rw[Cr];exact JJ Wc _ _ _
 have y16:Er w1.2:=by rw[Ee];exact GO y15 _
 have y17:Er m1.2:=by rw[Gm];exact JJ y16 _ _ _
 have y18:Er w0.2:=by rw[Hh];exact GO y17 _
 rw[Hn];exact JJ y18 _ _ _
def T.cod:T->T
 | .fn _ b=>b
 | _=>.unit
def BE (k i:Int)(y:Ty)(a l:List Tm)(ts:List T):Tm × Int:=
 if k=2 then
  let n:=AH (BS (QA y)) 2 (DD (QA y)) [l.getD 0 AA]
  AH n.2 10 zY [nT 4 [],n.1]
 else if k=3 then VP (ts.getD 1 .unit) (ts.getD 0 .unit).cod (l.getD 0 AA) (l.getD 1 AA)
 else if k=5\/k=11\/k=12 then ZB k (ts.getD 0 .unit) (l.getD 0 AA)
 else if k=8\/k=10 then QB k (ts.getD 0 .unit) (ts.getD 1 .unit) (l.getD 0 AA) (l.getD 1 AA)
 else if k=6\/k=9 then DH k (QA y) (ts.getD 0 .unit) (ts.getD 1 .unit) (ts.getD 2 .unit) (l.getD 0 AA) (l.getD 1 AA) (l.getD 2 AA)
 else AH 0 10 zY [nT 4 [],Tm.mk k i y a]
def A5:List T->Tm->Tm × Int
 | g,.mk k i y a=>if (ticksE (if k=2 then g++[QA y] else g) a).2=0 then BE k i y a (ticksE (if k=2 then g++[QA y] else g) a).1 (GY.tysT (if k=2 then g++[QA y] else g) a) else (AA,(ticksE (if k=2 then g++[QA y] else g) a).2)
where
 ticksE:List T->List Tm->List Tm × Int
  | _,[]=>([],0)
  | g,x::r=>if (A5 g x).2=0 then if (ticksE g r).2=0 then ((A5 g x).1::(ticksE g r).1,0) else ([],(ticksE g r).2) else ([],(A5 g x).2)
theorem bA (g:List T)(t:Tm):A5 g t=if (A5.ticksE (if t.kind=2 then g++[QA t.type] else g) t.args).2=0 then BE t.kind t.index t.type t.args (A5.ticksE (if t.kind=2 then g++[QA t.type] else g) t.args).1 (GY.tysT (if t.kind=2 then g++[QA t.type] else g) t.args) else (AA,(A5.ticksE (if t.kind=2 then g++[QA t.type] else g) t.args).2):=by
 cases t;rw[A5];rfl
theorem yG {k:Int}{a:T}{x:Tm}(h:(ZB k a x).2=0):a.wt.ok/\(ZB k a x).1=kN k a x:=by
 obtain⟨w,f,s,n,c,z0,z1,z2,z3,z4,z5⟩:=UG k a x;rw[z5]at h ⊢;obtain⟨h5,r5⟩:=NK rfl h;obtain⟨h4,r4⟩:=DZ z4 h5;obtain⟨h3,r3⟩:=DZ z3 h4;obtain⟨h2,r2⟩:=IY z2 h3;obtain⟨h1,r1⟩:=LR z1 h2;obtain⟨-,o0_0,r0⟩:=JK z0 h1;refine⟨o0_0,r5.trans ?_⟩;rw[r4,r3,r2,r1,r0];rfl
theorem tU {k:Int}{a b:T}{x y:Tm}(h:(QB k a b x y).2=0):b.wt.ok/\a.wt.ok/\(QB k a b x y).1=S7 k a b x y:=by
 obtain⟨g1,g0,s,s1,s0,n,c,w0,w1,m,z0,z1,z2,z3,z4,z5,z6,z7,z8,z9,Bu⟩:=SS k a b x y;rw[Bu]at h ⊢;obtain⟨Cc,Rt⟩:=NK rfl h;obtain⟨h9,r9⟩:=NK z9 Cc;obtain⟨h8,o8_0,r8⟩:=JK z8 h9;obtain⟨h7,o7_0,r7⟩:=JK z7 h8;obtain⟨h6,r6⟩:=DZ z6 h7;obtain⟨h5,r5⟩:=DZ z5 h6;obtain⟨h4,r4⟩:=IY z4 h5;obtain⟨h3,r3⟩:=IY z3 h4;obtain⟨h2,r2⟩:=n9 z2 h3;obtain⟨h1,r1⟩:=LR z1 h2;obtain⟨-,r0⟩:=LR z0 h1;refine⟨o8_0,o7_0,Rt.trans ?_⟩;rw[r9,r8,r7,r6,r5,r4,r3,r2,r1,r0];rfl
theorem za8 {a b:T}{x y:Tm}(h:(VP a b x y).2=0):(T.fn a b).wt.ok/\b.wt.ok/\a.wt.ok/\(VP a b x y).1=MG a b x y:=by
 obtain⟨s1,s0,c,g2,g1,g0,s,u,z,o,w1,w2,m2,m1,w0,z0,z1,z2,z3,z4,z5,z6,z7,z8,z9,Bu,Cj,Ce,Ch,Cl,Cr⟩:=VQ a b x y;rw[Cr]at h ⊢;obtain⟨Ub,Vu⟩:=NK rfl h;obtain⟨Ug,o14_0,Vn⟩:=JK Cl Ub;obtain⟨Jv,Vv⟩:=NK Ch Ug;obtain⟨Cf,Tx⟩:=NK Ce Jv;obtain⟨Ck,o11_0,Va⟩:=JK Cj Cf;obtain⟨Cc,o10_0,Rt⟩:=JK Bu Ck;obtain⟨h9,r9⟩:=DZ z9 Cc;obtain⟨h8,r8⟩:=IY z8 h9;obtain⟨h7,r7⟩:=DZ z7 h8;obtain⟨h6,r6⟩:=n9 z6 h7;obtain⟨h5,r5⟩:=LR z5 h6;obtain⟨h4,r4⟩:=LR z4 h5;obtain⟨h3,r3⟩:=LR z3 h4;obtain⟨h2,r2⟩:=DZ z2 h3;obtain⟨h1,r1⟩:=IY z1 h2;obtain⟨-,r0⟩:=IY z0 h1;refine⟨o14_0,o11_0,o10_0,Vu.trans ?_⟩;rw[Vn,Vv,Tx,Va,Rt,r9,r8,r7,r6,r5,r4,r3,r2,r1,r0];rfl
theorem za9 {e:Int}{a:T}(h:(NL e a).2=0):e=0/\(T.fn a a).wt.ok/\a.wt.ok/\(NL e a).1=EO a:=by
 obtain⟨p0,c0,p1,q1,a1,c1,g2,g1,g0,s,u,z,o,w1,m1,w0,z0,z1,z2,z3,z4,z5,z6,z7,z8,z9,Bu,Cj,Ce,Ch,Cl,Cr,Ee⟩:=ST e a;rw[Ee]at h ⊢;obtain⟨Ys,Yg⟩:=NK rfl h;obtain⟨Ub,o15_0,Vu⟩:=JK Cr Ys;obtain⟨Ug,Vn⟩:=NK Cl Ub;obtain⟨Jv,o13_0,Vv⟩:=JK Ch Ug;obtain⟨Cf,Tx⟩:=DZ Ce Jv;obtain⟨Ck,Va⟩:=IY Cj Cf;obtain⟨Cc,Rt⟩:=DZ Bu Ck;obtain⟨h9,r9⟩:=n9 z9 Cc;obtain⟨h8,r8⟩:=LR z8 h9;obtain⟨h7,r7⟩:=LR z7 h8;obtain⟨h6,r6⟩:=LR z6 h7;obtain⟨h5,r5⟩:=DZ z5 h6;obtain⟨h4,r4⟩:=IY z4 h5;obtain⟨h3,r3⟩:=IY z3 h4;obtain⟨h2,r2⟩:=IY z2 h3;obtain⟨h1,r1⟩:=DZ z1 h2;obtain⟨h0,r0⟩:=IY z0 h1;refine⟨h0,o15_0,o13_0,Yg.trans ?_⟩;rw[Vu,Vn,Vv,Tx,Va,Rt,r9,r8,r7,r6,r5,r4,r3,r1,r0];rfl
theorem yH {e:Int}{a:T}{r:Tm × Int}(q:r=NL e a)(h:r.2=0):e=0/\(T.fn a a).wt.ok/\a.wt.ok/\r.1=EO a:=by subst q;exact za9 h
theorem zaa {e:Int}{a:T}(h:(NM e a).2=0):e=0/\(T.fn .list (T.fn a a)).wt.ok/\(T.fn a a).wt.ok/\a.wt.ok/\(NM e a).1=CW a:=by
 obtain⟨p0,c0,p1,q1,c1,p2,q2,a2,c2,g3,g2,g1,g0,s,u,z,o,w2,m2,w1,m1,w0,z0,z1,z2,z3,z4,z5,z6,z7,z8,z9,Bu,Cj,Ce,Ch,Cl,Cr,Ee,Gm,Hh,Hn,Po,Qi,Qr⟩:=SU e a;rw[Qr]at h ⊢;obtain⟨h22,r22⟩:=NK rfl h;obtain⟨h21,o21_0,r21⟩:=JK Qi h22;obtain⟨h20,r20⟩:=NK Po h21;obtain⟨h19,o19_0,r19⟩:=JK Hn h20;obtain⟨h18,r18⟩:=NK Hh h19;obtain⟨h17,o17_0,r17⟩:=JK Gm h18;obtain⟨Ys,Yg⟩:=DZ Ee h17;obtain⟨Ub,Vu⟩:=IY Cr Ys;obtain⟨Ug,Vn⟩:=DZ Cl Ub;obtain⟨Jv,Vv⟩:=n9 Ch Ug;obtain⟨Cf,Tx⟩:=LR Ce Jv;obtain⟨Ck,Va⟩:=LR Cj Cf;obtain⟨Cc,Rt⟩:=LR Bu Ck;obtain⟨h9,r9⟩:=LR z9 Cc;obtain⟨h8,r8⟩:=DZ z8 h9;obtain⟨h7,r7⟩:=IY z7 h8;obtain⟨h6,r6⟩:=IY z6 h7;obtain⟨h5,r5⟩:=IY z5 h6;obtain⟨h4,r4⟩:=DZ z4 h5;obtain⟨h3,r3⟩:=IY z3 h4;obtain⟨h2,r2⟩:=IY z2 h3;obtain⟨h1,r1⟩:=DZ z1 h2;obtain⟨h0,r0⟩:=IY z0 h1;refine⟨h0,o21_0,o19_0,o17_0,r22.trans ?_⟩;rw[r21,r20,r19,r18,r17,Yg,Vu,Vn,Vv,Tx,Va,Rt,r9,r8,r7,r6,r4,r3,r1,r0];rfl
theorem yI {e:Int}{a:T}{r:Tm × Int}(q:r=NM e a)(h:r.2=0):e=0/\(T.fn .list (.fn a a)).wt.ok/\(T.fn a a).wt.ok/\a.wt.ok/\r.1=CW a:=by subst q;exact zaa h
theorem zgi {e:Int}{a:T}{t:Ty}(ht:t=a.wt.ty)(h:(b6 e a t).2=0):e=0/\(T.fn a a).wt.ok/\a.wt.ok/\(b6 e a t).1=AY .nat (AY a.wt (EO a)):=by
 obtain⟨s,m,z0,z1,z2⟩:=VR e a t;rw[z2]at h ⊢;obtain⟨h2,r2⟩:=DZ rfl h;obtain⟨h1,r1⟩:=DZ z1 h2;obtain⟨h0,o0_0,o0_1,r0⟩:=yH z0 h1;refine⟨h0,o0_0,o0_1,r2.trans ?_⟩;rw[r1,r0,ht];rfl
theorem zgj {e:Int}{a:T}{t:Ty}(ht:t=a.wt.ty)(h:(b7 e a t).2=0):e=0/\(T.fn .list (.fn a a)).wt.ok/\(T.fn a a).wt.ok/\a.wt.ok/\(b7 e a t).1=AY .nat (AY .list (AY a.wt (CW a))):=by
 obtain⟨s,m,n,z0,z1,z2,z3⟩:=VS e a t;rw[z3]at h ⊢;obtain⟨h3,r3⟩:=DZ rfl h;obtain⟨h2,r2⟩:=DZ z2 h3;obtain⟨h1,r1⟩:=DZ z1 h2;obtain⟨h0,o0_0,o0_1,o0_2,r0⟩:=yI z0 h1;refine⟨h0,o0_0,o0_1,o0_2,r3.trans ?_⟩;rw[r2,r1,r0,ht];rfl
theorem zgk {k e:Int}{a:T}{y:Ty}{r:Tm × Int}(q:r=QC k e a y)(h:r.2=0):e=0/\(y=a.wt.ty->(T.fn a a).wt.ok/\a.wt.ok/\(k≠6->(T.fn .list (.fn a a)).wt.ok)/\r.1=HY k a):=by
 subst q;unfold QC at h ⊢;by_cases hk:k=6
 ·rw[if_pos hk]at h ⊢;refine⟨?_,fun hy=>?_⟩
  ·obtain⟨s,m,q1,q2,q3⟩:=VR e a y;rw[q3]at h;exact (yH q1 (DZ q2 (DZ rfl h).1).1).1
  ·obtain⟨o1,o2,o3,o4⟩:=zgi hy h;exact⟨o2,o3,fun h=>absurd hk h,by rw[o4,HY,if_pos hk]⟩
 ·rw[if_neg hk]at h ⊢;refine⟨?_,fun hy=>?_⟩
  ·obtain⟨s,m,n,q1,q2,q3,q4⟩:=VS e a y;rw[q4]at h;exact (yI q1 (DZ q2 (DZ q3 (DZ rfl h).1).1).1).1
  ·obtain⟨o1,o2,o3,o4,o5⟩:=zgj hy h;exact⟨o3,o4,fun _=>o2,by rw[o5,HY,if_neg hk]⟩
theorem X7 {k:Int}{a b0 b1 b2:T}{x y z:Tm}(h:(DH k a b0 b1 b2 x y z).2=0):b0.wt.ok/\b1.wt.ok/\b2.wt.ok/\a.wt.ok/\(T.fn a a).wt.ok/\a.wt.ok/\(k≠6->(T.fn .list (.fn a a)).wt.ok)/\(DH k a b0 b1 b2 x y z).1=F4 k a b0 b1 b2 x y z:=by
 obtain⟨w,t,p,c,q,d,g3,g2,g1,g0,s,v,o,m3,w2,m2,w1,m1,w0,z0,z1,z2,z3,z4,z5,z6,z7,z8,z9,Bu,Cj,Ce,Ch,Cl,Cr,Ee,Gm,Hh,Hn⟩:=L5 k a b0 b1 b2 x y z;rw[Hn]at h ⊢;obtain⟨h19,r19⟩:=NK rfl h;obtain⟨h18,o18_0,r18⟩:=JK Hh h19;obtain⟨h17,r17⟩:=NK Gm h18;obtain⟨Ys,o16_0,Yg⟩:=JK Ee h17;obtain⟨Ub,Vu⟩:=NK Cr Ys;obtain⟨Ug,o14_0,Vn⟩:=JK Cl Ub;obtain⟨Jv,Vv⟩:=NK Ch Ug;obtain⟨Cf,Tx⟩:=DZ Ce Jv;obtain⟨Ck,Va⟩:=IY Cj Cf;obtain⟨Cc,Rt⟩:=n9 Bu Ck;obtain⟨h9,r9⟩:=LR z9 Cc;obtain⟨h8,r8⟩:=LR z8 h9;obtain⟨h7,r7⟩:=LR z7 h8;obtain⟨h6,r6⟩:=LR z6 h7;obtain⟨h5,r5⟩:=DZ z5 h6;obtain⟨h4,r4⟩:=IY z4 h5;obtain⟨h3,r3⟩:=DZ z3 h4;obtain⟨h2,r2⟩:=IY z2 h3;obtain⟨h1,r1⟩:=zgk z1 h2;obtain⟨-,o0_0,r0⟩:=JK z0 h1;obtain⟨p1,p2,p3,p4⟩:=r1 r0;refine⟨o18_0,o16_0,o14_0,o0_0,p1,p2,p3,r19.trans ?_⟩;rw[r18,r17,Yg,Vu,Vn,Vv,Tx,Va,Rt,r9,r8,r7,r6,r5,r4,r3,r2,p4,r0];rfl
end
section
theorem er4 {e:Int}(h:Er e)(h0:¬e=0):e=4:=by rcases h with h|h;exact absurd h h0;exact h
theorem z3q (k i:Int)(y:Ty)(a l:List Tm)(ts:List T):Er (BE k i y a l ts).2:=by
 unfold BE;split;· exact AN (AN (za2 _) _ _ _) _ _ _
 split;· exact zn8 _ _ _ _
 split;· exact zqj _ _ _
 split;· exact zn7 _ _ _ _ _
 split;· exact z3p _ _ _ _ _ _ _ _
 ·exact AN (.inl rfl) _ _ _
theorem nA {g:List T}:∀{l:List Tm},(∀x∈l,Er (A5 g x).2)->Er (A5.ticksE g l).2
 | [],_=>.inl rfl
 | x::r,h=>by
  simp only[A5.ticksE];split
  ·split;· exact .inl rfl
   ·exact nA fun y hy=>h y (List.mem_cons_of_mem _ hy)
  ·exact h x (List.mem_cons_self ..)
theorem zgl (t:Tm):∀g,Er (A5 g t).2:=by
 induction t using Tm.ind with
 | h t ih=>
 intro g;rw[bA];generalize (if t.kind=2 then g++[QA t.type] else g)=g';split;· exact z3q _ _ _ _ _ _
 ·exact nA fun x hx=>ih x hx _
theorem yJ {g:List T}{k i:Int}{y:Ty}{x:Tm}(hk:¬k=2)(h:(A5 g (Tm.mk k i y [x])).2=0):(A5 g x).2=0/\A5 g (Tm.mk k i y [x])=BE k i y [x] [(A5 g x).1] [GY g x]:=by
 have e:A5 g (Tm.mk k i y [x])=if (A5.ticksE g [x]).2=0 then BE k i y [x] (A5.ticksE g [x]).1 [GY g x] else (AA,(A5.ticksE g [x]).2):=by rw[A5,if_neg hk];rfl
 rw[e]at h ⊢;simp only[A5.ticksE]at h ⊢;by_cases h1:(A5 g x).2=0;· simp only[h1,if_true];exact⟨trivial,trivial⟩
 ·simp only[h1,if_false]at h
theorem nB {g:List T}{k i:Int}{y:Ty}{x z:Tm}(hk:¬k=2)(h:(A5 g (Tm.mk k i y [x,z])).2=0):(A5 g x).2=0/\(A5 g z).2=0/\A5 g (Tm.mk k i y [x,z])=BE k i y [x,z] [(A5 g x).1,(A5 g z).1] [GY g x,GY g z]:=by
 have e:A5 g (Tm.mk k i y [x,z])=if (A5.ticksE g [x,z]).2=0 then BE k i y [x,z] (A5.ticksE g [x,z]).1 [GY g x,GY g z] else (AA,(A5.ticksE g [x,z]).2):=by rw[A5,if_neg hk];rfl
 rw[e]at h ⊢;simp only[A5.ticksE]at h ⊢;by_cases h1:(A5 g x).2=0
 ·by_cases h2:(A5 g z).2=0;· simp only[h1,h2,if_true];exact⟨trivial,trivial,trivial⟩
  ·simp only[h1,h2,if_true,if_false]at h
 ·simp only[h1,if_false]at h
theorem zab {g:List T}{k i:Int}{y:Ty}{x z w:Tm}(hk:¬k=2)(h:(A5 g (Tm.mk k i y [x,z,w])).2=0):(A5 g x).2=0/\(A5 g z).2=0/\(A5 g w).2=0/\A5 g (Tm.mk k i y [x,z,w])=BE k i y [x,z,w] [(A5 g x).1,(A5 g z).1,(A5 g w).1] [GY g x,GY g z,GY g w]:=by
 have e:A5 g (Tm.mk k i y [x,z,w])=if (A5.ticksE g [x,z,w]).2=0 then BE k i y [x,z,w] (A5.ticksE g [x,z,w]).1 [GY g x,GY g z,GY g w] else (AA,(A5.ticksE g [x,z,w]).2):=by rw[A5,if_neg hk];rfl
 rw[e]at h ⊢;simp only[A5.ticksE]at h ⊢;by_cases h1:(A5 g x).2=0
 ·by_cases h2:(A5 g z).2=0
  ·by_cases h3:(A5 g w).2=0;· simp only[h1,h2,h3,if_true];exact⟨trivial,trivial,trivial,trivial⟩
   ·simp only[h1,h2,h3,if_true,if_false]at h
  ·simp only[h1,h2,if_true,if_false]at h
 ·simp only[h1,if_false]at h
theorem zj4 {g:List T}{a:T}{b:Tm}(h:(A5 g (AY a b)).2=0):(A5 (g++[a]) b).2=0/\A5 g (AY a b)=AH (AH (BS a) 2 (DD a) [(A5 (g++[a]) b).1]).2 10 zY [nT 4 [],(AH (BS a) 2 (DD a) [(A5 (g++[a]) b).1]).1]:=by
 have e:A5 g (AY a b)=if (A5.ticksE (g++[a]) [b]).2=0 then BE 2 0 a.ty [b] (A5.ticksE (g++[a]) [b]).1 [GY (g++[a]) b] else (AA,(A5.ticksE (g++[a]) [b]).2):=by
  rw[AY,A5,if_pos rfl,FU];rfl
 rw[e]at h ⊢;simp only[A5.ticksE]at h ⊢;by_cases h1:(A5 (g++[a]) b).2=0
 ·simp only[h1,if_true];refine⟨trivial,?_⟩;unfold BE;rw[if_pos rfl,FU];rfl
 ·simp only[h1,if_false]at h
variable {Γ:List T}{a b:T}
theorem E0 {r:T}{x i:Tm}{X:C3 Γ->a.wt.V}{I:C3 (a.wt::Γ)->r.V}(ha:a.wt.ok)(hx:Dn Γ x a.wt X)(hi:Dn (a.wt::Γ) i r I):Dn Γ (C0 a x i) r (fun e=>I (X e,e)):=.app (.lam ha hi) hx
theorem yK {Δ:List T}{x y:Tm}{X Y:C3 Δ->T.nat.V}(hx:Dn Δ x .nat X)(hy:Dn Δ y .nat Y):Dn Δ (CG x [y]) .nat (fun e=>Nat.add (X e) (Y e)):=.app (.app (Q9 _) hx) hy
theorem yL {Δ:List T}{x y z:Tm}{X Y Z:C3 Δ->T.nat.V}(hx:Dn Δ x .nat X)(hy:Dn Δ y .nat Y)(hz:Dn Δ z .nat Z):Dn Δ (CG x [y,z]) .nat (fun e=>Nat.add (Nat.add (X e) (Y e)) (Z e)):=.app (.app (Q9 _) (.app (.app (Q9 _) hx) hy)) hz
theorem jA {Δ:List T}{x y z w:Tm}{X Y Z W:C3 Δ->T.nat.V}(hx:Dn Δ x .nat X)(hy:Dn Δ y .nat Y)(hz:Dn Δ z .nat Z)(hw:Dn Δ w .nat W):Dn Δ (CG x [y,z,w]) .nat (fun e=>Nat.add (Nat.add (Nat.add (X e) (Y e)) (Z e)) (W e)):=.app (.app (Q9 _) (.app (.app (Q9 _) (.app (.app (Q9 _) hx) hy)) hz)) hw
theorem TU {Δ:List T}{a0:T}:Dn (a0.wt::Δ) (AU 0) .nat (fun e=>Prod.fst e.1):=.fst (.var .zero)
theorem bB {Δ:List T}{a0 a1:T}:Dn (a0::a1.wt::Δ) (AU 1) .nat (fun e=>Prod.fst e.2.1):=.fst (.var (.succ .zero))
theorem nC {Δ:List T}{a0 a1 a2:T}:Dn (a0::a1::a2.wt::Δ) (AU 2) .nat (fun e=>Prod.fst e.2.2.1):=.fst (.var (.succ (.succ .zero)))
theorem zac {Δ:List T}{a0 a1 a2 a3:T}:Dn (a0::a1::a2::a3.wt::Δ) (AU 3) .nat (fun e=>Prod.fst e.2.2.2.1):=.fst (.var (.succ (.succ (.succ .zero))))
theorem MH {Δ:List T}{a0:T}:Dn (a0.wt::Δ) (AS 0) a0.tk (fun e=>Prod.snd e.1):=.snd (.var .zero)
theorem yM {Δ:List T}{a0 a1:T}:Dn (a0::a1.wt::Δ) (AS 1) a1.tk (fun e=>Prod.snd e.2.1):=.snd (.var (.succ .zero))
theorem zad {Δ:List T}{a0 a1 a2:T}:Dn (a0::a1::a2.wt::Δ) (AS 2) a2.tk (fun e=>Prod.snd e.2.2.1):=.snd (.var (.succ (.succ .zero)))
theorem zqk {Δ:List T}{a0 a1 a2 a3:T}:Dn (a0::a1::a2::a3.wt::Δ) (AS 3) a3.tk (fun e=>Prod.snd e.2.2.2.1):=.snd (.var (.succ (.succ (.succ .zero))))
theorem zql {Δ:List T}{a0 a1 a2 a3 a4:T}:Dn (a0::a1::a2::a3::a4.wt::Δ) (AS 4) a4.tk (fun e=>Prod.snd e.2.2.2.2.1):=.snd (.var (.succ (.succ (.succ (.succ .zero)))))
theorem zae {x:Tm}{X:C3 Γ->T.nat.wt.V}(ho:T.nat.wt.ok)(hx:Dn Γ x T.nat.wt X):Dn Γ (kN 5 .nat x) T.nat.wt (fun e=>zj0 (X e)):=E0 ho hx (.pair TU (.succ (MH (a0:=.nat))))
theorem zgm {x:Tm}{X:C3 Γ->(T.pair a b).wt.V}(ho:(T.pair a b).wt.ok)(hx:Dn Γ x (T.pair a b).wt X):Dn Γ (kN 11 (.pair a b) x) a.wt (fun e=>zqg (X e)):=E0 ho hx (.pair TU (.fst (b:=b.tk) (MH (a0:=.pair a b))))
theorem zgn {x:Tm}{X:C3 Γ->(T.pair a b).wt.V}(ho:(T.pair a b).wt.ok)(hx:Dn Γ x (T.pair a b).wt X):Dn Γ (kN 12 (.pair a b) x) b.wt (fun e=>zqh (X e)):=E0 ho hx (.pair TU (.snd (a:=a.tk) (MH (a0:=.pair a b))))
theorem zaf {x y:Tm}{X:C3 Γ->T.nat.wt.V}{Y:C3 Γ->T.list.wt.V}(ho:T.nat.wt.ok)(Kk:T.list.wt.ok)(hx:Dn Γ x T.nat.wt X)(hy:Dn Γ y T.list.wt Y):Dn Γ (S7 8 .nat .list x y) T.list.wt (fun e=>zj1 (X e) (Y e)):=
 E0 ho hx (E0 Kk (aU hy [T.nat.wt]) (.pair (yK bB TU) (.cons (yM (a1:=.nat)) (MH (a0:=.list)))))
theorem zag {x y:Tm}{X:C3 Γ->a.wt.V}{Y:C3 Γ->b.wt.V}(ho:a.wt.ok)(Kk:b.wt.ok)(hx:Dn Γ x a.wt X)(hy:Dn Γ y b.wt Y):Dn Γ (S7 10 a b x y) (T.pair a b).wt (fun e=>zj2 (X e) (Y e)):=
 E0 ho hx (E0 Kk (aU hy [a.wt]) (.pair (yK bB TU) (.pair yM MH)))
theorem zgo {x y:Tm}{X:C3 Γ->(T.fn a b).wt.V}{Y:C3 Γ->a.wt.V}(h1:(T.fn a b).wt.ok)(h2:a.wt.ok)(h3:b.wt.ok)(hx:Dn Γ x (T.fn a b).wt X)(hy:Dn Γ y a.wt Y):Dn Γ (MG a b x y) b.wt (fun e=>zqf (X e) (Y e)):=
 E0 h1 hx (E0 h2 (aU hy [(T.fn a b).wt]) (E0 h3 (.app (yM (a1:=.fn a b)) MH) (.pair (.succ (yL nC bB TU)) MH)))
theorem zah {Δ:List T}{a1:T}(h1:(T.fn a a).wt.ok)(h2:a.wt.ok) :
  Dn (a1.wt::(T.fn .nat (.fn a a)).wt::Δ) (AY .nat (AY a.wt (EO a))) (.fn .nat (.fn a.wt a.wt)) (fun e k c=>TQ (Prod.snd e.2.1) k c):=
 .lam F2 (.lam h2 (E0 h1 (.app (zqk (a3:=.fn .nat (.fn a a))) (.var (.succ .zero))) (E0 h2 (.app (MH (a0:=.fn a a)) yM) (.pair (.succ (yL nC bB TU)) MH))))
theorem zai {Δ:List T}{a1:T}(h0:(T.fn .list (.fn a a)).wt.ok)(h1:(T.fn a a).wt.ok)(h2:a.wt.ok) :
  Dn (a1.wt::(T.fn .nat (.fn .list (.fn a a))).wt::Δ) (AY .nat (AY .list (AY a.wt (CW a)))) (.fn .nat (.fn .list (.fn a.wt a.wt))) (fun e x l c=>OS (Prod.snd e.2.1) x l c):=
 .lam F2 (.lam za4 (.lam h2 (E0 h0 (.app (zql (a4:=.fn .nat (.fn .list (.fn a a)))) (.var (.succ (.succ .zero)))) (E0 h1 (.app (MH (a0:=.fn .list (.fn a a))) (.var (.succ (.succ .zero)))) (E0 h2 (.app (MH (a0:=.fn a a)) zad) (.pair (.succ (jA zac nC bB TU)) MH))))))
theorem zgp {x y z:Tm}{P:C3 Γ->a.wt.V}{Q:C3 Γ->(T.fn .nat (.fn a a)).wt.V}{N:C3 Γ->T.nat.wt.V}(h0:(T.fn .nat (.fn a a)).wt.ok)(h1:T.nat.wt.ok)(h2:(T.fn a a).wt.ok)(h3:a.wt.ok)(hx:Dn Γ x a.wt P)(hy:Dn Γ y (T.fn .nat (.fn a a)).wt Q)(hz:Dn Γ z T.nat.wt N) :
  Dn Γ (F4 6 a a (.fn .nat (.fn a a)) .nat x y z) a.wt (fun e=>zn2 (P e) (Q e) (N e)):=by
 have Fd:HY 6 a=AY .nat (AY a.wt (EO a)):=if_pos rfl;unfold F4;rw[Fd];exact E0 h3 hx (E0 h0 (aU hy [a.wt]) (E0 h1 (aU hz [(T.fn .nat (.fn a a)).wt,a.wt]) (E0 h3 (.rc (a:=a.wt) h3 (.pair .zero zad) (zah h2 h3) (MH (a0:=.nat))) (.pair (jA zac nC bB TU) MH))))
theorem zaj {x y z:Tm}{P:C3 Γ->a.wt.V}{Q:C3 Γ->(T.fn .nat (.fn .list (.fn a a))).wt.V}{N:C3 Γ->T.list.wt.V}(h0:(T.fn .nat (.fn .list (.fn a a))).wt.ok)(h1:T.list.wt.ok)(h2:(T.fn .list (.fn a a)).wt.ok)(Wl:(T.fn a a).wt.ok)(h3:a.wt.ok)(hx:Dn Γ x a.wt P)(hy:Dn Γ y (T.fn .nat (.fn .list (.fn a a))).wt Q)(hz:Dn Γ z T.list.wt N) :
  Dn Γ (F4 9 a a (.fn .nat (.fn .list (.fn a a))) .list x y z) a.wt (fun e=>z9r (P e) (Q e) (N e)):=by
 have Fd:HY 9 a=AY .nat (AY .list (AY a.wt (CW a))):=if_neg dD;unfold F4;rw[Fd];exact E0 h3 hx (E0 h0 (aU hy [a.wt]) (E0 h1 (aU hz [(T.fn .nat (.fn .list (.fn a a))).wt,a.wt]) (E0 h3 (.fold (a:=a.wt) h3 (.pair .zero zad) (zai h2 Wl h3) (MH (a0:=.list))) (.pair (jA zac nC bB TU) MH))))
theorem zak {P:C3 Γ->a.V}{P':C3 (Γ.map T.tk)->a.wt.V}{Q:C3 Γ->(T.fn .nat (.fn a a)).V}{Q':C3 (Γ.map T.tk)->(T.fn .nat (.fn a a)).wt.V}{N:C3 Γ->T.nat.V}{N':C3 (Γ.map T.tk)->T.nat.wt.V}(hP:iY Γ a P P')(hQ:iY Γ (.fn .nat (.fn a a)) Q Q')(hN:iY Γ .nat N N') :
  iY Γ a (fun e=>FT (P e) (Q e) (N e)) (fun e=>zn2 (P' e) (Q' e) (N' e)):=by
 intro e ρ h;have key:∀n:Nat,Rq a (FT (P e) (Q e) n) (FT (α:=WT a) (0,Prod.snd (P' ρ)) (TQ (Prod.snd (Q' ρ))) n).2:=by
  intro n
  induction n with
  | zero=>exact hP e ρ h
  | succ n ih=>exact hQ e ρ h n n rfl _ _ ih
 have hn:N e=Prod.snd (N' ρ):=hN e ρ h;show Rq a (FT (P e) (Q e) (N e)) (FT (α:=WT a) (0,Prod.snd (P' ρ)) (TQ (Prod.snd (Q' ρ))) (Prod.snd (N' ρ))).2;rw[hn];exact key _
theorem z3r {P:C3 Γ->a.V}{P':C3 (Γ.map T.tk)->a.wt.V}{Q:C3 Γ->(T.fn .nat (.fn .list (.fn a a))).V}{Q':C3 (Γ.map T.tk)->(T.fn .nat (.fn .list (.fn a a))).wt.V}{N:C3 Γ->T.list.V}{N':C3 (Γ.map T.tk)->T.list.wt.V}(hP:iY Γ a P P')(hQ:iY Γ (.fn .nat (.fn .list (.fn a a))) Q Q')(hN:iY Γ .list N N') :
  iY Γ a (fun e=>FK (P e) (Q e) (N e)) (fun e=>z9r (P' e) (Q' e) (N' e)):=by
 intro e ρ h;have key:∀l:List Nat,Rq a (FK (P e) (Q e) l) (FK (α:=WT a) (0,Prod.snd (P' ρ)) (OS (Prod.snd (Q' ρ))) l).2:=by
  intro l
  induction l with
  | nil=>exact hP e ρ h
  | cons x l ih=>exact hQ e ρ h x x rfl l l rfl _ _ ih
 have hn:N e=Prod.snd (N' ρ):=hN e ρ h;show Rq a (FK (P e) (Q e) (N e)) (FK (α:=WT a) (0,Prod.snd (P' ρ)) (OS (Prod.snd (Q' ρ))) (Prod.snd (N' ρ))).2;rw[hn];exact key _
theorem S8 {Δ:List T}{x:Tm}{c:T}{X:C3 Δ->c.V}(hx:Dn Δ x c X):Dn Δ (nT 10 [nT 4 [],x]) (.pair .nat c) (fun e=>((0:Nat),X e)):=.pair .zero hx
theorem PE {g:List T}{k i:Int}{y:Ty}(h2:¬k=2)(hk:k=1\/k=4\/k=7\/k=13)(h:(A5 g (Tm.mk k i y [])).2=0):(A5 g (Tm.mk k i y [])).1=nT 10 [nT 4 [],Tm.mk k i y []]:=by
 have e:A5 g (Tm.mk k i y [])=AH 0 10 zY [nT 4 [],Tm.mk k i y []]:=by
  rw[A5,if_neg h2];show BE k i y [] [] _=_;unfold BE;rcases hk with rfl|rfl|rfl|rfl <;> rfl
 rw[e]at h ⊢;exact (GM h).2.1
theorem VT {t:Tm}{F:C3 Γ->a.V}(h:Dn Γ t a F):∃G:C3 (Γ.map T.tk)->a.wt.V,KJ Γ t a G/\iY Γ a F G/\((A5 Γ.reverse t).2=0->Dn (Γ.map T.tk) (A5 Γ.reverse t).1 a.wt G):=by
 induction h with
 | @var Γ i a p h=>
  obtain⟨q,h1,h2,h3⟩:=zqe h;refine⟨fun ρ=>((0:Nat),q ρ),fun e ρ he=>?_,fun e ρ he=>h3 e ρ he,fun h0=>?_⟩
  ·obtain⟨v,h4,h5⟩:=h2 e ρ he;refine⟨1,v,0,?_,h5,rfl⟩;show (e[((i:Nat):Int).toNat]?).map (fun v=>(v,0))=some (v,0);rw[Int.toNat_natCast,h4];rfl
  ·have e:=PE dD (.inl rfl) h0;unfold vT;rw[e];exact S8 (.var h1)
 | @lam Γ a r b f ha h ih=>
  obtain⟨G,h1,h2,h3⟩:=ih;refine⟨_,z9s h1,fun e ρ he x X hx=>h2 (x,e) (X,ρ) ⟨hx,he⟩,fun h0=>?_⟩;obtain⟨e1,e2⟩:=zj4 h0;rw[e2]at h0 ⊢;obtain⟨e3,e4,-⟩:=GM h0;obtain⟨e5,e6,-⟩:=GM e3;obtain⟨e7,e8⟩:=tS e5;rw[e4,e6,e8];rw[List.reverse_cons]at h3;exact S8 (.lam (a:=a.tk) e7 (h3 e1))
 | @app Γ a b f x F X hf hx Bo Bh=>
  obtain⟨G1,k1,d1,t1⟩:=Bo;obtain⟨G2,k2,d2,t2⟩:=Bh;refine⟨_,z9t k1 k2,fun e ρ he=>d1 e ρ he _ _ (d2 e ρ he),fun h0=>?_⟩;obtain⟨e1,e2,e3⟩:=nB dD h0;have e4:A5 Γ.reverse (nT 3 [f,x])=VP a b (A5 Γ.reverse f).1 (A5 Γ.reverse x).1:=by
   rw[nT,e3,B7 hf,B7 hx];rfl
  rw[e4]at h0 ⊢;obtain⟨o1,o2,o3,r⟩:=za8 h0;rw[r];exact zgo o1 o3 o2 (t1 e1) (t2 e2)
 | @zero Γ=>
  refine⟨_,X4 (v:=.num 0) dD (fun _=>rfl) (show Rk .nat (.num 0) (0:Nat) from rfl),fun e ρ he=>rfl,fun h0=>?_⟩;have e:=PE dD (.inr (.inl rfl)) h0;unfold nT;rw[e];exact S8 .zero
 | @succ Γ x X hx ih=>
  obtain⟨G1,k1,d1,t1⟩:=ih;refine⟨_,z3d k1,fun e ρ he=>congrArg Nat.succ (d1 e ρ he),fun h0=>?_⟩;obtain⟨e1,e3⟩:=yJ dD h0;have e4:A5 Γ.reverse (nT 5 [x])=ZB 5 .nat (A5 Γ.reverse x).1:=by rw[nT,e3,B7 hx];rfl
  rw[e4]at h0 ⊢;obtain⟨o1,r⟩:=yG h0;rw[r];exact zae o1 (t1 e1)
 | @rc Γ a b f n B F N ha hb hf hn Bo Bh Gn=>
  obtain⟨G1,k1,d1,t1⟩:=Bo;obtain⟨G2,k2,d2,t2⟩:=Bh;obtain⟨G3,k3,d3,t3⟩:=Gn;refine⟨_,z9w k1 k2 k3,zak d1 d2 d3,fun h0=>?_⟩;obtain⟨e1,e2,e3,e5⟩:=zab dD h0;have e4:A5 Γ.reverse (Tm.mk 6 0 a.ty [b,f,n])=DH 6 a a (.fn .nat (.fn a a)) .nat (A5 Γ.reverse b).1 (A5 Γ.reverse f).1 (A5 Γ.reverse n).1:=by
   rw[e5,B7 hb,B7 hf,B7 hn];unfold BE;rw[if_neg dD,if_neg dD,if_neg dD,if_neg dD,if_pos dD,FU];rfl
  rw[e4]at h0 ⊢;obtain⟨o1,o2,o3,o4,o5,o6,o7,r⟩:=X7 h0;rw[r];exact zgp o2 o3 o5 o6 (t1 e1) (t2 e2) (t3 e3)
 | @nil Γ=>
  refine⟨_,X4 (v:=.list []) dD (fun _=>rfl) (show Rk .list (.list []) ([]:List Nat) from rfl),fun e ρ he=>rfl,fun h0=>?_⟩;have e:=PE dD (.inr (.inr (.inl rfl))) h0;unfold nT;rw[e];exact S8 .nil
 | @cons Γ x l X L hx hl Bo Bh=>
  obtain⟨G1,k1,d1,t1⟩:=Bo;obtain⟨G2,k2,d2,t2⟩:=Bh;refine⟨_,z3e k1 k2,fun e ρ he=>congr (congrArg List.cons (d1 e ρ he)) (d2 e ρ he),fun h0=>?_⟩;obtain⟨e1,e2,e3⟩:=nB dD h0;have e4:A5 Γ.reverse (nT 8 [x,l])=QB 8 .nat .list (A5 Γ.reverse x).1 (A5 Γ.reverse l).1:=by
   rw[nT,e3,B7 hx,B7 hl];rfl
  rw[e4]at h0 ⊢;obtain⟨o1,o2,r⟩:=tU h0;rw[r];exact zaf (by assumption) (by assumption) (t1 e1) (t2 e2)
 | @fold Γ a b f n B F N ha hb hf hn Bo Bh Gn=>
  obtain⟨G1,k1,d1,t1⟩:=Bo;obtain⟨G2,k2,d2,t2⟩:=Bh;obtain⟨G3,k3,d3,t3⟩:=Gn;refine⟨_,z3g k1 k2 k3,z3r d1 d2 d3,fun h0=>?_⟩;obtain⟨e1,e2,e3,e5⟩:=zab dD h0;have e4:A5 Γ.reverse (Tm.mk 9 0 a.ty [b,f,n])=DH 9 a a (.fn .nat (.fn .list (.fn a a))) .list (A5 Γ.reverse b).1 (A5 Γ.reverse f).1 (A5 Γ.reverse n).1:=by
   rw[e5,B7 hb,B7 hf,B7 hn];unfold BE;rw[if_neg dD,if_neg dD,if_neg dD,if_neg dD,if_pos dD,FU];rfl
  rw[e4]at h0 ⊢;obtain⟨o1,o2,o3,o4,o5,o6,o7,r⟩:=X7 h0;rw[r];exact zaj o2 o3 (o7 dD) o5 o6 (t1 e1) (t2 e2) (t3 e3)
 | @pair Γ a b x y X Y hx hy Bo Bh=>
  obtain⟨G1,k1,d1,t1⟩:=Bo;obtain⟨G2,k2,d2,t2⟩:=Bh;refine⟨_,z3f k1 k2,fun e ρ he=>⟨d1 e ρ he,d2 e ρ he⟩,fun h0=>?_⟩;obtain⟨e1,e2,e3⟩:=nB dD h0;have e4:A5 Γ.reverse (nT 10 [x,y])=QB 10 a b (A5 Γ.reverse x).1 (A5 Γ.reverse y).1:=by
   rw[nT,e3,B7 hx,B7 hy];rfl
  rw[e4]at h0 ⊢;obtain⟨o1,o2,r⟩:=tU h0;rw[r];exact zag (by assumption) (by assumption) (t1 e1) (t2 e2)
 | @fst Γ a b x X hx ih=>
  obtain⟨G1,k1,d1,t1⟩:=ih;refine⟨_,z9u k1,fun e ρ he=>(d1 e ρ he).1,fun h0=>?_⟩;obtain⟨e1,e3⟩:=yJ dD h0;have e4:A5 Γ.reverse (nT 11 [x])=ZB 11 (.pair a b) (A5 Γ.reverse x).1:=by rw[nT,e3,B7 hx];rfl
  rw[e4]at h0 ⊢;obtain⟨o1,r⟩:=yG h0;rw[r];exact zgm o1 (t1 e1)
 | @snd Γ a b x X hx ih=>
  obtain⟨G1,k1,d1,t1⟩:=ih;refine⟨_,z9v k1,fun e ρ he=>(d1 e ρ he).2,fun h0=>?_⟩;obtain⟨e1,e3⟩:=yJ dD h0;have e4:A5 Γ.reverse (nT 12 [x])=ZB 12 (.pair a b) (A5 Γ.reverse x).1:=by rw[nT,e3,B7 hx];rfl
  rw[e4]at h0 ⊢;obtain⟨o1,r⟩:=yG h0;rw[r];exact zgn o1 (t1 e1)
 | @unit Γ=>
  refine⟨_,X4 (v:=.unit) dD (fun _=>rfl) (show Rk .unit .unit () from rfl),fun e ρ he=>trivial,fun h0=>?_⟩;have e:=PE dD (.inr (.inr (.inr rfl))) h0;unfold nT;rw[e];exact S8 .unit
end
section
def UH (s:List Int)(n:Int):Option Nat:=(List.range s.length).reverse.find? fun j=>s[j]?==some n
def EA:List Int->Tm->Tm
 | s,.mk k i y a=>if k=1 then (match UH s i with|some j=>vT ((s.length:Int) - 1 - (j:Int))|none=>.mk k i y a) else .mk k 0 y (closes (if k=2 then s++[i] else s) a)
where
 closes:List Int->List Tm->List Tm
  | _,[]=>[]
  | s,x::r=>EA s x::closes s r
theorem tV (s:List Int)(l:List Tm):EA.closes s l=l.map (EA s):=by
 induction l with
 | nil=>rfl
 | cons a r ih=>simp[EA.closes,ih]
theorem IB (s:List Int)(t:Tm):EA s t=if t.kind=1 then (match UH s t.index with|some j=>vT ((s.length:Int) - 1 - (j:Int))|none=>t) else .mk t.kind 0 t.type (t.args.map (EA (if t.kind=2 then s++[t.index] else s))):=by
 cases t;rw[EA,tV];rfl
theorem Y7 {s:List Int}{n:Int}{j:Nat}(h:s[j]? = some n)(hl:∀k,j<k->s[k]?≠some n):UH s n=some j:=by
 have hj:=(uA h).1;unfold UH;have hk:∀m,j<m->m<=s.length->(List.range m).reverse.find? (fun j=>s[j]?==some n)=some j:=by
  intro m hm Rc
  induction m with
  | zero=>omega
  | succ m ih=>
   rw[List.range_succ,List.reverse_append];show (List.find? _ (m::(List.range m).reverse))=_;by_cases e:m=j
   ·subst e;rw[List.find?_cons_of_pos (by simp[h])]
   ·rw[List.find?_cons_of_neg (by simpa using hl m oO)];exact ih oO oO
 exact hk _ hj (Nat.le_refl _)
inductive Rep:List Int->Tm->Tm->Prop
 | var {s:List Int} {n:Int} {j:Nat}:s[j]? = some n->(∀k,j<k->s[k]?≠some n)->Rep s (vT n) (vT ((s.length:Int) - 1 - (j:Int)))
 | lam {s n y b t}:Rep (s++[n]) b t->Rep s (Tm.mk 2 n y [b]) (Tm.mk 2 0 y [t])
 | n0 {s} (k y):k≠1->k≠2->Rep s (Tm.mk k 0 y []) (Tm.mk k 0 y [])
 | n1 {s k y a b}:k≠1->k≠2->Rep s a b->Rep s (Tm.mk k 0 y [a]) (Tm.mk k 0 y [b])
 | n2 {s k y a b c d}:k≠1->k≠2->Rep s a b->Rep s c d->Rep s (Tm.mk k 0 y [a,c]) (Tm.mk k 0 y [b,d])
 | n3 {s k y a b c d e f}:k≠1->k≠2->Rep s a b->Rep s c d->Rep s e f->Rep s (Tm.mk k 0 y [a,c,e]) (Tm.mk k 0 y [b,d,f])
theorem Rep.close {s:List Int}{x t:Tm}(h:Rep s x t):EA s x=t:=by
 induction h with
 | @var s n j h1 h2=>
  rw[IB,if_pos (show (vT n).kind=1 from rfl)];show (match UH s n with|some j=>_|none=>_)=_;rw[Y7 h1 h2]
 | @lam s n y b t h ih=>
  rw[IB,if_neg (show ¬(Tm.mk 2 n y [b]).kind=1 by show ¬(2:Int)=1;decide)];show Tm.mk 2 0 y [EA (if (2:Int)=2 then s++[n] else s) b]=_;rw[if_pos rfl,ih]
 | n0 k y h1 h2=>rw[IB,if_neg (show ¬(Tm.mk k 0 y []).kind=1 from h1)];rfl
 | @n1 s k y a b h1 h2 ha ia=>rw[IB,if_neg (show ¬(Tm.mk k 0 y [a]).kind=1 from h1)];show Tm.mk k 0 y [EA (if k=2 then _ else s) a]=_;rw[if_neg h2,ia]
 | @n2 s k y a b c d h1 h2 ha hc ia ic=>rw[IB,if_neg (show ¬(Tm.mk k 0 y [a,c]).kind=1 from h1)];show Tm.mk k 0 y [EA (if k=2 then _ else s) a,EA (if k=2 then _ else s) c]=_;rw[if_neg h2,ia,ic]
 | @n3 s k y a b c d e f h1 h2 ha hc he ia ic ie=>rw[IB,if_neg (show ¬(Tm.mk k 0 y [a,c,e]).kind=1 from h1)];show Tm.mk k 0 y [EA (if k=2 then _ else s) a,EA (if k=2 then _ else s) c,EA (if k=2 then _ else s) e]=_;rw[if_neg h2,ia,ic,ie]
theorem Rep.count {s:List Int}{x t:Tm}(h:Rep s x t):x.count=t.count:=by
 induction h with
 | var _ _=>rfl
 | lam h ih=>show 1+(_+0)=1+(_+0);rw[ih]
 | n0=>rfl
 | n1 _ _ _ ia=>show 1+(_+0)=1+(_+0);rw[ia]
 | n2 _ _ _ _ ia ic=>show 1+(_+(_+0))=1+(_+(_+0));rw[ia,ic]
 | n3 _ _ _ _ _ ia ic ie=>show 1+(_+(_+(_+0)))=1+(_+(_+(_+0)));rw[ia,ic,ie]
def Tm.vars:Tm->List Int
 | .mk k i _ a=>if k=1 then [i] else varsL a
where
 varsL:List Tm->List Int
  | []=>[]
  | x::r=>x.vars++varsL r
theorem Tm.vars_eq (t:Tm):t.vars=if t.kind=1 then [t.index] else Tm.vars.varsL t.args:=by cases t;rw[Tm.vars];rfl
theorem Rep.wk {x t:Tm}{v:Int}{s:List Int}(h:Rep s x t):∀(a b:List Int),s=a++b->v∉x.vars->Rep (a++v::b) x (t.upN (b.length:Int) 1):=by
 induction h with
 | @var s n j h1 h2=>
  intro a b hs hv;subst hs;have hvn:v≠n:=by intro e;exact hv (by rw[Tm.vars_eq,if_pos (show (vT n).kind=1 from rfl)];exact List.mem_singleton.2 e)
  have hj:=(uA h1).1;rw[List.length_append]at hj;rw[tK];by_cases hja:j<a.length
  ·have e1:(if (b.length:Int)<=((a++b).length:Int) - 1 - (j:Int) then ((a++b).length:Int) - 1 - (j:Int)+1 else ((a++b).length:Int) - 1 - (j:Int))=((a++v::b).length:Int) - 1 - (j:Int):=by
    rw[if_pos (by simp;omega)]
    simp;omega
   rw[e1];refine .var ?_ ?_;· rw[List.getElem?_append_left hja]at h1 ⊢;exact h1
   ·intro k hk hh;by_cases hka:k<a.length;· exact h2 k hk (by rw[List.getElem?_append_left hka]at hh ⊢;exact hh)
    ·rw[List.getElem?_append_right oO]at hh;rcases hq:k - a.length with _|m;· rw[hq]at hh;simp at hh;exact hvn hh
     ·rw[hq,List.getElem?_cons_succ]at hh;refine h2 (a.length+m) oO ?_;rw[List.getElem?_append_right oO,Nat.add_sub_cancel_left];exact hh
  ·have e1:(if (b.length:Int)<=((a++b).length:Int) - 1 - (j:Int) then ((a++b).length:Int) - 1 - (j:Int)+1 else ((a++b).length:Int) - 1 - (j:Int))=((a++v::b).length:Int) - 1 - ((j+1:Nat):Int):=by
    rw[if_neg (by simp;omega)]
    simp;omega
   rw[e1];refine .var ?_ ?_
   ·rw[List.getElem?_append_right oO]at h1 ⊢;rw[show j+1 - a.length=(j - a.length)+1 from oO,List.getElem?_cons_succ];exact h1
   ·intro k hk hh;rw[List.getElem?_append_right oO,show k - a.length=(k - 1 - a.length)+1 from oO,List.getElem?_cons_succ]at hh;refine h2 (k - 1) oO ?_;rw[List.getElem?_append_right oO];exact hh
 | @lam s n y b' t h ih=>
  intro a b hs hv;subst hs;rw[Tm.vars_eq,if_neg (show ¬(Tm.mk 2 n y [b']).kind=1 by show ¬(2:Int)=1;decide)]at hv;have Di:v∉b'.vars:=by intro e;exact hv (List.mem_append_left _ e)
  have:=ih a (b++[n]) sS Di;rw[Tm.upN_eq];show Rep _ _ (Tm.mk 2 0 y [t.upN ((b.length:Int)+1) 1]);refine .lam ?_;have e:((b++[n]).length:Int)=(b.length:Int)+1:=sS;rw[e]at this
  simpa using this
 | @n0 s k y h1 h2=>intro a b hs hv;rw[GL ⟨h1,h2⟩];exact .n0 k y h1 h2
 | @n1 s k y p q h1 h2 hp ip=>
  intro a b hs hv;rw[Tm.vars_eq,if_neg (show ¬(Tm.mk k 0 y [p]).kind=1 from h1)]at hv;rw[GL ⟨h1,h2⟩];exact .n1 h1 h2 (ip a b hs (fun e=>hv (List.mem_append_left _ e)))
 | @n2 s k y p q r u h1 h2 hp hr ip ir=>
  intro a b hs hv;rw[Tm.vars_eq,if_neg (show ¬(Tm.mk k 0 y [p,r]).kind=1 from h1)]at hv;rw[GL ⟨h1,h2⟩];exact .n2 h1 h2 (ip a b hs (fun e=>hv (List.mem_append_left _ e))) (ir a b hs (fun e=>hv (List.mem_append_right _ (List.mem_append_left _ e))))
 | @n3 s k y p q r u w z h1 h2 hp hr hw ip ir iw=>
  intro a b hs hv;rw[Tm.vars_eq,if_neg (show ¬(Tm.mk k 0 y [p,r,w]).kind=1 from h1)]at hv;rw[GL ⟨h1,h2⟩];exact .n3 h1 h2 (ip a b hs (fun e=>hv (List.mem_append_left _ e))) (ir a b hs (fun e=>hv (List.mem_append_right _ (List.mem_append_left _ e)))) (iw a b hs (fun e=>hv (List.mem_append_right _ (List.mem_append_right _ (List.mem_append_left _ e)))))
theorem Rep.up {x t:Tm}{v:Int}{s:List Int}(h:Rep s x t)(hv:v∉x.vars):Rep (s++[v]) x (t.upN 0 1):=h.wk s [] sS hv
theorem M4 (i:Int):(vT i).count=1:=rfl
theorem M5 (k i:Int)(y:Ty):(Tm.mk k i y []).count=1:=rfl
theorem M6 (k i:Int)(y:Ty)(a:Tm):(Tm.mk k i y [a]).count=1+a.count:=rfl
theorem LY (k i:Int)(y:Ty)(a b:Tm):(Tm.mk k i y [a,b]).count=1+(a.count+b.count):=rfl
theorem M7 (k i:Int)(y:Ty)(a b c:Tm):(Tm.mk k i y [a,b,c]).count=1+(a.count+(b.count+c.count)):=rfl
theorem FG (t:Tm)(f b:Int):(t.upN f b).count=t.count:=FM t f b
theorem C9:EF.count=9:=rfl
theorem BZ {k:Int}{s:Ty}{l:List Tm}(h:(Tm.mk k 0 s l).count<=4096):AH 0 k s l=(Tm.mk k 0 s l,0):=by
 unfold AH IN;rw[if_pos rfl,if_neg oO]
theorem FO (i:Int):G5 0 i=(AU i,0):=BZ (by show 2<=4096;decide)
theorem EJ (i:Int):F3 0 i=(AS i,0):=BZ (by show 2<=4096;decide)
theorem F8 {a:T}(h:a.wt.ok):DY 0 a=(a.wt.ty,0):=by
 have h':1+1+a.tk.size<=64:=h;have e1:BS a=0:=by unfold BS;rw[if_pos oO]
 have e2:DD a=a.tk.ty:=by unfold DD;rw[if_pos oO]
 unfold DY;rw[e1,e2];unfold GN FN;rw[T.ty_count,if_pos oO,if_pos oO];rfl
theorem yN:∀(l:List Tm) (o:Tm),o.count<=(CG o l).count
 | [],_=>Nat.le_refl _
 | x::r,o=>by
  have:=yN r (nT 3 [nT 3 [EF,o],x]);rw[CG];simp only[nT,LY]at this;simp only[nT];omega
theorem SW:∀{l:List Tm} {o:Tm},(CG o l).count<=4096->HX 0 o l=(CG o l,0)
 | [],_,_=>rfl
 | x::r,o,h=>by
  rw[CG]at h ⊢;have h1:=yN r (nT 3 [nT 3 [EF,o],x]);have h2:(nT 3 [nT 3 [EF,o],x]).count=1+((nT 3 [EF,o]).count+x.count):=rfl;rw[HX];have e1:AH 0 3 zY [EF,o]=(nT 3 [EF,o],0):=BZ (by show (nT 3 [EF,o]).count<=4096;omega);have e2:VO 0 o x=(nT 3 [nT 3 [EF,o],x],0):=by
   unfold VO;rw[e1];exact BZ (by show (nT 3 [nT 3 [EF,o],x]).count<=4096;omega)
  rw[e2];exact SW h
theorem GP {a:T}{x y:Tm}(h:(C0 a x y).count<=4096):GE 0 a.wt.ty x y=(C0 a x y,0):=by
 have h2:(C0 a x y).count=1+((AY a.wt y).count+x.count):=rfl;have e1:AH 0 2 a.wt.ty [y]=(AY a.wt y,0):=BZ (by show (AY a.wt y).count<=4096;omega);unfold GE;rw[e1];exact BZ (by show (C0 a x y).count<=4096;omega)
theorem zn9 (k:Int)(a:T)(x:Tm)(o0:a.wt.ok)(hc:(kN k a x).count<=4096):ZB k a x=(kN k a x,0):=by
 simp only[kN,S7,MG,EO,CW,F4,C0,AY,AU,AS,CG,nT,M5,M6,LY,M7,M4,FG,C9]at hc;obtain⟨w,f,s,n,c,z0,z1,z2,z3,z4,z5⟩:=UG k a x;replace z0:=z0.trans (F8 (by assumption));subst z0;try simp only at z1
 replace z1:=z1.trans (FO _);subst z1;try simp only at z2
 replace z2:=z2.trans (EJ _);subst z2;try simp only at z3
 replace z3:=z3.trans (BZ (by simp only[C0,AY,AU,AS,CG,nT,M5,M6,LY,M7,M4,FG,C9];omega));subst z3;try simp only at z4
 replace z4:=z4.trans (BZ (by simp only[C0,AY,AU,AS,CG,nT,M5,M6,LY,M7,M4,FG,C9];omega));subst z4;try simp only at z5
 rw[z5];unfold kN;exact GP (by simp only[C0,AY,AU,AS,CG,nT,M5,M6,LY,M7,M4,FG,C9];omega)
theorem zgq (k:Int)(a b:T)(x y:Tm)(o0:a.wt.ok)(o1:b.wt.ok)(hc:(S7 k a b x y).count<=4096):QB k a b x y=(S7 k a b x y,0):=by
 simp only[kN,S7,MG,EO,CW,F4,C0,AY,AU,AS,CG,nT,M5,M6,LY,M7,M4,FG,C9]at hc;obtain⟨g1,g0,s,s1,s0,n,c,w0,w1,m,z0,z1,z2,z3,z4,z5,z6,z7,z8,z9,Bu⟩:=SS k a b x y;replace z0:=z0.trans (FO _);subst z0;try simp only at z1
 replace z1:=z1.trans (FO _);subst z1;try simp only at z2
 replace z2:=z2.trans (SW (by simp only[AU,AS,CG,nT,M5,M6,LY,M7,M4,FG,C9];omega));subst z2;try simp only at z3
 replace z3:=z3.trans (EJ _);subst z3;try simp only at z4
 replace z4:=z4.trans (EJ _);subst z4;try simp only at z5
 replace z5:=z5.trans (BZ (by simp only[C0,AY,AU,AS,CG,nT,M5,M6,LY,M7,M4,FG,C9];omega));subst z5;try simp only at z6
 replace z6:=z6.trans (BZ (by simp only[C0,AY,AU,AS,CG,nT,M5,M6,LY,M7,M4,FG,C9];omega));subst z6;try simp only at z7
 replace z7:=z7.trans (F8 (by assumption));subst z7;try simp only at z8
 replace z8:=z8.trans (F8 (by assumption));subst z8;try simp only at z9
 replace z9:=z9.trans (GP (by simp only[C0,AY,AU,AS,CG,nT,M5,M6,LY,M7,M4,FG,C9];omega));subst z9;try simp only at Bu
 rw[Bu];unfold S7;exact GP (by simp only[C0,AY,AU,AS,CG,nT,M5,M6,LY,M7,M4,FG,C9];omega)
theorem zgr (a b:T)(x y:Tm)(o0:a.wt.ok)(o1:b.wt.ok)(o2:(T.fn a b).wt.ok)(hc:(MG a b x y).count<=4096):VP a b x y=(MG a b x y,0):=by
 simp only[kN,S7,MG,EO,CW,F4,C0,AY,AU,AS,CG,nT,M5,M6,LY,M7,M4,FG,C9]at hc;obtain⟨s1,s0,c,g2,g1,g0,s,u,z,o,w1,w2,m2,m1,w0,z0,z1,z2,z3,z4,z5,z6,z7,z8,z9,Bu,Cj,Ce,Ch,Cl,Cr⟩:=VQ a b x y;replace z0:=z0.trans (EJ _);subst z0;try simp only at z1
 replace z1:=z1.trans (EJ _);subst z1;try simp only at z2
 replace z2:=z2.trans (BZ (by simp only[C0,AY,AU,AS,CG,nT,M5,M6,LY,M7,M4,FG,C9];omega));subst z2;try simp only at z3
 replace z3:=z3.trans (FO _);subst z3;try simp only at z4
 replace z4:=z4.trans (FO _);subst z4;try simp only at z5
 replace z5:=z5.trans (FO _);subst z5;try simp only at z6
 replace z6:=z6.trans (SW (by simp only[AU,AS,CG,nT,M5,M6,LY,M7,M4,FG,C9];omega));subst z6;try simp only at z7
 replace z7:=z7.trans (BZ (by simp only[C0,AY,AU,AS,CG,nT,M5,M6,LY,M7,M4,FG,C9];omega));subst z7;try simp only at z8
 replace z8:=z8.trans (EJ _);subst z8;try simp only at z9
 replace z9:=z9.trans (BZ (by simp only[C0,AY,AU,AS,CG,nT,M5,M6,LY,M7,M4,FG,C9];omega));subst z9;try simp only at Bu
 replace Bu:=Bu.trans (F8 (by assumption));subst Bu;try simp only at Cj
 replace Cj:=Cj.trans (F8 (by assumption));subst Cj;try simp only at Ce
 replace Ce:=Ce.trans (GP (by simp only[C0,AY,AU,AS,CG,nT,M5,M6,LY,M7,M4,FG,C9];omega));subst Ce;try simp only at Ch
 replace Ch:=Ch.trans (GP (by simp only[C0,AY,AU,AS,CG,nT,M5,M6,LY,M7,M4,FG,C9];omega));subst Ch;try simp only at Cl
 replace Cl:=Cl.trans (F8 (by assumption));subst Cl;try simp only at Cr
 rw[Cr];unfold MG;exact GP (by simp only[C0,AY,AU,AS,CG,nT,M5,M6,LY,M7,M4,FG,C9];omega)
theorem z3s (a:T)(o0:a.wt.ok)(o1:(T.fn a a).wt.ok)(hc:(EO a).count<=4096):NL 0 a=(EO a,0):=by
 simp only[kN,S7,MG,EO,CW,F4,C0,AY,AU,AS,CG,nT,M5,M6,LY,M7,M4,FG,C9]at hc;obtain⟨p0,c0,p1,q1,a1,c1,g2,g1,g0,s,u,z,o,w1,m1,w0,z0,z1,z2,z3,z4,z5,z6,z7,z8,z9,Bu,Cj,Ce,Ch,Cl,Cr,Ee⟩:=ST 0 a;replace z0:=z0.trans (EJ _);subst z0;try simp only at z1
 replace z1:=z1.trans (BZ (by simp only[C0,AY,AU,AS,CG,nT,M5,M6,LY,M7,M4,FG,C9];omega));subst z1;try simp only at z2
 replace z2:=z2.trans (EJ _);subst z2;try simp only at z3
 replace z3:=z3.trans (EJ _);subst z3;try simp only at z4
 replace z4:=z4.trans (EJ _);subst z4;try simp only at z5
 replace z5:=z5.trans (BZ (by simp only[C0,AY,AU,AS,CG,nT,M5,M6,LY,M7,M4,FG,C9];omega));subst z5;try simp only at z6
 replace z6:=z6.trans (FO _);subst z6;try simp only at z7
 replace z7:=z7.trans (FO _);subst z7;try simp only at z8
 replace z8:=z8.trans (FO _);subst z8;try simp only at z9
 replace z9:=z9.trans (SW (by simp only[AU,AS,CG,nT,M5,M6,LY,M7,M4,FG,C9];omega));subst z9;try simp only at Bu
 replace Bu:=Bu.trans (BZ (by simp only[C0,AY,AU,AS,CG,nT,M5,M6,LY,M7,M4,FG,C9];omega));subst Bu;try simp only at Cj
 replace Cj:=Cj.trans (EJ _);subst Cj;try simp only at Ce
 replace Ce:=Ce.trans (BZ (by simp only[C0,AY,AU,AS,CG,nT,M5,M6,LY,M7,M4,FG,C9];omega));subst Ce;try simp only at Ch
 replace Ch:=Ch.trans (F8 (by assumption));subst Ch;try simp only at Cl
 replace Cl:=Cl.trans (GP (by simp only[C0,AY,AU,AS,CG,nT,M5,M6,LY,M7,M4,FG,C9];omega));subst Cl;try simp only at Cr
 replace Cr:=Cr.trans (F8 (by assumption));subst Cr;try simp only at Ee
 rw[Ee];unfold EO;exact GP (by simp only[C0,AY,AU,AS,CG,nT,M5,M6,LY,M7,M4,FG,C9];omega)
theorem z3t (a:T)(o0:a.wt.ok)(o1:(T.fn a a).wt.ok)(o2:(T.fn .list (.fn a a)).wt.ok)(hc:(CW a).count<=4096):NM 0 a=(CW a,0):=by
 simp only[kN,S7,MG,EO,CW,F4,C0,AY,AU,AS,CG,nT,M5,M6,LY,M7,M4,FG,C9]at hc;obtain⟨p0,c0,p1,q1,c1,p2,q2,a2,c2,g3,g2,g1,g0,s,u,z,o,w2,m2,w1,m1,w0,z0,z1,z2,z3,z4,z5,z6,z7,z8,z9,Bu,Cj,Ce,Ch,Cl,Cr,Ee,Gm,Hh,Hn,Po,Qi,Qr⟩:=SU 0 a;replace z0:=z0.trans (EJ _);subst z0;try simp only at z1
 replace z1:=z1.trans (BZ (by simp only[C0,AY,AU,AS,CG,nT,M5,M6,LY,M7,M4,FG,C9];omega));subst z1;try simp only at z2
 replace z2:=z2.trans (EJ _);subst z2;try simp only at z3
 replace z3:=z3.trans (EJ _);subst z3;try simp only at z4
 replace z4:=z4.trans (BZ (by simp only[C0,AY,AU,AS,CG,nT,M5,M6,LY,M7,M4,FG,C9];omega));subst z4;try simp only at z5
 replace z5:=z5.trans (EJ _);subst z5;try simp only at z6
 replace z6:=z6.trans (EJ _);subst z6;try simp only at z7
 replace z7:=z7.trans (EJ _);subst z7;try simp only at z8
 replace z8:=z8.trans (BZ (by simp only[C0,AY,AU,AS,CG,nT,M5,M6,LY,M7,M4,FG,C9];omega));subst z8;try simp only at z9
 replace z9:=z9.trans (FO _);subst z9;try simp only at Bu
 replace Bu:=Bu.trans (FO _);subst Bu;try simp only at Cj
 replace Cj:=Cj.trans (FO _);subst Cj;try simp only at Ce
 replace Ce:=Ce.trans (FO _);subst Ce;try simp only at Ch
 replace Ch:=Ch.trans (SW (by simp only[AU,AS,CG,nT,M5,M6,LY,M7,M4,FG,C9];omega));subst Ch;try simp only at Cl
 replace Cl:=Cl.trans (BZ (by simp only[C0,AY,AU,AS,CG,nT,M5,M6,LY,M7,M4,FG,C9];omega));subst Cl;try simp only at Cr
 replace Cr:=Cr.trans (EJ _);subst Cr;try simp only at Ee
 replace Ee:=Ee.trans (BZ (by simp only[C0,AY,AU,AS,CG,nT,M5,M6,LY,M7,M4,FG,C9];omega));subst Ee;try simp only at Gm
 replace Gm:=Gm.trans (F8 (by assumption));subst Gm;try simp only at Hh
 replace Hh:=Hh.trans (GP (by simp only[C0,AY,AU,AS,CG,nT,M5,M6,LY,M7,M4,FG,C9];omega));subst Hh;try simp only at Hn
 replace Hn:=Hn.trans (F8 (by assumption));subst Hn;try simp only at Po
 replace Po:=Po.trans (GP (by simp only[C0,AY,AU,AS,CG,nT,M5,M6,LY,M7,M4,FG,C9];omega));subst Po;try simp only at Qi
 replace Qi:=Qi.trans (F8 (by assumption));subst Qi;try simp only at Qr
 rw[Qr];unfold CW;exact GP (by simp only[C0,AY,AU,AS,CG,nT,M5,M6,LY,M7,M4,FG,C9];omega)
theorem tW (k:Int)(a b0 b1 b2:T)(x y z:Tm)(o0:a.wt.ok)(o1:b0.wt.ok)(o2:b1.wt.ok)(o3:b2.wt.ok)(hq:QC k 0 a a.wt.ty=(HY k a,0))(hc:(F4 k a b0 b1 b2 x y z).count<=4096):DH k a b0 b1 b2 x y z=(F4 k a b0 b1 b2 x y z,0):=by
 simp only[kN,S7,MG,EO,CW,F4,C0,AY,AU,AS,CG,nT,M5,M6,LY,M7,M4,FG,C9]at hc;obtain⟨w,t,p,c,q,d,g3,g2,g1,g0,s,v,o,m3,w2,m2,w1,m1,w0,z0,z1,z2,z3,z4,z5,z6,z7,z8,z9,Bu,Cj,Ce,Ch,Cl,Cr,Ee,Gm,Hh,Hn⟩:=L5 k a b0 b1 b2 x y z;replace z0:=z0.trans (F8 (by assumption));subst z0;try simp only at z1
 replace z1:=z1.trans (hq);subst z1;try simp only at z2
 replace z2:=z2.trans (EJ _);subst z2;try simp only at z3
 replace z3:=z3.trans (BZ (by simp only[C0,AY,AU,AS,CG,nT,M5,M6,LY,M7,M4,FG,C9];omega));subst z3;try simp only at z4
 replace z4:=z4.trans (EJ _);subst z4;try simp only at z5
 replace z5:=z5.trans (BZ (by simp only[C0,AY,AU,AS,CG,nT,M5,M6,LY,M7,M4,FG,C9];omega));subst z5;try simp only at z6
 replace z6:=z6.trans (FO _);subst z6;try simp only at z7
 replace z7:=z7.trans (FO _);subst z7;try simp only at z8
 replace z8:=z8.trans (FO _);subst z8;try simp only at z9
 replace z9:=z9.trans (FO _);subst z9;try simp only at Bu
 replace Bu:=Bu.trans (SW (by simp only[AU,AS,CG,nT,M5,M6,LY,M7,M4,FG,C9];omega));subst Bu;try simp only at Cj
 replace Cj:=Cj.trans (EJ _);subst Cj;try simp only at Ce
 replace Ce:=Ce.trans (BZ (by simp only[C0,AY,AU,AS,CG,nT,M5,M6,LY,M7,M4,FG,C9];omega));subst Ce;try simp only at Ch
 replace Ch:=Ch.trans (GP (by simp only[C0,AY,AU,AS,CG,nT,M5,M6,LY,M7,M4,FG,C9];omega));subst Ch;try simp only at Cl
 replace Cl:=Cl.trans (F8 (by assumption));subst Cl;try simp only at Cr
 replace Cr:=Cr.trans (GP (by simp only[C0,AY,AU,AS,CG,nT,M5,M6,LY,M7,M4,FG,C9];omega));subst Cr;try simp only at Ee
 replace Ee:=Ee.trans (F8 (by assumption));subst Ee;try simp only at Gm
 replace Gm:=Gm.trans (GP (by simp only[C0,AY,AU,AS,CG,nT,M5,M6,LY,M7,M4,FG,C9];omega));subst Gm;try simp only at Hh
 replace Hh:=Hh.trans (F8 (by assumption));subst Hh;try simp only at Hn
 rw[Hn];unfold F4;exact GP (by simp only[C0,AY,AU,AS,CG,nT,M5,M6,LY,M7,M4,FG,C9];omega)
theorem z3u (k:Int)(a:T)(o0:a.wt.ok)(o1:(T.fn a a).wt.ok)(o2:k≠6->(T.fn .list (.fn a a)).wt.ok)(hc:(HY k a).count<=4096):QC k 0 a a.wt.ty=(HY k a,0):=by
 unfold QC HY at *;by_cases h:k=6
 ·rw[if_pos h]at hc;rw[if_pos h,if_pos h];have c1:(AY .nat (AY a.wt (EO a))).count=1+((AY a.wt (EO a)).count+0):=rfl;have c2:(AY a.wt (EO a)).count=1+((EO a).count+0):=rfl;unfold b6;rw[z3s a o0 o1 oO];have e2:AH 0 2 a.wt.ty [EO a]=(AY a.wt (EO a),0):=BZ (by show (AY a.wt (EO a)).count<=4096;omega);show AH (AH 0 2 a.wt.ty [EO a]).2 2 CE [(AH 0 2 a.wt.ty [EO a]).1]=_;rw[e2];exact BZ (by show (AY .nat (AY a.wt (EO a))).count<=4096;omega)
 ·rw[if_neg h]at hc;rw[if_neg h,if_neg h];have c0:(AY .nat (AY .list (AY a.wt (CW a)))).count=1+((AY .list (AY a.wt (CW a))).count+0):=rfl;have c1:(AY .list (AY a.wt (CW a))).count=1+((AY a.wt (CW a)).count+0):=rfl;have c2:(AY a.wt (CW a)).count=1+((CW a).count+0):=rfl;unfold b7;rw[z3t a o0 o1 (o2 h) oO];have e2:AH 0 2 a.wt.ty [CW a]=(AY a.wt (CW a),0):=BZ (by show (AY a.wt (CW a)).count<=4096;omega);have e3:AH 0 2 (T.ty .list) [AY a.wt (CW a)]=(AY .list (AY a.wt (CW a)),0):=BZ (by show (AY .list (AY a.wt (CW a))).count<=4096;omega);show AH (AH (AH 0 2 a.wt.ty [CW a]).2 2 (T.ty .list) [(AH 0 2 a.wt.ty [CW a]).1]).2 2 CE [(AH (AH 0 2 a.wt.ty [CW a]).2 2 (T.ty .list) [(AH 0 2 a.wt.ty [CW a]).1]).1]=_;rw[e2];show AH (AH 0 2 (T.ty .list) [AY a.wt (CW a)]).2 2 CE [(AH 0 2 (T.ty .list) [AY a.wt (CW a)]).1]=_;rw[e3];exact BZ (by show (AY .nat (AY .list (AY a.wt (CW a)))).count<=4096;omega)
theorem Rep.v0 {s:List Int}{v:Int}:Rep (s++[v]) (vT v) (vT 0):=by
 have h:Rep (s++[v]) (vT v) (vT (((s++[v]).length:Int) - 1 - (s.length:Int))):=.var sS (fun k hk hh=>by
  rw[List.getElem?_eq_none (by simp;omega)]at hh;cases hh)
 have e:((s++[v]).length:Int) - 1 - (s.length:Int)=0:=sS
 rwa [e]at h
theorem Rep.vS {s:List Int}{v w i:Int}(h:Rep s (vT v) (vT i))(hi:0<=i)(hn:v≠w):Rep (s++[w]) (vT v) (vT (i+1)):=by
 have:=h.up (v:=w) (by
  rw[Tm.vars_eq,if_pos (show (vT v).kind=1 from rfl)];intro hw;exact hn (List.mem_singleton.1 hw).symm)
 rw[tK,if_pos hi]at this;exact this
theorem Rep.v1 {s:List Int}{a b:Int}(h1:a≠b):Rep (s++[a]++[b]) (vT a) (vT 1):=Rep.v0.vS dD h1
theorem Rep.v2 {s:List Int}{a b c:Int}(h1:a≠b)(h2:a≠c):Rep (s++[a]++[b]++[c]) (vT a) (vT 2):=(Rep.v1 h1).vS dD h2
theorem Rep.v3 {s:List Int}{a b c d:Int}(h1:a≠b)(h2:a≠c)(h3:a≠d):Rep (s++[a]++[b]++[c]++[d]) (vT a) (vT 3):=(Rep.v2 h1 h2).vS dD h3
theorem Rep.v4 {s:List Int}{a b c d e:Int}(h1:a≠b)(h2:a≠c)(h3:a≠d)(h4:a≠e):Rep (s++[a]++[b]++[c]++[d]++[e]) (vT a) (vT 4):=(Rep.v3 h1 h2 h3).vS dD h4
theorem Rep.fst {s:List Int}{v i:Int}(h:Rep s (vT v) (vT i)):Rep s (AU v) (AU i):=.n1 dD dD h
theorem Rep.snd {s:List Int}{v i:Int}(h:Rep s (vT v) (vT i)):Rep s (AS v) (AS i):=.n1 dD dD h
theorem Rep.app {s:List Int}{f g x y:Tm}(h:Rep s f g)(h':Rep s x y):Rep s (nT 3 [f,x]) (nT 3 [g,y]):=.n2 dD dD h h'
theorem Rep.pr {s:List Int}{f g x y:Tm}(h:Rep s f g)(h':Rep s x y):Rep s (nT 10 [f,x]) (nT 10 [g,y]):=.n2 dD dD h h'
theorem Rep.sc {s:List Int}{x y:Tm}(h:Rep s x y):Rep s (nT 5 [x]) (nT 5 [y]):=.n1 dD dD h
def FC (n:Int):Tm:=Tm.mk 2 (n+1) CE [Tm.mk 2 (n+2) CE [Tm.mk 6 0 CE [vT (n+1),Tm.mk 2 (n+3) CE [Tm.mk 2 (n+4) CE [nT 5 [vT (n+4)]]],vT (n+2)]]]
theorem zal (s:List Int)(n:Int):Rep s (FC n) EF:=
 .lam (.lam (.n3 dD dD (Rep.v1 oO) (.lam (.lam (.n1 dD dD Rep.v0))) Rep.v0))
def O0 (n:Int)(o:Tm):List Tm->Tm × Int
 | []=>(o,n)
 | x::r=>O0 (n+4) (nT 3 [nT 3 [FC n,o],x]) r
theorem VU {s:List Int}{n:Int}{a b c d:Tm}(h1:Rep s a b)(h2:Rep s c d):Rep s (O0 n a [c]).1 (CG b [d]):=((zal s n).app h1).app h2
theorem bC {s:List Int}{n:Int}{a b c d e f:Tm}(h1:Rep s a b)(h2:Rep s c d)(h3:Rep s e f):Rep s (O0 n a [c,e]).1 (CG b [d,f]):=VU (VU h1 h2) h3
theorem nD {s:List Int}{n:Int}{a b c d e f g h:Tm}(h1:Rep s a b)(h2:Rep s c d)(h3:Rep s e f)(h4:Rep s g h):Rep s (O0 n a [c,e,g]).1 (CG b [d,f,h]):=bC (VU h1 h2) h3 h4
def KC (a:T)(v:Int)(is Xe:Tm):Tm:=nT 3 [Tm.mk 2 v a.wt.ty [Xe],is]
theorem GQ {s:List Int}{a:T}{v:Int}{x y i j:Tm}(hx:Rep s x y)(hi:Rep (s++[v]) i j):Rep s (KC a v x i) (C0 a y j):=Rep.app (.lam hi) hx
end
section
def pN (k:Int)(a:T)(v:Int)(x:Tm):Tm:=KC a v x (nT 10 [AU v,nT k [AS v]])
def VX (k:Int)(a b:T)(v0:Int)(x:Tm)(v1:Int)(y:Tm):Tm:=KC a v0 x (KC b v1 y (nT 10 [(O0 v1 (AU v0) [AU v1]).1,nT k [AS v0,AS v1]]))
def bD (a b:T)(v0:Int)(x:Tm)(v1:Int)(y:Tm):Tm:=
 KC (.fn a b) v0 x (KC a v1 y (KC b (v1+1) (nT 3 [AS v0,AS v1]) (nT 10 [nT 5 [(O0 (v1+1) (AU v0) [AU v1,AU (v1+1)]).1],AS (v1+1)])))
def bE (a:T)(v1 N:Int):Tm:=
 Tm.mk 2 (N+1) CE [Tm.mk 2 (N+3) a.wt.ty [KC (.fn a a) (N+4) (nT 3 [AS v1,vT (N+1)]) (KC a (N+6) (nT 3 [AS (N+4),AS (N+3)]) (nT 10 [nT 5 [(O0 (N+6) (AU (N+3)) [AU (N+4),AU (N+6)]).1],AS (N+6)]))]]
def bF (a:T)(v1 N:Int):Tm:=
 Tm.mk 2 (N+1) CE [Tm.mk 2 (N+2) (T.ty .list) [Tm.mk 2 (N+3) a.wt.ty [KC (.fn .list (.fn a a)) (N+4) (nT 3 [AS v1,vT (N+1)]) (KC (.fn a a) (N+5) (nT 3 [AS (N+4),vT (N+2)]) (KC a (N+6) (nT 3 [AS (N+5),AS (N+3)]) (nT 10 [nT 5 [(O0 (N+6) (AU (N+3)) [AU (N+4),AU (N+5),AU (N+6)]).1],AS (N+6)])))]]]
def HZ (k:Int)(a:T)(v1 N:Int):Tm:=if k=6 then bE a v1 N else bF a v1 N
def MI (k N:Int):Int:=if k=6 then N+14 else N+18
def FZ (k:Int)(a b0 b1 b2:T)(v0:Int)(x:Tm)(v1:Int)(y:Tm)(v2:Int)(z:Tm):Tm:=
 KC b0 v0 x (KC b1 v1 y (KC b2 v2 z (KC a (MI k v2+1) (Tm.mk k 0 a.wt.ty [nT 10 [nT 4 [],AS v0],HZ k a v1 v2,AS v2]) (nT 10 [(O0 (MI k v2+1) (AU v0) [AU v1,AU v2,AU (MI k v2+1)]).1,AS (MI k v2+1)]))))
variable {s:List Int}
theorem zna {k v:Int}{a:T}{x y:Tm}(h1:k≠1)(h2:k≠2)(h:Rep s x y):Rep s (pN k a v x) (kN k a y):=
 GQ h (Rep.v0.fst.pr (.n1 h1 h2 Rep.v0.snd))
theorem zgs {k v0 v1:Int}{a b:T}{x y x' y':Tm}(h1:k≠1)(h2:k≠2)(hx:Rep s x x')(hy:Rep s y y')(hv:v0∉y.vars)(hn:v0≠v1):Rep s (VX k a b v0 x v1 y) (S7 k a b x' y'):=
 GQ hx (GQ (hy.up hv) ((VU (Rep.v1 hn).fst Rep.v0.fst).pr (.n2 h1 h2 (Rep.v1 hn).snd Rep.v0.snd)))
theorem zgt {v0 v1:Int}{a b:T}{x y x' y':Tm}(hx:Rep s x x')(hy:Rep s y y')(hv:v0∉y.vars)(hn:v0<v1):Rep s (bD a b v0 x v1 y) (MG a b x' y'):=
 GQ hx (GQ (hy.up hv) (GQ ((Rep.v1 oO).snd.app Rep.v0.snd) ((bC (Rep.v2 oO oO).fst (Rep.v1 oO).fst Rep.v0.fst).sc.pr Rep.v0.snd)))
theorem z3v {v1 v2 N:Int}{a:T}(h1:v1<v2)(h2:v2<=N):Rep (s++[v1]++[v2]) (bE a v1 N) (AY .nat (AY a.wt (EO a))):=
 .lam (.lam (GQ ((Rep.v3 oO oO oO).snd.app (Rep.v1 oO)) (GQ (Rep.v0.snd.app (Rep.v1 oO).snd) ((bC (Rep.v2 oO oO).fst (Rep.v1 oO).fst Rep.v0.fst).sc.pr Rep.v0.snd))))
theorem z3w {v1 v2 N:Int}{a:T}(h1:v1<v2)(h2:v2<=N):Rep (s++[v1]++[v2]) (bF a v1 N) (AY .nat (AY .list (AY a.wt (CW a)))):=
 .lam (.lam (.lam (GQ ((Rep.v4 oO oO oO oO).snd.app (Rep.v2 oO oO)) (GQ (Rep.v0.snd.app (Rep.v2 oO oO)) (GQ (Rep.v0.snd.app (Rep.v2 oO oO).snd) ((nD (Rep.v3 oO oO oO).fst (Rep.v2 oO oO).fst (Rep.v1 oO).fst Rep.v0.fst).sc.pr Rep.v0.snd))))))
theorem z3x {k v1 v2 N:Int}{a:T}(h1:v1<v2)(h2:v2<=N):Rep (s++[v1]++[v2]) (HZ k a v1 N) (HY k a):=by
 unfold HZ HY;split;· exact z3v h1 h2
 ·exact z3w h1 h2
theorem bG (k N:Int):N<MI k N:=by unfold MI;split <;> omega
theorem tX {k v0 v1 v2:Int}{a b0 b1 b2:T}{x y z x' y' z':Tm}(k1:k≠1)(k2:k≠2)(hx:Rep s x x')(hy:Rep s y y')(hz:Rep s z z')(y0:v0∉y.vars)(z0:v0∉z.vars)(z1:v1∉z.vars)(Wr:v0<v1)(Cf:v1<v2) :
  Rep s (FZ k a b0 b1 b2 v0 x v1 y v2 z) (F4 k a b0 b1 b2 x' y' z'):=by
 have hl:=bG k v2;have Hb:Rep (s++[v0]++[v1]) z (z'.upN 0 2):=by
  have:=(hz.up z0).up z1
  rwa [zqc _ _ _ _ dD]at this
 exact GQ hx (GQ (hy.up y0) (GQ Hb (GQ (.n3 k1 k2 ((Rep.n0 4 zY dD dD).pr (Rep.v2 oO oO).snd) (z3x Cf (Int.le_refl _)) Rep.v0.snd)
  ((nD (Rep.v3 oO oO oO).fst (Rep.v2 oO oO).fst (Rep.v1 oO).fst Rep.v0.fst).pr Rep.v0.snd))))
def LB (s:List Int)(n:Int)(x:Tm):Prop:=∀i∈x.vars,i∈s\/n<i
theorem LB.mono {n m:Int}{x:Tm}(h:LB s m x)(hn:n<=m):LB s n x:=fun i hi=>(h i hi).imp id (fun q=>oO)
theorem jB {n i:Int}(h:i∈s\/n<i):LB s n (vT i):=by
 intro j hj;rw[Tm.vars_eq,if_pos (show (vT i).kind=1 from rfl)]at hj;rw[List.mem_singleton.1 hj];exact h
theorem zam {n k i:Int}{y:Ty}(h1:k≠1):LB s n (Tm.mk k i y []):=by
 intro j hj;rw[Tm.vars_eq,if_neg (show ¬(Tm.mk k i y []).kind=1 from h1)]at hj;cases hj
theorem RA {n k i:Int}{y:Ty}{a:Tm}(h1:k≠1)(ha:LB s n a):LB s n (Tm.mk k i y [a]):=by
 intro j hj;rw[Tm.vars_eq,if_neg (show ¬(Tm.mk k i y [a]).kind=1 from h1)]at hj;have hj:j∈a.vars++[]:=hj;rw[List.append_nil]at hj;exact ha j hj
theorem PF {n k i:Int}{y:Ty}{a b:Tm}(h1:k≠1)(ha:LB s n a)(hb:LB s n b):LB s n (Tm.mk k i y [a,b]):=by
 intro j hj;rw[Tm.vars_eq,if_neg (show ¬(Tm.mk k i y [a,b]).kind=1 from h1)]at hj;have hj:j∈a.vars++(b.vars++[]):=hj;rw[List.append_nil,List.mem_append]at hj;rcases hj with hj|hj;· exact ha j hj
 ·exact hb j hj
theorem zqm {n k i:Int}{y:Ty}{a b c:Tm}(h1:k≠1)(ha:LB s n a)(hb:LB s n b)(hc:LB s n c):LB s n (Tm.mk k i y [a,b,c]):=by
 intro j hj;rw[Tm.vars_eq,if_neg (show ¬(Tm.mk k i y [a,b,c]).kind=1 from h1)]at hj;have hj:j∈a.vars++(b.vars++(c.vars++[])):=hj;rw[List.append_nil,List.mem_append,List.mem_append]at hj;rcases hj with hj|hj|hj;· exact ha j hj
 ·exact hb j hj
 ·exact hc j hj
theorem S9 {n i:Int}(h:n<i):LB s n (AU i):=RA dD (jB (.inr h))
theorem RB {n i:Int}(h:n<i):LB s n (AS i):=RA dD (jB (.inr h))
theorem zgu {n m:Int}(h:n<=m):LB s n (FC m):=
 RA dD (RA dD (zqm dD (jB (.inr oO)) (RA dD (RA dD (RA dD (jB (.inr oO))))) (jB (.inr oO))))
theorem X8 {n:Int}:∀{l:List Tm} {m:Int} {o:Tm},n<=m->LB s n o->(∀x∈l,LB s n x)->LB s n (O0 m o l).1
 | [],_,_,_,ho,_=>ho
 | x::r,m,o,h,ho,hl=>by
  rw[O0];exact X8 oO (PF dD (PF dD (zgu h) ho) (hl x (List.mem_cons_self ..))) (fun y hy=>hl y (List.mem_cons_of_mem _ hy))
theorem JL {n v:Int}{a:T}{x y:Tm}(hx:LB s n x)(hy:LB s n y):LB s n (KC a v x y):=PF dD (RA dD hy) hx
theorem yO {n:Int}{a b:Tm}(ha:LB s n a)(hb:LB s n b):∀x∈[a,b],LB s n x:=by
 intro x hx;simp at hx;rcases hx with rfl|rfl;exact ha;exact hb
theorem zgv {n:Int}{a:Tm}(ha:LB s n a):∀x∈[a],LB s n x:=by intro x hx;simp at hx;rw[hx];exact ha
theorem yP {n:Int}{a b c:Tm}(ha:LB s n a)(hb:LB s n b)(hc:LB s n c):∀x∈[a,b,c],LB s n x:=by
 intro x hx;simp at hx;rcases hx with rfl|rfl|rfl;exact ha;exact hb;exact hc
theorem zqn {n k v:Int}{a:T}{x:Tm}(h1:k≠1)(hv:n<v)(hx:LB s n x):LB s n (pN k a v x):=JL hx (PF dD (S9 hv) (RA h1 (RB hv)))
theorem znb {n k v0 v1:Int}{a b:T}{x y:Tm}(h1:k≠1)(h0:n<v0)(Wr:v0<v1)(hx:LB s n x)(hy:LB s n y):LB s n (VX k a b v0 x v1 y):=
 JL hx (JL hy (PF dD (X8 oO (S9 h0) (zgv (S9 oO))) (PF h1 (RB h0) (RB oO))))
theorem znc {n v0 v1:Int}{a b:T}{x y:Tm}(h0:n<v0)(Wr:v0<v1)(hx:LB s n x)(hy:LB s n y):LB s n (bD a b v0 x v1 y):=
 JL hx (JL hy (JL (PF dD (RB h0) (RB oO)) (PF dD (RA dD (X8 oO (S9 h0) (yO (S9 oO) (S9 oO)))) (RB oO))))
theorem zan {n k v1 N:Int}{a:T}(h1:n<v1)(h2:n<N):LB s n (HZ k a v1 N):=by
 unfold HZ;split;· exact RA dD (RA dD (JL (PF dD (RB h1) (jB (.inr oO))) (JL (PF dD (RB oO) (RB oO)) (PF dD (RA dD (X8 oO (S9 oO) (yO (S9 oO) (S9 oO)))) (RB oO)))))
 ·exact RA dD (RA dD (RA dD (JL (PF dD (RB h1) (jB (.inr oO))) (JL (PF dD (RB oO) (jB (.inr oO))) (JL (PF dD (RB oO) (RB oO)) (PF dD (RA dD (X8 oO (S9 oO) (yP (S9 oO) (S9 oO) (S9 oO)))) (RB oO)))))))
theorem z3y {n k v0 v1 v2:Int}{a b0 b1 b2:T}{x y z:Tm}(k1:k≠1)(h0:n<v0)(Wr:v0<v1)(Cf:v1<v2)(hx:LB s n x)(hy:LB s n y)(hz:LB s n z):LB s n (FZ k a b0 b1 b2 v0 x v1 y v2 z):=by
 have hl:=bG k v2;exact JL hx (JL hy (JL hz (JL (zqm k1 (PF dD (zam dD) (RB h0)) (zan oO oO) (RB oO)) (PF dD (X8 oO (S9 h0) (yP (S9 oO) (S9 oO) (S9 oO))) (RB oO)))))
end
end Go.Proofs.YtoniciijokeidaaGreatDoor.Lift
