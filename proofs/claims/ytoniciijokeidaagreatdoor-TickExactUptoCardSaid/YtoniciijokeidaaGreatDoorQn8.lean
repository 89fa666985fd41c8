import Derived.Test.YtoniciijokeidaaGreatDoorQn7
set_option maxHeartbeats 8000000
set_option maxRecDepth 100000
set_option linter.unusedSimpArgs false
set_option linter.unusedVariables false
set_option linter.unnecessarySimpa false
namespace Go.Proofs.YtoniciijokeidaaGreatDoor.Lift
open Go
section
def gx (l:List (Tm × Int))(i:Nat):Tm:=(l.getD i (AA,0)).1
def gv (l:List (Tm × Int))(i:Nat):Int:=(l.getD i (AA,0)).2
def HI (k:Int)(y:Ty)(ts:List T)(l:List (Tm × Int))(N:Int):Tm × Int:=
 if k=3 then (bD (ts.getD 1 .unit) (ts.getD 0 .unit).cod (gv l 0) (gx l 0) (gv l 1) (gx l 1),N+9)
 else if k=5\/k=11\/k=12 then (pN k (ts.getD 0 .unit) (gv l 0) (gx l 0),N)
 else if k=8\/k=10 then (VX k (ts.getD 0 .unit) (ts.getD 1 .unit) (gv l 0) (gx l 0) (gv l 1) (gx l 1),N+4)
 else (FZ k (QA y) (ts.getD 0 .unit) (ts.getD 1 .unit) (ts.getD 2 .unit) (gv l 0) (gx l 0) (gv l 1) (gx l 1) (gv l 2) (gx l 2),MI k N+13)
def IC (r:Tm × Int × Int):Tm × Int × Int:=if r.2.1=0 then if 4096<r.1.count then (AA,4,r.2.2) else r else (AA,r.2.1,r.2.2)
def AG:List T->List Int->Int->Tm->Tm × Int × Int
 | g,s,n,.mk k i y a=>
  if k=1 then IC (nT 10 [nT 4 [],vT (s.getD (s.length - 1 - i.toNat) 0)],0,n)
  else if k=4\/k=7\/k=13 then IC (nT 10 [nT 4 [],nT k []],0,n)
  else if k=2 then IC (nT 10 [nT 4 [],Tm.mk 2 (n+1) (QA y).tk.ty [(headR (g++[QA y]) (s++[n+1]) (n+1) a).1]],(headR (g++[QA y]) (s++[n+1]) (n+1) a).2)
  else if (termsR g s n a).2.1=0 then IC ((HI k y (GY.tysT g a) (termsR g s n a).1 (termsR g s n a).2.2).1,0,(HI k y (GY.tysT g a) (termsR g s n a).1 (termsR g s n a).2.2).2)
  else (AA,(termsR g s n a).2)
where
 headR:List T->List Int->Int->List Tm->Tm × Int × Int
  | _,_,n,[]=>(AA,0,n)
  | g,s,n,x::_=>AG g s n x
 termsR:List T->List Int->Int->List Tm->List (Tm × Int) × Int × Int
  | _,_,n,[]=>([],0,n)
  | g,s,n,x::r=>
   if (AG g s n x).2.1=0 then
    if (termsR g s ((AG g s n x).2.2+1) r).2.1=0 then (((AG g s n x).1,(AG g s n x).2.2+1)::(termsR g s ((AG g s n x).2.2+1) r).1,0,(termsR g s ((AG g s n x).2.2+1) r).2.2)
    else ([],(termsR g s ((AG g s n x).2.2+1) r).2)
   else ([],(AG g s n x).2)
def Nm (s:List Int)(n:Int)(x:Tm)(r:Tm × Int × Int):Prop:=n<=r.2.2/\((r.2.1=0/\Rep s r.1 x/\LB s n r.1/\x.count<=4096)\/(r.2.1=4/\4096<x.count))
theorem UI {s:List Int}{n m:Int}{x t:Tm}(hn:n<=m)(h:Rep s t x)(hb:LB s n t):Nm s n x (IC (t,0,m)):=by
 unfold IC;rw[if_pos rfl];have hc:=h.count;by_cases h4:4096<t.count;· rw[if_pos h4];exact⟨hn,.inr ⟨rfl,oO⟩⟩
 ·rw[if_neg h4];exact⟨hn,.inl ⟨rfl,h,hb,oO⟩⟩
theorem bH {s:List Int}{n m:Int}{x:Tm}{t:Tm}(hn:n<=m)(h:4096<x.count):Nm s n x (t,4,m):=⟨hn,.inr ⟨rfl,h⟩⟩
theorem tZ {s:List Int}{n m v:Int}{x:Tm}(h:LB s m x)(hs:∀i∈s,i<=n)(h1:n<v)(h2:v<=m):v∉x.vars:=by
 intro hv;rcases h v hv with h|h;· have:=hs v h;omega
 ·omega
theorem znd {s:List Int}{n v:Int}{x:Tm}(h:LB (s++[v]) v x)(hv:n<v):LB s n x:=by
 intro i hi;rcases h i hi with h|h
 ·rcases List.mem_append.1 h with h|h;· exact .inl h
  ·rw[List.mem_singleton.1 h];exact .inr hv
 ·exact .inr oO
theorem v5 {s:List Int}{v:Int}(h:s.Nodup)(hv:v∉s):(s++[v]).Nodup:=by
 rw[List.nodup_append];refine⟨h,sS,?_⟩;intro a ha b hb e;rw[List.mem_singleton.1 hb]at e;exact hv (e ▸ ha)
theorem QD (t:Tm):∀f b:Int,0<=f->(t.upN f b).shape=true->t.shape=true:=by
 induction t using Tm.ind with
 | h t ih=>
 intro f b hf h;rw[Tm.upN_eq,Tm.shape_eq,uH,Tm.shapes_iff]at h;obtain⟨h1,h2⟩:=h;simp only[Tm.kind_mk,Tm.index_mk,Tm.type_mk,Tm.args_mk,List.length_map]at h1 h2;rw[Tm.shape_eq,uH,Tm.shapes_iff];refine⟨?_,fun x hx=>ih x hx (f+JR t.kind) b (by unfold JR;split <;> omega) (h2 _ (List.mem_map_of_mem hx))⟩;simp only[IM,uH,Bool.or_eq_true,decide_eq_true_eq]at h1 ⊢;obtain⟨⟨⟨q1,q2⟩,q3⟩,q4⟩:=h1;by_cases hk:t.kind=1/\f<=t.index;· exact⟨⟨⟨q1,oO⟩,.inl hk.1⟩,q4⟩
 ·rw[if_neg hk]at q2 q3;exact⟨⟨⟨q1,q2⟩,q3⟩,q4⟩
theorem zsg {k i:Int}{y:Ty}{a:Tm}(h:(Tm.mk k i y [a]).shape=true):a.shape=true:=(Tm.shape_node h).2.2.2.2 a (List.mem_singleton.2 rfl)
theorem zqo {k i:Int}{y:Ty}{a b:Tm}(h:(Tm.mk k i y [a,b]).shape=true):a.shape=true/\b.shape=true:=⟨(Tm.shape_node h).2.2.2.2 a (by simp[Tm.args]),(Tm.shape_node h).2.2.2.2 b (by simp[Tm.args])⟩
theorem zsh {k i:Int}{y:Ty}{a b c:Tm}(h:(Tm.mk k i y [a,b,c]).shape=true):a.shape=true/\b.shape=true/\c.shape=true:=⟨(Tm.shape_node h).2.2.2.2 a (by simp[Tm.args]),(Tm.shape_node h).2.2.2.2 b (by simp[Tm.args]),(Tm.shape_node h).2.2.2.2 c (by simp[Tm.args])⟩
theorem UJ {a:T}{i:Int}{b:Tm}(h:(Tm.mk 2 i a.ty [b]).shape=true):a.ok/\b.shape=true:=by
 have:=(Tm.shape_node h).2.2.2.1;rw[if_pos (show (Tm.mk 2 i a.ty [b]).kind=2\/_ from .inl rfl)]at this;exact⟨T.ty_ok this,zsg h⟩
theorem L6 {a:T}{x i:Tm}(h:(C0 a x i).shape=true):a.wt.ok/\x.shape=true/\i.shape=true:=by
 obtain⟨h1,h2⟩:=zqo h;obtain⟨h3,h4⟩:=UJ h1;exact⟨h3,h2,h4⟩
theorem zne {g:List T}{k i:Int}{y:Ty}{x:Tm}(hk:¬k=2)(h1:(A5 g x).2=0):A5 g (Tm.mk k i y [x])=BE k i y [x] [(A5 g x).1] [GY g x]:=by
 have e:A5 g (Tm.mk k i y [x])=if (A5.ticksE g [x]).2=0 then BE k i y [x] (A5.ticksE g [x]).1 [GY g x] else (AA,(A5.ticksE g [x]).2):=by rw[A5,if_neg hk];rfl
 rw[e];simp only[A5.ticksE,h1,if_true]
theorem zao {g:List T}{k i:Int}{y:Ty}{x z:Tm}(hk:¬k=2)(h1:(A5 g x).2=0)(h2:(A5 g z).2=0):A5 g (Tm.mk k i y [x,z])=BE k i y [x,z] [(A5 g x).1,(A5 g z).1] [GY g x,GY g z]:=by
 have e:A5 g (Tm.mk k i y [x,z])=if (A5.ticksE g [x,z]).2=0 then BE k i y [x,z] (A5.ticksE g [x,z]).1 [GY g x,GY g z] else (AA,(A5.ticksE g [x,z]).2):=by rw[A5,if_neg hk];rfl
 rw[e];simp only[A5.ticksE,h1,h2,if_true]
theorem znf {g:List T}{k i:Int}{y:Ty}{x z w:Tm}(hk:¬k=2)(h1:(A5 g x).2=0)(h2:(A5 g z).2=0)(h3:(A5 g w).2=0):A5 g (Tm.mk k i y [x,z,w])=BE k i y [x,z,w] [(A5 g x).1,(A5 g z).1,(A5 g w).1] [GY g x,GY g z,GY g w]:=by
 have e:A5 g (Tm.mk k i y [x,z,w])=if (A5.ticksE g [x,z,w]).2=0 then BE k i y [x,z,w] (A5.ticksE g [x,z,w]).1 [GY g x,GY g z,GY g w] else (AA,(A5.ticksE g [x,z,w]).2):=by rw[A5,if_neg hk];rfl
 rw[e];simp only[A5.ticksE,h1,h2,h3,if_true]
theorem zng {g:List T}{a:T}{b:Tm}(h1:(A5 (g++[a]) b).2=0):A5 g (AY a b)=AH (AH (BS a) 2 (DD a) [(A5 (g++[a]) b).1]).2 10 zY [nT 4 [],(AH (BS a) 2 (DD a) [(A5 (g++[a]) b).1]).1]:=by
 have e:A5 g (AY a b)=if (A5.ticksE (g++[a]) [b]).2=0 then BE 2 0 a.ty [b] (A5.ticksE (g++[a]) [b]).1 [GY (g++[a]) b] else (AA,(A5.ticksE (g++[a]) [b]).2):=by
  rw[AY,A5,if_pos rfl,FU];rfl
 rw[e];simp only[A5.ticksE,h1,if_true];unfold BE;rw[if_pos rfl,FU];rfl
end
section
def kO (Γ:List T)(t x:Tm):Prop:=((A5 Γ.reverse t).2=0->(A5 Γ.reverse t).1=x)/\(x.shape=true->x.count<=4096->(A5 Γ.reverse t).2=0)
def dZ (Γ:List T)(t x:Tm):Prop:=∀(s:List Int) (n:Int),s.length=Γ.length->s.Nodup->(∀i∈s,i<=n)->Nm s n x (AG Γ.reverse s n t)
theorem LS {Γ:List T}{t x:Tm}(h:kO Γ t x)(h1:x.shape=true)(h2:x.count<=4096):(A5 Γ.reverse t).2=0/\(A5 Γ.reverse t).1=x:=⟨h.2 h1 h2,h.1 (h.2 h1 h2)⟩
theorem CY (a:T)(x i:Tm):(C0 a x i).count=1+(1+(i.count+0)+(x.count+0)):=rfl
variable {Γ:List T}{a b:T}{t f x:Tm}
theorem VY {k i:Int}{y:Ty}(h2:¬k=2)(hk:k=1\/k=4\/k=7\/k=13):kO Γ (Tm.mk k i y []) (nT 10 [nT 4 [],Tm.mk k i y []]):=by
 refine⟨fun h=>PE h2 hk h,fun _ _=>?_⟩;have e:A5 Γ.reverse (Tm.mk k i y [])=AH 0 10 zY [nT 4 [],Tm.mk k i y []]:=by
  rw[A5,if_neg h2];show BE k i y [] [] _=_;unfold BE;rcases hk with rfl|rfl|rfl|rfl <;> rfl
 rw[e,BZ (by show 3<=4096;decide)]
theorem zgw {r:T}{z:Tm}(h:kO (a::Γ) x z):kO Γ (AY a x) (nT 10 [nT 4 [],AY a.tk z]):=by
 unfold kO at h;rw[List.reverse_cons]at h;refine⟨fun h0=>?_,fun h1 h2=>?_⟩
 ·obtain⟨e1,e2⟩:=zj4 h0;rw[e2]at h0 ⊢;obtain⟨e3,e4,-⟩:=GM h0;obtain⟨e5,e6,-⟩:=GM e3;obtain⟨e7,e8⟩:=tS e5;rw[e4,e6,e8,h.1 e1];rfl
 ·obtain⟨o1,o2⟩:=UJ (zqo h1).2;have c1:(nT 10 [nT 4 [],AY a.tk z]).count=1+(1+(1+(z.count+0)+0)):=rfl;have e:=h.2 o2 oO;rw[zng e,h.1 e];have o1':a.tk.size<=64:=o1;have e1:BS a=0:=by unfold BS;rw[if_pos o1']
  have e2:DD a=a.tk.ty:=by unfold DD;rw[if_pos o1']
  rw[e1,e2,BZ (by show 1+(z.count+0)<=4096;omega)];show (AH 0 10 zY [nT 4 [],AY a.tk z]).2=0;rw[BZ (by show 1+(1+(1+(z.count+0)+0))<=4096;omega)]
theorem v6 {k:Int}{F:C3 Γ->a.V}{z:Tm}(hk:k=5\/k=11\/k=12)(hd:Dn Γ x a F)(h:kO Γ x z):kO Γ (nT k [x]) (kN k a z):=by
 have Ay:¬k=2:=oO;have e3:∀w:Tm,BE k 0 zY [x] [w] [a]=ZB k a w:=by
  intro w;unfold BE;rcases hk with rfl|rfl|rfl <;> rfl
 refine⟨fun h0=>?_,fun h1 h2=>?_⟩
 ·obtain⟨e1,e2⟩:=yJ Ay h0;have e4:A5 Γ.reverse (nT k [x])=ZB k a (A5 Γ.reverse x).1:=by rw[nT,e2,B7 hd,e3]
  rw[e4]at h0 ⊢;rw[(yG h0).2,h.1 e1]
 ·obtain⟨o1,o2,o3⟩:=L6 (a:=a) h1;have c1:=CY a z (nT 10 [AU 0,nT k [AS 0]]);have c2:(kN k a z).count=(C0 a z (nT 10 [AU 0,nT k [AS 0]])).count:=rfl;obtain⟨e1,e2⟩:=LS h o2 oO;have e4:A5 Γ.reverse (nT k [x])=ZB k a z:=by rw[nT,zne Ay e1,e2,B7 hd,e3]
  rw[e4,zn9 k a z o1 h2]
theorem yQ {k:Int}{y:Tm}{F:C3 Γ->a.V}{G:C3 Γ->b.V}{z w:Tm}(hk:k=8\/k=10)(hd:Dn Γ x a F)(Nv:Dn Γ y b G)(h:kO Γ x z)(h':kO Γ y w):kO Γ (nT k [x,y]) (S7 k a b z w):=by
 have Ay:¬k=2:=oO;have e3:∀p q:Tm,BE k 0 zY [x,y] [p,q] [a,b]=QB k a b p q:=by
  intro p q;unfold BE;rcases hk with rfl|rfl <;> rfl
 refine⟨fun h0=>?_,fun h1 h2=>?_⟩
 ·obtain⟨e1,Px,e2⟩:=nB Ay h0;have e4:A5 Γ.reverse (nT k [x,y])=QB k a b (A5 Γ.reverse x).1 (A5 Γ.reverse y).1:=by rw[nT,e2,B7 hd,B7 Nv,e3]
  rw[e4]at h0 ⊢;rw[(tU h0).2.2,h.1 e1,h'.1 Px]
 ·obtain⟨o1,o2,o3⟩:=L6 (a:=a) h1;obtain⟨p1,p2,p3⟩:=L6 (a:=b) o3;have c1:=CY a z (C0 b (w.upN 0 1) (nT 10 [CG (AU 1) [AU 0],nT k [AS 1,AS 0]]));have c2:=CY b (w.upN 0 1) (nT 10 [CG (AU 1) [AU 0],nT k [AS 1,AS 0]]);have c3:(S7 k a b z w).count=(C0 a z (C0 b (w.upN 0 1) (nT 10 [CG (AU 1) [AU 0],nT k [AS 1,AS 0]]))).count:=rfl;rw[FM]at c2;obtain⟨e1,e2⟩:=LS h o2 oO;obtain⟨Px,Dq⟩:=LS h' (QD _ _ _ dD p2) oO;have e4:A5 Γ.reverse (nT k [x,y])=QB k a b z w:=by rw[nT,zao Ay e1 Px,e2,Dq,B7 hd,B7 Nv,e3]
  rw[e4,zgq k a b z w o1 p1 h2]
theorem zgx {y:Tm}{F:C3 Γ->(T.fn a b).V}{G:C3 Γ->a.V}{z w:Tm}(hd:Dn Γ x (.fn a b) F)(Nv:Dn Γ y a G)(h:kO Γ x z)(h':kO Γ y w):kO Γ (nT 3 [x,y]) (MG a b z w):=by
 have e3:∀p q:Tm,BE 3 0 zY [x,y] [p,q] [.fn a b,a]=VP a b p q:=fun p q=>rfl;refine⟨fun h0=>?_,fun h1 h2=>?_⟩
 ·obtain⟨e1,Px,e2⟩:=nB dD h0;have e4:A5 Γ.reverse (nT 3 [x,y])=VP a b (A5 Γ.reverse x).1 (A5 Γ.reverse y).1:=by rw[nT,e2,B7 hd,B7 Nv,e3]
  rw[e4]at h0 ⊢;rw[(za8 h0).2.2.2,h.1 e1,h'.1 Px]
 ·obtain⟨o1,o2,o3⟩:=L6 (a:=.fn a b) h1;obtain⟨p1,p2,p3⟩:=L6 (a:=a) o3;obtain⟨q1,q2,q3⟩:=L6 (a:=b) p3;have c1:=CY (.fn a b) z (C0 a (w.upN 0 1) (C0 b (nT 3 [AS 1,AS 0]) (nT 10 [nT 5 [CG (AU 2) [AU 1,AU 0]],AS 0])));have c2:=CY a (w.upN 0 1) (C0 b (nT 3 [AS 1,AS 0]) (nT 10 [nT 5 [CG (AU 2) [AU 1,AU 0]],AS 0]));have c3:(MG a b z w).count=(C0 (.fn a b) z (C0 a (w.upN 0 1) (C0 b (nT 3 [AS 1,AS 0]) (nT 10 [nT 5 [CG (AU 2) [AU 1,AU 0]],AS 0])))).count:=rfl;rw[FM]at c2;obtain⟨e1,e2⟩:=LS h o2 oO;obtain⟨Px,Dq⟩:=LS h' (QD _ _ _ dD p2) oO;have e4:A5 Γ.reverse (nT 3 [x,y])=VP a b z w:=by rw[nT,zao dD e1 Px,e2,Dq,B7 hd,B7 Nv,e3]
  rw[e4,zgr a b z w p1 q1 o1 h2]
theorem zap {k:Int}(h:(HY k a).shape=true):(T.fn a a).wt.ok/\(k≠6->(T.fn .list (.fn a a)).wt.ok):=by
 unfold HY at h;by_cases hk:k=6
 ·rw[if_pos hk]at h;exact⟨(L6 (a:=.fn a a) (UJ (UJ h).2).2).1,fun q=>absurd hk q⟩
 ·rw[if_neg hk]at h;obtain⟨p1,-,p3⟩:=L6 (a:=.fn .list (.fn a a)) (UJ (UJ (UJ h).2).2).2;exact⟨(L6 (a:=.fn a a) p3).1,fun _=>p1⟩
theorem bI {k:Int}(hk:k=6\/k=9){b0 b1 b2:T}{y z:Tm}{F:C3 Γ->b0.V}{G:C3 Γ->b1.V}{H:C3 Γ->b2.V}{x' y' z':Tm}(hd:Dn Γ x b0 F)(Nd:Dn Γ y b1 G)(In:Dn Γ z b2 H)(h:kO Γ x x')(h':kO Γ y y')(Gq:kO Γ z z') :
  kO Γ (Tm.mk k 0 a.ty [x,y,z]) (F4 k a b0 b1 b2 x' y' z'):=by
 have Ay:¬k=2:=oO;have e3:∀p q r:Tm,BE k 0 a.ty [x,y,z] [p,q,r] [b0,b1,b2]=DH k a b0 b1 b2 p q r:=by
  intro p q r;unfold BE;rw[if_neg Ay,if_neg oO,if_neg oO,if_neg oO,if_pos hk,FU];rfl
 refine⟨fun h0=>?_,fun h1 h2=>?_⟩
 ·obtain⟨e1,Px,Wb,e2⟩:=zab Ay h0;have e4:A5 Γ.reverse (Tm.mk k 0 a.ty [x,y,z])=DH k a b0 b1 b2 (A5 Γ.reverse x).1 (A5 Γ.reverse y).1 (A5 Γ.reverse z).1:=by rw[e2,B7 hd,B7 Nd,B7 In,e3]
  rw[e4]at h0 ⊢;rw[(X7 h0).2.2.2.2.2.2.2,h.1 e1,h'.1 Px,Gq.1 Wb]
 ·unfold F4 at h1;obtain⟨o1,o2,o3⟩:=L6 (a:=b0) h1;obtain⟨p1,p2,p3⟩:=L6 (a:=b1) o3;obtain⟨q1,q2,q3⟩:=L6 (a:=b2) p3;obtain⟨r1,r2,r3⟩:=L6 (a:=a) q3;obtain⟨-,s2,-⟩:=zsh r2;obtain⟨t1,t2⟩:=zap s2;obtain⟨L,hL⟩:∃L,L=Tm.mk k 0 a.wt.ty [nT 10 [nT 4 [],AS 2],HY k a,AS 0]:=⟨_,rfl⟩;have cL:L.count=1+((nT 10 [nT 4 [],AS 2]).count+((HY k a).count+((AS 0).count+0))):=by rw[hL];rfl
  have c1:=CY b0 x' (C0 b1 (y'.upN 0 1) (C0 b2 (z'.upN 0 2) (C0 a L (nT 10 [CG (AU 3) [AU 2,AU 1,AU 0],AS 0]))));have c2:=CY b1 (y'.upN 0 1) (C0 b2 (z'.upN 0 2) (C0 a L (nT 10 [CG (AU 3) [AU 2,AU 1,AU 0],AS 0])));have c3:=CY b2 (z'.upN 0 2) (C0 a L (nT 10 [CG (AU 3) [AU 2,AU 1,AU 0],AS 0]));have c4:=CY a L (nT 10 [CG (AU 3) [AU 2,AU 1,AU 0],AS 0]);have Wl:(C0 b0 x' (C0 b1 (y'.upN 0 1) (C0 b2 (z'.upN 0 2) (C0 a L (nT 10 [CG (AU 3) [AU 2,AU 1,AU 0],AS 0]))))).count<=4096:=by rw[hL];exact h2
  rw[FM]at c2 c3;obtain⟨e1,e2⟩:=LS h o2 oO;obtain⟨Px,Dq⟩:=LS h' (QD _ _ _ dD p2) oO;obtain⟨Wb,e2''⟩:=LS Gq (QD _ _ _ dD q2) oO;have e4:A5 Γ.reverse (Tm.mk k 0 a.ty [x,y,z])=DH k a b0 b1 b2 x' y' z':=by rw[znf Ay e1 Px Wb,e2,Dq,e2'',B7 hd,B7 Nd,B7 In,e3]
  rw[e4,tW k a b0 b1 b2 x' y' z' r1 o1 p1 q1 (z3u k a r1 t1 t2 oO) h2]
end
section
variable {Γ:List T}{a b:T}{x:Tm}
theorem GR {g:List T}{s:List Int}{n k i:Int}{y:Ty}{l:List Tm}(hk:k=3\/k=5\/k=6\/k=8\/k=9\/k=10\/k=11\/k=12) :
  AG g s n (Tm.mk k i y l)=if (AG.termsR g s n l).2.1=0 then IC ((HI k y (GY.tysT g l) (AG.termsR g s n l).1 (AG.termsR g s n l).2.2).1,0,(HI k y (GY.tysT g l) (AG.termsR g s n l).1 (AG.termsR g s n l).2.2).2) else (AA,(AG.termsR g s n l).2):=by
 rw[AG,if_neg oO,if_neg oO,if_neg oO]
theorem v7 {k:Int}{F:C3 Γ->a.V}{x':Tm}(hk:k=5\/k=11\/k=12)(hd:Dn Γ x a F)(h:dZ Γ x x'):dZ Γ (nT k [x]) (kN k a x'):=by
 intro s n hl hs hn;have hx:=h s n hl hs hn;have ht:GY.tysT Γ.reverse [x]=[a]:=by simp only[GY.tysT,B7 hd]
 rw[nT,GR oO,ht];have c1:=CY a x' (nT 10 [AU 0,nT k [AS 0]]);have c2:(kN k a x').count=(C0 a x' (nT 10 [AU 0,nT k [AS 0]])).count:=rfl;generalize hq:AG Γ.reverse s n x=q at *;obtain⟨x1,e1,n1⟩:=q;obtain⟨Fo,⟨he,hr,hb,hc⟩|⟨he,hc⟩⟩:=hx
 ·simp only at Fo he hr hb;subst he;have e2:AG.termsR Γ.reverse s n [x]=([(x1,n1+1)],0,n1+1):=by simp only[AG.termsR,hq,if_true]
  rw[e2,if_pos rfl];have e3:HI k zY [a] [(x1,n1+1)] (n1+1)=(pN k a (n1+1) x1,n1+1):=by
   unfold HI;rw[if_neg oO,if_pos hk];rfl
  rw[e3];exact UI oO (zna oO oO hr) (zqn oO oO hb)
 ·simp only at Fo he;subst he;have e2:AG.termsR Γ.reverse s n [x]=([],4,n1):=by simp only[AG.termsR,hq];rfl
  rw[e2,if_neg (show ¬(4:Int)=0 from dD)];exact bH Fo oO
theorem v8 {x y x' y':Tm}(h:dZ Γ x x')(h':dZ Γ y y'){s:List Int}{n:Int}(hl:s.length=Γ.length)(hs:s.Nodup)(hn:∀i∈s,i<=n) :
  (∃x1 n1 y1 n2,AG.termsR Γ.reverse s n [x,y]=([(x1,n1+1),(y1,n2+1)],0,n2+1)/\n<=n1/\n1+1<=n2/\Rep s x1 x'/\Rep s y1 y'/\LB s n x1/\LB s n y1/\n1+1∉y1.vars) \/
  (∃m,AG.termsR Γ.reverse s n [x,y]=([],4,m)/\n<=m/\(4096<x'.count\/4096<y'.count)):=by
 have hx:=h s n hl hs hn;generalize hq:AG Γ.reverse s n x=q at *;obtain⟨x1,e1,n1⟩:=q;obtain⟨Fo,⟨he,hr,hb,hc⟩|⟨he,hc⟩⟩:=hx
 ·simp only at Fo he hr hb;subst he;have hy:=h' s (n1+1) hl hs (fun i hi=>by have:=hn i hi;omega);generalize hp:AG Γ.reverse s (n1+1) y=p at *;obtain⟨y1,e2,n2⟩:=p;obtain⟨Qc,⟨he,Sy,Ab,Eu⟩|⟨he,Eu⟩⟩:=hy
  ·simp only at Qc he Sy Ab;subst he;exact .inl ⟨x1,n1,y1,n2,by simp only[AG.termsR,hq,hp,if_true],Fo,Qc,hr,Sy,hb,Ab.mono oO,tZ Ab hn oO (Int.le_refl _)⟩
  ·simp only at Qc he;subst he;exact .inr ⟨n2,by simp only[AG.termsR,hq,hp,if_true];rfl,oO,.inr Eu⟩
 ·simp only at Fo he;subst he;exact .inr ⟨n1,by simp only[AG.termsR,hq];rfl,Fo,.inl hc⟩
theorem yR {k:Int}{y:Tm}{F:C3 Γ->a.V}{G:C3 Γ->b.V}{x' y':Tm}(hk:k=8\/k=10)(hd:Dn Γ x a F)(Nv:Dn Γ y b G)(h:dZ Γ x x')(h':dZ Γ y y'):dZ Γ (nT k [x,y]) (S7 k a b x' y'):=by
 intro s n hl hs hn;have ht:GY.tysT Γ.reverse [x,y]=[a,b]:=by simp only[GY.tysT,B7 hd,B7 Nv]
 rw[nT,GR oO,ht];have c1:=CY a x' (C0 b (y'.upN 0 1) (nT 10 [CG (AU 1) [AU 0],nT k [AS 1,AS 0]]));have c2:=CY b (y'.upN 0 1) (nT 10 [CG (AU 1) [AU 0],nT k [AS 1,AS 0]]);have c3:(S7 k a b x' y').count=(C0 a x' (C0 b (y'.upN 0 1) (nT 10 [CG (AU 1) [AU 0],nT k [AS 1,AS 0]]))).count:=rfl;rw[FM]at c2;rcases v8 h h' hl hs hn with⟨x1,n1,y1,n2,e,h1,h2,r1,r2,b1,b2,hv⟩|⟨m,e,h1,hc⟩
 ·rw[e,if_pos rfl];have e3:HI k zY [a,b] [(x1,n1+1),(y1,n2+1)] (n2+1)=(VX k a b (n1+1) x1 (n2+1) y1,n2+1+4):=by
   unfold HI;rw[if_neg oO,if_neg oO,if_pos hk];rfl
  rw[e3];exact UI oO (zgs oO oO r1 r2 hv oO) (znb oO oO oO b1 b2)
 ·rw[e,if_neg (show ¬(4:Int)=0 from dD)];exact bH h1 oO
theorem zgy {y:Tm}{F:C3 Γ->(T.fn a b).V}{G:C3 Γ->a.V}{x' y':Tm}(hd:Dn Γ x (.fn a b) F)(Nv:Dn Γ y a G)(h:dZ Γ x x')(h':dZ Γ y y'):dZ Γ (nT 3 [x,y]) (MG a b x' y'):=by
 intro s n hl hs hn;have ht:GY.tysT Γ.reverse [x,y]=[.fn a b,a]:=by simp only[GY.tysT,B7 hd,B7 Nv]
 rw[nT,GR oO,ht];have c1:=CY (.fn a b) x' (C0 a (y'.upN 0 1) (C0 b (nT 3 [AS 1,AS 0]) (nT 10 [nT 5 [CG (AU 2) [AU 1,AU 0]],AS 0])));have c2:=CY a (y'.upN 0 1) (C0 b (nT 3 [AS 1,AS 0]) (nT 10 [nT 5 [CG (AU 2) [AU 1,AU 0]],AS 0]));have c3:(MG a b x' y').count=(C0 (.fn a b) x' (C0 a (y'.upN 0 1) (C0 b (nT 3 [AS 1,AS 0]) (nT 10 [nT 5 [CG (AU 2) [AU 1,AU 0]],AS 0])))).count:=rfl;rw[FM]at c2;rcases v8 h h' hl hs hn with⟨x1,n1,y1,n2,e,h1,h2,r1,r2,b1,b2,hv⟩|⟨m,e,h1,hc⟩
 ·rw[e,if_pos rfl];have e3:HI 3 zY [.fn a b,a] [(x1,n1+1),(y1,n2+1)] (n2+1)=(bD a b (n1+1) x1 (n2+1) y1,n2+1+9):=rfl;rw[e3];exact UI oO (zgt r1 r2 hv oO) (znc oO oO b1 b2)
 ·rw[e,if_neg (show ¬(4:Int)=0 from dD)];exact bH h1 oO
theorem znh {x y z x' y' z':Tm}(h:dZ Γ x x')(h':dZ Γ y y')(Gq:dZ Γ z z'){s:List Int}{n:Int}(hl:s.length=Γ.length)(hs:s.Nodup)(hn:∀i∈s,i<=n) :
  (∃x1 n1 y1 n2 z1 n3,AG.termsR Γ.reverse s n [x,y,z]=([(x1,n1+1),(y1,n2+1),(z1,n3+1)],0,n3+1)/\n<=n1/\n1+1<=n2/\n2+1<=n3/\Rep s x1 x'/\Rep s y1 y'/\Rep s z1 z'/\LB s n x1/\LB s n y1/\LB s n z1/\n1+1∉y1.vars/\n1+1∉z1.vars/\n2+1∉z1.vars) \/
  (∃m,AG.termsR Γ.reverse s n [x,y,z]=([],4,m)/\n<=m/\(4096<x'.count\/4096<y'.count\/4096<z'.count)):=by
 have hx:=h s n hl hs hn;generalize hq:AG Γ.reverse s n x=q at *;obtain⟨x1,e1,n1⟩:=q;obtain⟨Fo,⟨he,hr,hb,hc⟩|⟨he,hc⟩⟩:=hx
 ·simp only at Fo he hr hb;subst he;rcases v8 h' Gq hl hs (n:=n1+1) (fun i hi=>by have:=hn i hi;omega) with⟨y1,n2,z1,n3,e,h1,h2,r1,r2,b1,b2,hv⟩|⟨m,e,h1,hc⟩;· exact .inl ⟨x1,n1,y1,n2,z1,n3,by rw[AG.termsR,hq,e];rfl,Fo,h1,h2,hr,r1,r2,hb,b1.mono oO,b2.mono oO,tZ b1 hn oO (Int.le_refl _),tZ b2 hn oO (Int.le_refl _),hv⟩
  ·exact .inr ⟨m,by rw[AG.termsR,hq,e];rfl,oO,.inr hc⟩
 ·simp only at Fo he;subst he;exact .inr ⟨n1,by simp only[AG.termsR,hq];rfl,Fo,.inl hc⟩
theorem bJ {k:Int}(hk:k=6\/k=9){b0 b1 b2:T}{y z:Tm}{F:C3 Γ->b0.V}{G:C3 Γ->b1.V}{H:C3 Γ->b2.V}{x' y' z':Tm}(hd:Dn Γ x b0 F)(Nd:Dn Γ y b1 G)(In:Dn Γ z b2 H)(h:dZ Γ x x')(h':dZ Γ y y')(Gq:dZ Γ z z') :
  dZ Γ (Tm.mk k 0 a.ty [x,y,z]) (F4 k a b0 b1 b2 x' y' z'):=by
 intro s n hl hs hn;have ht:GY.tysT Γ.reverse [x,y,z]=[b0,b1,b2]:=by simp only[GY.tysT,B7 hd,B7 Nd,B7 In]
 rw[GR oO,ht];obtain⟨L,hL⟩:∃L,L=C0 a (Tm.mk k 0 a.wt.ty [nT 10 [nT 4 [],AS 2],HY k a,AS 0]) (nT 10 [CG (AU 3) [AU 2,AU 1,AU 0],AS 0]):=⟨_,rfl⟩;have c1:=CY b0 x' (C0 b1 (y'.upN 0 1) (C0 b2 (z'.upN 0 2) L));have c2:=CY b1 (y'.upN 0 1) (C0 b2 (z'.upN 0 2) L);have c3:=CY b2 (z'.upN 0 2) L;have c4:(F4 k a b0 b1 b2 x' y' z').count=(C0 b0 x' (C0 b1 (y'.upN 0 1) (C0 b2 (z'.upN 0 2) L))).count:=by rw[hL];rfl
 rw[FM]at c2 c3;rcases znh h h' Gq hl hs hn with⟨x1,n1,y1,n2,z1,n3,e,h1,h2,h3,r1,r2,r3,q1,q2,q3,v1,v2,v3⟩|⟨m,e,h1,hc⟩
 ·rw[e,if_pos rfl];have e3:HI k a.ty [b0,b1,b2] [(x1,n1+1),(y1,n2+1),(z1,n3+1)] (n3+1)=(FZ k a b0 b1 b2 (n1+1) x1 (n2+1) y1 (n3+1) z1,MI k (n3+1)+13):=by
   unfold HI;rw[if_neg oO,if_neg oO,if_neg oO,FU];rfl
  rw[e3];have Gf:=bG k (n3+1);exact UI (by show n<=MI k (n3+1)+13;omega) (tX oO oO r1 r2 r3 v1 v2 v3 oO oO) (z3y oO oO oO oO q1 q2 q3)
 ·rw[e,if_neg (show ¬(4:Int)=0 from dD)];exact bH h1 oO
theorem F9 (g:List T)(s:List Int)(n k i:Int)(y:Ty)(a:List Tm):AG g s n (Tm.mk k i y a) =
  if k=1 then IC (nT 10 [nT 4 [],vT (s.getD (s.length - 1 - i.toNat) 0)],0,n)
  else if k=4\/k=7\/k=13 then IC (nT 10 [nT 4 [],nT k []],0,n)
  else if k=2 then IC (nT 10 [nT 4 [],Tm.mk 2 (n+1) (QA y).tk.ty [(AG.headR (g++[QA y]) (s++[n+1]) (n+1) a).1]],(AG.headR (g++[QA y]) (s++[n+1]) (n+1) a).2)
  else if (AG.termsR g s n a).2.1=0 then IC ((HI k y (GY.tysT g a) (AG.termsR g s n a).1 (AG.termsR g s n a).2.2).1,0,(HI k y (GY.tysT g a) (AG.termsR g s n a).1 (AG.termsR g s n a).2.2).2)
  else (AA,(AG.termsR g s n a).2):=by rw[AG]
theorem bK {k:Int}(hk:k=4\/k=7\/k=13):dZ Γ (nT k []) (nT 10 [nT 4 [],nT k []]):=by
 intro s n hl hs hn;rw[show nT k []=Tm.mk k 0 zY [] from rfl,F9,if_neg oO,if_pos hk];exact UI (Int.le_refl _) ((Rep.n0 4 zY dD dD).pr (Rep.n0 k zY oO oO)) (PF dD (zam dD) (zam oO))
theorem zgz {i:Nat}{p:C3 Γ->a.V}(h:At Γ i a p):dZ Γ (vT i) (nT 10 [nT 4 [],vT i]):=by
 intro s n hl hs hn;have hi:i<s.length:=by rw[hl];exact h.lt
 rw[vT,F9,if_pos rfl];have hg:s.getD (s.length - 1 - ((i:Nat):Int).toNat) 0=s[s.length - 1 - i]'oO:=by
  rw[Int.toNat_natCast,List.getD_eq_getElem?_getD,uB oO];rfl
 rw[hg]
 have hr:Rep s (vT (s[s.length - 1 - i]'oO)) (vT ((s.length:Int) - 1 - ((s.length - 1 - i:Nat):Int))):=.var (uB oO) (fun k hk hh=>by
  obtain⟨Dx,Ay⟩:=uA hh;exact (List.pairwise_iff_getElem.1 hs (s.length - 1 - i) k oO Dx hk) Ay.symm)
 rw[show (s.length:Int) - 1 - ((s.length - 1 - i:Nat):Int)=(i:Nat) from oO]at hr;exact UI (Int.le_refl _) ((Rep.n0 4 zY dD dD).pr hr) (PF dD (zam dD) (jB (.inl (List.getElem_mem _))))
theorem zh0 {z:Tm}(h:dZ (a::Γ) x z):dZ Γ (AY a x) (nT 10 [nT 4 [],AY a.tk z]):=by
 intro s n hl hs hn;have hv:n+1∉s:=fun hm=>by have:=hn _ hm;omega
 have hx:=h (s++[n+1]) (n+1) (by simp[hl]) (v5 hs hv) (fun i hi=>by
  rcases List.mem_append.1 hi with hi|hi;· have:=hn i hi;omega
  ·rw[List.mem_singleton.1 hi];exact Int.le_refl _)
 rw[List.reverse_cons]at hx;rw[show AY a x=Tm.mk 2 0 a.ty [x] from rfl,F9,if_neg dD,if_neg dD,if_pos rfl,FU];have c1:(nT 10 [nT 4 [],AY a.tk z]).count=1+(1+(1+(z.count+0)+0)):=rfl;have eh:AG.headR (Γ.reverse++[a]) (s++[n+1]) (n+1) [x]=AG (Γ.reverse++[a]) (s++[n+1]) (n+1) x:=rfl;rw[eh];generalize AG (Γ.reverse++[a]) (s++[n+1]) (n+1) x=q at *;obtain⟨x1,e1,n1⟩:=q;obtain⟨Fo,⟨he,hr,hb,hc⟩|⟨he,hc⟩⟩:=hx
 ·simp only at Fo he hr hb;subst he;exact UI (by show n<=n1;omega) ((Rep.n0 4 zY dD dD).pr (.lam hr)) (PF dD (zam dD) (RA dD (znd hb oO)))
 ·simp only at Fo he;subst he;show Nm s n _ (IC (_,4,n1));unfold IC;rw[if_neg (show ¬(4:Int)=0 from dD)];exact bH (by show n<=n1;omega) oO
theorem v9 {t:Tm}{F:C3 Γ->a.V}(h:Dn Γ t a F):∃x,kO Γ t x/\dZ Γ t x:=by
 induction h with
 | @var Γ i a p h=>exact⟨_,VY dD (.inl rfl),zgz h⟩
 | @lam Γ a r b f ha h ih=>obtain⟨x,h1,h2⟩:=ih;exact⟨_,zgw (r:=r) h1,zh0 h2⟩
 | @app Γ a b f x F X hf hx Bo Bh=>obtain⟨x1,p1,q1⟩:=Bo;obtain⟨x2,p2,q2⟩:=Bh;exact⟨_,zgx hf hx p1 p2,zgy hf hx q1 q2⟩
 | @zero Γ=>exact⟨_,VY dD (.inr (.inl rfl)),bK (.inl rfl)⟩
 | @succ Γ x X hx ih=>obtain⟨x1,p1,q1⟩:=ih;exact⟨_,v6 (.inl rfl) hx p1,v7 (.inl rfl) hx q1⟩
 | @rc Γ a b f n B F N ha hb hf hn Bo Bh Gn=>obtain⟨x1,p1,q1⟩:=Bo;obtain⟨x2,p2,q2⟩:=Bh;obtain⟨x3,p3,q3⟩:=Gn;exact⟨_,bI (.inl rfl) hb hf hn p1 p2 p3,bJ (.inl rfl) hb hf hn q1 q2 q3⟩
 | @nil Γ=>exact⟨_,VY dD (.inr (.inr (.inl rfl))),bK (.inr (.inl rfl))⟩
 | @cons Γ x l X L hx hl Bo Bh=>obtain⟨x1,p1,q1⟩:=Bo;obtain⟨x2,p2,q2⟩:=Bh;exact⟨_,yQ (.inl rfl) hx hl p1 p2,yR (.inl rfl) hx hl q1 q2⟩
 | @fold Γ a b f n B F N ha hb hf hn Bo Bh Gn=>obtain⟨x1,p1,q1⟩:=Bo;obtain⟨x2,p2,q2⟩:=Bh;obtain⟨x3,p3,q3⟩:=Gn;exact⟨_,bI (.inr rfl) hb hf hn p1 p2 p3,bJ (.inr rfl) hb hf hn q1 q2 q3⟩
 | @pair Γ a b x y X Y hx hy Bo Bh=>obtain⟨x1,p1,q1⟩:=Bo;obtain⟨x2,p2,q2⟩:=Bh;exact⟨_,yQ (.inr rfl) hx hy p1 p2,yR (.inr rfl) hx hy q1 q2⟩
 | @fst Γ a b x X hx ih=>obtain⟨x1,p1,q1⟩:=ih;exact⟨_,v6 (.inr (.inl rfl)) hx p1,v7 (.inr (.inl rfl)) hx q1⟩
 | @snd Γ a b x X hx ih=>obtain⟨x1,p1,q1⟩:=ih;exact⟨_,v6 (.inr (.inr rfl)) hx p1,v7 (.inr (.inr rfl)) hx q1⟩
 | @unit Γ=>exact⟨_,VY dD (.inr (.inr (.inr rfl))),bK (.inr (.inr rfl))⟩
end
section
variable {gl:AF}
theorem vA (n:Nat):cT gl 114 [A0 n] [] (IU n).dv []:=by
 refine A8 Tryz.func114 ?_;intro X hP u7 hf u9 hn hR u6 u5;have Fo:CM .i64 n:=u5 (A0 n) sS;rw[MS]at Fo;refine A4 ?_;refine A3 tT (CP 4 []) ?_;refine BK ?_;refine AC [] (j2 @IU.eq_1 @IU.eq_2) (CH (fun x:Nat=>x<=n) (fun x:Nat=>[sV 0 (A0 x),sL 3 ((IU (n - x)).cells.map .v),sP 3,sL 2 [.v (A0 0),.v (A0 0),.v (A0 0),.own 0 [],.own 0 []],sP 2]) (fun x:Nat=>x) n (Nat.le_refl n) ?_);intro x hx ih;cases x with
 | zero=>
  refine A2 ?_;refine B6 ?_;refine A4 ?_;exact BR
 | succ x=>
  have hs:n - x=(n - (x+1))+1:=oO;refine A2 ?_;refine AE ?_;refine A2 ?_;refine A2 ?_;refine K0 ?_;refine AC [] (j3 @hs @IU.eq_1 @IU.eq_2) (ih x oO oO)
theorem YY (n:Nat)(hn4:n<4096):cT gl 72 [A0 n] [] (.tup [(IU n).dv,A0 0]) []:=by
 refine A8 Tryz.func72 ?_;intro X hP u7 hf u9 hn hR u6 u5;have h1:¬(n:Int)<0:=oO;have h2:¬(4096:Int)<=n:=oO;refine A7 (j2 @h1 @h2) ?_;refine A3 tT (vA n) ?_;exact BR
theorem SX (n:Nat)(hn4:n<4096):cT gl 45 [A0 n] [] (IU n).dv []:=by
 refine A8 Tryz.func45 ?_;intro X hP u7 hf u9 hn hR u6 u5;refine A4 ?_;refine A3 tT (YY n hn4) ?_;refine A4 ?_;exact B9
theorem zh1 (t:Tm):cT gl 73 [t.dv] [] (Tm.mk 2 0 (Ty.mk 1 []) [t]).dv []:=by
 refine A8 Tryz.func73 ?_;intro X hP u7 hf u9 hn hR u6 u5;refine A4 ?_;refine EW @MF BM (EX 2 (Ty.mk 1 []) [t]) ?_;exact B9
theorem zh2 (a b c:Tm):cT gl 74 [a.dv,b.dv,c.dv] [] (Tm.mk 6 0 (Ty.mk 1 []) [a,b,c]).dv []:=by
 refine A8 Tryz.func74 ?_;intro X hP u7 hf u9 hn hR u6 u5;refine A4 ?_;refine EW @MF BM (EX 6 (Ty.mk 1 []) [a,b,c]) ?_;exact B9
def Jj0 (t:Tm):Tm:=Tm.mk 2 0 (Ty.mk 1 []) [t]
def jC (a b c:Tm):Tm:=Tm.mk 6 0 (Ty.mk 1 []) [a,b,c]
theorem SA (t:Tm):cT gl 73 [t.dv] [] (Jj0 t).dv []:=zh1 t
theorem zaq (a b c:Tm):cT gl 74 [a.dv,b.dv,c.dv] [] (jC a b c).dv []:=zh2 a b c
theorem nE (i:Int):cT gl 41 [A0 i] [] (vT i).dv []:=MN i
theorem n5 (k:Int)(l:List Tm):cT gl 42 [A0 k,.sl (l.map Tm.cells)] [] (nT k l).dv []:=CP k l
theorem zh3:Jj0 (jC (nT 4 []) (Jj0 (Jj0 (vT 1))) (vT 0))=R2:=rfl
theorem zh4:Jj0 (Jj0 (jC (vT 1) (Jj0 (Jj0 (nT 5 [vT 0]))) (vT 0)))=EF:=rfl
theorem zni:Jj0 (Jj0 (jC (vT 1) (Jj0 (Jj0 (nT 3 [R2,vT 0]))) (vT 0)))=iT:=rfl
theorem eR:cT gl 75 [] [] R2.dv []:=by
 refine A8 Tryz.func75 ?_;intro X hP u7 hf u9 hn hR u6 u5;refine A4 ?_;refine iN tT (n5 4 []) (nE 1) (SA (vT 1)) (SA (Jj0 (vT 1))) (nE 0) (zaq (nT 4 []) (Jj0 (Jj0 (vT 1))) (vT 0)) (SA (jC (nT 4 []) (Jj0 (Jj0 (vT 1))) (vT 0))) ?_;exact BD @zh3
theorem TV:cT gl 47 [] [] EF.dv []:=by
 refine A8 Tryz.func47 ?_;intro X hP u7 hf u9 hn hR u6 u5;refine A4 ?_;refine zp5 tT (nE 1) (nE 0) (n5 5 [vT 0]) (SA (nT 5 [vT 0])) (SA (Jj0 (nT 5 [vT 0]))) (nE 0) (zaq (vT 1) (Jj0 (Jj0 (nT 5 [vT 0]))) (vT 0)) (SA (jC (vT 1) (Jj0 (Jj0 (nT 5 [vT 0]))) (vT 0))) (SA (Jj0 (jC (vT 1) (Jj0 (Jj0 (nT 5 [vT 0]))) (vT 0)))) ?_;exact BD @zh4
theorem jD:cT gl 48 [] [] iT.dv []:=by
 refine A8 Tryz.func48 ?_;intro X hP u7 hf u9 hn hR u6 u5;refine A4 ?_;refine zp6 tT (nE 1) eR (nE 0) (n5 3 [R2,vT 0]) (SA (nT 3 [R2,vT 0])) (SA (Jj0 (nT 3 [R2,vT 0]))) (nE 0) (zaq (vT 1) (Jj0 (Jj0 (nT 3 [R2,vT 0]))) (vT 0)) (SA (jC (vT 1) (Jj0 (Jj0 (nT 3 [R2,vT 0]))) (vT 0))) (SA (Jj0 (jC (vT 1) (Jj0 (Jj0 (nT 3 [R2,vT 0]))) (vT 0)))) ?_;exact BD @zni
theorem L7 (n:Nat)(b:Nat)(l:List Int)(p:Nat)(hl:l.length<=500)(hp:p<=l.length)(hn3:n<=3) :
  cT gl 12 [BC b,A0 n] [(b,DF l p)] (CS l n p).1.dv [(b,DF l (CS l n p).2)]:=by
 induction n generalizing p with
 | zero=>
  refine A8 Tryz.func12 ?_;intro X hP u7 hf u9 hn hR u6 u5;rw[CS]at hR;have Vc:=EM (l:=l) (p:=p) (n:=7) dD;refine A4 ?_;refine A3 tT (FJ b l p 7 dD oO) ?_;generalize hd:AW l p 7=d at *;obtain⟨k,q⟩:=d;simp only at Vc hR;by_cases h3:k=3
  ·refine A7 @h3 ?_;refine A3 tT EI ?_;exact AI [(b,DF l q)] @h3
  by_cases h4:k=4
  ·refine A7 @h4 ?_;refine A3 tT IT ?_;exact AI [(b,DF l q)] @h4
  by_cases h0:k=0
  ·refine A7 @h0 ?_;refine A3 tT BM ?_;exact AI [(b,DF l q)] @h0
  by_cases h1:k=1
  ·refine A7 @h1 ?_;refine A3 tT BM ?_;exact AI [(b,DF l q)] @h1
  by_cases h2:k=2
  ·refine A7 @h2 ?_;refine A3 tT BM ?_;exact AI [(b,DF l q)] @h2
  by_cases h5:k=5
  ·refine A7 @h5 ?_;refine A3 tT BM ?_;exact AI [(b,DF l q)] @h5
  have h6:k=6:=oO;refine A7 @h6 ?_;refine A3 tT BM ?_;exact AI [(b,DF l q)] @h6
 | succ n ih=>
  refine A8 Tryz.func12 ?_;intro X hP u7 hf u9 hn hR u6 u5;rw[CS]at hR;have Vc:=EM (l:=l) (p:=p) (n:=7) dD;have hq:=CO (n:=7) hp;refine A4 ?_;refine A3 tT (FJ b l p 7 dD oO) ?_;generalize hd:AW l p 7=d at *;obtain⟨k,q⟩:=d;simp only at Vc hR hq;have Dw:(0:Int)<((n+1:Nat):Int):=oO;have Ed:((n+1:Nat):Int) - 1=(n:Int):=oO;obtain⟨a1,-⟩:=LP l n q hq;by_cases h3:k=3
  ·refine A7 @h3 ?_;refine A3 tT EI ?_;exact AI [(b,DF l q)] @h3
  by_cases h4:k=4
  ·refine A7 @h4 ?_;refine A3 tT IT ?_;exact AI [(b,DF l q)] @h4
  by_cases h0:k=0
  ·refine A7 @h0 ?_;refine A3 tT BM ?_;exact AI [(b,DF l q)] @h0
  by_cases h1:k=1
  ·refine A7 @h1 ?_;refine A3 tT BM ?_;exact AI [(b,DF l q)] @h1
  by_cases h2:k=2
  ·refine A7 @h2 ?_;refine A3 tT BM ?_;exact AI [(b,DF l q)] @h2
  by_cases h5:k=5
  ·refine A7 (j2 @h5 @Dw) ?_;refine OL @Ed (ih q hq oO) (ih _ a1 oO) (K6 (CS l n q).1 (CS l n (CS l n q).2).1) ?_;exact AI [(b,DF l (CS l n (CS l n q).2).2)] @h5
  have h6:k=6:=oO;refine A7 (j2 @h6 @Dw) ?_;refine OL @Ed (ih q hq oO) (ih _ a1 oO) (DG (CS l n q).1 (CS l n (CS l n q).2).1) ?_;exact AI [(b,DF l (CS l n (CS l n q).2).2)] @h6
theorem eS (b:Nat)(l:List Int)(p:Nat)(hl:l.length<=500)(hp:p<=l.length) :
  cT gl 11 [BC b] [(b,DF l p)] (.sl ((tO l p).1.map Ty.cells)) [(b,DF l (tO l p).2)]:=by
 refine A8 Tryz.func11 ?_;intro X hP u7 hf u9 hn hR u6 u5;have hq:=CO (n:=4) hp;have Vc:=EM (l:=l) (p:=p) (n:=4) dD;obtain⟨k0,Jq⟩:∃k0:Nat,(AW l p 4).1=k0:=⟨(AW l p 4).1.toNat,oO⟩;unfold tO at hR;rw[Jq,Int.toNat_natCast]at hR;rw[Jq]at Vc;refine A4 ?_;refine A3 tT (FJ b l p 4 dD oO) ?_;refine BK ?_;refine AC [(1003,0)] @Jq (CH (fun x:List Ty × Nat × Nat=>x.2.1<=l.length/\(x.1++(JI l x.2.2 x.2.1).1,(JI l x.2.2 x.2.1).2)=JI l k0 (AW l p 4).2/\x.1.length+x.2.2<=3) (fun x:List Ty × Nat × Nat=>[sV 4 (A0 x.2.2),sB  b [.v (.sl (AP l)),.v (A0 x.2.1)],(.slot 3,.one (.own 1003 (x.1.map Ty.cells))),(.tok 1003,.tk 2 x.1.length),sV 0 (BC b),(.slot 2,.one (.own 0 []))]) (fun x:List Ty × Nat × Nat=>x.2.2) (([]:List Ty),(AW l p 4).2,k0) (⟨hq,sS,by simp;omega⟩) ?_);rintro⟨acc,q,r⟩ ⟨i1,i2,i3⟩ Fy;simp only at i1 i2 i3;cases r with
 | zero=>
  simp only[JI,List.append_nil]at i2;refine A2 ?_;refine BK ?_;refine BN rfl ?_ ?_;· intro h;simp at h
  intro _;refine A4 ?_;exact AI [(b,DF l q)] (i2).symm
 | succ r=>
  obtain⟨a1,-⟩:=LP l 1 q i1;refine A2 ?_;refine AE ?_;refine A4 ?_;refine A3 (Ty.cells_eq (CS l 1 q).1) (L7 1 b l q hl i1 dD) ?_;refine CR (wr [(1003,15)]) (Ty.cells_eq (CS l 1 q).1) tT (Fy (acc++[(CS l 1 q).1],(CS l 1 q).2,r) ⟨a1,by rw[<- i2];simp[JI],by simp;omega⟩ sS)
def TW (g:List Ty)(t:Ty)(n:Nat):List Nat:=(List.range n).filter fun i=>(HG g i).same t
theorem vB (g:List Ty)(t:Ty)(n:Nat):TW g t (n+1)=if (HG g n).same t=true then TW g t n++[n] else TW g t n:=by
 unfold TW;rw[List.range_succ,List.filter_append];split <;> simp_all
theorem bL (g:List Ty)(t:Ty)(n:Nat):(TW g t n).length<=n:=by
 have:=List.length_filter_le (fun i=>(HG g i).same t) (List.range n)
 simpa [TW] using this
def YZ (l:List Nat):List Int:=l.map Int.ofNat
theorem IZ (l:List Nat):(YZ l).length=l.length:=by simp[YZ]
theorem z3z (l:List Nat)(n:Nat):YZ (l++[n])=YZ l++[(n:Int)]:=by simp[YZ]
theorem QE (g:List Ty)(t:Ty)(Jx:g.length<=1000000) :
  cT gl 40 [.sl (g.map Ty.cells),t.dv] [] (.sl (AP (YZ (ES g t)))) []:=by
 refine A8 Tryz.func40 ?_;intro X hP u7 hf u9 hn hR u6 u5;refine A4 ?_;refine BK ?_;refine AC [(1005,0)] (j3 @YZ.eq_1 @TW.eq_1 @P7) (FD (g.length) (fun i=>True) (fun i=>[sV 9 (A0 i),sV 8 (A0 g.length),(.slot 5,.one (.own 1005 (AP (YZ (TW g t i))))),(.tok 1005,.tk 1 (TW g t i).length),sV 0 (.sl (g.map Ty.cells)),sL 3 [.v (A0 t.kind),.v (.sl (t.args.map Ty.cells))],sP 3,(.slot 4,.one (.own 0 []))]) (trivial) ?_ ?_)
 ·intro i hi _ Aa;have hli:=bL g t i;have hvt:=(N3 hi).2;have Nb:(g.length:Int) - 1 - i=((g.length - 1 - i:Nat):Int):=oO;refine A2 ?_;refine AE ?_;refine A4 ?_;refine A3 (j2 @Nb @hvt) (BB (HG g i) t) ?_;have Ny:=vB g t i;by_cases hs:(HG g i).same t=true
  ·rw[if_pos hs]at Ny;rw[Ny]at Aa;refine CR (wr [(1005,25)]) (j4 @IZ @z3z @z36 @P7) (j2 @hs @IZ) (Aa tT)
  ·rw[if_neg hs]at Ny;rw[Ny]at Aa;refine CR (wr []) tT @hs (Aa tT)
 ·intro _;refine A2 ?_;refine B6 ?_;refine A4 ?_;exact BD (j2 @ES.eq_1 @TW.eq_1)
theorem KD (g h:List Ty)(Jx:g.length+h.length<=1000000) :
  cT gl 44 [.sl (g.map Ty.cells),.sl (h.map Ty.cells)] [] (.sl ((g++h).map Ty.cells)) []:=by
 refine A8 Tryz.func44 ?_;intro X hP u7 hf u9 hn hR u6 u5;have Fu:g.length<=1000000:=oO;refine A4 ?_;exact BR
theorem bM {l:List Int}{t:Ty}{g:List Ty}{p q:Nat}(h:NJ l t g p=(none,q)):((ES g t).length=0/\q=p)\/((ES g t).length≠0/\(AW l p 3).1=0/\q=(AW l p 3).2):=by
 unfold NJ at h;split at h;· rename_i h0;cases h;exact .inl ⟨h0,rfl⟩
 ·rename_i h0;split at h;· rename_i h1;cases h;exact .inr ⟨h0,h1,rfl⟩
  ·cases h
theorem Y8 {l:List Int}{t:Ty}{g:List Ty}{p q:Nat}{x:Tm}(h:NJ l t g p=(some x,q)):(ES g t).length≠0/\(AW l p 3).1≠0/\∃k i:Nat,(AW l (AW l p 3).2 (ES g t).length).1=k/\(ES g t)[k]? = some i/\x=vT i/\q=(AW l (AW l p 3).2 (ES g t).length).2:=by
 unfold NJ at h;split at h;· cases h
 ·rename_i h0;split at h;· cases h
  ·rename_i h1;have hb:=EM (l:=l) (p:=(AW l p 3).2) (n:=(ES g t).length) oO;cases h;obtain⟨k,hk⟩:∃k:Nat,(AW l (AW l p 3).2 (ES g t).length).1=k:=⟨_,(Int.toNat_of_nonneg hb.1).symm⟩;rw[hk]at hb;have Ag:k<(ES g t).length:=oO;refine⟨h0,h1,k,(ES g t)[k],hk,uB Ag,?_,rfl⟩;rw[hk,Int.toNat_natCast,List.getD_eq_getElem?_getD,uB Ag,Option.getD_some]
theorem jE (b:Nat)(l:List Int)(hl:l.length<=500)(t:Ty):∀(z:Int) (g:List Ty) (p:Nat),z<=0->t.count<=z+1000->t.small->(∀x∈g,x.small)->g.length+t.count<=1000000->p<=l.length ->
  cT gl 17 [BC b,.sl (g.map Ty.cells),t.dv,A0 z] [(b,DF l p)] (FB l t g p).1.dv [(b,DF l (FB l t g p).2)]:=by
 induction t using Ty.ind with
 | h t ih=>
 intro z g p hz Oh ht hg Ks hp;refine A8 Tryz.func17 ?_;intro X hP u7 hf u9 hn hR u6 u5;rw[aX l t g p ht.ok]at hR;have Xb:(ES g t).length<=g.length:=bL g t g.length;have hq3:=CO (n:=3) hp;have Mf:=EM (l:=l) (p:=p) (n:=3) dD;rcases Pf:NJ l t g p with⟨_|x,q⟩
 ·rw[Pf]at hR;simp only at hR;have hq:q<=l.length:=by have:=PD (t:=t) (g:=g) hp;rw[Pf]at this;exact this
  apply tH [sV 215 (AK (decide (t.kind=1))),sV 214 (A0 t.kind),sV 0 (BC b),sV 1 (.sl (g.map Ty.cells)),sV 3 (A0 z),sP 6,sL 6 [.v (A0 t.kind),.v (.sl (t.args.map Ty.cells))],sP 8,sL 8 [.v (A0 0),.v (A0 0),.v (A0 0),.own 0 [],.own 0 []],sB  b [.v (.sl (AP l)),.v (A0 q)]]
  ·intro Ac;refine A4 ?_;refine A3 tT (QE g t oO) ?_;rcases bM Pf with⟨h0,rfl⟩|⟨h0,h1,rfl⟩
   ·refine A7 (j2 @IZ @h0) ?_;refine K0 ?_;refine AC [] tT Ac
   ·have Dw:0<(ES g t).length:=oO;refine A4 ?_;refine A3 (j3 @IZ @Dw @h1) (FJ b l p 3 dD oO) ?_;refine A7 @h1 ?_;refine K0 ?_;refine AC [] tT Ac
  ·have Hb:¬0<z:=oO;rcases JT ht with⟨h,e⟩|⟨h,e⟩|⟨h,e⟩|⟨h,e⟩|⟨h,e⟩
   ·rw[if_pos h]at hR;have hb:=EM (l:=l) (p:=q) (n:=3) dD;obtain⟨k,hk⟩:∃k:Nat,(AW l q 3).1=k:=⟨_,(Int.toNat_of_nonneg hb.1).symm⟩;rw[hk]at hb;refine A7 (j2 @Hb @h) ?_;refine EW @hk (FJ b l q 3 dD oO) (SX k oO) ?_;exact AI [(b,DF l (AW l q 3).2)] (j2 @aW.eq_1 @hk)
   ·rw[if_neg oO,if_pos h]at hR;refine A7 (j2 @Hb @h) ?_;refine A3 tT (CP 7 []) ?_;exact AI [(b,DF l q)] @nT.eq_1
   ·rw[if_neg oO,if_neg oO,if_neg oO,if_neg oO]at hR;refine A7 (j2 @Hb @h) ?_;refine A3 tT (CP 13 []) ?_;exact AI [(b,DF l q)] @nT.eq_1
   ·rw[if_neg oO,if_neg oO,if_pos h]at hR;obtain⟨s0,s1,hc⟩:=ht.arg (.inl h);have p0:=Ty.count_eq (t.arg 0);have p1:=Ty.count_eq (t.arg 1);have ha:t.args=[t.arg 0,t.arg 1]:=by rw[e];rfl
    obtain⟨a1,-⟩:=Y6 KB (t.arg 0) g q s0 hg hq;refine A7 (j2 @Hb @h) ?_;refine OL @ha (ih (t.arg 0) (by rw[ha];simp) (z - 1) g q oO oO s0 hg oO hq) (ih (t.arg 1) (by rw[ha];simp) (z - 1) g (FB l (t.arg 0) g q).2 oO oO s1 hg oO a1) (CP 10 [(FB l (t.arg 0) g q).1,(FB l (t.arg 1) g (FB l (t.arg 0) g q).2).1]) ?_;exact AI [(b,DF l (FB l (t.arg 1) g (FB l (t.arg 0) g q).2).2)] @nT.eq_1
   ·rw[if_neg oO,if_neg oO,if_neg oO,if_pos h]at hR;obtain⟨s0,s1,hc⟩:=ht.arg (.inr h);have p0:=Ty.count_eq (t.arg 0);have p1:=Ty.count_eq (t.arg 1);have ha:t.args=[t.arg 0,t.arg 1]:=by rw[e];rfl
    have hgs:∀x∈g++[t.arg 0],x.small:=by intro x hx;rcases List.mem_append.1 hx with hx|hx;exact hg x hx;rw[List.mem_singleton.1 hx];exact s0
    refine A7 (j2 @Hb @h) ?_;refine OL @ha (KD g [t.arg 0] (by simp;omega)) (ih (t.arg 1) (by rw[ha];simp) (z - 1) (g++[t.arg 0]) q oO oO s1 hgs (by simp;omega) hq) (EX 2 (t.arg 0) [(FB l (t.arg 1) (g++[t.arg 0]) q).1]) ?_;exact AI [(b,DF l (FB l (t.arg 1) (g++[t.arg 0]) q).2)] tT
 ·rw[Pf]at hR;simp only at hR;obtain⟨h0,h1,k,i,hk,hi,rfl,rfl⟩:=Y8 Pf;have Dw:0<(ES g t).length:=oO;have Kj:0<(AW l p 3).1:=oO;have Hi:=IS (l:=YZ (ES g t)) (i:=k) (n:=i) (by simp[YZ,hi]);have hkl:=(uA hi).1;refine A4 ?_;refine A3 tT (QE g t oO) ?_;refine A4 ?_;refine A3 (j3 @IZ @Dw @Kj) (FJ b l p 3 dD oO) ?_;refine A7 @Kj ?_;refine EW (j3 @IZ @hk @Hi) (FJ b l (AW l p 3).2 (ES g t).length oO oO) (MN i) ?_;exact AI [(b,DF l (AW l (AW l p 3).2 (ES g t).length).2)] @vT.eq_1
def jF (g:List Ty)(t:Ty)(i:Nat):Bool:=decide ((HG g i).kind=4)&&((HG g i).arg 1).same t
theorem fU {Q:Nat->Prop}{i:Nat}(h:∀j,j<i->Q j)(hi:Q i):∀j,j<i+1->Q j:=by
 intro j hj;by_cases e:j=i;· rw[e];exact hi
 ·exact h j oO
theorem vC {g:List Ty}{t:Ty}{i:Nat}(hi:i<g.length)(h:∀j,j<i->jF g t j=false)(hp:jF g t i=true):tP g t=some i:=by
 unfold tP;rw[List.find?_range_eq_some];exact⟨hp,List.mem_range.2 hi,fun j hj=>by show (!jF g t j)=true;rw[h j hj];rfl⟩
theorem z40 {g:List Ty}{t:Ty}(h:∀j,j<g.length->jF g t j=false):tP g t=none:=by
 unfold tP;rw[List.find?_eq_none];intro j hj;show ¬jF g t j=true;rw[h j (List.mem_range.1 hj)];decide
theorem zh5 {X:Ctx}{k kk:List Item}{s:St}(E:Prop)(S:St)(h1:(E->W X kk S)->W X k s)(h2:E->W X kk S):W X k s:=h1 h2
theorem bN (b:Nat)(l:List Int)(hl:l.length<=500)(n:Nat)(hn9:n<=9):∀(t:Ty) (g:List Ty) (p:Nat),t.small->(∀x∈g,x.small)->g.length+3 * n+15<=1000000->p<=l.length ->
  cT gl 17 [BC b,.sl (g.map Ty.cells),t.dv,A0 n] [(b,DF l p)] (DC l n t g p).1.dv [(b,DF l (DC l n t g p).2)]:=by
 induction n with
 | zero=>
  intro t g p ht hg Ks hp;exact jE b l hl t 0 g p oO (by have:=ht.2;omega) ht hg (by have:=ht.2;omega) hp
 | succ n ihn0=>
 intro t g p ht hg Ks hp;have Dj:=ihn0 oO;have hD:=HV (l:=l) KB n;have Bx:∀a:List Ty,(∀x∈a,x.small)->∀x∈g++a,x.small:=by
  intro a ha x hx;rcases List.mem_append.1 hx with hx|hx;· exact hg x hx
  ·exact ha x hx
 have Hb:(0:Int)<((n+1:Nat):Int):=oO;have Ed:((n+1:Nat):Int) - 1=(n:Int):=oO;refine A8 Tryz.func17 ?_;intro X hP u7 hf u9 hn hR u6 u5;rw[DC]at hR;have Xb:(ES g t).length<=g.length:=bL g t g.length;have hq3:=CO (n:=3) hp;have Mf:=EM (l:=l) (p:=p) (n:=3) dD;rcases Pf:NJ l t g p with⟨_|x,q⟩
 ·rw[Pf]at hR;simp only at hR;have hq:q<=l.length:=by have:=PD (t:=t) (g:=g) hp;rw[Pf]at this;exact this
  apply tH [sV 0 (BC b),sV 1 (.sl (g.map Ty.cells)),sV 3 (A0 ((n+1:Nat):Int)),sP 6,sL 6 [.v (A0 t.kind),.v (.sl (t.args.map Ty.cells))],sP 8,sL 8 [.v (A0 0),.v (A0 0),.v (A0 0),.own 0 [],.own 0 []],sB  b [.v (.sl (AP l)),.v (A0 q)]]
  ·intro Ac;refine A4 ?_;refine A3 tT (QE g t oO) ?_;rcases bM Pf with⟨h0,rfl⟩|⟨h0,h1,rfl⟩
   ·refine A7 (j2 @IZ @h0) ?_;refine K0 ?_;refine AC [] tT Ac
   ·have Dw:0<(ES g t).length:=oO;refine A4 ?_;refine A3 (j3 @IZ @Dw @h1) (FJ b l p 3 dD oO) ?_;refine A7 @h1 ?_;refine K0 ?_;refine AC [] tT Ac
  ·have hq8:=CO (n:=8) hq;have Yd:=EM (l:=l) (p:=q) (n:=8) dD;refine A7 @Hb ?_;refine A3 tT (FJ b l q 8 dD oO) ?_;generalize hd:AW l q 8=d at *;obtain⟨k,r⟩:=d;simp only at hR Yd hq8;have hr:r<=l.length:=hq8;by_cases h0:k=0
   ·rw[IX,if_pos h0]at hR;have cs:=L7 (gl:=gl) 0 b l r hl hr dD;obtain⟨fs,ss⟩:=FL l (n:=0) hr dD;generalize Yf:CS l 0 r=rs at cs fs ss hR;obtain⟨s,qs⟩:=rs;simp only at cs fs ss hR;have cx:=Dj (t) (g++[s]) qs ht (Bx [s] (by simpa using ss)) (by simp;omega) fs;have fx:=(hD (t) (g++[s]) qs ht (Bx [s] (by simpa using ss)) fs).1;generalize hex:DC l n (t) (g++[s]) qs=rx at cx fx hR;obtain⟨x,qx⟩:=rx;simp only at cx fx hR;have cy:=Dj (s) (g) qx ss hg oO fx;have fy:=(hD (s) (g) qx ss hg fx).1;generalize Sc:DC l n (s) (g) qx=ry at cy fy hR;obtain⟨y,qy⟩:=ry;simp only at cy fy hR;refine A7 @h0 ?_;refine A3 tT cs ?_;refine tD @Ed (KD g [s] (by simp;omega)) cx (EX 2 s [x]) cy (CP 3 [Tm.mk 2 0 s [x],y]) ?_;exact AI [(b,DF l qy)] @nT.eq_1
   by_cases h1:k=1
   ·rw[IX,if_neg h0,if_pos h1]at hR;have cs:=L7 (gl:=gl) 0 b l r hl hr dD;obtain⟨fs,ss⟩:=FL l (n:=0) hr dD;generalize Yf:CS l 0 r=rs at cs fs ss hR;obtain⟨s,qs⟩:=rs;simp only at cs fs ss hR;have cx:=Dj (t) (g) qs ht hg oO fs;have fx:=(hD (t) (g) qs ht hg fs).1;generalize hex:DC l n (t) (g) qs=rx at cx fx hR;obtain⟨x,qx⟩:=rx;simp only at cx fx hR;have cy:=Dj (s) (g) qx ss hg oO fx;have fy:=(hD (s) (g) qx ss hg fx).1;generalize Sc:DC l n (s) (g) qx=ry at cy fy hR;obtain⟨y,qy⟩:=ry;simp only at cy fy hR;refine A7 @h1 ?_;refine A3 tT cs ?_;refine TI @Ed cx cy (CP 10 [x,y]) (CP 11 [Tm.mk 10 0 (Ty.mk 0 []) [x,y]]) ?_;exact AI [(b,DF l qy)] @nT.eq_1
   by_cases h2:k=2
   ·rw[IX,if_neg h0,if_neg h1,if_pos h2]at hR;have cx:=Dj (t) (g++[Ty.mk 1 [],t]) r ht (Bx [Ty.mk 1 [],t] (by intro x hx;simp at hx;rcases hx with rfl|rfl;exact DN;exact ht)) (by simp;omega) hr;have fx:=(hD (t) (g++[Ty.mk 1 [],t]) r ht (Bx [Ty.mk 1 [],t] (by intro x hx;simp at hx;rcases hx with rfl|rfl;exact DN;exact ht)) hr).1;generalize hex:DC l n (t) (g++[Ty.mk 1 [],t]) r=rx at cx fx hR;obtain⟨x,qx⟩:=rx;simp only at cx fx hR;have cy:=Dj (t) (g) qx ht hg oO fx;have fy:=(hD (t) (g) qx ht hg fx).1;generalize Sc:DC l n (t) (g) qx=ry at cy fy hR;obtain⟨y,qy⟩:=ry;simp only at cy fy hR;have hqy:=CO (n:=3) fy;have hby:=EM (l:=l) (p:=qy) (n:=3) dD;obtain⟨m,hm⟩:∃m:Nat,(AW l qy 3).1=m:=⟨_,(Int.toNat_of_nonneg hby.1).symm⟩;rw[hm]at hby
    refine A7 @h2 ?_;refine z35 (j2 @Ed @MF) BM BM (KD g [Ty.mk 1 [],t] (by simp;omega)) cx (EX 2 t [x]) (EX 2 (Ty.mk 1 []) [Tm.mk 2 0 t [x]]) ?_;refine TI (j2 @Ed @hm) cy (FJ b l qy 3 dD oO) (SX m oO) (EX 6 t [y,Tm.mk 2 0 (Ty.mk 1 []) [Tm.mk 2 0 t [x]],IU m]) ?_;exact AI [(b,DF l (AW l qy 3).2)] (j2 @aW.eq_1 @hm)
   by_cases h3:k=3
   ·rw[IX,if_neg h0,if_neg h1,if_neg h2,if_pos h3]at hR;have cx:=Dj (t) (g++[Ty.mk 1 [],Ty.mk 2 [],t]) r ht (Bx [Ty.mk 1 [],Ty.mk 2 [],t] (by intro x hx;simp at hx;rcases hx with rfl|rfl|rfl;exact DN;exact F7;exact ht)) (by simp;omega) hr;have fx:=(hD (t) (g++[Ty.mk 1 [],Ty.mk 2 [],t]) r ht (Bx [Ty.mk 1 [],Ty.mk 2 [],t] (by intro x hx;simp at hx;rcases hx with rfl|rfl|rfl;exact DN;exact F7;exact ht)) hr).1;generalize hex:DC l n (t) (g++[Ty.mk 1 [],Ty.mk 2 [],t]) r=rx at cx fx hR;obtain⟨x,qx⟩:=rx;simp only at cx fx hR;have cy:=Dj (t) (g) qx ht hg oO fx;have fy:=(hD (t) (g) qx ht hg fx).1;generalize Sc:DC l n (t) (g) qx=ry at cy fy hR;obtain⟨y,qy⟩:=ry;simp only at cy fy hR;have cz:=Dj (Ty.mk 2 []) (g) qy F7 hg oO fy;have fz:=(hD (Ty.mk 2 []) (g) qy F7 hg fy).1;generalize hez:DC l n (Ty.mk 2 []) (g) qy=rz at cz fz hR;obtain⟨z,qz⟩:=rz;simp only at cz fz hR;refine A7 @h3 ?_;refine zp5 (j3 @Ed @MF @OQ) BM EI BM EI (KD g [Ty.mk 1 [],Ty.mk 2 [],t] (by simp;omega)) cx (EX 2 t [x]) (EX 2 (Ty.mk 2 []) [Tm.mk 2 0 t [x]]) (EX 2 (Ty.mk 1 []) [Tm.mk 2 0 (Ty.mk 2 []) [Tm.mk 2 0 t [x]]]) ?_;refine TI (j2 @Ed @OQ) cy EI cz (EX 9 t [y,Tm.mk 2 0 (Ty.mk 1 []) [Tm.mk 2 0 (Ty.mk 2 []) [Tm.mk 2 0 t [x]]],z]) ?_
    exact AI [(b,DF l qz)] tT
   by_cases h4:k=4
   ·rw[IX,if_neg h0,if_neg h1,if_neg h2,if_neg h3,if_pos h4]at hR;have cs:=L7 (gl:=gl) 0 b l r hl hr dD;obtain⟨fs,ss⟩:=FL l (n:=0) hr dD;generalize Yf:CS l 0 r=rs at cs fs ss hR;obtain⟨s,qs⟩:=rs;simp only at cs fs ss hR;have cx:=Dj (s) (g) qs ss hg oO fs;have fx:=(hD (s) (g) qs ss hg fs).1;generalize hex:DC l n (s) (g) qs=rx at cx fx hR;obtain⟨x,qx⟩:=rx;simp only at cx fx hR;have cy:=Dj (t) (g) qx ht hg oO fx;have fy:=(hD (t) (g) qx ht hg fx).1;generalize Sc:DC l n (t) (g) qx=ry at cy fy hR;obtain⟨y,qy⟩:=ry;simp only at cy fy hR;refine A7 @h4 ?_;refine A3 tT cs ?_;refine TI @Ed cx cy (CP 10 [x,y]) (CP 12 [Tm.mk 10 0 (Ty.mk 0 []) [x,y]]) ?_;exact AI [(b,DF l qy)] @nT.eq_1
   apply zh5 (IX l (DC l n) t g k r=eQ l (DC l n) t g r) [sV 215 (AK (decide (t.kind=1))),sV 214 (A0 t.kind),sV 0 (BC b),sV 1 (.sl (g.map Ty.cells)),sV 3 (A0 ((n+1:Nat):Int)),sP 6,sL 6 [.v (A0 t.kind),.v (.sl (t.args.map Ty.cells))],sP 8,sL 8 [.v (A0 0),.v (A0 0),.v (A0 0),.own 0 [],.own 0 []],sB  b [.v (.sl (AP l)),.v (A0 r)]]
   ·intro Ac;by_cases h5:k=5
    ·refine A7 @h5 ?_;refine BK ?_;refine AC [] tT (FD (g.length) (fun i=>∀j,j<i->jF g t j=false) (fun i=>[sV 177 (A0 i),sV 176 (A0 g.length),sV 0 (BC b),sV 1 (.sl (g.map Ty.cells)),sV 3 (A0 ((n+1:Nat):Int)),sP 6,sL 6 [.v (A0 t.kind),.v (.sl (t.args.map Ty.cells))],sP 8,sL 8 [.v (A0 0),.v (A0 0),.v (A0 0),.own 0 [],.own 0 []],sB  b [.v (.sl (AP l)),.v (A0 r)]]) (by intro j hj;omega) ?_ ?_)
     ·intro i hi hI Aa;have hvt:=(N3 hi).2;have Nb:(g.length:Int) - 1 - i=((g.length - 1 - i:Nat):Int):=oO;refine A2 ?_;refine AE ?_;refine A7 (j2 @Nb @hvt) ?_;by_cases Rr:(HG g i).kind=4
      ·have Lo:=hg _ (N3 hi).1;obtain⟨c0,c1,-⟩:=Lo.arg (.inr Rr);obtain⟨a0,a1,ha,-,-,e0,e1⟩:=Ty.ok_args Lo.ok (.inr Rr);rw[e0]at c0;refine A3 (j4 @Nb @hvt @Rr @ha) (BB a1 t) ?_;by_cases hs:a1.same t=true
       ·have hfi:tP g t=some i:=vC hi hI (by simp[jF,Rr,e1,hs]);rw[IX,if_neg h0,if_neg h1,if_neg h2,if_neg h3,if_neg h4,if_pos h5,hfi]at hR;simp only at hR;rw[e0]at hR;have cx:=Dj (a0) (g) r c0 hg oO hr;have fx:=(hD (a0) (g) r c0 hg hr).1;generalize hex:DC l n (a0) (g) r=rx at cx fx hR;obtain⟨x,qx⟩:=rx;simp only at cx fx hR;refine A7 @hs ?_;refine OL (j3 @Ed @ha @vT.eq_1) (MN i) cx (CP 3 [vT i,x]) ?_;exact AI [(b,DF l qx)] (j2 @nT.eq_1 @vT.eq_1)
       ·refine CR (wr []) tT @hs (Aa (fU hI (by simp[jF,Rr,e1,hs])))
      ·refine CR (wr []) tT @Rr (Aa (fU hI (by simp[jF,Rr])))
     ·intro hI;refine A2 ?_;refine B6 ?_;refine A4 ?_;refine K0 ?_;refine AC [] tT (Ac (by rw[IX,if_neg h0,if_neg h1,if_neg h2,if_neg h3,if_neg h4,if_pos h5,z40 hI]))
    ·have hE:IX l (DC l n) t g k r=eQ l (DC l n) t g r:=by rw[IX,if_neg h0,if_neg h1,if_neg h2,if_neg h3,if_neg h4,if_neg h5]
     by_cases h6:k=6
     ·refine A7 @h6 ?_;refine K0 ?_;refine AC [] tT (Ac hE)
     ·have h7:k=7:=oO;refine A7 @h7 ?_;refine K0 ?_;refine AC [] tT (Ac hE)
   ·intro hE;rw[hE,eQ]at hR;have Vf:=CO (n:=5) hr;have h2q:=CO (n:=2) hr;have Nw:=Ty.fold t;rcases JT ht with⟨h,e⟩|⟨h,e⟩|⟨h,e⟩|⟨h,e⟩|⟨h,e⟩
    ·rw[if_pos h]at hR;rw[h]at Nw;have hb5:=EM (l:=l) (p:=r) (n:=5) dD;refine A7 (j2 @h @Hb) ?_;refine A3 tT (FJ b l r 5 dD oO) ?_;generalize hd5:AW l r 5=d at *;obtain⟨c,q5⟩:=d;simp only at hR hb5 Vf;by_cases c0:c=0
     ·rw[if_pos c0]at hR;have cx:=Dj (t) (g) q5 ht hg oO Vf;have fx:=(hD (t) (g) q5 ht hg Vf).1;generalize hex:DC l n (t) (g) q5=rx at cx fx hR;obtain⟨x,qx⟩:=rx;simp only at cx fx hR;refine A7 @c0 ?_;refine EW (j2 @Ed @Nw) cx (CP 5 [x]) ?_;exact AI [(b,DF l qx)] @nT.eq_1
     rw[if_neg c0]at hR;by_cases c1:c=1
     ·rw[if_pos c1]at hR;have cx:=Dj (t) (g) q5 ht hg oO Vf;have fx:=(hD (t) (g) q5 ht hg Vf).1;generalize hex:DC l n (t) (g) q5=rx at cx fx hR;obtain⟨x,qx⟩:=rx;simp only at cx fx hR;have cy:=Dj (t) (g) qx ht hg oO fx;have fy:=(hD (t) (g) qx ht hg fx).1;generalize Sc:DC l n (t) (g) qx=ry at cy fy hR;obtain⟨y,qy⟩:=ry;simp only at cy fy hR;refine A7 @c1 ?_;refine TI (j2 @Ed @Nw) TV cx cy (fR EF [x,y]) ?_;exact AI [(b,DF l qy)] tT
     rw[if_neg c1]at hR;by_cases c2:c=2
     ·rw[if_pos c2]at hR;have cx:=Dj (t) (g) q5 ht hg oO Vf;have fx:=(hD (t) (g) q5 ht hg Vf).1;generalize hex:DC l n (t) (g) q5=rx at cx fx hR;obtain⟨x,qx⟩:=rx;simp only at cx fx hR;have cy:=Dj (t) (g) qx ht hg oO fx;have fy:=(hD (t) (g) qx ht hg fx).1;generalize Sc:DC l n (t) (g) qx=ry at cy fy hR;obtain⟨y,qy⟩:=ry;simp only at cy fy hR;refine A7 @c2 ?_;refine TI (j2 @Ed @Nw) jD cx cy (fR iT [x,y]) ?_;exact AI [(b,DF l qy)] tT
     rw[if_neg c2]at hR;have Mf:=EM (l:=l) (p:=q5) (n:=3) dD;obtain⟨m,hm⟩:∃m:Nat,(AW l q5 3).1=m:=⟨_,(Int.toNat_of_nonneg Mf.1).symm⟩;rw[hm]at Mf;by_cases c3:c=3
     ·refine A7 @c3 ?_;refine EW @hm (FJ b l q5 3 dD oO) (SX m oO) ?_;exact AI [(b,DF l (AW l q5 3).2)] (j2 @aW.eq_1 @hm)
     ·have c4:c=4:=oO;refine A7 @c4 ?_;refine EW @hm (FJ b l q5 3 dD oO) (SX m oO) ?_;exact AI [(b,DF l (AW l q5 3).2)] (j2 @aW.eq_1 @hm)
    ·rw[if_neg oO,if_pos h]at hR;rw[h]at Nw;have Bt:=EM (l:=l) (p:=r) (n:=2) dD;refine A7 @h ?_;generalize In:AW l r 2=d at *;obtain⟨c,q2⟩:=d;have cn:=FJ (gl:=gl) b l r 2 dD oO;rw[In]at cn;simp only at hR Bt h2q cn;by_cases c0:c=0
     ·rw[if_pos c0]at hR;have cx:=Dj (Ty.mk 1 []) (g) q2 DN hg oO h2q;have fx:=(hD (Ty.mk 1 []) (g) q2 DN hg h2q).1;generalize hex:DC l n (Ty.mk 1 []) (g) q2=rx at cx fx hR;obtain⟨x,qx⟩:=rx;simp only at cx fx hR;have cy:=Dj (t) (g) qx ht hg oO fx;have fy:=(hD (t) (g) qx ht hg fx).1;generalize Sc:DC l n (t) (g) qx=ry at cy fy hR;obtain⟨y,qy⟩:=ry;simp only at cy fy hR;refine A3 (j2 @Hb @c0) cn ?_;refine A7 @c0 ?_;refine TI (j3 @Ed @MF @Nw) BM cx cy (CP 8 [x,y]) ?_;exact AI [(b,DF l qy)] @nT.eq_1
     ·rw[if_neg c0]at hR;refine A3 (j2 @Hb @c0) cn ?_;refine A7 @c0 ?_;refine A3 tT (CP 7 []) ?_;exact AI [(b,DF l q2)] @nT.eq_1
    ·rw[if_neg oO,if_neg oO,if_neg oO,if_neg oO]at hR;refine A7 @h ?_;refine A3 tT (CP 13 []) ?_;exact AI [(b,DF l r)] @nT.eq_1
    ·rw[if_neg oO,if_neg oO,if_pos h]at hR;obtain⟨s0,s1,hc⟩:=ht.arg (.inl h);have ha:t.args=[t.arg 0,t.arg 1]:=by rw[e];rfl
     have cx:=Dj (t.arg 0) (g) r s0 hg oO hr;have fx:=(hD (t.arg 0) (g) r s0 hg hr).1;generalize hex:DC l n (t.arg 0) (g) r=rx at cx fx hR;obtain⟨x,qx⟩:=rx;simp only at cx fx hR;have cy:=Dj (t.arg 1) (g) qx s1 hg oO fx;have fy:=(hD (t.arg 1) (g) qx s1 hg fx).1;generalize Sc:DC l n (t.arg 1) (g) qx=ry at cy fy hR;obtain⟨y,qy⟩:=ry;simp only at cy fy hR;refine A7 @h ?_;refine OL (j2 @Ed @ha) cx cy (CP 10 [x,y]) ?_;exact AI [(b,DF l qy)] @nT.eq_1
    ·rw[if_neg oO,if_neg oO,if_neg oO,if_pos h]at hR;obtain⟨s0,s1,hc⟩:=ht.arg (.inr h);have ha:t.args=[t.arg 0,t.arg 1]:=by rw[e];rfl
     have cx:=Dj (t.arg 1) (g++[t.arg 0]) r s1 (Bx [t.arg 0] (by simpa using s0)) (by simp;omega) hr;have fx:=(hD (t.arg 1) (g++[t.arg 0]) r s1 (Bx [t.arg 0] (by simpa using s0)) hr).1;generalize hex:DC l n (t.arg 1) (g++[t.arg 0]) r=rx at cx fx hR;obtain⟨x,qx⟩:=rx;simp only at cx fx hR;refine A7 @h ?_;refine OL (j2 @Ed @ha) (KD g [t.arg 0] (by simp;omega)) cx (EX 2 (t.arg 0) [x]) ?_;exact AI [(b,DF l qx)] tT
 ·rw[Pf]at hR;simp only at hR;obtain⟨h0,h1,k,i,hk,hi,rfl,rfl⟩:=Y8 Pf;have Dw:0<(ES g t).length:=oO;have Kj:0<(AW l p 3).1:=oO;have Hi:=IS (l:=YZ (ES g t)) (i:=k) (n:=i) (by simp[YZ,hi]);have hkl:=(uA hi).1;refine A4 ?_;refine A3 tT (QE g t oO) ?_;refine A4 ?_;refine A3 (j3 @IZ @Dw @Kj) (FJ b l p 3 dD oO) ?_;refine A7 @Kj ?_;refine EW (j3 @IZ @hk @Hi) (FJ b l (AW l p 3).2 (ES g t).length oO oO) (MN i) ?_;exact AI [(b,DF l (AW l (AW l p 3).2 (ES g t).length).2)] @vT.eq_1
theorem L8 (i:Int):cT gl 120 [A0 i] [] (vT i).dv []:=by
 refine A8 Tryz.func120 ?_;intro X hP u7 hf u9 hn hR u6 u5;refine A4 ?_;exact AT @vT.eq_1
theorem JV:cT gl 67 [] [] CE.dv []:=by
 refine A8 Tryz.func67 ?_;intro X hP u7 hf u9 hn hR u6 u5;refine A4 ?_;exact AT @CE.eq_1
theorem E1 (t:Ty)(hc:t.count<=2147483648):cT gl 35 [t.dv] [] (A0 t.checkN) []:=by
 refine A8 Tryz.func35 ?_;intro X hP u7 hf u9 hn hR u6 u5;refine A4 ?_;refine A3 tT (K9 t hc) ?_;refine A4 ?_;exact BR
theorem nF (t:Tm)(hc:t.count<=1073741824):cT gl 157 [t.dv] [] (A0 t.count) []:=by
 induction t using Tm.ind with
 | h t ih=>
 refine A8 Tryz.func157 ?_;intro X hP u7 hf u9 hn hR u6 u5;have Fu:=Tm.fit_len (u5 t.dv sS);have Et:=Tm.count_eq t;refine A4 ?_;refine BK ?_;refine GH [] (by simp[go_sem]) (by simp[go_sem,Tm.count.counts] <;> omega) (by simp[go_sem]) (FE (t.args) (fun done rest=>[sV 9 (A0 done.length),sV 8 (A0 t.args.length),sV 7 (.sl (t.args.map Tm.cells)),sV 3 (A0 (1+Tm.count.counts done:Nat)),sV 2 (A0 0)]) ?_ ?_)
 ·intro done x rest hL Aq Aa;have Ag:done.length<t.args.length:=by rw[hL];simp
  have Dd:=uE Aq;have Df:=Tm.counts_append done (x::rest);have Dp:=Tm.counts_append done [x];rw[<- hL]at Df;simp only[Tm.count.counts]at Df Dp;refine A2 ?_;refine AE ?_;refine A7 @Aq ?_;refine A3 @Aq (ih x Dd oO) ?_;refine CR (wr []) @Dp tT Aa
 ·refine A2 ?_;refine B6 ?_;refine A4 ?_;exact BD @Et
theorem nG (k:Int)(s:Ty)(l:List Tm)(hc:(Tm.mk k 0 s l).count<=1073741824):cT gl 119 [A0 k,s.dv,.sl (l.map Tm.cells)] [] (.tup [(IN k s l).1.dv,A0 (IN k s l).2]) []:=by
 refine A8 Tryz.func119 ?_;intro X hP u7 hf u9 hn hR u6 u5;have Rm:=Tm.fold_mk k 0 s l;refine A4 ?_;refine A3 @Rm (nF (Tm.mk k 0 s l) hc) ?_;by_cases h:4096<(Tm.mk k 0 s l).count
 ·refine A7 @h ?_;exact AT (j3 @IN.eq_1 @h @AA.eq_1)
 ·refine A7 @h ?_;exact AT (j2 @IN.eq_1 @h)
theorem vD (t:Tm)(f b:Int)(hs:t.shape=true)(hi:t.idx 549755813888)(Cx:0<=b)(Bt:b<=1048576)(Dl:0<=f)(Jy:f+t.count<=549755813888):cT gl 122 [t.dv,A0 f,A0 b] [] (t.upN f b).dv []:=by
 induction t using Tm.ind generalizing f with
 | h t ih=>
 have Dg:=Tm.count_eq t;have Vy:=z9p t.kind;have Nb:=(Tm.idx_eq t _).1 hi;obtain⟨Nc,-,-,-,Co⟩:=Tm.shape_node hs;refine A8 Tryz.func122 ?_;intro X hP u7 hf u9 hn hR u6 u5;have hlen:=Tm.fit_len (u5 t.dv sS);have Nw:=Tm.fold t;by_cases h0:b=0
 ·rw[h0,zga]at hR;refine A7 @h0 ?_;exact B9
 by_cases h1:t.kind=1
 ·have ha:t.args=[]:=by rw[h1]at Nc;simp[B5]at Nc;exact Nc
  rw[Tm.upN_eq,ha]at hR;by_cases h2:f<=t.index
  ·refine A7 (j3 @h0 @h1 @h2) ?_;refine IL ?_;simp[go_sem,hP,u7,hn,h1,h2,ha] <;> (try omega);all_goals exact t_f
  ·refine A7 (j3 @h0 @h1 @h2) ?_;refine IL ?_;simp[go_sem,hP,u7,hn,h1,h2,ha] <;> (try omega);all_goals exact t_f
 rw[Tm.upN_eq,if_neg (fun h=>h1 h.1)]at hR;apply tH [sV 36 (A0 0),sV 35 (A0 t.args.length),sV 34 (.sl (t.args.map Tm.cells)),sL 7 [.v (A0 t.kind),.v (A0 t.index),.v (A0 t.type.kind),.v (.sl (t.type.args.map Ty.cells)),.own 0 []],sP 7,sV 1 (A0 (f+JR t.kind)),sV 2 (A0 b),sL 6 [.v (A0 0),.v (A0 0),.v (A0 0),.own 0 [],.own 0 []],sP 6]
 ·intro Ac;by_cases h2:t.kind=2
  ·have hbi:JR 2=1:=rfl;refine A7 (j3 @h0 @h1 @h2) ?_;refine K0 ?_;refine AC [] (j2 @hbi @h2) Ac
  ·have hbi:JR t.kind=0:=by simp[JR,h2]
   refine A7 (j3 @h0 @h1 @h2) ?_;refine K0 ?_;refine AC [] (j2 @hbi @h2) Ac
 ·refine BK ?_;refine AC [(1007,0)] tT (FE (t.args) (fun done rest=>[sV 36 (A0 done.length),sV 35 (A0 t.args.length),sV 34 (.sl (t.args.map Tm.cells)),sL 7 [.v (A0 t.kind),.v (A0 t.index),.v (A0 t.type.kind),.v (.sl (t.type.args.map Ty.cells)),.own 1007 (done.map fun x=>(x.upN (f+JR t.kind) b).cells)],sP 7,(.tok 1007,.tk 5 done.length),sV 1 (A0 (f+JR t.kind)),sV 2 (A0 b),sL 6 [.v (A0 0),.v (A0 0),.v (A0 0),.own 0 [],.own 0 []],sP 6]) ?_ ?_)
  ·intro done x rest hL Aq Aa;have Ag:done.length<t.args.length:=by rw[hL];simp
   have Dd:=uE Aq;have Dp:=Tm.count_mem Dd;refine A2 ?_;refine AE ?_;refine A7 @Aq ?_;refine A3 @Aq (ih x Dd (f+JR t.kind) (Co x Dd) (Nb.2 x Dd) oO oO) ?_;refine CR (wr [(1007,47)]) (Tm.cells_eq (x.upN (f+JR t.kind) b)) tT Aa
  ·refine A2 ?_;refine B6 ?_;refine A4 ?_;refine IL ?_;simp[go_sem,hP,u7,hn] <;> (try omega);simp[Tm.dv,Tm.cells_eq,Tm.kind_mk,Tm.index_mk,Tm.type_mk,Tm.args_mk]
abbrev DE (e:Int):List DV:=[A0 e]
theorem A6 (e k:Int)(s:Ty)(l:List Tm):(AH e k s l).1.count<=4096:=by
 unfold AH IN;split
 ·split;· show 1+0<=4096;omega
  ·simp only;omega
 ·show 1+0<=4096;omega
end
section
def TyQ (t:Ty)(g:List Ty)(x:Tm):Prop:=∀(G:List T) (a:T),g=G.map T.ty->t=a.ty->∃F:C3 G.reverse->a.V,Dn G.reverse x a F
theorem PG {s t:Ty}{a:T}(h:Ty.mk 4 [s,t]=a.ty):∃S b,a = .fn S b/\s=S.ty/\t=b.ty:=by
 cases a with
 | fn S b=>simp[T.ty]at h;exact⟨S,b,rfl,h.1,h.2⟩
 | pair S b=>simp[T.ty]at h
 | nat=>simp[T.ty]at h
 | list=>simp[T.ty]at h
 | unit=>simp[T.ty]at h
theorem vE {s t:Ty}{a:T}(h:Ty.mk 3 [s,t]=a.ty):∃S b,a = .pair S b/\s=S.ty/\t=b.ty:=by
 cases a with
 | pair S b=>simp[T.ty]at h;exact⟨S,b,rfl,h.1,h.2⟩
 | fn S b=>simp[T.ty]at h
 | nat=>simp[T.ty]at h
 | list=>simp[T.ty]at h
 | unit=>simp[T.ty]at h
theorem SY {a:T}(h:Ty.mk 1 []=a.ty):a = .nat:=by cases a <;> simp[T.ty]at h ⊢
theorem bO {a:T}(h:Ty.mk 2 []=a.ty):a = .list:=by cases a <;> simp[T.ty]at h ⊢
theorem vF {a:T}(h:Ty.mk 5 []=a.ty):a = .unit:=by cases a <;> simp[T.ty]at h ⊢
theorem KE {s:Ty}(h:s.small):∃S:T,s=S.ty/\S.ok/\S.size<=15:=by
 obtain⟨S,rfl⟩:=T.of_shape s h.1;have:=h.2;rw[T.ty_count]at this;exact⟨S,rfl,by unfold T.ok;omega,this⟩
theorem zar (Γ:List T):∀n:Nat,∃F:C3 Γ->T.nat.V,Dn Γ (IU n) .nat F
 | 0=>⟨_,.zero⟩
 | n+1=>by
  obtain⟨F,h⟩:=zar Γ n;exact⟨_,.succ h⟩
theorem vG:DrawOK TyQ where
 var g i hi G a hg ht:=by
  subst hg;have hl:i<G.length:=by simpa using hi
  obtain⟨b,hb⟩:∃b,G[G.length - 1 - i]? = some b:=⟨_,uB oO⟩;have hv:HG (G.map T.ty) i=b.ty:=by
   unfold HG;rw[List.getD_eq_getElem?_getD,List.length_map,List.getElem?_map,hb];rfl
  have Lg:a=b:=T.ty_inj (by rw[<- ht,hv]);subst Lg;have hr:G.reverse[i]? = some a:=by rw[List.getElem?_reverse hl,hb]
  obtain⟨p,hp⟩:=At.of hr;exact⟨p,.var hp⟩
 num g n _ G a hg ht:=by
  obtain rfl:=SY ht;exact zar _ n
 app g s t f x hs ht hf hx G a hg Ei:=by
  obtain⟨S,rfl,-⟩:=KE hs;obtain⟨F,h1⟩:=hf G (.fn S a) hg (by rw[Ei];rfl);obtain⟨X,h2⟩:=hx G S hg rfl;exact⟨_,.app h1 h2⟩
 lam g s t x hs ht hx G a hg Ei:=by
  obtain⟨S,b,rfl,rfl,rfl⟩:=PG Ei;obtain⟨S',e,ho,-⟩:=KE hs;obtain rfl:=T.ty_inj e;have:=hx (G++[S]) b (by rw[hg,List.map_append];rfl) rfl;rw[List.reverse_append]at this;obtain⟨F,h1⟩:=this;exact⟨_,.lam ho h1⟩
 lam2 g s t r x hs ht hr hx G a hg Ei:=by
  obtain⟨S,b1,rfl,rfl,Cx⟩:=PG Ei;obtain⟨S2,b,rfl,rfl,rfl⟩:=PG Cx;obtain⟨_,e,ho,-⟩:=KE hs;obtain rfl:=T.ty_inj e;obtain⟨_,e,ho2,-⟩:=KE ht;obtain rfl:=T.ty_inj e;have:=hx (G++[S,S2]) b (by rw[hg,List.map_append];rfl) rfl;rw[List.reverse_append]at this;obtain⟨F,h1⟩:=this;exact⟨_,.lam ho (.lam ho2 h1)⟩
 lam3 g s t u r x hs ht hu hr hx G a hg Ei:=by
  obtain⟨S,b1,rfl,rfl,Cx⟩:=PG Ei;obtain⟨S2,b2,rfl,rfl,Bt⟩:=PG Cx;obtain⟨S3,b,rfl,rfl,rfl⟩:=PG Bt;obtain⟨_,e,ho,-⟩:=KE hs;obtain rfl:=T.ty_inj e;obtain⟨_,e,ho2,-⟩:=KE ht;obtain rfl:=T.ty_inj e;obtain⟨_,e,ho3,-⟩:=KE hu;obtain rfl:=T.ty_inj e;have:=hx (G++[S,S2,S3]) b (by rw[hg,List.map_append];rfl) rfl;rw[List.reverse_append]at this;obtain⟨F,h1⟩:=this;exact⟨_,.lam ho (.lam ho2 (.lam ho3 h1))⟩
 pair g s t x y hs ht hx hy G a hg Ei:=by
  obtain⟨S,b,rfl,rfl,rfl⟩:=vE Ei;obtain⟨F,h1⟩:=hx G S hg rfl;obtain⟨X,h2⟩:=hy G b hg rfl;exact⟨_,.pair h1 h2⟩
 fst g s t x hs ht hx G a hg Ei:=by
  obtain⟨S,rfl,-⟩:=KE ht;obtain⟨F,h1⟩:=hx G (.pair a S) hg (by rw[Ei];rfl);exact⟨_,.fst h1⟩
 snd g s t x hs ht hx G a hg Ei:=by
  obtain⟨S,rfl,-⟩:=KE hs;obtain⟨F,h1⟩:=hx G (.pair S a) hg (by rw[Ei];rfl);exact⟨_,.snd h1⟩
 rc g t x f n ht hx hf hn G a hg Ei:=by
  subst Ei;obtain⟨_,e,ho,-⟩:=KE ht;obtain rfl:=T.ty_inj e;obtain⟨B,h1⟩:=hx G a hg rfl;obtain⟨F,h2⟩:=hf G (.fn .nat (.fn a a)) hg rfl;obtain⟨N,h3⟩:=hn G .nat hg rfl;exact⟨_,.rc ho h1 h2 h3⟩
 fold g t x f n ht hx hf hn G a hg Ei:=by
  subst Ei;obtain⟨_,e,ho,-⟩:=KE ht;obtain rfl:=T.ty_inj e;obtain⟨B,h1⟩:=hx G a hg rfl;obtain⟨F,h2⟩:=hf G (.fn .nat (.fn .list (.fn a a))) hg rfl;obtain⟨N,h3⟩:=hn G .list hg rfl;exact⟨_,.fold ho h1 h2 h3⟩
 succ g x hx G a hg Ei:=by
  obtain rfl:=SY Ei;obtain⟨F,h1⟩:=hx G .nat hg rfl;exact⟨_,.succ h1⟩
 plus g x y hx hy G a hg Ei:=by
  obtain rfl:=SY Ei;obtain⟨F,h1⟩:=hx G .nat hg rfl;obtain⟨X,h2⟩:=hy G .nat hg rfl;exact⟨_,.app (.app (Q9 _) h1) h2⟩
 sub g x y hx hy G a hg Ei:=by
  obtain rfl:=SY Ei;obtain⟨F,h1⟩:=hx G .nat hg rfl;obtain⟨X,h2⟩:=hy G .nat hg rfl;exact⟨_,.app (.app (zn3 _) h1) h2⟩
 nil g G a hg Ei:=by
  obtain rfl:=bO Ei;exact⟨_,.nil⟩
 cons g x y hx hy G a hg Ei:=by
  obtain rfl:=bO Ei;obtain⟨F,h1⟩:=hx G .nat hg rfl;obtain⟨X,h2⟩:=hy G .list hg rfl;exact⟨_,.cons h1 h2⟩
 unit g G a hg Ei:=by
  obtain rfl:=vF Ei;exact⟨_,.unit⟩
theorem zas (l:List Int)(n:Nat){t:Ty}{g:List Ty}{p:Nat}(ht:t.small)(hg:∀x∈g,x.small)(hp:p<=l.length){G:List T}{a:T}(eg:g=G.map T.ty)(et:t=a.ty) :
  ∃F:C3 G.reverse->a.V,Dn G.reverse (DC l n t g p).1 a F:=(HV vG n t g p ht hg hp).2 G a eg et
inductive MV where
 | num (n:Nat)
 | list (l:List Nat)
 | both (a b:MV)
 | unit
 | clo (b:Tm) (e:List MV)
abbrev LT:=Tm->List MV->Option (MV × Nat)
def G6 (ev:LT):List Tm->List MV->Option (List MV × Nat)
 | [],_=>some ([],0)
 | t::r,e=>match ev t e with
  | none=>none
  | some (v,c)=>match G6 ev r e with
   | none=>none
   | some (l,c')=>some (v::l,c+c')
def EG (ev:LT):MV->List MV->Option (MV × Nat)
 | f,[]=>some (f,0)
 | .clo b e,a::r=>match ev b (a::e) with
  | none=>none
  | some (v,c)=>match EG ev v r with
   | none=>none
   | some (w,c')=>some (w,c+c')
 | _,_=>none
def QF (ev:LT)(f:MV):Nat->Nat->MV->Option (MV × Nat)
 | 0,_,r=>some (r,0)
 | n+1,k,r=>match EG ev f [.num k,r] with
  | none=>none
  | some (r',c)=>match QF ev f n (k+1) r' with
   | none=>none
   | some (w,c')=>some (w,c+c')
def G7 (ev:LT)(f:MV)(r:MV):List Nat->Option (MV × Nat)
 | []=>some (r,0)
 | x::l=>match G7 ev f r l with
  | none=>none
  | some (r',c)=>match EG ev f [.num x,.list l,r'] with
   | none=>none
   | some (w,c')=>some (w,c+c')
def VZ (ev:LT)(k:Int)(l:List MV):Option (MV × Nat):=
 if k=3 then match l with
  | [f,x]=>EG ev f [x]
  | _=>none
 else if k=4 then some (.num 0,0)
 else if k=5 then match l with
  | [.num n]=>some (.num (n+1),0)
  | _=>none
 else if k=6 then match l with
  | [b,f,.num n]=>QF ev f n 0 b
  | _=>none
 else if k=7 then some (.list [],0)
 else if k=8 then match l with
  | [.num n,.list m]=>some (.list (n::m),0)
  | _=>none
 else if k=9 then match l with
  | [b,f,.list m]=>G7 ev f b m
  | _=>none
 else if k=10 then match l with
  | [x,y]=>some (.both x y,0)
  | _=>none
 else if k=11 then match l with
  | [.both x _]=>some (x,0)
  | _=>none
 else if k=12 then match l with
  | [.both _ y]=>some (y,0)
  | _=>none
 else some (.unit,0)
theorem QG {α:Type}(b:α)(f:Nat->α->α):∀n:Nat,FT b f n=(List.range' 0 n).foldl (fun r i=>f i r) b
 | 0=>rfl
 | n+1=>by
  rw[List.range'_1_concat,List.foldl_append,<- QG b f n];simp[FT]
abbrev Rn:=Option (MV × Int × Bool)
abbrev RD:=Tm->List MV->Int->Rn
def fV:MV:=.num 0
def HJ (ev:RD)(f x:MV)(u:Int):Rn:=
 match f with
 | .clo b e=>ev b (x::e) u
 | _=>none
def G8 (ev:RD)(f:MV):Nat->Nat->MV->Int->Rn
 | 0,_,r,u=>some (r,u,false)
 | n+1,k,r,u=>match HJ ev f (.num k) u with
  | none=>none
  | some (_,u1,true)=>some (r,u1,true)
  | some (g,u1,false)=>match HJ ev g r u1 with
   | none=>none
   | some (r',u2,true)=>some (r',u2,true)
   | some (r',u2,false)=>G8 ev f n (k+1) r' u2
def EK (ev:RD)(f:MV):List Nat->List Nat->MV->Int->Rn
 | [],_,r,u=>some (r,u,false)
 | x::l,rest,r,u=>match HJ ev f (.num x) u with
  | none=>none
  | some (_,u1,true)=>some (r,u1,true)
  | some (g,u1,false)=>match HJ ev g (.list rest) u1 with
   | none=>none
   | some (_,u2,true)=>some (r,u2,true)
   | some (g2,u2,false)=>match HJ ev g2 r u2 with
    | none=>none
    | some (r',u3,true)=>some (r',u3,true)
    | some (r',u3,false)=>EK ev f l (x::rest) r' u3
def DR (ev:RD):List Tm->List MV->Int->Option (List MV × Int × Bool)
 | [],_,u=>some ([],u,false)
 | t::r,e,u=>match ev t e u with
  | none=>none
  | some (_,u1,true)=>some ([],u1,true)
  | some (v,u1,false)=>match DR ev r e u1 with
   | none=>none
   | some (l,u2,o)=>some (v::l,u2,o)
def MP (ev:RD)(k:Int)(l:List MV)(u:Int):Rn:=
 if k=3 then match l with
  | [f,x]=>HJ ev f x u
  | _=>none
 else if k=4 then some (.num 0,u,false)
 else if k=5 then match l with
  | [.num n]=>some (.num (n+1),u,false)
  | _=>none
 else if k=6 then match l with
  | [b,f,.num n]=>G8 ev f n 0 b u
  | _=>none
 else if k=7 then some (.list [],u,false)
 else if k=8 then match l with
  | [.num n,.list r]=>some (.list (n::r),u,false)
  | _=>none
 else if k=9 then match l with
  | [b,f,.list r]=>EK ev f r.reverse [] b u
  | _=>none
 else if k=10 then match l with
  | [a,b]=>some (.both a b,u,false)
  | _=>none
 else if k=11 then match l with
  | [.both a _]=>some (a,u,false)
  | _=>none
 else if k=12 then match l with
  | [.both _ b]=>some (b,u,false)
  | _=>none
 else some (.unit,u,false)
def OB (most:Int):Nat->RD
 | 0,_,_,_=>none
 | d+1,t,e,u=>
  if u=most then some (fV,u,true)
  else if t.kind=1 then if 0<=t.index then match e[t.index.toNat]? with
   | some v=>some (v,u+1,false)
   | none=>none
   else none
  else if t.kind=2 then match t.args with
   | b::_=>some (.clo b e,u+1,false)
   | []=>none
  else match DR (OB most d) t.args e (u+1) with
   | none=>none
   | some (_,u1,true)=>some (fV,u1,true)
   | some (l,u1,false)=>MP (OB most d) t.kind l u1
mutual
inductive MVT:(a:T)->MV->a.V->Prop
 | num (n:Nat):MVT .nat (.num n) n
 | list (l:List Nat):MVT .list (.list l) l
 | unit:MVT .unit .unit ()
 | both {a b:T} {x y:MV} {X:a.V} {Y:b.V} (hx:MVT a x X) (hy:MVT b y Y):MVT (.pair a b) (.both x y) (X,Y)
 | clo {Γ:List T} {a r:T} {b:Tm} {f:C3 (a::Γ)->r.V} {e:List MV} {ρ:C3 Γ} (he:MVE Γ e ρ) (hb:Dn (a::Γ) b r f):MVT (.fn a r) (.clo b e) (fun x=>f (x,ρ))
inductive MVE:(Γ:List T)->List MV->C3 Γ->Prop
 | nil:MVE [] [] ()
 | cons {Γ:List T} {a:T} {x:MV} {X:a.V} {e:List MV} {ρ:C3 Γ} (h:MVT a x X) (k:MVE Γ e ρ):MVE (a::Γ) (x::e) (X,ρ)
end
theorem MVE.get {Γ:List T}{i:Nat}{a:T}{p:C3 Γ->a.V}(h:At Γ i a p):∀{e:List MV} {ρ:C3 Γ},MVE Γ e ρ->∃x,e[i]? = some x/\MVT a x (p ρ):=by
 induction h with
 | zero=>intro e ρ he;cases he with|cons h k=>exact⟨_,rfl,h⟩
 | succ h ih=>intro e ρ he;cases he with|cons h k=>obtain⟨x,e1,e2⟩:=ih k;exact⟨x,by simpa using e1,e2⟩
theorem ZC {v:MV}{n:Nat}(h:MVT .nat v n):v = .num n:=by cases h;rfl
theorem bP {v:MV}{l:List Nat}(h:MVT .list v l):v = .list l:=by cases h;rfl
theorem bQ {a b:T}{v:MV}{p:(T.pair a b).V}(h:MVT (.pair a b) v p):∃x y,v = .both x y/\MVT a x p.1/\MVT b y p.2:=by
 cases h with|both hx hy=>exact⟨_,_,rfl,hx,hy⟩
theorem znj {a b:T}{v:MV}{f:(T.fn a b).V}(h:MVT (.fn a b) v f):∃(Γ:List T) (t:Tm) (e:List MV) (ρ:C3 Γ) (g:C3 (a::Γ)->b.V),v = .clo t e/\MVE Γ e ρ/\Dn (a::Γ) t b g/\f=fun x=>g (x,ρ):=by
 cases h with|clo he hb=>exact⟨_,_,_,_,_,rfl,he,hb,rfl⟩
def eA (most:Int)(P:MV->Prop)(u:Int)(r:Rn):Prop:=∃v u' o,r=some (v,u',o)/\u<=u'/\u'<=most/\(o=false->P v)
theorem eA.mono {most u u0:Int}{P Q:MV->Prop}{r:Rn}(h:eA most P u r)(hu:u0<=u)(hq:∀v,P v->Q v):eA most Q u0 r:=by
 obtain⟨v,u',o,h1,h2,h3,h4⟩:=h;exact⟨v,u',o,h1,oO,h3,fun h=>hq v (h4 h)⟩
def Evs (most:Int)(d:Nat)(ev:RD):Prop:=∀ ⦃Γ:List T⦄ ⦃t:Tm⦄ ⦃a:T⦄ ⦃F:C3 Γ->a.V⦄ ⦃e:List MV⦄ ⦃ρ:C3 Γ⦄ ⦃u:Int⦄,Dn Γ t a F->MVE Γ e ρ->u<=most->most - u<d->eA most (fun v=>MVT a v (F ρ)) u (ev t e u)
theorem I0 {most:Int}{d:Nat}{ev:RD}(H:Evs most d ev){a b:T}{f x:MV}{F:(T.fn a b).V}{X:a.V}(hf:MVT (.fn a b) f F)(hx:MVT a x X){u:Int}(hu:u<=most)(hd:most - u<d) :
  eA most (fun v=>MVT b v (F X)) u (HJ ev f x u):=by
 obtain⟨Γ,t,e,ρ,g,rfl,he,hb,rfl⟩:=znj hf;exact H hb (.cons hx he) hu hd
theorem bR {most:Int}{d:Nat}{ev:RD}(H:Evs most d ev){a:T}{f:MV}{F:(T.fn .nat (.fn a a)).V}(hf:MVT (.fn .nat (.fn a a)) f F):∀(n k:Nat) {r:MV} {R:a.V} {u:Int},MVT a r R->u<=most->most - u<d ->
  eA most (fun v=>MVT a v ((List.range' k n).foldl (fun r i=>F i r) R)) u (G8 ev f n k r u)
 | 0,k,r,R,u,hr,hu,hd=>⟨r,u,false,rfl,oO,hu,fun _=>hr⟩
 | n+1,k,r,R,u,hr,hu,hd=>by
  obtain⟨g,u1,o1,h1,l1,m1,q1⟩:=I0 H hf (.num k) hu hd;cases o1 with
  | true=>exact⟨r,u1,true,by rw[G8,h1],l1,m1,fun h=>by cases h⟩
  | false=>
   obtain⟨r',u2,o2,h2,l2,m2,q2⟩:=I0 H (q1 rfl) hr m1 oO;cases o2 with
   | true=>exact⟨r',u2,true,by rw[G8,h1];simp only[h2],oO,m2,fun h=>by cases h⟩
   | false=>
    have:=bR H hf n (k+1) (q2 rfl) m2 oO;have e:G8 ev f (n+1) k r u=G8 ev f n (k+1) r' u2:=by rw[G8,h1];simp only[h2]
    rw[e];exact this.mono oO fun v h=>h
theorem YA {most:Int}{d:Nat}{ev:RD}(H:Evs most d ev){a:T}{f:MV}{F:(T.fn .nat (.fn .list (.fn a a))).V}(hf:MVT (.fn .nat (.fn .list (.fn a a))) f F)(B:a.V):∀(l rest:List Nat) {r:MV} {u:Int},MVT a r (FK B F rest)->u<=most->most - u<d ->
  eA most (fun v=>MVT a v (FK B F (l.reverse++rest))) u (EK ev f l rest r u)
 | [],rest,r,u,hr,hu,hd=>⟨r,u,false,rfl,oO,hu,fun _=>hr⟩
 | x::l,rest,r,u,hr,hu,hd=>by
  obtain⟨g,u1,o1,h1,l1,m1,q1⟩:=I0 H hf (.num x) hu hd;cases o1 with
  | true=>exact⟨r,u1,true,by rw[EK,h1],l1,m1,fun h=>by cases h⟩
  | false=>
   obtain⟨g2,u2,o2,h2,l2,m2,q2⟩:=I0 H (q1 rfl) (.list rest) m1 oO;cases o2 with
   | true=>exact⟨r,u2,true,by rw[EK,h1];simp only[h2],oO,m2,fun h=>by cases h⟩
   | false=>
    obtain⟨r',u3,o3,h3,l3,m3,q3⟩:=I0 H (q2 rfl) hr m2 oO;cases o3 with
    | true=>exact⟨r',u3,true,by rw[EK,h1];simp only[h2,h3],oO,m3,fun h=>by cases h⟩
    | false=>
     have:=YA H hf B l (x::rest) (r:=r') (q3 rfl) m3 oO;have e:EK ev f (x::l) rest r u=EK ev f l (x::rest) r' u3:=by rw[EK,h1];simp only[h2,h3]
     rw[e];refine this.mono oO fun v h=>?_
     simpa using h
def bS:List MV->List (MV->Prop)->Prop
 | [],[]=>True
 | v::l,P::r=>P v/\bS l r
 | _,_=>False
theorem bT {most:Int}{ev:RD}{d:Nat}{e:List MV}:∀(l:List Tm) (Ps:List (MV->Prop)),l.length=Ps.length->(∀(i:Nat) (t:Tm) (P:MV->Prop),l[i]? = some t->Ps[i]? = some P->∀u:Int,u<=most->most - u<d->eA most P u (ev t e u))->∀{u:Int},u<=most->most - u<d ->
  ∃vs u' o,DR ev l e u=some (vs,u',o)/\u<=u'/\u'<=most/\(o=false->bS vs Ps)
 | [],[],_,_,u,hu,hd=>⟨[],u,false,rfl,oO,hu,fun _=>trivial⟩
 | [],_::_,hl,_,_,_,_=>by cases hl
 | _::_,[],hl,_,_,_,_=>by cases hl
 | t::l,P::Ps,hl,h,u,hu,hd=>by
  obtain⟨v,u1,o1,h1,l1,m1,q1⟩:=h 0 t P rfl rfl u hu hd;cases o1 with
  | true=>exact⟨[],u1,true,by rw[DR,h1],l1,m1,fun h=>by cases h⟩
  | false=>
   obtain⟨vs,u2,o2,h2,l2,m2,q2⟩:=bT l Ps (by simpa using hl) (fun i t P ht hP=>h (i+1) t P (by simpa using ht) (by simpa using hP)) m1 oO;exact⟨v::vs,u2,o2,by rw[DR,h1];simp only[h2],oO,m2,fun h=>⟨q1 rfl,q2 h⟩⟩
theorem I1 {most:Int}{d:Nat}{t:Tm}{e:List MV}{u:Int}(h1:t.kind≠1)(h2:t.kind≠2)(hu:u<=most)(Ps:List (MV->Prop))(hl:t.args.length=Ps.length){Q:MV->Prop}(hd:most - u<(d+1:Nat))
  (h:∀(i:Nat) (x:Tm) (P:MV->Prop),t.args[i]? = some x->Ps[i]? = some P->∀u:Int,u<=most->most - u<d->eA most P u (OB most d x e u))
  (hn:∀l u,bS l Ps->u<=most->most - u<d->eA most Q u (MP (OB most d) t.kind l u)):eA most Q u (OB most (d+1) t e u):=by
 rw[OB];by_cases Ca:u=most;· rw[if_pos Ca];exact⟨_,_,_,rfl,oO,hu,fun h=>by cases h⟩
 rw[if_neg Ca,if_neg h1,if_neg h2];obtain⟨vs,u1,o,e1,l1,m1,q1⟩:=bT (ev:=OB most d) (e:=e) (d:=d) t.args Ps hl h (u:=u+1) oO oO;rw[e1];cases o with
 | true=>exact⟨_,_,_,rfl,oO,m1,fun h=>by cases h⟩
 | false=>exact (hn vs u1 (q1 rfl) m1 oO).mono oO fun _ h=>h
theorem zat {l:List MV}{P:MV->Prop}(h:bS l [P]):∃x,l=[x]/\P x:=by
 match l,h with
 | [x],h=>exact⟨x,rfl,h.1⟩
theorem zau {l:List MV}{P Q:MV->Prop}(h:bS l [P,Q]):∃x y,l=[x,y]/\P x/\Q y:=by
 match l,h with
 | [x,y],h=>exact⟨x,y,rfl,h.1,h.2.1⟩
theorem zj5 {l:List MV}{P Q R:MV->Prop}(h:bS l [P,Q,R]):∃x y z,l=[x,y,z]/\P x/\Q y/\R z:=by
 match l,h with
 | [x,y,z],h=>exact⟨x,y,z,rfl,h.1,h.2.1,h.2.2.1⟩
theorem zav {l:List MV}(h:bS l []):l=[]:=by
 match l,h with
 | [],_=>rfl
theorem at1 {x:Tm}{P:MV->Prop}{S:Tm->(MV->Prop)->Prop}(h:S x P):∀(i:Nat) (y:Tm) (Q:MV->Prop),([x]:List Tm)[i]? = some y->([P]:List (MV->Prop))[i]? = some Q->S y Q:=by
 intro i y Q h1 h2
 match i with
 | 0=>simp at h1 h2;subst h1;subst h2;exact h
 | i+1=>simp at h1
theorem at2 {x y:Tm}{P Q:MV->Prop}{S:Tm->(MV->Prop)->Prop}(h:S x P)(k:S y Q):∀(i:Nat) (z:Tm) (R:MV->Prop),([x,y]:List Tm)[i]? = some z->([P,Q]:List (MV->Prop))[i]? = some R->S z R:=by
 intro i z R h1 h2
 match i with
 | 0=>simp at h1 h2;subst h1;subst h2;exact h
 | 1=>simp at h1 h2;subst h1;subst h2;exact k
 | i+2=>simp at h1
theorem zqq {x y w:Tm}{P Q P':MV->Prop}{S:Tm->(MV->Prop)->Prop}(h:S x P)(k:S y Q)(j:S w P'):∀(i:Nat) (z:Tm) (R:MV->Prop),([x,y,w]:List Tm)[i]? = some z->([P,Q,P']:List (MV->Prop))[i]? = some R->S z R:=by
 intro i z R h1 h2
 match i with
 | 0=>simp at h1 h2;subst h1;subst h2;exact h
 | 1=>simp at h1 h2;subst h1;subst h2;exact k
 | 2=>simp at h1 h2;subst h1;subst h2;exact j
 | i+3=>simp at h1
theorem OC {most u:Int}{P:MV->Prop}{v:MV}(hu:u<=most)(h:P v):eA most P u (some (v,u,false)):=⟨v,u,false,rfl,oO,hu,fun _=>h⟩
theorem vH (most:Int):∀d:Nat,Evs most d (OB most d)
 | 0=>fun Γ t a F e ρ u h he hu hd=>absurd hd oO
 | d+1=>fun Γ t a F e ρ u h he hu hd=>by
  have H:=@vH most d;cases h with
  | var h=>
   obtain⟨x,e1,e2⟩:=MVE.get h he;rw[OB];by_cases Ca:u=most;· rw[if_pos Ca];exact⟨_,_,_,rfl,oO,hu,fun h=>by cases h⟩
   rw[if_neg Ca,if_pos (show (vT _).kind=1 from rfl),if_pos (show 0<=(vT (↑(_:Nat))).index from Int.natCast_nonneg _)];have:e[(vT (↑(_:Nat))).index.toNat]? = some x:=e1;rw[this];exact⟨x,u+1,false,rfl,oO,oO,fun _=>e2⟩
  | lam ha hb=>
   rw[OB];by_cases Ca:u=most;· rw[if_pos Ca];exact⟨_,_,_,rfl,oO,hu,fun h=>by cases h⟩
   rw[if_neg Ca,if_neg (by simp[AY,Tm.kind]),if_pos (show (AY _ _).kind=2 from rfl)];exact⟨_,u+1,false,rfl,oO,oO,fun _=>.clo he hb⟩
  | app hf hx=>
   refine I1 (by simp[nT,Tm.kind]) (by simp[nT,Tm.kind]) hu [_,_] rfl hd (at2 (S:=fun x P=>∀u:Int,u<=most->most - u<d->eA most P u (OB most d x e u)) (fun u hu hd=>H hf he hu hd) (fun u hu hd=>H hx he hu hd)) fun l u hl hu hd=>?_;obtain⟨f,x,rfl,h1,h2⟩:=zau hl;exact I0 H h1 h2 hu hd
  | zero=>
   refine I1 (by simp[nT,Tm.kind]) (by simp[nT,Tm.kind]) hu [] rfl hd (by intro i x P h;simp[nT,Tm.args]at h) fun l u hl hu hd=>?_;obtain rfl:=zav hl;exact OC hu (.num 0)
  | succ hx=>
   refine I1 (by simp[nT,Tm.kind]) (by simp[nT,Tm.kind]) hu [_] rfl hd (at1 (S:=fun x P=>∀u:Int,u<=most->most - u<d->eA most P u (OB most d x e u)) (fun u hu hd=>H hx he hu hd)) fun l u hl hu hd=>?_;obtain⟨x,rfl,h1⟩:=zat hl;obtain rfl:=ZC h1;exact OC hu (.num _)
  | rc ha hb hf hn=>
   refine I1 (by simp[Tm.kind]) (by simp[Tm.kind]) hu [_,_,_] rfl hd (zqq (S:=fun x P=>∀u:Int,u<=most->most - u<d->eA most P u (OB most d x e u)) (fun u hu hd=>H hb he hu hd) (fun u hu hd=>H hf he hu hd) (fun u hu hd=>H hn he hu hd)) fun l u hl hu hd=>?_;obtain⟨b,f,n,rfl,h1,h2,h3⟩:=zj5 hl;obtain rfl:=ZC h3;refine (bR H h2 _ 0 h1 hu hd).mono oO fun v hv=>?_;exact Eq.mpr (congrArg (MVT _ v) (QG _ _ _)) hv
  | nil=>
   refine I1 (by simp[nT,Tm.kind]) (by simp[nT,Tm.kind]) hu [] rfl hd (by intro i x P h;simp[nT,Tm.args]at h) fun l u hl hu hd=>?_;obtain rfl:=zav hl;exact OC hu (.list [])
  | cons hx hl=>
   refine I1 (by simp[nT,Tm.kind]) (by simp[nT,Tm.kind]) hu [_,_] rfl hd (at2 (S:=fun x P=>∀u:Int,u<=most->most - u<d->eA most P u (OB most d x e u)) (fun u hu hd=>H hx he hu hd) (fun u hu hd=>H hl he hu hd)) fun l u hl hu hd=>?_;obtain⟨f,x,rfl,h1,h2⟩:=zau hl;obtain rfl:=ZC h1;obtain rfl:=bP h2;exact OC hu (.list _)
  | fold ha hb hf hn=>
   refine I1 (by simp[Tm.kind]) (by simp[Tm.kind]) hu [_,_,_] rfl hd (zqq (S:=fun x P=>∀u:Int,u<=most->most - u<d->eA most P u (OB most d x e u)) (fun u hu hd=>H hb he hu hd) (fun u hu hd=>H hf he hu hd) (fun u hu hd=>H hn he hu hd)) fun l u hl hu hd=>?_;obtain⟨b,f,n,rfl,h1,h2,h3⟩:=zj5 hl;obtain rfl:=bP h3;have key:=fun L:List Nat=>YA H h2 _ L.reverse [] h1 hu hd;simp only[List.reverse_reverse,List.append_nil]at key;exact key _
  | pair hx hy=>
   refine I1 (by simp[nT,Tm.kind]) (by simp[nT,Tm.kind]) hu [_,_] rfl hd (at2 (S:=fun x P=>∀u:Int,u<=most->most - u<d->eA most P u (OB most d x e u)) (fun u hu hd=>H hx he hu hd) (fun u hu hd=>H hy he hu hd)) fun l u hl hu hd=>?_;obtain⟨f,x,rfl,h1,h2⟩:=zau hl;exact OC hu (.both h1 h2)
  | fst hx=>
   refine I1 (by simp[nT,Tm.kind]) (by simp[nT,Tm.kind]) hu [_] rfl hd (at1 (S:=fun x P=>∀u:Int,u<=most->most - u<d->eA most P u (OB most d x e u)) (fun u hu hd=>H hx he hu hd)) fun l u hl hu hd=>?_;obtain⟨x,rfl,h1⟩:=zat hl;obtain⟨p,q,rfl,h2,h3⟩:=bQ h1;exact OC hu h2
  | snd hx=>
   refine I1 (by simp[nT,Tm.kind]) (by simp[nT,Tm.kind]) hu [_] rfl hd (at1 (S:=fun x P=>∀u:Int,u<=most->most - u<d->eA most P u (OB most d x e u)) (fun u hu hd=>H hx he hu hd)) fun l u hl hu hd=>?_;obtain⟨x,rfl,h1⟩:=zat hl;obtain⟨p,q,rfl,h2,h3⟩:=bQ h1;exact OC hu h3
  | unit=>
   refine I1 (by simp[nT,Tm.kind]) (by simp[nT,Tm.kind]) hu [] rfl hd (by intro i x P h;simp[nT,Tm.args]at h) fun l u hl hu hd=>?_;obtain rfl:=zav hl;exact OC hu .unit
mutual
def MV.le (n:Int):MV->Prop
 | .num k=>(k:Int)<=n
 | .list l=>(l.length:Int)<=n/\∀x∈l,(x:Int)<=n
 | .both a b=>MV.le n a/\MV.le n b
 | .unit=>True
 | .clo _ e=>(e.length:Int)<=n/\MV.les n e
def MV.les (n:Int):List MV->Prop
 | []=>True
 | x::r=>MV.le n x/\MV.les n r
end
theorem MV.les_iff {n:Int}:∀{l:List MV},MV.les n l↔∀x∈l,x.le n
 | []=>by simp[MV.les]
 | x::r=>by simp[MV.les,MV.les_iff (l:=r)]
mutual
theorem MV.le_mono {n m:Int}(h:n<=m):∀{v:MV},v.le n->v.le m
 | .num k,hv=>by simp only[MV.le]at hv ⊢;omega
 | .list l,hv=>by
  simp only[MV.le]at hv ⊢;exact⟨oO,fun x hx=>by have:=hv.2 x hx;omega⟩
 | .both a b,hv=>by
  simp only[MV.le]at hv ⊢;exact⟨MV.le_mono h hv.1,MV.le_mono h hv.2⟩
 | .unit,_=>by simp only[MV.le]
 | .clo b e,hv=>by
  simp only[MV.le]at hv ⊢;exact⟨oO,MV.les_mono h hv.2⟩
theorem MV.les_mono {n m:Int}(h:n<=m):∀{l:List MV},MV.les n l->MV.les m l
 | [],_=>by simp only[MV.les]
 | x::r,hv=>by
  simp only[MV.les]at hv ⊢;exact⟨MV.le_mono h hv.1,MV.les_mono h hv.2⟩
end
def Bds (most:Int)(ev:RD):Prop:=∀ ⦃t:Tm⦄ ⦃e:List MV⦄ ⦃u M:Int⦄ ⦃v:MV⦄ ⦃u':Int⦄ ⦃o:Bool⦄,ev t e u=some (v,u',o)->u<=most->0<=M->MV.les M e->(e.length:Int)<=M+1->u<=u'/\u'<=most/\v.le (M+(u' - u))
theorem C6 {most:Int}{ev:RD}(H:Bds most ev){f x:MV}{u M:Int}{v:MV}{u':Int}{o:Bool}(h:HJ ev f x u=some (v,u',o))(hu:u<=most)(hM:0<=M)(hf:f.le M)(hx:x.le M):u<=u'/\u'<=most/\v.le (M+(u' - u)):=by
 cases f with
 | clo b e=>
  simp only[MV.le]at hf;exact H h hu hM (by simp only[MV.les];exact⟨hx,hf.2⟩) (by simp only[List.length_cons];omega)
 | num n=>cases h
 | list l=>cases h
 | both a b=>cases h
 | unit=>cases h
theorem fX {most:Int}{ev:RD}(H:Bds most ev){f:MV}:∀(n k:Nat) {r:MV} {u M:Int} {v:MV} {u':Int} {o:Bool},G8 ev f n k r u=some (v,u',o)->u<=most->0<=M->f.le M->r.le M->((n:Int)+k<=M)->u<=u'/\u'<=most/\v.le (M+(u' - u))
 | 0,k,r,u,M,v,u',o,h,hu,hM,hf,hr,hk=>by
  simp only[G8,uC,uD]at h;obtain⟨rfl,rfl,rfl⟩:=h;exact⟨oO,oO,MV.le_mono oO hr⟩
 | n+1,k,r,u,M,v,u',o,h,hu,hM,hf,hr,hk=>by
  simp only[G8]at h;split at h;· cases h
  ·rename_i u1 h1;obtain⟨l1,m1,b1⟩:=C6 H h1 hu hM hf (by simp only[MV.le];omega);simp only[uC,uD]at h;obtain⟨rfl,rfl,rfl⟩:=h;exact⟨l1,m1,MV.le_mono oO hr⟩
  ·rename_i g u1 h1;obtain⟨l1,m1,b1⟩:=C6 H h1 hu hM hf (by simp only[MV.le];omega);split at h;· cases h
   ·rename_i r' u2 h2;obtain⟨l2,m2,b2⟩:=C6 H h2 m1 oO b1 (MV.le_mono oO hr);simp only[uC,uD]at h;obtain⟨rfl,rfl,rfl⟩:=h;exact⟨oO,oO,MV.le_mono oO b2⟩
   ·rename_i r' u2 h2;obtain⟨l2,m2,b2⟩:=C6 H h2 m1 oO b1 (MV.le_mono oO hr);obtain⟨l3,m3,b3⟩:=fX H n (k+1) h m2 (M:=M+(u2 - u)) oO (MV.le_mono oO hf) (MV.le_mono oO b2) oO;exact⟨oO,oO,MV.le_mono oO b3⟩
theorem bU {most:Int}{ev:RD}(H:Bds most ev){f:MV}:∀(l rest:List Nat) {r:MV} {u M:Int} {v:MV} {u':Int} {o:Bool},EK ev f l rest r u=some (v,u',o)->u<=most->0<=M->f.le M->r.le M->((l.length:Int)+rest.length<=M)->(∀x∈l,(x:Int)<=M)->(∀x∈rest,(x:Int)<=M)->u<=u'/\u'<=most/\v.le (M+(u' - u))
 | [],rest,r,u,M,v,u',o,h,hu,hM,hf,hr,hk,_,_=>by
  simp only[EK,uC,uD]at h;obtain⟨rfl,rfl,rfl⟩:=h;exact⟨oO,oO,MV.le_mono oO hr⟩
 | x::l,rest,r,u,M,v,u',o,h,hu,hM,hf,hr,hk,hl,Ac=>by
  have hx:=hl x sS;have hlen:((x::l).length:Int)=l.length+1:=sS;simp only[EK]at h;split at h;· cases h
  ·rename_i u1 h1;obtain⟨l1,m1,b1⟩:=C6 H h1 hu hM hf (by simp only[MV.le];omega);simp only[uC,uD]at h;obtain⟨rfl,rfl,rfl⟩:=h;exact⟨l1,m1,MV.le_mono oO hr⟩
  ·rename_i g u1 h1;obtain⟨l1,m1,b1⟩:=C6 H h1 hu hM hf (by simp only[MV.le];omega);split at h;· cases h
   ·rename_i u2 h2;obtain⟨l2,m2,b2⟩:=C6 H h2 m1 oO b1 (by simp only[MV.le];exact⟨oO,fun y hy=>by have:=Ac y hy;omega⟩);simp only[uC,uD]at h;obtain⟨rfl,rfl,rfl⟩:=h;exact⟨oO,oO,MV.le_mono oO hr⟩
   ·rename_i g2 u2 h2;obtain⟨l2,m2,b2⟩:=C6 H h2 m1 oO b1 (by simp only[MV.le];exact⟨oO,fun y hy=>by have:=Ac y hy;omega⟩);split at h;· cases h
    ·rename_i r' u3 h3;obtain⟨l3,m3,b3⟩:=C6 H h3 m2 oO b2 (MV.le_mono oO hr);simp only[uC,uD]at h;obtain⟨rfl,rfl,rfl⟩:=h;exact⟨oO,oO,MV.le_mono oO b3⟩
    ·rename_i r' u3 h3;obtain⟨l3,m3,b3⟩:=C6 H h3 m2 oO b2 (MV.le_mono oO hr)
     obtain⟨l4,m4,b4⟩:=bU H l (x::rest) h m3 (M:=M+(u3 - u)) oO (MV.le_mono oO hf) (MV.le_mono oO b3) (by simp only[List.length_cons];omega)
      (fun y hy=>by have:=hl y (by simp[hy]);omega) (fun y hy=>by rcases List.mem_cons.1 hy with rfl|hy;omega;have:=Ac y hy;omega)
     exact⟨oO,oO,MV.le_mono oO b4⟩
theorem PH {most:Int}{ev:RD}(H:Bds most ev){e:List MV}:∀(l:List Tm) {u M:Int} {vs:List MV} {u':Int} {o:Bool},DR ev l e u=some (vs,u',o)->u<=most->0<=M->MV.les M e->(e.length:Int)<=M+1->u<=u'/\u'<=most/\MV.les (M+(u' - u)) vs
 | [],u,M,vs,u',o,h,hu,hM,he,hl=>by
  simp only[DR,uC,uD]at h;obtain⟨rfl,rfl,rfl⟩:=h;exact⟨oO,oO,by simp only[MV.les]⟩
 | t::r,u,M,vs,u',o,h,hu,hM,he,hl=>by
  simp only[DR]at h;split at h;· cases h
  ·rename_i u1 h1;obtain⟨l1,m1,b1⟩:=H h1 hu hM he hl;simp only[uC,uD]at h;obtain⟨rfl,rfl,rfl⟩:=h;exact⟨oO,oO,by simp only[MV.les]⟩
  ·rename_i v1 u1 h1;obtain⟨l1,m1,b1⟩:=H h1 hu hM he hl;split at h;· cases h
   ·rename_i vs2 u2 o2 h2;obtain⟨l2,m2,b2⟩:=PH H r h2 m1 (M:=M+(u1 - u)) oO (MV.les_mono oO he) oO;simp only[uC,uD]at h;obtain⟨rfl,rfl,rfl⟩:=h;exact⟨oO,oO,by simp only[MV.les];exact⟨MV.le_mono oO b1,MV.les_mono oO b2⟩⟩
theorem vI {most:Int}{ev:RD}(H:Bds most ev){k:Int}{l:List MV}{u M:Int}{v:MV}{u':Int}{o:Bool}(h:MP ev k l u=some (v,u',o))(hu:u<=most)(hM:0<=M)(hl:MV.les M l):u<=u'/\u'<=most/\v.le (M+1+(u' - u)):=by
 unfold MP at h;split at h
 ·split at h
  ·simp only[MV.les]at hl;obtain⟨l1,m1,b1⟩:=C6 H h hu hM hl.1 hl.2.1;exact⟨l1,m1,MV.le_mono oO b1⟩
  ·cases h
 split at h
 ·simp only[uC,uD]at h;obtain⟨rfl,rfl,rfl⟩:=h;exact⟨oO,oO,by simp only[MV.le];omega⟩
 split at h
 ·split at h
  ·simp only[MV.les,MV.le]at hl;simp only[uC,uD]at h;obtain⟨rfl,rfl,rfl⟩:=h;exact⟨oO,oO,by simp only[MV.le];omega⟩
  ·cases h
 split at h
 ·split at h
  ·simp only[MV.les]at hl;obtain⟨a1,a2,a3,-⟩:=hl;simp only[MV.le]at a3;obtain⟨l1,m1,b1⟩:=fX H _ 0 h hu hM a2 a1 oO;exact⟨l1,m1,MV.le_mono oO b1⟩
  ·cases h
 split at h
 ·simp only[uC,uD]at h;obtain⟨rfl,rfl,rfl⟩:=h;exact⟨oO,oO,by simp only[MV.le];exact⟨by simp only[List.length_nil];omega,fun x hx=>by cases hx⟩⟩
 split at h
 ·split at h
  ·simp only[MV.les,MV.le]at hl;obtain⟨a1,⟨a2,a3⟩,-⟩:=hl;simp only[uC,uD]at h;obtain⟨rfl,rfl,rfl⟩:=h;exact⟨oO,oO,by simp only[MV.le];exact⟨by simp only[List.length_cons];omega,fun x hx=>by rcases List.mem_cons.1 hx with rfl|hx;omega;have:=a3 x hx;omega⟩⟩
  ·cases h
 split at h
 ·split at h
  ·simp only[MV.les]at hl;obtain⟨a1,a2,a3,-⟩:=hl;simp only[MV.le]at a3;obtain⟨l1,m1,b1⟩:=bU H _ [] h hu hM a2 a1 (by simp only[List.length_reverse,List.length_nil];omega) (fun x hx=>a3.2 x (by simpa using hx)) (fun x hx=>by cases hx);exact⟨l1,m1,MV.le_mono oO b1⟩
  ·cases h
 split at h
 ·split at h
  ·simp only[MV.les]at hl;simp only[uC,uD]at h;obtain⟨rfl,rfl,rfl⟩:=h;exact⟨oO,oO,by simp only[MV.le];exact⟨MV.le_mono oO hl.1,MV.le_mono oO hl.2.1⟩⟩
  ·cases h
 split at h
 ·split at h
  ·simp only[MV.les,MV.le]at hl;simp only[uC,uD]at h;obtain⟨rfl,rfl,rfl⟩:=h;exact⟨oO,oO,MV.le_mono oO hl.1.1⟩
  ·cases h
 split at h
 ·split at h
  ·simp only[MV.les,MV.le]at hl;simp only[uC,uD]at h;obtain⟨rfl,rfl,rfl⟩:=h;exact⟨oO,oO,MV.le_mono oO hl.1.2⟩
  ·cases h
 ·simp only[uC,uD]at h;obtain⟨rfl,rfl,rfl⟩:=h;exact⟨oO,oO,by simp only[MV.le]⟩
theorem vJ (most:Int):∀d:Nat,Bds most (OB most d)
 | 0=>fun t e u M v u' o h=>by cases h
 | d+1=>fun t e u M v u' o h hu hM he hl=>by
  have H:=@vJ most d;rw[OB]at h;split at h
  ·simp only[uC,uD]at h;obtain⟨rfl,rfl,rfl⟩:=h;exact⟨oO,oO,by simp only[fV,MV.le];omega⟩
  split at h
  ·split at h
   ·split at h
    ·rename_i v1 hv;simp only[uC,uD]at h;obtain⟨rfl,rfl,rfl⟩:=h;exact⟨oO,oO,MV.le_mono oO (MV.les_iff.1 he _ (uE hv))⟩
    ·cases h
   ·cases h
  split at h
  ·split at h
   ·simp only[uC,uD]at h;obtain⟨rfl,rfl,rfl⟩:=h;exact⟨oO,oO,by simp only[MV.le];exact⟨oO,MV.les_mono oO he⟩⟩
   ·cases h
  split at h;· cases h
  ·rename_i u1 h1;obtain⟨l1,m1,b1⟩:=PH H _ h1 oO hM he hl;simp only[uC,uD]at h;obtain⟨rfl,rfl,rfl⟩:=h;exact⟨oO,oO,by simp only[fV,MV.le];omega⟩
  ·rename_i vs u1 h1;obtain⟨l1,m1,b1⟩:=PH H _ h1 oO hM he hl;obtain⟨l2,m2,b2⟩:=vI H h m1 oO b1;exact⟨oO,oO,MV.le_mono oO b2⟩
end
section
variable {gl:AF}
mutual
def MV.cells:MV->List DV
 | .num n=>[A0 (n:Int),.sl [],.sl [],A0 0,A0 0,A0 0,.sl [],.sl [],.sl []]
 | .list l=>[A0 0,.sl (AP (l.map Int.ofNat)),.sl [],A0 0,A0 0,A0 0,.sl [],.sl [],.sl []]
 | .both a b=>[A0 0,.sl [],.sl [MV.cells a,MV.cells b],A0 0,A0 0,A0 0,.sl [],.sl [],.sl []]
 | .unit=>[A0 0,.sl [],.sl [],A0 0,A0 0,A0 0,.sl [],.sl [],.sl []]
 | .clo b e=>[A0 0,.sl [],.sl [],A0 b.kind,A0 b.index,A0 b.type.kind,.sl (List.map Ty.cells b.type.args),.sl (List.map Tm.cells b.args),.sl (MV.cellss e).reverse]
def MV.cellss:List MV->List (List DV)
 | []=>[]
 | x::r=>MV.cells x::MV.cellss r
end
namespace MV
theorem cellss_map:∀l:List MV,cellss l=l.map cells
 | []=>rfl
 | x::r=>by simp only[cellss,List.map_cons,cellss_map r]
def numF:MV->Int | .num n=>n|_=>0
def listF:MV->List Int | .list l=>l.map Int.ofNat|_=>[]
def pairF:MV->List MV | .both a b=>[a,b]|_=>[]
def bodyF:MV->Tm | .clo b _=>b|_=>AA
def envF:MV->List MV | .clo _ e=>e.reverse|_=>[]
theorem cells_eq (v:MV):v.cells=[A0 v.numF,.sl (AP v.listF),.sl (v.pairF.map cells),A0 v.bodyF.kind,A0 v.bodyF.index,A0 v.bodyF.type.kind,.sl (v.bodyF.type.args.map Ty.cells),.sl (v.bodyF.args.map Tm.cells),.sl (v.envF.map cells)]:=by
 cases v with
 | num n=>rfl
 | list l=>rfl
 | both a b=>simp only[cells,numF,listF,pairF,bodyF,envF];rfl
 | unit=>rfl
 | clo b e=>simp only[cells,numF,listF,pairF,bodyF,envF,cellss_map,List.map_reverse];rfl
def dv (v:MV):DV:=.agg v.cells
theorem fold (v:MV):DV.agg [A0 v.numF,.sl (AP v.listF),.sl (v.pairF.map cells),A0 v.bodyF.kind,A0 v.bodyF.index,A0 v.bodyF.type.kind,.sl (v.bodyF.type.args.map Ty.cells),.sl (v.bodyF.args.map Tm.cells),.sl (v.envF.map cells)]=v.dv:=by rw[dv,cells_eq]
theorem cellsD_dv (v:MV):D6 v.dv=[A0 v.numF,.sl (AP v.listF),.sl (v.pairF.map cells),A0 v.bodyF.kind,A0 v.bodyF.index,A0 v.bodyF.type.kind,.sl (v.bodyF.type.args.map Ty.cells),.sl (v.bodyF.args.map Tm.cells),.sl (v.envF.map cells)]:=by rw[dv,D6,cells_eq]
theorem isCell_dv (v:MV):v.dv.isCell=false:=rfl
theorem isAgg_dv (v:MV):v.dv.isAgg=true:=rfl
theorem length_cells (v:MV):v.cells.length=9:=by rw[cells_eq];rfl
theorem wide (l:List MV):(∀e∈List.map cells l,e.length=9)=True:=by simp[length_cells]
theorem numF_num (n:Nat):(MV.num n).numF=n:=rfl
theorem listF_list (l:List Nat):(MV.list l).listF=l.map Int.ofNat:=rfl
theorem pairF_both (a b:MV):(MV.both a b).pairF=[a,b]:=rfl
theorem bodyF_clo (b:Tm)(e:List MV):(MV.clo b e).bodyF=b:=rfl
theorem envF_clo (b:Tm)(e:List MV):(MV.clo b e).envF=e.reverse:=rfl
end MV
attribute [go_sem] MV.cells_eq MV.fold MV.cellsD_dv MV.isCell_dv MV.isAgg_dv MV.wide MV.numF_num MV.listF_list MV.pairF_both MV.bodyF_clo MV.envF_clo
def KT (u most:Int)(o:Bool):List DV:=[A0 u,A0 most,AK o]
def yS (P:Program)(gl:AF)(fe:FuncId)(most:Int)(ev:RD):Prop:=
 ∀ ⦃t:Tm⦄ ⦃e:List MV⦄ ⦃u:Int⦄ ⦃v:MV⦄ ⦃u':Int⦄ ⦃o:Bool⦄ (b:Nat) (M:Int),ev t e u=some (v,u',o)->0<=u->u<=most->0<=M->M+(most - u)<=1073741824->MV.les M e->(e.length:Int)<=M+1 ->
  U8 P gl fe [BC b,t.dv,.sl (e.reverse.map MV.cells)] [(b,KT u most false)] v.dv [(b,KT u' most o)]
theorem G9 {most:Int}(hm:most<=1073741824){ev:RD}(H:yS Tryz.prog gl 146 most ev){f x v:MV}{u u':Int}{o:Bool}(b:Nat)(M:Int)
  (h:HJ ev f x u=some (v,u',o)) (Sm:0<=u) (hu:u<=most) (hM:0<=M) (hMb:M+(most - u)<=1073741824) (hf:f.le M) (hx:x.le M) :
  cT gl 147 [BC b,f.dv,x.dv] [(b,KT u most false)] v.dv [(b,KT u' most o)]:=by
 cases f with
 | num n=>cases h
 | list l=>cases h
 | both a b=>cases h
 | unit=>cases h
 | clo body e=>
  simp only[MV.le]at hf;have w:=H (e:=x::e) b M h Sm hu hM hMb (by simp only[MV.les];exact⟨hx,hf.2⟩) (by simp only[List.length_cons];omega);have Bi:=MV.cells_eq x;have Av:=Tm.fold body;have hbF:(MV.clo body e).bodyF=body:=rfl;have heF:(MV.clo body e).envF=e.reverse:=rfl;have hl:(e.reverse.length:Int)<=M:=by rw[List.length_reverse];exact hf.1
  have Nq:List.take e.reverse.length (e.reverse.map MV.cells)=e.reverse.map MV.cells:=List.take_of_length_le sS;rw[List.reverse_cons,List.map_append]at w;generalize e.reverse=r at *;generalize MV.clo body e=f at *;unfold KT at *;refine A8 Tryz.func147 ?_;intro X hP u7 hf u9 hn hR u6 u5;refine A4 ?_;refine A3 (j5 @Av @hbF @heF @Nq @Bi) w ?_;exact AI [(b,[A0 u',A0 most,AK o])] tT
end
section
variable {gl:AF}
def T.level:T->Nat
 | .pair a b=>Nat.max a.level b.level
 | .fn a b=>Nat.max (a.level+1) b.level
 | _=>0
theorem T.level_le (a:T):a.level<a.size:=by
 induction a with
 | nat=>decide
 | list=>decide
 | unit=>decide
 | pair a b Fq Cu=>
  simp only[T.level,T.size,Nat.max_def];split <;> omega
 | fn a b Fq Cu=>
  simp only[T.level,T.size,Nat.max_def];split <;> omega
theorem T.level_plain (a:T):a.level=0↔a.plain:=by
 induction a with
 | nat=>simp[T.level,T.plain]
 | list=>simp[T.level,T.plain]
 | unit=>simp[T.level,T.plain]
 | pair a b Fq Cu=>
  simp only[T.level,T.plain,<- Fq,<- Cu,Nat.max_def];split <;> omega
 | fn a b Fq Cu=>
  simp only[T.level,T.plain,Nat.max_def,iff_false];split <;> omega
theorem zaw (x y:Nat):(if (y:Int) > (x:Int) then (y:Int) else (x:Int))=((Nat.max x y:Nat):Int):=by
 simp only[Nat.max_def];split <;> split <;> omega
theorem T.ty_nat:T.nat.ty=Ty.mk 1 []:=rfl
theorem T.ty_list:T.list.ty=Ty.mk 2 []:=rfl
theorem T.ty_unit:T.unit.ty=Ty.mk 5 []:=rfl
theorem T.ty_pair (a b:T):(T.pair a b).ty=Ty.mk 3 [a.ty,b.ty]:=rfl
theorem T.ty_fn (a b:T):(T.fn a b).ty=Ty.mk 4 [a.ty,b.ty]:=rfl
theorem zax (a:T)(hs:a.size<=1000000):cT gl 106 [a.ty.dv] [] (A0 (a.level:Nat)) []:=by
 induction a with
 | nat=>
  refine A8 Tryz.func106 ?_;intro X hP u7 hf u9 hn hR u6 u5;rw[T.ty_nat];refine A4 ?_;exact BD (j3 @T.level.eq_1 @T.level.eq_2 @T.level.eq_3)
 | list=>
  refine A8 Tryz.func106 ?_;intro X hP u7 hf u9 hn hR u6 u5;rw[T.ty_list];refine A4 ?_;exact BD (j3 @T.level.eq_1 @T.level.eq_2 @T.level.eq_3)
 | unit=>
  refine A8 Tryz.func106 ?_;intro X hP u7 hf u9 hn hR u6 u5;rw[T.ty_unit];refine A4 ?_;exact BD (j3 @T.level.eq_1 @T.level.eq_2 @T.level.eq_3)
 | pair a b Fq Cu=>
  simp only[T.size]at hs;have la:=T.level_le a;have lb:=T.level_le b;have wa:=Fq oO;have wb:=Cu oO;have hm:=zaw a.level b.level;have fa:=Ty.fold a.ty;have fb:=Ty.fold b.ty;have hL:(T.pair a b).level=Nat.max a.level b.level:=rfl;rw[hL];refine A8 Tryz.func106 ?_;intro X hP u7 hf u9 hn hR u6 u5;rw[T.ty_pair];generalize a.ty=ta at *;generalize b.ty=tb at *;refine A4 ?_;refine EW (j2 @fa @fb) wa wb ?_;exact BD @hm
 | fn a b Fq Cu=>
  simp only[T.size]at hs;have la:=T.level_le a;have lb:=T.level_le b;have wa:=Fq oO;have wb:=Cu oO;have hm:=zaw (a.level+1) b.level;have fa:=Ty.fold a.ty;have fb:=Ty.fold b.ty;have hL:(T.fn a b).level=Nat.max (a.level+1) b.level:=rfl;rw[hL];have h1:((a.level+1:Nat):Int)=(a.level:Int)+1:=oO;rw[h1]at hm;refine A8 Tryz.func106 ?_;intro X hP u7 hf u9 hn hR u6 u5;rw[T.ty_fn];generalize a.ty=ta at *;generalize b.ty=tb at *;refine A4 ?_;refine EW (j2 @fa @fb) wa wb ?_;exact BD @hm
theorem ZD (a:T)(ha:a.ok):cT gl 58 [a.ty.dv] [] (.tup [AK (decide (a.level=0)),A0 0]) []:=by
 have hs:a.size<=64:=ha;have hc:=T.ty_count a;have h0:a.ty.checkN=0:=(Ty.checkN_iff _).2 (T.ok_ty ha);have w1:=DX (gl:=gl) a.ty oO;have w2:=zax (gl:=gl) a oO;have ll:=T.level_le a;have fa:=Ty.fold a.ty;rw[h0]at w1;generalize a.ty=ta at *;refine A8 Tryz.func58 ?_;intro X hP u7 hf u9 hn hR u6 u5;refine A4 ?_;refine A3 @fa w1 ?_;refine A4 ?_;refine A3 @fa w2 ?_;exact BR
def PR:(a:T)->a.V->MV
 | .nat,n=>.num n
 | .list,l=>.list l
 | .unit,_=>.unit
 | .pair a b,p=>.both (PR a p.1) (PR b p.2)
 | .fn _ _,_=>.unit
theorem X9:∀(a:T) (x:a.V),a.plain->MVT a (PR a x) x
 | .nat,n,_=>.num n
 | .list,l,_=>.list l
 | .unit,_,_=>.unit
 | .pair a b,p,h=>.both (X9 a p.1 h.1) (X9 b p.2 h.2)
 | .fn _ _,_,h=>h.elim
theorem fY (n:T.nat.V):C5 .nat n=Val.mk 1 (Int.ofNat n) [] []:=rfl
theorem bV (l:T.list.V):C5 .list l=Val.mk 2 0 (List.map Int.ofNat l) []:=rfl
theorem bW (u:T.unit.V):C5 .unit u=Val.mk 4 0 [] []:=rfl
theorem UK {a b:T}(p:(T.pair a b).V):C5 (.pair a b) p=Val.mk 3 0 [] [C5 a p.1,C5 b p.2]:=rfl
theorem z41 (n:Nat):(MV.num n).cells=[A0 (n:Int),.sl [],.sl [],A0 0,A0 0,A0 0,.sl [],.sl [],.sl []]:=by rw[MV.cells]
theorem vK (l:List Nat):(MV.list l).cells=[A0 0,.sl (AP (l.map Int.ofNat)),.sl [],A0 0,A0 0,A0 0,.sl [],.sl [],.sl []]:=by rw[MV.cells]
theorem vL (a b:MV):(MV.both a b).cells=[A0 0,.sl [],.sl [a.cells,b.cells],A0 0,A0 0,A0 0,.sl [],.sl [],.sl []]:=by rw[MV.cells]
theorem vM:MV.unit.cells=[A0 0,.sl [],.sl [],A0 0,A0 0,A0 0,.sl [],.sl [],.sl []]:=by rw[MV.cells]
theorem znk (a:T)(x:a.V)(hp:a.plain):cT gl 148 [(C5 a x).dv] [] (PR a x).dv []:=by
 induction a with
 | nat=>
  have hc:=z41 x;have hd:(PR .nat x).dv = .agg (MV.num x).cells:=rfl;rw[fY,hd,hc];refine A8 Tryz.func148 ?_;intro X hP u7 hf u9 hn hR u6 u5;refine A4 ?_;refine BK ?_;refine AC [] @P7 (FD (0) (fun i=>True) (fun i=>[sV 14 (A0 i),sV 13 (A0 0),sV 12 (.sl []),sP 2,sL 2 [.v (A0 0),.own 0 [],.own 0 [],.v (A0 0),.v (A0 0),.v (A0 0),.own 0 [],.own 0 [],.own 0 []],sP 3,sL 3 [.v (A0 (Int.ofNat x)),.v (.sl []),.v (.sl []),.v (A0 0),.v (A0 0),.v (A0 0),.v (.sl []),.v (.sl []),.v (.sl [])]]) (trivial) ?_ ?_);· intro i hi;exact absurd hi oO
  ·intro _;refine A2 ?_;refine B6 ?_;refine A4 ?_;refine IL ?_;simp[go_sem,hP,u7,hn] <;> (try omega);rfl
 | list=>
  have hc:=vK x;have hd:(PR .list x).dv = .agg (MV.list x).cells:=rfl;rw[bV,hd,hc];refine A8 Tryz.func148 ?_;intro X hP u7 hf u9 hn hR u6 u5;refine A4 ?_;refine BK ?_;refine AC [] @P7 (FD (0) (fun i=>True) (fun i=>[sV 14 (A0 i),sV 13 (A0 0),sV 12 (.sl []),sP 2,sL 2 [.v (A0 0),.own 0 [],.own 0 [],.v (A0 0),.v (A0 0),.v (A0 0),.own 0 [],.own 0 [],.own 0 []],sP 3,sL 3 [.v (A0 0),.v (.sl (AP (List.map Int.ofNat x))),.v (.sl []),.v (A0 0),.v (A0 0),.v (A0 0),.v (.sl []),.v (.sl []),.v (.sl [])]]) (trivial) ?_ ?_);· intro i hi;exact absurd hi oO
  ·intro _;refine A2 ?_;refine B6 ?_;refine A4 ?_;exact BR
 | unit=>
  have hc:=vM;have hd:(PR .unit x).dv = .agg MV.unit.cells:=rfl;rw[bW,hd,hc];refine A8 Tryz.func148 ?_;intro X hP u7 hf u9 hn hR u6 u5;refine A4 ?_;refine BK ?_;refine AC [] @P7 (FD (0) (fun i=>True) (fun i=>[sV 14 (A0 i),sV 13 (A0 0),sV 12 (.sl []),sP 2,sL 2 [.v (A0 0),.own 0 [],.own 0 [],.v (A0 0),.v (A0 0),.v (A0 0),.own 0 [],.own 0 [],.own 0 []],sP 3,sL 3 [.v (A0 0),.v (.sl []),.v (.sl []),.v (A0 0),.v (A0 0),.v (A0 0),.v (.sl []),.v (.sl []),.v (.sl [])]]) (trivial) ?_ ?_);· intro i hi;exact absurd hi oO
  ·intro _;refine A2 ?_;refine B6 ?_;refine A4 ?_;exact BR
 | pair a b Fq Cu=>
  have w1:=Fq x.1 hp.1;have w2:=Cu x.2 hp.2;have hc:=vL (PR a x.1) (PR b x.2);have hd:(PR (.pair a b) x).dv = .agg (MV.both (PR a x.1) (PR b x.2)).cells:=rfl;have l1:=MV.length_cells (PR a x.1);have l2:=MV.length_cells (PR b x.2);rw[UK,hd,hc];generalize C5 a x.1=v1 at *;generalize C5 b x.2=v2 at *;generalize PR a x.1=m1 at *;generalize PR b x.2=m2 at *;have f1:=Val.fold v1;have f2:=Val.fold v2;have g1:=MV.cells_eq m1;have g2:=MV.cells_eq m2;refine A8 Tryz.func148 ?_;intro X hP u7 hf u9 hn hR u6 u5;refine A4 ?_;refine BK ?_;refine AC [(1003,0)] @P7 (FD (2) (fun i=>True) (fun i=>[sV 14 (A0 i),sV 13 (A0 2),sV 12 (.sl [v1.cells,v2.cells]),sP 2,sL 2 [.v (A0 0),.own 0 [],.own 0 [],.v (A0 0),.v (A0 0),.v (A0 0),.own 0 [],.own 0 [],.own 0 []],sP 3,sL 3 [.v (A0 0),.v (.sl []),.own 1003 ([m1.cells,m2.cells].take i),.v (A0 0),.v (A0 0),.v (A0 0),.v (.sl []),.v (.sl []),.v (.sl [])],(.tok 1003,.tk 9 i)]) (trivial) ?_ ?_)
  ·intro i hi _ Aa
   match i,hi with
   | 0,_=>
    refine A2 ?_;refine AE ?_;refine A4 ?_;refine A3 (j2 @f1 @l1) w1 ?_;refine CR (wr [(1003,23)]) @g1 @l1 (Aa tT)
   | 1,_=>
    refine A2 ?_;refine AE ?_;refine A4 ?_;refine A3 (j3 @f2 @l1 @l2) w2 ?_;refine CR (wr [(1003,23)]) (j2 @g1 @g2) (j2 @l1 @l2) (Aa tT)
  ·intro _;refine A2 ?_;refine B6 ?_;refine A4 ?_;exact BR
 | fn a b Fq Cu=>exact hp.elim
theorem MV.fit_list {v:MV}(h:v.dv.fit):v.listF.length<=2147483648:=by
 rw[MV.dv,MV.cells_eq]at h;simp only[DV.fit,DV.fit.fits,XY,HL]at h;exact h.2.1.1
theorem z42 {a:T}{v:MV}{x:a.V}(h:MVT a v x)(hp:a.plain):cT gl 149 [v.dv,a.ty.dv] [] (C5 a x).dv []:=by
 induction a generalizing v with
 | nat=>
  obtain rfl:=ZC h;rw[fY,T.ty_nat];have hq:(MV.num x).numF=Int.ofNat x:=rfl;generalize MV.num x=m at *;refine A8 Tryz.func149 ?_;intro X hP u7 hf u9 hn hR u6 u5;refine A4 ?_;exact AT @hq
 | list=>
  obtain rfl:=bP h;rw[bV,T.ty_list];have hq:(MV.list x).listF=List.map Int.ofNat x:=rfl;generalize MV.list x=m at *;refine A8 Tryz.func149 ?_;intro X hP u7 hf u9 hn hR u6 u5;have hl:=MV.fit_list (u5 m.dv sS);refine A4 ?_;exact AT @hq
 | unit=>
  rw[bW,T.ty_unit];refine A8 Tryz.func149 ?_;intro X hP u7 hf u9 hn hR u6 u5;refine A4 ?_;exact B9
 | pair a b Fq Cu=>
  obtain⟨y,z,rfl,hy,hz⟩:=bQ h;have w1:=Fq hy hp.1;have w2:=Cu hz hp.2;rw[UK,T.ty_pair];have fa:=Ty.fold a.ty;have fb:=Ty.fold b.ty;have fy:=MV.fold y;have fz:=MV.fold z;generalize a.ty=ta at *;generalize b.ty=tb at *;refine A8 Tryz.func149 ?_;intro X hP u7 hf u9 hn hR u6 u5;refine A4 ?_;refine EW (j4 @fa @fb @fy @fz) w1 w2 ?_;exact B9
 | fn a b Fq Cu=>exact hp.elim
end
section
def RC:List T->T->T
 | [],r=>r
 | a::l,r=>.fn a (RC l r)
def nH:(l:List T)->{r:T}->(RC l r).V->C3 l->r.V
 | [],_,f,_=>f
 | _::l,_,f,e=>nH l (f e.1) e.2
def I2:(l:List T)->C3 l->List Val
 | [],_=>[]
 | a::l,e=>C5 a e.1::I2 l e.2
def EP:(l:List T)->C3 l->List MV
 | [],_=>[]
 | a::l,e=>PR a e.1::EP l e.2
def QH:List T->Prop
 | []=>True
 | a::l=>a.plain/\a.ok/\QH l
theorem UL:∀(l:List T) (X:C3 l),(I2 l X).length=l.length
 | [],_=>rfl
 | a::l,X=>by simp only[I2,List.length_cons,UL l X.2]
theorem XA:∀(l:List T) (X:C3 l),(EP l X).length=l.length
 | [],_=>rfl
 | a::l,X=>by simp only[EP,List.length_cons,XA l X.2]
theorem ZE {r:T}:∀(l:List T) (X:C3 l) (i:Nat),i<l.length->QH l->∃(a:T) (x:a.V),(I2 l X)[i]? = some (C5 a x)/\(EP l X)[i]? = some (PR a x)/\RC (l.drop i) r = .fn a (RC (l.drop (i+1)) r)/\a.plain/\a.ok
 | [],X,i,h,_=>absurd h (Nat.not_lt_zero _)
 | a::l,X,0,h,hp=>⟨a,X.1,rfl,rfl,rfl,hp.1,hp.2.1⟩
 | a::l,X,i+1,h,hp=>by
  obtain⟨b,x,h1,h2,h3,h4⟩:=ZE (r:=r) l X.2 i (by simpa using h) hp.2.2;exact⟨b,x,by simpa [I2] using h1,by simpa [EP] using h2,by simpa using h3,h4⟩
theorem nI {a:T}(x:a.V)(hp:a.plain)(hs:a.ok):(C5 a x).checkN=0:=by
 obtain⟨v1,v2⟩:=LQ a x hp;have hs:a.size<=64:=hs;unfold Val.checkN;rw[if_pos v1,if_neg (by rw[Val.nodes_count _ v1];omega)]
theorem bX:∀(a:T) (x:a.V),a.plain->(C5 a x).tyN=a.ty
 | .nat,n,_=>by rw[Val.tyN_eq];rfl
 | .list,l,_=>by rw[Val.tyN_eq];rfl
 | .unit,_,_=>by rw[Val.tyN_eq];rfl
 | .pair a b,p,h=>by
  rw[Val.tyN_eq,UK];simp only[Val.kind,Val.args,List.map_cons,List.map_nil,bX a p.1 h.1,bX b p.2 h.2];rfl
 | .fn _ _,_,h=>h.elim
theorem YB {a:T}(x:a.V)(hp:a.plain)(hs:a.ok):(C5 a x).typeE=(a.ty,0):=by
 unfold Val.typeE;rw[nI x hp hs,bX a x hp];rfl
theorem bY {t:Tm}{a:T}{F:C3 []->a.V}(h:Dn [] t a F):t.typeE []=(a.ty,0)\/(t.typeE []).2=4:=by
 have hc:OM []=0:=rfl;unfold Tm.typeE Tm.typedE;rw[if_pos hc];by_cases h0:t.checkN=0
 ·rw[if_pos h0];exact JU h
 ·rw[if_neg h0]
  right
  have hs:=G4 h;unfold Tm.checkN at h0 ⊢;rw[if_pos hs]at h0 ⊢;split at h0;· rename_i hq;rw[if_pos hq]
  ·exact absurd rfl h0
def LU (ev:RD):MV->List MV->Int->Rn
 | r,[],u=>some (r,u,false)
 | r,x::l,u=>match HJ ev r x u with
  | none=>none
  | some (v,u1,true)=>some (v,u1,true)
  | some (v,u1,false)=>LU ev v l u1
def XB (most:Int)(t:Tm)(xs:List MV):Rn:=
 match OB most (most.toNat+1) t [] 0 with
 | none=>none
 | some (v,u,true)=>some (v,u,true)
 | some (v,u,false)=>LU (OB most (most.toNat+1)) v xs u
theorem W0 {most:Int}{d:Nat}{ev:RD}(H:Evs most d ev):∀(l:List T) {r:T} {f:MV} {F:(RC l r).V} (X:C3 l) {u:Int},MVT (RC l r) f F->QH l->u<=most->most - u<d ->
  eA most (fun v=>MVT r v (nH l F X)) u (LU ev f (EP l X) u)
 | [],r,f,F,X,u,hf,hp,hu,hd=>⟨f,u,false,rfl,oO,hu,fun _=>hf⟩
 | a::l,r,f,F,X,u,hf,hp,hu,hd=>by
  obtain⟨g,u1,o1,h1,l1,m1,q1⟩:=I0 H hf (X9 a X.1 hp.1) hu hd;simp only[EP,LU,h1];cases o1 with
  | true=>exact⟨g,u1,true,rfl,l1,m1,fun h=>by cases h⟩
  | false=>exact (W0 H l X.2 (q1 rfl) hp.2.2 m1 oO).mono l1 fun _ h=>h
theorem fZ {most:Int}(hm:0<=most){t:Tm}{l:List T}{r:T}{F:C3 []->(RC l r).V}(h:Dn [] t (RC l r) F)(X:C3 l)(hp:QH l) :
  eA most (fun v=>MVT r v (nH l (F ()) X)) 0 (XB most t (EP l X)):=by
 have H:=vH most (most.toNat+1);obtain⟨v,u,o,h1,l1,m1,q1⟩:=H h .nil hm oO;unfold XB;rw[h1];cases o with
 | true=>exact⟨v,u,true,rfl,l1,m1,fun h=>by cases h⟩
 | false=>exact (W0 H l X (q1 rfl) hp m1 oO).mono l1 fun _ h=>h
def GS (t:Tm)(l:List T){r:T}(F:(RC l r).V)(X:C3 l)(work:Int):Val × Int × Int:=
 if (t.typeE []).2=0 then match XB work t (EP l X) with
  | some (_,u,false)=>(C5 r (nH l F X),u,0)
  | _=>(DA,0,5)
 else (DA,0,(t.typeE []).2)
theorem nJ {t:Tm}{l:List T}{r:T}{F:C3 []->(RC l r).V}(h:Dn [] t (RC l r) F)(X:C3 l)(work:Int) :
  (GS t l (F ()) X work).2.2=4\/(GS t l (F ()) X work).2.2=5\/((GS t l (F ()) X work).2.2=0/\(GS t l (F ()) X work).1=C5 r (nH l (F ()) X)):=by
 unfold GS;by_cases h0:(t.typeE []).2=0
 ·rw[if_pos h0];split;· exact .inr (.inr ⟨rfl,rfl⟩)
  ·exact .inr (.inl rfl)
 ·rw[if_neg h0];rcases bY h with h1|h1;· rw[h1]at h0;exact absurd rfl h0
  ·exact .inl h1
end
end Go.Proofs.YtoniciijokeidaaGreatDoor.Lift
