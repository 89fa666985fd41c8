import Derived.Test.YtkfiobkjflmchaaGreatDoorQn9
set_option maxHeartbeats 8000000
set_option maxRecDepth 100000
set_option linter.unusedSimpArgs false
set_option linter.unusedVariables false
set_option linter.unnecessarySimpa false
namespace Go.Proofs.YtkfiobkjflmchaaGreatDoor.Lift
open Go
section
variable {gl:AB}
def z0b (ev:RF)(k:Int)(l:List MV):Option (MV × Nat):=if 3<=k/\k<=13 then gV ev k l else none
def UK:Nat->RF
 | 0,_,_=>none
 | d+1,t,e=>
  if t.kind=1 then if 0<=t.index/\t.index.toNat<e.length then some (e.getD t.index.toNat .unit,1) else none
  else if t.kind=2 then if t.args.length=0 then none else some (.clo (t.argN 0) e,1)
  else if 3<t.args.length then none
  else match IF (UK d) t.args e with
   | none=>none
   | some (l,c)=>match z0b (UK d) t.kind l with
    | none=>none
    | some (v,c')=>some (v,1+c+c')
mutual
def MV.nle (M:Nat):MV->Prop
 | .num n=>n<=M
 | .list l=>l.length<=M/\∀n∈l,n<=M
 | .both a b=>MV.nle M a/\MV.nle M b
 | .unit=>True
 | .clo _ e=>MV.nles M e
def MV.nles (M:Nat):List MV->Prop
 | []=>True
 | v::e=>MV.nle M v/\MV.nles M e
end
def G4 (most n:Nat)(v:DV):DV:=if n<=most then .tup [v,AR true] else .tup [GT,AR false]
def CJ (most n:Nat):List DV:=[A0 (if n<=most then (n:Int) else (most:Int)),A0 (most:Int)]
def JY (P:Program)(gl:AB)(fe:FuncId)(most:Nat)(ev:RF):Prop:=
 ∀ ⦃t:Tm⦄ ⦃e:List MV⦄ ⦃u:Nat⦄ ⦃v:MV⦄ ⦃c:Nat⦄ (b:Nat) (M:Nat),ev t e=some (v,c)->u<=most->M+(most - u)<=1073741824->MV.nles M e ->
  RC P gl fe [DP b,t.dv,MV.envM e] [(b,CJ most u)] (G4 most (u+c) v.thing) [(b,CJ most (u+c))]
def NS (most:Nat)(ev:RF):Prop:=
 ∀ ⦃t:Tm⦄ ⦃e:List MV⦄ ⦃v:MV⦄ ⦃c:Nat⦄ (M:Nat),ev t e=some (v,c)->MV.nles M e->v.nle (M+c)
theorem iJ (b:Tm)(e:List MV):(MV.clo b e).thing = .iface 195 (.ref [A0 b.kind,A0 b.index,A0 b.type.kind,.sl (b.type.args.map Ty.cells),.sl (b.args.map Tm.cells),MV.envM e]):=by
 rw[MV.thing,Tm.cells_eq];rfl
theorem z4w (v:MV)(e:List MV):MV.envM (v::e) = .ref [v.thing,MV.envM e]:=by rw[MV.envM]
mutual
theorem MV.nle_mono {M N:Nat}(h:M<=N):∀v:MV,v.nle M->v.nle N
 | .num n,k=>by simp only[MV.nle]at k ⊢;omega
 | .list l,k=>by simp only[MV.nle]at k ⊢;exact⟨Nat.le_trans k.1 h,fun n hn=>Nat.le_trans (k.2 n hn) h⟩
 | .both a b,k=>by simp only[MV.nle]at k ⊢;exact⟨MV.nle_mono h a k.1,MV.nle_mono h b k.2⟩
 | .unit,_=>by simp only[MV.nle]
 | .clo b e,k=>by simp only[MV.nle]at k ⊢;exact MV.nles_mono h e k
theorem MV.nles_mono {M N:Nat}(h:M<=N):∀e:List MV,MV.nles M e->MV.nles N e
 | [],_=>by simp only[MV.nles]
 | v::e,k=>by simp only[MV.nles]at k ⊢;exact⟨MV.nle_mono h v k.1,MV.nles_mono h e k.2⟩
end
theorem dR {M:Nat}:∀{l:List MV} {i:Nat} {a:MV},MV.nles M l->l[i]? = some a->a.nle M
 | x::l,0,a,h,k=>by simp only[MV.nles]at h;simp at k;rw[<- k];exact h.1
 | x::l,i+1,a,h,k=>by simp only[MV.nles]at h;exact dR h.2 (by simpa using k)
theorem WW {most:Nat}(hm:most<=1073741824){ev:RF}(H:JY Tryz.prog gl 96 most ev)(hN:NS most ev){f v:MV}{l:List MV}{u c:Nat}(b M:Nat)
  (h:HX ev f l=some (v,c)) (hu:u<=most) (hM:M+(most - u)<=1073741824) (hF:f.nle M) (hL:MV.nles M l) :
  cT gl 97 [DP b,f.thing,.sl (l.map fun x=>[x.thing])] [(b,CJ most u)] (G4 most (u+c) v.thing) [(b,CJ most (u+c))]:=by
 refine A6 Tryz.func97 ?_;intro X hP u6 hf u8 hn hR u5 u4;have Jk:(l.length:Int)<=2147483648:=by have:=u4 (.sl (l.map fun x=>[x.thing])) sS;simp[DV.fit]at this;have:=this.1;simp[I6]at this;omega
 have Xi:CJ most u=[A0 (u:Int),A0 (most:Int)]:=by unfold CJ;rw[if_pos hu]
 rw[Xi];refine A2 ?_;refine BR ?_;refine AA [] tT (E6 (fun x:MV × Nat × Nat=>x.2.1<=l.length/\x.2.2<=most/\u<=x.2.2/\x.1.nle (M+(x.2.2 - u))/\∃c',HX ev x.1 (l.drop x.2.1)=some (v,c')/\x.2.2+c' = u+c) (fun x:MV × Nat × Nat=>[sV 15 (A0 (x.2.1:Int)),sV 14 (A0 (l.length:Int)),sV 13 (.sl (l.map fun x=>[x.thing])),sV 0 (DP b),sV 1 x.1.thing,sV 6 GT,sV 7 (AR false),sB  b [.v (A0 (x.2.2:Int)),.v (A0 (most:Int))]]) (fun x:MV × Nat × Nat=>l.length - x.2.1) (f,0,u) (⟨Nat.zero_le _,hu,Nat.le_refl u,by simpa using hF,c,by simpa using h,rfl⟩) ?_);rintro⟨g,i,u'⟩ ⟨hi,Pc,Zs,hg,c',hc,Ir⟩ ih;simp only at hi Pc Zs hg hc Ir;by_cases Cc:i<l.length
 ·obtain⟨a,ha⟩:∃a,l[i]? = some a:=⟨l[i],uB Cc⟩;have hd:l.drop i=a::l.drop (i+1):=by
   rw[List.drop_eq_getElem_cons Cc];rw[uB Cc,uC]at ha;rw[ha]
  rw[hd]at hc;have Co:a.nle M:=dR hL ha;cases g with
  | num n=>cases hc
  | list q=>cases hc
  | both p q=>cases hc
  | unit=>cases hc
  | clo body e=>
   simp only[HX]at hc;split at hc;· cases hc
   ·rename_i v1 c1 Fa;split at hc;· cases hc
    ·rename_i w c2 hw;simp only[uC,uD]at hc;obtain⟨rfl,rfl⟩:=hc;simp only[MV.nle]at hg;have Xn:MV.nles (M+(u' - u)) (a::e):=by simp only[MV.nles];exact⟨MV.nle_mono oO _ Co,hg⟩
     have W1:=H b (M+(u' - u)) Fa Pc oO Xn;have hN1:=hN (M+(u' - u)) Fa Xn;have Vu:=iJ body e;have hT:=Tm.fold body;have Wz:CJ most u' = [A0 (u':Int),A0 (most:Int)]:=by unfold CJ;rw[if_pos Pc]
     rw[Wz,z4w]at W1;have Kg:(l.map fun x=>[x.thing])[i]? = some [a.thing]:=by rw[List.getElem?_map,ha];rfl
     rw[Vu];generalize l.map (fun x=>[x.thing])=L at *;refine A5 ?_;refine AQ ?_;refine BZ @Kg ?_;refine A5 ?_;refine BR ?_;refine AU (by rw[hP];exact BK) [33] fun K hK=>?_;simp[go_sem,hP,u6,hn,hT];refine XY (cs:=[a.thing,MV.envM e]) (y:=.ag [a.thing,MV.envM e] []) (fun _ _=>E8) (by simp[go_sem,hP,u6,hn]) (by simp[go_sem]) (by simp[go_sem]) (by rw[hn];exact uF rfl) (by rfl) ?_;simp[go_sem,hP,u6,hn];by_cases An:u'+c1<=most
     ·have o1:G4 most (u'+c1) v1.thing = .tup [v1.thing,AR true]:=by unfold G4;rw[if_pos An]
      have o2:CJ most (u'+c1)=[A0 ((u'+c1:Nat):Int),A0 (most:Int)]:=by unfold CJ;rw[if_pos An]
      rw[o1,o2]at W1;refine F8 tT (W1) ?_;refine I7 ?_;clear hK K;refine A5 ?_;refine B9 ?_;refine A5 ?_;refine A5 ?_;have a1:i+1<=l.length:=oO;have a2:u<=u'+c1:=oO;have a3:M+(u' - u)+c1<=M+(u'+c1 - u):=oO;have a4:u'+c1+c2=u+c:=oO;have a5:l.length - (i+1)<l.length - i:=oO;refine GX ?_;refine AA [] tT (ih (v1,i+1,u'+c1) ⟨a1,An,a2,MV.nle_mono a3 _ hN1,c2,hw,a4⟩ a5)
     ·have o1:G4 most (u'+c1) v1.thing = .tup [GT,AR false]:=by unfold G4;rw[if_neg An]
      have o2:CJ most (u'+c1)=[A0 (most:Int),A0 (most:Int)]:=by unfold CJ;rw[if_neg An]
      have Ao:¬u+c<=most:=oO;have o3:G4 most (u+c) w.thing = .tup [GT,AR false]:=by unfold G4;rw[if_neg Ao]
      have o4:CJ most (u+c)=[A0 (most:Int),A0 (most:Int)]:=by unfold CJ;rw[if_neg Ao]
      rw[o3,o4]at hR;rw[o1,o2]at W1;refine F8 tT (W1) ?_;refine I7 ?_;clear hK K;refine A5 ?_;refine AQ ?_;refine A5 ?_;exact AY [(b,[A0 (most:Int),A0 (most:Int)])] tT
 ·have hd:l.drop i=[]:=List.drop_eq_nil_iff.2 oO;have hii:i=l.length:=oO;subst hii;rw[hd]at hc;have Cb:HX ev g []=some (g,0):=by cases g <;> rfl
  rw[Cb]at hc;simp only[uC,uD]at hc;obtain⟨rfl,rfl⟩:=hc;have Jx:u+c<=most:=oO;have o3:G4 most (u+c) g.thing = .tup [g.thing,AR true]:=by unfold G4;rw[if_pos Jx]
  have o4:CJ most (u+c)=[A0 (u':Int),A0 (most:Int)]:=by unfold CJ;rw[if_pos Jx];rw[<- Ir];simp
  rw[o3,o4]at hR;refine A5 ?_;refine B9 ?_;refine A5 ?_;exact AY [(b,[A0 (u':Int),A0 (most:Int)])] tT
def GZ (l:List MV)(i:Nat):DV:=match l[i]? with
 | some v=>v.thing
 | none=>GT
theorem zaf (l:List MV)(i:Nat):(GZ l i).isCell=true:=by unfold GZ;split;exact QK _;rfl
attribute [go_sem] zaf
def NT (l:List MV):List DV:=[GZ l 0,GZ l 1,GZ l 2]
def QM (ev:RF)(most:Nat)(e:List MV):Nat->List Tm->List MV
 | _,[]=>[]
 | u,t::r=>match ev t e with
  | none=>[]
  | some (v,c)=>if u+c<=most then v::QM ev most e (u+c) r else []
def SO (most n:Nat)(l:List MV):DV:=.tup [.agg (NT l),AR (decide (n<=most))]
theorem H0 {ev:RF}{most:Nat}{e:List MV}:∀{l:List Tm} {u:Nat} {vs:List MV} {c:Nat},IF ev l e=some (vs,c)->u+c<=most->QM ev most e u l=vs
 | [],u,vs,c,h,k=>by simp only[IF,uC,uD]at h;rw[QM,h.1]
 | t::r,u,vs,c,h,k=>by
  simp only[IF]at h;split at h;· cases h
  ·rename_i v c1 hv;split at h;· cases h
   ·rename_i l c2 hl;simp only[uC,uD]at h;obtain⟨rfl,rfl⟩:=h;rw[QM,hv];simp only;rw[if_pos (show u+c1<=most from oO),H0 hl (show u+c1+c2<=most from oO)]
theorem JB {most:Nat}(hm:most<=1073741824){ev:RF}(H:JY Tryz.prog gl 96 most ev)(hN:NS most ev){l:List Tm}{e vs:List MV}{u c:Nat}(b M:Nat)
  (h:IF ev l e=some (vs,c)) (h3:l.length<=3) (hu:u<=most) (hM:M+(most - u)<=1073741824) (he:MV.nles M e) :
  cT gl 149 [DP b,.sl (l.map Tm.cells),MV.envM e] [(b,CJ most u)] (SO most (u+c) (QM ev most e u l)) [(b,CJ most (u+c))]:=by
 refine A6 Tryz.func149 ?_;intro X hP u6 hf u8 hn hR u5 u4;have Xi:CJ most u=[A0 (u:Int),A0 (most:Int)]:=by unfold CJ;rw[if_pos hu]
 rw[Xi];have z0:GZ [] 0=GT:=rfl;have z1:GZ [] 1=GT:=rfl;have z2:GZ [] 2=GT:=rfl;refine A2 ?_;refine BR ?_;refine AA [] (j3 @z0 @z1 @z2) (E6 (fun x:List MV × Nat × Nat=>x.2.1<=l.length/\x.2.2<=most/\u<=x.2.2/\x.1.length=x.2.1/\MV.nles (M+(x.2.2 - u)) e/\∃c' On,IF ev (l.drop x.2.1) e=some (On,c')/\x.2.2+c' = u+c/\x.1++QM ev most e x.2.2 (l.drop x.2.1)=QM ev most e u l) (fun x:List MV × Nat × Nat=>[sV 15 (A0 (x.2.1:Int)),sV 14 (A0 (l.length:Int)),sV 13 (.sl (l.map Tm.cells)),sV 0 (DP b),sV 2 (MV.envM e),sV 7 (AR false),sP 6,sP 8,sL 6 [.v GT,.v GT,.v GT],sL 8 [.v (GZ x.1 0),.v (GZ x.1 1),.v (GZ x.1 2)],sB  b [.v (A0 (x.2.2:Int)),.v (A0 (most:Int))]]) (fun x:List MV × Nat × Nat=>l.length - x.2.1) (([]:List MV),0,u) (⟨Nat.zero_le _,hu,Nat.le_refl u,rfl,by simpa using he,c,vs,by simpa using h,rfl,sS⟩) ?_);rintro⟨p,i,u'⟩ ⟨hi,Pc,Zs,Dm,hg,c',On,hc,Ir,Fi⟩ ih;simp only at hi Pc Zs Dm hg hc Ir Fi;by_cases Cc:i<l.length
 ·obtain⟨t,ht⟩:∃t,l[i]? = some t:=⟨l[i],uB Cc⟩;have hd:l.drop i=t::l.drop (i+1):=by
   rw[List.drop_eq_getElem_cons Cc];rw[uB Cc,uC]at ht;rw[ht]
  rw[hd]at hc;rw[hd]at Fi;simp only[IF]at hc;split at hc;· cases hc
  rename_i v1 c1 Fa;rw[QM,Fa]at Fi;simp only at Fi;split at hc;· cases hc
  rename_i vs1 c2 hw;simp only[uC,uD]at hc;obtain⟨rfl,rfl⟩:=hc;have hgz:MV.nles (M+(u' - u)) e:=hg;have W1:=H b (M+(u' - u)) Fa Pc oO hg;have hT:=Tm.fold t;have Wz:CJ most u' = [A0 (u':Int),A0 (most:Int)]:=by unfold CJ;rw[if_pos Pc]
  rw[Wz]at W1;have Kg:(l.map Tm.cells)[i]? = some [A0 t.kind,A0 t.index,A0 t.type.kind,.sl (t.type.args.map Ty.cells),.sl (t.args.map Tm.cells)]:=by rw[List.getElem?_map,ht];simp[Tm.cells_eq]
  have Au:l≠[]:=by rintro rfl;simp at Cc
  rcases (show i=0\/i=1\/i=2 from oO) with rfl|rfl|rfl
  ·refine A5 ?_;refine t_y (j2 @Au @Cc) ?_;refine BZ (j2 @Kg @hT) ?_;by_cases An:u'+c1<=most
   ·have o1:G4 most (u'+c1) v1.thing = .tup [v1.thing,AR true]:=by unfold G4;rw[if_pos An]
    have o2:CJ most (u'+c1)=[A0 ((u'+c1:Nat):Int),A0 (most:Int)]:=by unfold CJ;rw[if_pos An]
    rw[o1,o2]at W1;refine A3 @hT W1 ?_;refine A5 ?_;refine B9 ?_;refine A5 ?_;refine A5 ?_;have a4:u'+c1+c2=u+c:=oO;have a6:(p++[v1]).length=0+1:=by simp[Dm]
    have a7:GZ (p++[v1]) 0=v1.thing:=by simp[GZ,Dm]
    have a8:p++[v1]++QM ev most e (u'+c1) (l.drop (0+1))=QM ev most e u l:=by rw[List.append_assoc];rw[<- Fi,if_pos An];rfl
    have b1:GZ (p++[v1]) 1=GZ p 1:=by simp[GZ,Dm,List.getElem?_append]
    have b2:GZ (p++[v1]) 2=GZ p 2:=by simp[GZ,Dm,List.getElem?_append]
    have d1:0+1<=l.length:=oO;have d2:u<=u'+c1:=oO;have d3:M+(u' - u)<=M+(u'+c1 - u):=oO;have d5:l.length - (0+1)<l.length - 0:=oO;refine GX ?_;refine AA [] (j3 @a7 @b1 @b2) (ih (p++[v1],0+1,u'+c1) ⟨d1,An,d2,a6,MV.nles_mono d3 _ hgz,c2,vs1,hw,a4,a8⟩ d5)
   ·have o1:G4 most (u'+c1) v1.thing = .tup [GT,AR false]:=by unfold G4;rw[if_neg An]
    have o2:CJ most (u'+c1)=[A0 (most:Int),A0 (most:Int)]:=by unfold CJ;rw[if_neg An]
    have Ao:¬u+c<=most:=oO;have o4:CJ most (u+c)=[A0 (most:Int),A0 (most:Int)]:=by unfold CJ;rw[if_neg Ao]
    have o5:QM ev most e u l=p:=by rw[<- Fi,if_neg An];simp
    have o6:decide (u+c<=most)=false:=decide_eq_false Ao;unfold SO at hR;rw[o4,o5,o6]at hR;rw[o1,o2]at W1;refine A3 @hT W1 ?_;refine A5 ?_;refine AQ ?_;refine A5 ?_;exact AY [(b,[A0 (most:Int),A0 (most:Int)])] @NT.eq_1
  ·refine A5 ?_;refine t_y (j2 @Au @Cc) ?_;refine BZ (j2 @Kg @hT) ?_;by_cases An:u'+c1<=most
   ·have o1:G4 most (u'+c1) v1.thing = .tup [v1.thing,AR true]:=by unfold G4;rw[if_pos An]
    have o2:CJ most (u'+c1)=[A0 ((u'+c1:Nat):Int),A0 (most:Int)]:=by unfold CJ;rw[if_pos An]
    rw[o1,o2]at W1;refine A3 @hT W1 ?_;refine A5 ?_;refine B9 ?_;refine A5 ?_;refine A5 ?_;have a4:u'+c1+c2=u+c:=oO;have a6:(p++[v1]).length=1+1:=by simp[Dm]
    have a7:GZ (p++[v1]) 1=v1.thing:=by simp[GZ,Dm]
    have a8:p++[v1]++QM ev most e (u'+c1) (l.drop (1+1))=QM ev most e u l:=by rw[List.append_assoc];rw[<- Fi,if_pos An];rfl
    have b0:GZ (p++[v1]) 0=GZ p 0:=by simp[GZ,Dm,List.getElem?_append]
    have b2:GZ (p++[v1]) 2=GZ p 2:=by simp[GZ,Dm,List.getElem?_append]
    have d1:1+1<=l.length:=oO;have d2:u<=u'+c1:=oO;have d3:M+(u' - u)<=M+(u'+c1 - u):=oO;have d5:l.length - (1+1)<l.length - 1:=oO;refine GX ?_;refine AA [] (j3 @a7 @b0 @b2) (ih (p++[v1],1+1,u'+c1) ⟨d1,An,d2,a6,MV.nles_mono d3 _ hgz,c2,vs1,hw,a4,a8⟩ d5)
   ·have o1:G4 most (u'+c1) v1.thing = .tup [GT,AR false]:=by unfold G4;rw[if_neg An]
    have o2:CJ most (u'+c1)=[A0 (most:Int),A0 (most:Int)]:=by unfold CJ;rw[if_neg An]
    have Ao:¬u+c<=most:=oO;have o4:CJ most (u+c)=[A0 (most:Int),A0 (most:Int)]:=by unfold CJ;rw[if_neg Ao]
    have o5:QM ev most e u l=p:=by rw[<- Fi,if_neg An];simp
    have o6:decide (u+c<=most)=false:=decide_eq_false Ao;unfold SO at hR;rw[o4,o5,o6]at hR;rw[o1,o2]at W1;refine A3 @hT W1 ?_;refine A5 ?_;refine AQ ?_;refine A5 ?_;exact AY [(b,[A0 (most:Int),A0 (most:Int)])] @NT.eq_1
  ·refine A5 ?_;refine t_y (j2 @Au @Cc) ?_;refine BZ (j2 @Kg @hT) ?_;by_cases An:u'+c1<=most
   ·have o1:G4 most (u'+c1) v1.thing = .tup [v1.thing,AR true]:=by unfold G4;rw[if_pos An]
    have o2:CJ most (u'+c1)=[A0 ((u'+c1:Nat):Int),A0 (most:Int)]:=by unfold CJ;rw[if_pos An]
    rw[o1,o2]at W1;refine A3 @hT W1 ?_;refine A5 ?_;refine B9 ?_;refine A5 ?_;refine A5 ?_;have a4:u'+c1+c2=u+c:=oO;have a6:(p++[v1]).length=2+1:=by simp[Dm]
    have a7:GZ (p++[v1]) 2=v1.thing:=by simp[GZ,Dm]
    have a8:p++[v1]++QM ev most e (u'+c1) (l.drop (2+1))=QM ev most e u l:=by rw[List.append_assoc];rw[<- Fi,if_pos An];rfl
    have b0:GZ (p++[v1]) 0=GZ p 0:=by simp[GZ,Dm,List.getElem?_append]
    have b1:GZ (p++[v1]) 1=GZ p 1:=by simp[GZ,Dm,List.getElem?_append]
    have d1:2+1<=l.length:=oO;have d2:u<=u'+c1:=oO;have d3:M+(u' - u)<=M+(u'+c1 - u):=oO;have d5:l.length - (2+1)<l.length - 2:=oO;refine GX ?_;refine AA [] (j3 @a7 @b0 @b1) (ih (p++[v1],2+1,u'+c1) ⟨d1,An,d2,a6,MV.nles_mono d3 _ hgz,c2,vs1,hw,a4,a8⟩ d5)
   ·have o1:G4 most (u'+c1) v1.thing = .tup [GT,AR false]:=by unfold G4;rw[if_neg An]
    have o2:CJ most (u'+c1)=[A0 (most:Int),A0 (most:Int)]:=by unfold CJ;rw[if_neg An]
    have Ao:¬u+c<=most:=oO;have o4:CJ most (u+c)=[A0 (most:Int),A0 (most:Int)]:=by unfold CJ;rw[if_neg Ao]
    have o5:QM ev most e u l=p:=by rw[<- Fi,if_neg An];simp
    have o6:decide (u+c<=most)=false:=decide_eq_false Ao;unfold SO at hR;rw[o4,o5,o6]at hR;rw[o1,o2]at W1;refine A3 @hT W1 ?_;refine A5 ?_;refine AQ ?_;refine A5 ?_;exact AY [(b,[A0 (most:Int),A0 (most:Int)])] @NT.eq_1
 ·have hd:l.drop i=[]:=List.drop_eq_nil_iff.2 oO;have hii:i=l.length:=oO;subst hii;rw[hd]at hc Fi;simp only[IF,uC,uD]at hc;obtain⟨rfl,rfl⟩:=hc;simp only[QM,List.append_nil]at Fi;have Jx:u+c<=most:=oO;have o4:CJ most (u+c)=[A0 (u':Int),A0 (most:Int)]:=by unfold CJ;rw[if_pos Jx];rw[<- Ir];simp
  have o6:decide (u+c<=most)=true:=decide_eq_true Jx;unfold SO at hR;rw[<- Fi,o4,o6]at hR;refine A5 ?_;refine B9 ?_;refine A5 ?_;exact AY [(b,[A0 (u':Int),A0 (most:Int)])] @NT.eq_1
theorem L5 (n:Nat):(MV.num n).thing = .iface 3 (A0 (n:Int)):=by rw[MV.thing]
theorem zff {most:Nat}(hm:most<=1073741824){ev:RF}(H:JY Tryz.prog gl 96 most ev)(hN:NS most ev)(hNc:∀{f v:MV} {l:List MV} {c M:Nat},HX ev f l=some (v,c)->f.nle M->MV.nles M l->v.nle (M+c)){r f v:MV}{n u c:Nat}(b M:Nat)
  (h:ZY ev f n 0 r=some (v,c)) (hu:u<=most) (hM:M+(most - u)<=1073741824) (Il:r.nle M) (Bz:f.nle M) (Ik:n<=M) :
  cT gl 150 [DP b,.agg (NT [r,f,.num n])] [(b,CJ most u)] (G4 most (u+c) v.thing) [(b,CJ most (u+c))]:=by
 have z0:GZ [r,f,.num n] 0=r.thing:=rfl;have z1:GZ [r,f,.num n] 1=f.thing:=rfl;have z2:GZ [r,f,.num n] 2 = .iface 3 (A0 (n:Int)):=L5 n;have Xi:CJ most u=[A0 (u:Int),A0 (most:Int)]:=by unfold CJ;rw[if_pos hu]
 unfold NT;rw[z0,z1,z2,Xi];refine A6 Tryz.func150 ?_;intro X hP u6 hf u8 hn hR u5 u4;refine A2 ?_;refine BR ?_;refine AA [] tT (E6 (fun x:DV × Bool × Nat × Nat=>x.1.isCell=true/\DN x.1=[x.1]/\(x.2.1=true->x.2.2.1<=n/\x.2.2.2<=most/\u<=x.2.2.2/\∃(q:MV) (c':Nat),x.1=q.thing/\q.nle (M+(x.2.2.2 - u))/\ZY ev f (n - x.2.2.1) x.2.2.1 q=some (v,c')/\x.2.2.2+c' = u+c)/\(x.2.1=false->x.1=GT/\x.2.2.2=most/\¬u+c<=most/\x.2.2.1<=n+1)) (fun x:DV × Bool × Nat × Nat=>[sV 6 x.1,sV 7 (AR x.2.1),sV 8 (A0 (x.2.2.1:Int)),sV 0 (DP b),sV 4 GT,sV 5 (AR false),sP 3,sL 3 [.v r.thing,.v f.thing,.v (.iface 3 (A0 (n:Int)))],sB  b [.v (A0 (x.2.2.2:Int)),.v (A0 (most:Int))]]) (fun x:DV × Bool × Nat × Nat=>(if x.2.1 then n - x.2.2.1+1 else 0)) (r.thing,true,0,u) (⟨QK r,QL r,fun _=>⟨Nat.zero_le _,hu,Nat.le_refl u,r,c,rfl,by simpa using Il,by simpa using h,rfl⟩,fun e=>by cases e⟩) ?_);rintro⟨y,ok,k,u'⟩ ⟨hy1,hy2,hy3,hy4⟩ ih;simp only at hy1 hy2 hy3 hy4;cases ok with
 | false=>
  obtain⟨rfl,rfl,Ao,hk⟩:=hy4 rfl;have o3:G4 u' (u+c) v.thing = .tup [GT,AR false]:=by unfold G4;rw[if_neg Ao]
  have o4:CJ u' (u+c)=[A0 (u':Int),A0 (u':Int)]:=by unfold CJ;rw[if_neg Ao]
  rw[o3,o4]at hR;refine A5 ?_;refine B9 ?_;refine A5 ?_;exact AY [(b,[A0 (u':Int),A0 (u':Int)])] tT
 | true=>
  obtain⟨hk,Pc,Zs,q,c',rfl,hq,hc,Ir⟩:=hy3 rfl;have Yf:(n:Int)<=1073741824:=oO;by_cases Ts:k<n
  ·have e1:n - k=(n - (k+1))+1:=oO;rw[e1,ZY]at hc;split at hc;· cases hc
   rename_i v1 c1 Fa;split at hc;· cases hc
   rename_i w c2 hw;simp only[uC,uD]at hc;obtain⟨rfl,rfl⟩:=hc;have Wv:f.nle (M+(u' - u)):=MV.nle_mono oO _ Bz;have Iq:MV.nles (M+(u' - u)) [.num k,q]:=by simp only[MV.nles,MV.nle];exact⟨oO,hq,trivial⟩
   have W1:=WW hm H hN b (M+(u' - u)) Fa Pc oO Wv Iq;have hN1:=hNc Fa Wv Iq;have Wz:CJ most u' = [A0 (u':Int),A0 (most:Int)]:=by unfold CJ;rw[if_pos Pc]
   have hkn':(k:Int)<(n:Int):=oO;rw[Wz]at W1;simp only[List.map,L5]at W1;refine A5 ?_;refine AQ ?_;by_cases An:u'+c1<=most
   ·have o1:G4 most (u'+c1) v1.thing = .tup [v1.thing,AR true]:=by unfold G4;rw[if_pos An]
    have o2:CJ most (u'+c1)=[A0 ((u'+c1:Nat):Int),A0 (most:Int)]:=by unfold CJ;rw[if_pos An]
    rw[o1,o2]at W1;refine A3 tT W1 ?_;refine A5 ?_;have d1:k+1<=n:=oO;have d2:u<=u'+c1:=oO;have d3:M+(u' - u)+c1<=M+(u'+c1 - u):=oO;have d4:u'+c1+c2=u+c:=oO;have d5:n - (k+1)+1<n - k+1:=oO;refine GX ?_;refine AA [] tT (ih (v1.thing,true,k+1,u'+c1) ⟨QK v1,QL v1,fun _=>⟨d1,An,d2,v1,c2,rfl,MV.nle_mono d3 _ hN1,hw,d4⟩,fun e=>by cases e⟩ d5)
   ·have o1:G4 most (u'+c1) v1.thing = .tup [GT,AR false]:=by unfold G4;rw[if_neg An]
    have o2:CJ most (u'+c1)=[A0 (most:Int),A0 (most:Int)]:=by unfold CJ;rw[if_neg An]
    have Ao:¬u+c<=most:=oO;have d1:k+1<=n+1:=oO;have d5:0<n - k+1:=oO;rw[o1,o2]at W1;refine A3 tT W1 ?_;refine A5 ?_;refine GX ?_;refine AA [] tT (ih (GT,false,k+1,most) ⟨rfl,rfl,fun e=>(by cases e),fun _=>⟨rfl,rfl,Ao,d1⟩⟩ d5)
  ·have e0:n - k=0:=oO;rw[e0,ZY]at hc;simp only[uC,uD]at hc;obtain⟨rfl,rfl⟩:=hc;have hkn':(n:Int)<=(k:Int):=oO;have Jx:u+c<=most:=oO;have o3:G4 most (u+c) q.thing = .tup [q.thing,AR true]:=by unfold G4;rw[if_pos Jx]
   have o4:CJ most (u+c)=[A0 (u':Int),A0 (most:Int)]:=by unfold CJ;rw[if_pos Jx];rw[<- Ir];simp
   rw[o3,o4]at hR;refine A5 ?_;refine B9 ?_;refine A5 ?_;exact AY [(b,[A0 (u':Int),A0 (most:Int)])] tT
end
section
theorem PM {most:Nat}{ev:RF}(hN:NS most ev):∀{l:List MV} {f v:MV} {c M:Nat},HX ev f l=some (v,c)->f.nle M->MV.nles M l->v.nle (M+c)
 | [],f,v,c,M,h,hf,hl=>by
  have:HX ev f []=some (f,0):=by cases f <;> rfl
  rw[this]at h;simp only[uC,uD]at h;obtain⟨rfl,rfl⟩:=h;exact hf
 | a::l,f,v,c,M,h,hf,hl=>by
  cases f with
  | num n=>cases h
  | list q=>cases h
  | both p q=>cases h
  | unit=>cases h
  | clo body e=>
   simp only[HX]at h;split at h;· cases h
   rename_i v1 c1 Fa;split at h;· cases h
   rename_i w c2 hw;simp only[uC,uD]at h;obtain⟨rfl,rfl⟩:=h;simp only[MV.nle]at hf;simp only[MV.nles]at hl;have k:=hN M Fa (by simp only[MV.nles];exact⟨hl.1,hf⟩);have:=PM hN hw k (MV.nles_mono oO _ hl.2);rw[Nat.add_assoc]at this;exact this
theorem z0c {most:Nat}{ev:RF}(hN:NS most ev){f:MV}:∀{n k:Nat} {r v:MV} {c M:Nat},ZY ev f n k r=some (v,c)->f.nle M->r.nle M->k+n<=M->v.nle (M+c)
 | 0,k,r,v,c,M,h,hf,hr,hk=>by
  simp only[ZY,uC,uD]at h;obtain⟨rfl,rfl⟩:=h;exact hr
 | n+1,k,r,v,c,M,h,hf,hr,hk=>by
  simp only[ZY]at h;split at h;· cases h
  rename_i v1 c1 Fa;split at h;· cases h
  rename_i w c2 hw;simp only[uC,uD]at h;obtain⟨rfl,rfl⟩:=h;have k1:=PM hN Fa hf (by simp only[MV.nles,MV.nle];exact⟨oO,hr,trivial⟩);have:=z0c hN hw (MV.nle_mono oO _ hf) k1 oO;rw[Nat.add_assoc]at this;exact this
theorem dS {most:Nat}{ev:RF}(hN:NS most ev){f r:MV}:∀{l:List Nat} {v:MV} {c M:Nat},LY ev f r l=some (v,c)->f.nle M->r.nle M->(l.length<=M/\∀n∈l,n<=M)->v.nle (M+c)
 | [],v,c,M,h,hf,hr,hl=>by
  simp only[LY,uC,uD]at h;obtain⟨rfl,rfl⟩:=h;exact hr
 | x::l,v,c,M,h,hf,hr,hl=>by
  simp only[LY]at h;split at h;· cases h
  rename_i v1 c1 Fa;split at h;· cases h
  rename_i w c2 hw;simp only[uC,uD]at h;obtain⟨rfl,rfl⟩:=h;have Jk:l.length+1<=M:=by simpa using hl.1
  have k1:=dS hN Fa hf hr ⟨oO,fun n hn=>hl.2 n (List.mem_cons_of_mem _ hn)⟩;have hx:x<=M:=hl.2 x sS
  have k2:=PM hN hw (MV.nle_mono (show M<=M+c1 from oO) _ hf) (by
   simp only[MV.nles,MV.nle];exact⟨oO,⟨oO,fun n hn=>Nat.le_trans (hl.2 n (List.mem_cons_of_mem _ hn)) oO⟩,k1,trivial⟩)
  rw[Nat.add_assoc]at k2;exact k2
theorem IG {most:Nat}{ev:RF}(hN:NS most ev){e:List MV}:∀{l:List Tm} {vs:List MV} {c M:Nat},IF ev l e=some (vs,c)->MV.nles M e->MV.nles (M+c) vs
 | [],vs,c,M,h,he=>by
  simp only[IF,uC,uD]at h;obtain⟨rfl,rfl⟩:=h;simp only[MV.nles]
 | t::l,vs,c,M,h,he=>by
  simp only[IF]at h;split at h;· cases h
  rename_i v1 c1 Fa;split at h;· cases h
  rename_i w c2 hw;simp only[uC,uD]at h;obtain⟨rfl,rfl⟩:=h;simp only[MV.nles];exact⟨MV.nle_mono oO _ (hN M Fa he),MV.nles_mono oO _ (IG hN hw he)⟩
theorem zag {most:Nat}{ev:RF}(hN:NS most ev){k:Int}{l:List MV}{v:MV}{c M:Nat}(h:gV ev k l=some (v,c))(hl:MV.nles M l):v.nle (M+1+c):=by
 unfold gV at h;repeat' split at h
 all_goals first
  | (cases h;done)
  | skip
 all_goals try simp only[MV.nles,MV.nle]at hl
 ·exact PM hN h (MV.nle_mono oO _ hl.1) (by simp only[MV.nles];exact⟨MV.nle_mono oO _ hl.2.1,trivial⟩)
 ·simp only[uC,uD]at h;obtain⟨rfl,rfl⟩:=h;simp only[MV.nle];omega
 ·simp only[uC,uD]at h;obtain⟨rfl,rfl⟩:=h;simp only[MV.nle];omega
 ·exact z0c hN h (MV.nle_mono oO _ hl.2.1) (MV.nle_mono oO _ hl.1) oO
 ·simp only[uC,uD]at h;obtain⟨rfl,rfl⟩:=h;simp only[MV.nle];simp
 ·simp only[uC,uD]at h;obtain⟨rfl,rfl⟩:=h;simp only[MV.nle,List.mem_cons,List.length_cons];refine⟨oO,?_⟩;rintro n (rfl|hn);· omega
  ·exact Nat.le_trans (hl.2.1.2 n hn) oO
 ·exact dS hN h (MV.nle_mono oO _ hl.2.1) (MV.nle_mono oO _ hl.1) ⟨oO,fun n hn=>Nat.le_trans (hl.2.2.1.2 n hn) oO⟩
 ·simp only[uC,uD]at h;obtain⟨rfl,rfl⟩:=h;simp only[MV.nle];exact⟨MV.nle_mono oO _ hl.1,MV.nle_mono oO _ hl.2.1⟩
 ·simp only[uC,uD]at h;obtain⟨rfl,rfl⟩:=h;exact MV.nle_mono oO _ hl.1.1
 ·simp only[uC,uD]at h;obtain⟨rfl,rfl⟩:=h;exact MV.nle_mono oO _ hl.1.2
 ·simp only[uC,uD]at h;obtain⟨rfl,rfl⟩:=h;simp only[MV.nle]
theorem aM (most:Nat):∀d,NS most (UK d)
 | 0,t,e,v,c,M,h,he=>by cases h
 | d+1,t,e,v,c,M,h,he=>by
  have hN:=aM most d;rw[UK]at h;split at h
  ·split at h
   ·rename_i hi;simp only[uC,uD]at h;obtain⟨rfl,rfl⟩:=h;have hg:e[t.index.toNat]? = some (e.getD t.index.toNat .unit):=by simp[List.getD,uB hi.2]
    exact MV.nle_mono oO _ (dR he hg)
   ·cases h
  split at h
  ·split at h;· cases h
   ·simp only[uC,uD]at h;obtain⟨rfl,rfl⟩:=h;simp only[MV.nle];exact MV.nles_mono oO _ he
  split at h;· cases h
  split at h;· cases h
  rename_i l c1 hl;split at h;· cases h
  rename_i w c2 hw;simp only[uC,uD]at h;obtain⟨rfl,rfl⟩:=h;unfold z0b at hw;split at hw
  ·have:=zag hN hw (IG hN hl he);exact MV.nle_mono oO _ this
  ·cases hw
end
section
variable {gl:AB}
theorem zfg:∀{d:Nat} {t:Tm} {e:List MV} {v:MV} {c:Nat},UK d t e=some (v,c)->1<=c
 | 0,t,e,v,c,h=>by cases h
 | d+1,t,e,v,c,h=>by
  rw[UK]at h;repeat' split at h
  all_goals first
   | (cases h;done)
   | (simp only[uC,uD]at h;omega)
theorem zah:blC [] (some [])=some (True,.ag [] []):=rfl
attribute [go_sem] zah
theorem NU (l:List Nat):(MV.list l).thing = .iface 178 (DZ l):=by rw[MV.thing]
theorem VG (x y:MV):(MV.both x y).thing = .iface 184 (.ref [x.thing,y.thing]):=by rw[MV.thing]
theorem y4:MV.unit.thing = .iface 188 (.agg []):=by rw[MV.thing]
theorem TX:DZ []=zae:=rfl
theorem NV (n:Nat)(l:List Nat):DZ (n::l) = .ref [A0 (n:Int),DZ l]:=rfl
theorem EL {most n:Nat}(h:n<=most)(v:DV):G4 most n v = .tup [v,AR true]:=by unfold G4;rw[if_pos h]
theorem JC {most n:Nat}(h:¬n<=most)(v:DV):G4 most n v = .tup [GT,AR false]:=by unfold G4;rw[if_neg h]
theorem AG {most n:Nat}(h:n<=most):CJ most n=[A0 (n:Int),A0 (most:Int)]:=by unfold CJ;rw[if_pos h]
theorem FZ {most n:Nat}(h:¬n<=most):CJ most n=[A0 (most:Int),A0 (most:Int)]:=by unfold CJ;rw[if_neg h]
def z0d (P:Program)(gl:AB)(ff:FuncId)(most:Nat)(ev:RF):Prop:=
 ∀ ⦃r f v:MV⦄ ⦃l:List Nat⦄ ⦃u c:Nat⦄ (b M:Nat),LY ev f r l=some (v,c)->u<=most->M+(most - u)<=1073741824->r.nle M->f.nle M->(l.length<=M/\∀n∈l,n<=M) ->
  RC P gl ff [DP b,.agg (NT [r,f,.list l])] [(b,CJ most u)] (G4 most (u+c) v.thing) [(b,CJ most (u+c))]
theorem zfh {most:Nat}(hm:most<=1073741824)(t:Tm){e:List MV}{u:Nat}(b:Nat)(hu:u<=most)(h1:t.kind=1)(hi:0<=t.index/\t.index.toNat<e.length) :
  cT gl 96 [DP b,t.dv,MV.envM e] [(b,CJ most u)] (G4 most (u+1) (e.getD t.index.toNat .unit).thing) [(b,CJ most (u+1))]:=by
 rw[AG hu];have hti:(t.index.toNat:Int)=t.index:=Int.toNat_of_nonneg hi.1;have W1:=z4v (gl:=gl) e t.index.toNat hi.2;rw[hti]at W1;by_cases Ar:u+1<=most
 ·rw[AG Ar,EL Ar];have De:¬(most:Int)<=(u:Int):=oO;refine A6 Tryz.func96 ?_;intro X hP u6 hf u8 hn hR u5 u4;refine A7 (j2 @De @h1) ?_;refine A3 tT W1 ?_;exact AY [(b,[A0 ((u+1:Nat):Int),A0 (most:Int)])] tT
 ·rw[FZ Ar,JC Ar];have De:(most:Int)<=(u:Int):=oO;have Zm:(u:Int)=(most:Int):=oO;refine A6 Tryz.func96 ?_;intro X hP u6 hf u8 hn hR u5 u4;refine A7 @De ?_;exact AY [(b,[A0 (most:Int),A0 (most:Int)])] @Zm
theorem zfi {most:Nat}(hm:most<=1073741824)(t:Tm){e:List MV}{u:Nat}(b:Nat)(hu:u<=most)(h2:t.kind=2){body:Tm}{rest:List Tm}(ha:t.args=body::rest) :
  cT gl 96 [DP b,t.dv,MV.envM e] [(b,CJ most u)] (G4 most (u+1) (MV.clo body e).thing) [(b,CJ most (u+1))]:=by
 rw[AG hu];by_cases Ar:u+1<=most
 ·rw[AG Ar,EL Ar,iJ];have De:¬(most:Int)<=(u:Int):=oO;have hg:(t.args.map Tm.cells)[0]? = some [A0 body.kind,A0 body.index,A0 body.type.kind,.sl (body.type.args.map Ty.cells),.sl (body.args.map Tm.cells)]:=by rw[ha];simp[Tm.cells_eq]
  have Fs:t.args[0]? = some body:=by rw[ha];rfl
  have hT:=Tm.fold body;refine A6 Tryz.func96 ?_;intro X hP u6 hf u8 hn hR u5 u4;refine A7 (j2 @De @h2) ?_;refine B4 [42] fun K hK=>?_;simp[go_sem,hP,u6,hn,hg,Fs,hT,Tm.cells_eq];refine dQ (cs:=[A0 body.kind,A0 body.index,A0 body.type.kind,.sl (body.type.args.map Ty.cells),.sl (body.args.map Tm.cells),MV.envM e]) (y:=.ag [A0 body.kind,A0 body.index,A0 body.type.kind,.sl (body.type.args.map Ty.cells),.sl (body.args.map Tm.cells),MV.envM e] []) (by simp[go_sem,hP,u6,hn]) (by simp[go_sem]) (by simp[go_sem]) (by rw[hn];exact uF rfl) (by rfl) ?_;simp[go_sem,hP,u6,hn];refine I7 ?_;clear hK K;exact AY [(b,[A0 ((u+1:Nat):Int),A0 (most:Int)])] tT
 ·rw[FZ Ar,JC Ar];have De:(most:Int)<=(u:Int):=oO;have Zm:(u:Int)=(most:Int):=oO;refine A6 Tryz.func96 ?_;intro X hP u6 hf u8 hn hR u5 u4;refine A7 @De ?_;exact AY [(b,[A0 (most:Int),A0 (most:Int)])] @Zm
def LZ (l:List DV):List (List DV):=l.map fun x=>[x]
theorem ZB (l:List DV):(LZ l).length=l.length:=by simp[LZ]
theorem zai {l:List DV}{i:Nat}{x:DV}(h:l[i]? = some x):(LZ l)[i]? = some [x]:=by simp[LZ,h]
attribute [go_sem] ZB
theorem lB (l:List DV):Con Tryz.prog gl 207 [.sl (LZ l)] [] fun r φ=>∃b,r = .prim (.func (.func 242) #[] #[.pointer (some ⟨b,0,none⟩)])/\φ=[(b,[.sl (LZ l)])]:=by
 refine A6 Tryz.func207 ?_;intro X hP u6 hf u8 hn hR u5 u4;refine A5 ?_;refine FW 1 (by simp[go_sem];rfl) ?_;intro b hb;simp[go_sem];refine A5 ?_;refine BR ?_;refine RX hP hf u8 (.prim (.func (.func 242) #[] #[.pointer (some ⟨b,0,none⟩)])) [(b,[.sl (LZ l)])] (by simp[go_sem,hP,u6,hn]) (by simp[go_sem]) sS (by rw[hR.1];exact⟨b,rfl,rfl⟩) hR.2
def zgm (P:Program)(gl:AB)(l:List DV)(φ:Nat->BS)(Stop:BS->Loop->Prop)(lp:Nat)(r:Loop)(D0:Nat->Nat->Prop)(w0:World):Prop:=
 ∀(i:Nat) (x:DV),l[i]? = some x->YC P gl D0 w0 lp r [A0 i,x] (φ (i+1)) fun b Ag r'=>if b=true then Ag=φ i/\r' = r else Stop Ag r'
theorem y5 (l:List DV)(hlen:l.length<=2147483648)(b0:Nat)(φ:Nat->BS)(Bb:∀i,(φ i).map (·.1)=(φ 0).map (·.1))(Aw:((φ 0).map (·.1)).Nodup)(Ey:b0∉(φ 0).map (·.1)){Stop:BS->Loop->Prop}(Jp:∀ψ r',Stop ψ r'->ψ.map (·.1)=(φ 0).map (·.1))(lp:Nat)(r:Loop)(Kp:r.params.size=2) :
  ItC Tryz.prog gl 242 [.prim (.func (.yield lp) #[] #[]),DP b0] ((b0,[.sl (LZ l)])::φ l.length) lp r (zgm Tryz.prog gl l φ Stop lp r) (fun Ag r'=>(Ag=(b0,[.sl (LZ l)])::φ 0/\r' = r)\/∃ψ,Ag=(b0,[.sl (LZ l)])::ψ/\Stop ψ r'):=by
 refine XN Tryz.func242 rfl kK (uF rfl) ?_;intro X hP u6 hf u8 hn Cw u5 u4 Vv hY;simp only[List.map_cons,List.mem_cons,not_or,Bb]at Vv;obtain⟨Bw,Hj⟩:=Vv;have Ca:∀(i:Nat) (A:St),(∀m v,(m,v)∈A->∀b∈(φ 0).map (·.1),m≠.heap b)->BW (get (A++DO (φ i))) (φ i):=fun i A h=>S4 (by rw[Bb];exact Aw) (by rw[Bb];exact h);simp only[UZ,entry,MH,DO,List.map_cons,List.map_nil,List.cons_append,List.nil_append];refine BZ @Bw ?_;refine BR ?_;refine jZ (A':=[(.slot 3,.one (.v (A0 ((l.length:Int) - 1 - (0:Nat))))),(.slot 0,.one (.v (.prim (.func (.yield lp) #[] #[])))),(.slot 1,.one (.v (DP b0))),(.heap lp,.ob r),(.heap b0,.row [.v (.sl (LZ l))])]) (A:=[_,_,_,_,_,_,_,_]) ?_ ?_ ?_
 ·intro m v h;simp only[List.mem_cons,List.not_mem_nil,or_false,uD]at h;rcases h with⟨rfl,rfl⟩|⟨rfl,rfl⟩|⟨rfl,rfl⟩|⟨rfl,rfl⟩|⟨rfl,rfl⟩ <;> simp[go_sem,Bw]
 ·simp only[List.cons_append,List.nil_append];refine NG (X:=X) l.length (fun _=>True) (fun j=>(.slot 3,.one (.v (A0 ((l.length:Int) - 1 - (j:Nat)))))::(.slot 0,.one (.v (.prim (.func (.yield lp) #[] #[]))))::(.slot 1,.one (.v (DP b0)))::(.heap lp,.ob r)::(.heap b0,.row [.v (.sl (LZ l))])::DO (φ (l.length - j))) tT ?_ ?_
  ·intro j hj _ u7;obtain⟨i,hi⟩:∃i:Nat,l.length=j+1+i:=⟨l.length - (j+1),oO⟩;have Oe:(l.length:Int) - 1 - (j:Nat)=(i:Nat):=oO;have Iu:l.length - j=i+1:=oO;have hi3:l.length - (j+1)=i:=oO;have hx:l[i]? = some l[i]:=uB oO;rw[Oe,Iu];rw[hi3]at u7;generalize l[i]=x at hx;have Kg:=zai hx;refine A5 ?_;refine AQ ?_;refine BR ?_;first|refine B4 [] fun K hK=>?_|refine AU (by rw[hP];exact BK) [] fun K hK=>?_
   refine rW (j2 @Bw @Kg) ?_;repeat (refine⟨oO,?_⟩)
   refine V0 (by simp[go_sem]) hP u6 (hY i x hx) Kp (by simp[go_sem]) rfl ?_ (by rw[Bb];exact Aw) (by simp[go_sem]) (by rw[hn];exact uF rfl) [(.slot 3,.one (.v (A0 (i:Nat)))),(.slot 0,.one (.v (.prim (.func (.yield lp) #[] #[])))),(.slot 1,.one (.v (DP b0))),(.heap b0,.row [.v (.sl (LZ l))])] ?_ ?_ ?_
   ·repeat (first|refine JQ ?_|refine JR (by rw[Bb];assumption) ?_)
    exact JS (by rw[Bb];exact Aw)
   ·intro m v h;simp only[List.mem_cons,List.not_mem_nil,or_false,uD]at h;rw[Bb];rcases h with⟨rfl,rfl⟩|⟨rfl,rfl⟩|⟨rfl,rfl⟩|⟨rfl,rfl⟩;· simp[go_sem]
    ·simp[go_sem]
    ·simp[go_sem]
    ·refine⟨by simp[go_sem,Bw],sS,by simp;exact fun e=>Bw e.symm,fun b hb e=>?_⟩;cases e;exact Ey hb
   ·intro b Ag r' h;have:Ag.map (·.1)=(φ 0).map (·.1):=by
     split at h;· rw[h.1,Bb]
     ·exact Jp _ _ h
    rw[this];exact⟨Aw,Hj⟩
   ·intro b Ag r' h _;simp only[List.cons_append,List.nil_append];cases b with
    | true=>
     simp only[if_true]at h;obtain⟨rfl,rfl⟩:=h;simp[go_sem,hP,u6,hn];refine I7 ?_;clear hK K;refine B9 ?_;refine A5 ?_;refine BR ?_;refine jZ (A':=[(.slot 3,.one (.v (A0 ((l.length:Int) - 1 - (j+1:Nat))))),(.slot 0,.one (.v (.prim (.func (.yield lp) #[] #[])))),(.slot 1,.one (.v (DP b0))),(.heap lp,.ob r'),(.heap b0,.row [.v (.sl (LZ l))])]) (A:=[_,_,_,_,_,_,_,_,_]) ?_ (u7 tT) ?_
     ·intro m v h;simp only[List.mem_cons,List.not_mem_nil,or_false,uD]at h;rcases h with⟨rfl,rfl⟩|⟨rfl,rfl⟩|⟨rfl,rfl⟩|⟨rfl,rfl⟩|⟨rfl,rfl⟩ <;> simp[go_sem,Bw];omega
     ·intro m v h;simp only[List.mem_cons,List.not_mem_nil,or_false,uD]at h;rw[Bb];intro b hb;rcases h with⟨rfl,rfl⟩|⟨rfl,rfl⟩|⟨rfl,rfl⟩|⟨rfl,rfl⟩|⟨rfl,rfl⟩|⟨rfl,rfl⟩|⟨rfl,rfl⟩|⟨rfl,rfl⟩|⟨rfl,rfl⟩ <;> first|(simp;done)|(intro e;cases e;first|exact Ey hb|exact Hj hb)
    | false=>
     simp only[Bool.false_eq_true,if_false]at h;have Bu:=Jp _ _ h;simp[go_sem,hP,u6,hn];refine I7 ?_;clear hK K;refine AQ ?_;refine BR ?_;refine W3 Cw (φ:=(b0,[.sl (LZ l)])::Ag) (q:=r') (r:=.tup []) (by rw[hP,hf,u8];exact Tryz.func242) (by rw[u8];simp[go_sem]) (B8 ?_ ?_) ?_ ?_ (.inr ⟨Ag,rfl,h⟩) W2;· simp[go_sem,Bw]
     ·repeat (first|refine JQ ?_|refine JR (by rw[Bu];assumption) ?_)
      exact JS (by rw[Bu];exact Aw)
     ·simp only[List.map_cons,List.nodup_cons,Bu];exact⟨Ey,Aw⟩
     ·simp[go_sem,Bw]
  ·intro _;refine A5 ?_;refine B9 ?_;refine BR ?_;refine W3 Cw (φ:=(b0,[.sl (LZ l)])::φ 0) (q:=r) (r:=.tup []) (by rw[hP,hf,u8];exact Tryz.func242) (by rw[u8];simp[go_sem]) (B8 ?_ ?_) ?_ ?_ (.inl ⟨rfl,rfl⟩) RP;· simp[go_sem,Bw]
   ·repeat (first|refine JQ ?_|refine JR (by assumption) ?_)
    exact JS Aw
   ·simp only[List.map_cons,List.nodup_cons];exact⟨Ey,Aw⟩
   ·simp[go_sem,Bw]
 ·intro m v h;simp only[List.mem_cons,List.not_mem_nil,or_false,uD]at h;rw[Bb];intro b hb;rcases h with⟨rfl,rfl⟩|⟨rfl,rfl⟩|⟨rfl,rfl⟩|⟨rfl,rfl⟩|⟨rfl,rfl⟩|⟨rfl,rfl⟩|⟨rfl,rfl⟩|⟨rfl,rfl⟩ <;> first|(simp;done)|(intro e;cases e;first|exact Ey hb|exact Hj hb)
def cellsOf:List Nat->List DV
 | []=>[]
 | n::l=>DZ (n::l)::cellsOf l
theorem SP:∀l,(cellsOf l).length=l.length
 | []=>rfl
 | n::l=>by simp[cellsOf,SP l]
theorem ZC:∀{l:List Nat} {i:Nat},i<l.length->(cellsOf l)[i]? = some (DZ (l.drop i))
 | n::l,0,_=>rfl
 | n::l,i+1,h=>by simpa [cellsOf] using ZC (l:=l) (i:=i) (by simpa using h)
theorem iK {ev:RF}{f r:MV}:∀{l:List Nat} {v:MV} {c:Nat} (i:Nat),LY ev f r l=some (v,c)->∃v' c',LY ev f r (l.drop i)=some (v',c')/\c'<=c
 | l,v,c,0,h=>⟨v,c,h,Nat.le_refl _⟩
 | [],v,c,i+1,h=>⟨v,c,h,Nat.le_refl _⟩
 | x::l,v,c,i+1,h=>by
  simp only[LY]at h;split at h;· cases h
  rename_i v1 c1 Fa;split at h;· cases h
  rename_i w c2 hw;simp only[uC,uD]at h;obtain⟨rfl,rfl⟩:=h;obtain⟨v',c',h1,h2⟩:=iK i Fa;exact⟨v',c',h1,oO⟩
theorem z4x {ev:RF}{f r:MV}{x:Nat}{l:List Nat}{v:MV}{c:Nat}(h:LY ev f r (x::l)=some (v,c)):∃v1 c1 c2,LY ev f r l=some (v1,c1)/\HX ev f [.num x,.list l,v1]=some (v,c2)/\c=c1+c2:=by
 simp only[LY]at h;split at h;· cases h
 rename_i v1 c1 Fa;split at h;· cases h
 rename_i w c2 hw;simp only[uC,uD]at h;obtain⟨rfl,rfl⟩:=h;exact⟨v1,c1,c2,Fa,hw,rfl⟩
def ZD (ev:RF)(f r:MV)(l:List Nat)(i:Nat):MV × Nat:=(LY ev f r (l.drop i)).getD (.unit,0)
theorem zfj {M c1 most u:Nat}(h:M+(most - u)<=1073741824)(k:u+c1<=most):M+c1+(most - (u+c1))<=1073741824:=oO
theorem zaj {most:Nat}(hm:most<=1073741824){ev:RF}(H:JY Tryz.prog gl 96 most ev)(hN:NS most ev):z0d Tryz.prog gl 151 most ev:=by
 intro r f v l u c b M h hu hM Il Bz hl0;have z0:GZ [r,f,.list l] 0=r.thing:=rfl;have z1:GZ [r,f,.list l] 1=f.thing:=rfl;have z2:GZ [r,f,.list l] 2 = .iface 178 (DZ l):=NU l;have Mh:(l.length:Int)<=1073741824:=oO;unfold NT;rw[z0,z1,z2,AG hu];refine A6 Tryz.func151 ?_;intro X hP u6 hf u8 hn hR u5 u4;refine A2 ?_;refine BR ?_;refine AA [(1006,0)] @LZ.eq_1 (E6 (fun x:List DV × List Nat=>x.1++cellsOf x.2=cellsOf l/\x.1.length+x.2.length=l.length) (fun x:List DV × List Nat=>[(.slot 6,.one (.own 1006 (LZ x.1))),(.tok 1006,.tk 1 x.1.length),sV 7 (DZ x.2),sV 4 GT,sV 5 (AR false),sP 2,sL 2 [.v (DP b)],sP 3,sL 3 [.v r.thing,.v f.thing,.v (.iface 178 (DZ l))],sB  b [.v (A0 (u:Int)),.v (A0 (most:Int))]]) (fun x:List DV × List Nat=>x.2.length) (([]:List DV),l) (⟨rfl,sS⟩) ?_);rintro⟨cs,q⟩ ⟨hq1,Sp⟩ ih;simp only at hq1 Sp;cases q with
 | cons n q=>
  have Ke:=NV n q;have hon:=ZB cs;simp only[List.length_cons]at Sp;have hle:(cs.length:Int)+1<=1073741824:=oO;have Bn:cs.length<=2147483647:=oO;have Hg:∀e:List DV,e∈LZ cs->e.length=1:=by intro e he;simp only[LZ,List.mem_map]at he;obtain⟨x,-,rfl⟩:=he;rfl
  have hone:LZ cs++[[DV.ref [A0 (n:Int),DZ q]]]=LZ (cs++[DV.ref [A0 (n:Int),DZ q]]):=by simp[LZ]
  have e1:(cs++[DV.ref [A0 (n:Int),DZ q]])++cellsOf q=cellsOf l:=by rw[<- hq1,cellsOf,Ke];simp
  have e2:(cs++[DV.ref [A0 (n:Int),DZ q]]).length+q.length=l.length:=by simp;omega
  have e3:q.length<(n::q).length:=sS;rw[Ke];refine A5 ?_;refine AQ ?_;refine BZ (j3 @Bn @Hg @hon) ?_;refine A5 ?_;have Jk:(cs++[DV.ref [A0 (n:Int),DZ q]]).length=cs.length+1:=sS;refine GX ?_;refine AA [(1006,24)] (j3 @hone @hon @Jk) (ih (cs++[DV.ref [A0 (n:Int),DZ q]],q) ⟨e1,e2⟩ e3)
 | nil=>
  simp only[cellsOf,List.append_nil]at hq1;subst hq1;have Ke:=TX;rw[Ke];refine A5 ?_;refine B9 ?_;refine A5 ?_;refine BR ?_;first|refine B4 [] fun K hK=>?_|refine AU (by rw[hP];exact BK) [] fun K hK=>?_
  refine K0 ?_;repeat (refine⟨oO,?_⟩)
  refine P9 hP u6 (lB (cellsOf l)) (by simp[go_sem]) rfl (by simp[go_sem]) sS (by rw[hn];exact uF rfl) ?_;rintro rr ψ ⟨b0,rfl,rfl⟩ Bm;simp[go_sem]at Bm ⊢;refine I7 ?_;clear hK K;refine BR ?_;refine FW 2 (by simp[go_sem];rfl) ?_;intro b2 Et;simp[go_sem,Bm]at Et ⊢;refine FW 3 (by simp[go_sem];rfl) ?_;intro b3 Ok;simp[go_sem,Bm,Et]at Ok ⊢;refine FW 8 (by simp[go_sem];rfl) ?_;intro b8 Zd;simp[go_sem,Bm,Et,Ok]at Zd ⊢;refine FW 9 (by simp[go_sem];rfl) ?_;intro b9 hb9;simp[go_sem,Bm,Et,Ok,Zd]at hb9 ⊢;have Ce:¬b0=b:=fun e=>Bm e.symm;obtain⟨q1,q2⟩:=Et;obtain⟨q3,q4,q5⟩:=Ok;obtain⟨q6,q7,q8,q9⟩:=Zd;obtain⟨Ff,Fd,Fh,Fw,Fy⟩:=hb9;have Gk:¬b9=b:=fun e=>Fy e.symm;have Gp:¬b8=b:=fun e=>q9 e.symm;have Gn:¬b3=b:=fun e=>q5 e.symm;have Gj:¬b2=b:=fun e=>q2 e.symm;have p1:=Ne.symm q1;have p3:=Ne.symm q3;have p4:=Ne.symm q4;have p6:=Ne.symm q6;have p7:=Ne.symm q7;have p8:=Ne.symm q8;have Gw:=Ne.symm Ff;have Gc:=Ne.symm Fd;have Gf:=Ne.symm Fh;have Gv:=Ne.symm Fw;have hS:∀i,LY ev f r (l.drop i)=some (ZD ev f r l i)/\(ZD ev f r l i).2<=c:=by
   intro i;obtain⟨v',c',e1,e2⟩:=iK i h;unfold ZD;rw[e1];exact⟨rfl,e2⟩
  have hS0:ZD ev f r l 0=(v,c):=by unfold ZD;rw[List.drop_zero,h];rfl
  have hSl:ZD ev f r l l.length=(r,0):=by unfold ZD;rw[List.drop_length];rfl
  generalize hSS:ZD ev f r l=S at hS hS0 hSl
  let Φ:Nat->BS:=fun i=>[(b2,[DP b]),(b3,[r.thing,f.thing,.iface 178 (DZ l)]),(b8,[if u+(S i).2<=most then (S i).1.thing else GT]),(b9,[AR (decide (u+(S i).2<=most))]),(b,CJ most (u+(S i).2))]
  have Nh:(cellsOf l).length=l.length:=SP l;have Ml:Φ (cellsOf l).length=[(b2,[DP b]),(b3,[r.thing,f.thing,.iface 178 (DZ l)]),(b8,[r.thing]),(b9,[AR true]),(b,[A0 (u:Int),A0 (most:Int)])]:=by
   simp only[Φ,Nh,hSl,Nat.add_zero,if_pos hu,AG hu,decide_eq_true hu]
  refine RZ hR.2 (f:=242) (fi:=#[]) (ca:=#[.pointer (some ⟨b0,0,none⟩)]) (by simp[go_sem]) (by simp[D5]) (φ:=(b0,[.sl (LZ (cellsOf l))])::Φ (cellsOf l).length) ?_ ?_ (Y:=zgm X.P X.gl (cellsOf l) Φ (fun ψ r'=>∃i,ψ=Φ i/\¬u+(S i).2<=most/\r'.state = .done/\r'.pending=some (.exit 2))) (R:=fun Ag r'=>(Ag=(b0,[.sl (LZ (cellsOf l))])::Φ 0/\r'.state = .ready/\r'.pending=none)\/∃i,Ag=(b0,[.sl (LZ (cellsOf l))])::Φ i/\¬u+(S i).2<=most/\r'.state = .done/\r'.pending=some (.exit 2)) (SL:=[(2,DP b2),(3,DP b3),(8,DP b8),(9,DP b9)]) ?_ ?_ ?_ ?_ ?_
  ·rw[Ml];refine B8 ?_ (B8 ?_ (B8 ?_ (B8 ?_ (B8 ?_ (B8 ?_ (by simp[BW]))))));all_goals simp[go_sem,Bm,Ce,q1,q2,q3,q4,q5,q6,q7,q8,q9,Ff,Fd,Fh,Fw,Fy,Gk,Gp,Gn,Gj,p1,p3,p4,p6,p7,p8,Gw,Gc,Gf,Gv]
  ·rw[Ml];simp[Bm,Ce,q1,q2,q3,q4,q5,q6,q7,q8,q9,Ff,Fd,Fh,Fw,Fy,Gk,Gp,Gn,Gj,p1,p3,p4,p6,p7,p8,Gw,Gc,Gf,Gv];try (refine⟨?_,?_⟩ <;> (intro e;subst e;simp_all))
  ·intro n x h;simp only[List.mem_cons,List.not_mem_nil,or_false,uD]at h;rcases h with⟨rfl,rfl⟩|⟨rfl,rfl⟩|⟨rfl,rfl⟩|⟨rfl,rfl⟩ <;> simp[go_sem]
  ·intro lp rr h1 h2 h3 h4;have:=y5 (gl:=gl) (cellsOf l) (by rw[Nh];omega) b0 Φ (fun _=>rfl) (by simp only[Φ];simp[Bm,Ce,q1,q2,q3,q4,q5,q6,q7,q8,q9,Ff,Fd,Fh,Fw,Fy,Gk,Gp,Gn,Gj,p1,p3,p4,p6,p7,p8,Gw,Gc,Gf,Gv];try (intro e;subst e;simp_all)) (by simp only[Φ];simp[Bm,Ce,q1,q2,q3,q4,q5,q6,q7,q8,q9,Ff,Fd,Fh,Fw,Fy,Gk,Gp,Gn,Gj,p1,p3,p4,p6,p7,p8,Gw,Gc,Gf,Gv]) (Stop:=fun ψ r'=>∃i,ψ=Φ i/\¬u+(S i).2<=most/\r'.state = .done/\r'.pending=some (.exit 2)) (by rintro ψ r' ⟨i,rfl,-⟩;rfl) lp rr (by rw[h3];rfl);rw[hP,u6];refine⟨this.1,fun D w vs a1 a2 a3 a4 a5 a6=>(this.2 D w vs a1 a2 a3 a4 a5 a6).mono ?_⟩;rintro e w' ⟨v1,D',Ag,r',rfl,Ym,rest⟩;refine⟨v1,D',Ag,r',rfl,?_,rest⟩;rcases Ym with⟨rfl,rfl⟩|⟨ψ,hψ,i,rfl,k1,k2,k3⟩;· exact .inl ⟨rfl,h1,h2⟩
   ·exact .inr ⟨i,hψ,k1,k2,k3⟩
  ·intro lp rr D0 w0 h1 h2 h3 h4 h5 h6 h7 h8 h9 i x hx;rw[hP,u6];have Cc:i<l.length:=by have:=(uA hx).1;rw[Nh]at this;exact this
   rw[ZC Cc,uC]at hx;subst hx;refine cB X.n h5 h9 h1 (by rw[h3];rfl) (by rw[h3,hn];decide) (by rw[h3];decide) (by rw[h3];simp) ?_;intro X' Yw Mn Me Ka Gr Bu Ct Si;rw[h3,h6,h7];rw[hn]at Ka;clear hP u6 hn;have hP:=Yw;have u6:=Mn;have hn:=Ka;have Jy:¬lp=b2/\¬lp=b3/\¬lp=b8/\¬lp=b9/\¬lp=b:=by simpa [Φ] using Ct
   obtain⟨x2,x3,x8,x9,xb⟩:=Jy;have i2:=Ne.symm x2;have i3:=Ne.symm x3;have i8:=Ne.symm x8;have i9:=Ne.symm x9;have ib:=Ne.symm xb;obtain⟨n,Yq⟩:∃n,l.drop i=n::l.drop (i+1):=⟨l[i],List.drop_eq_getElem_cons Cc⟩;have Ke:=NV n (l.drop (i+1));have hfS:=(hS i).1;rw[Yq]at hfS ⊢;obtain⟨v1,c1,c2,g1,g2,g3⟩:=z4x hfS;have hS1:=(hS (i+1)).1;rw[g1,uC]at hS1;rw[Ke];by_cases Da:u+c1<=most
   ·have Rh:Φ (i+1)=[(b2,[DP b]),(b3,[r.thing,f.thing,.iface 178 (DZ l)]),(b8,[v1.thing]),(b9,[AR true]),(b,[A0 ((u+c1:Nat):Int),A0 (most:Int)])]:=by
     simp only[Φ,<- hS1,if_pos Da,AG Da,decide_eq_true Da]
    have Ji:∀n'∈l.drop (i+1),n'<=M:=fun n' Ka=>hl0.2 n' (List.mem_of_mem_drop Ka);have Jz:(l.drop (i+1)).length<=M:=by have:=hl0.1;rw[List.length_drop];omega
    have hnM:n<=M:=hl0.2 n (List.mem_of_mem_drop (by rw[Yq];exact List.mem_cons_self));have Fa:=dS hN g1 Bz Il ⟨Jz,Ji⟩;have w1:f.nle (M+c1):=MV.nle_mono (Nat.le_add_right M c1) f Bz;have w2:M+c1+(most - (u+c1))<=1073741824:=zfj hM Da;have w3:MV.nles (M+c1) [.num n,.list (l.drop (i+1)),v1]:=by
     simp only[MV.nles,MV.nle];exact⟨oO,⟨oO,fun n' Ka=>Nat.le_trans (Ji n' Ka) (Nat.le_add_right M c1)⟩,Fa,trivial⟩
    have W1:=WW hm H hN b (M+c1) g2 Da w2 w1 w3;rw[AG Da]at W1;simp only[List.map,L5,NU]at W1;rw[Rh];simp only[Q7,h3,YR,RY,DO,List.cons_append,List.nil_append];have J0:=j8 @Bm @Ce @q1 @q2 @q3 @q4 @q5 (j8 @q6 @q7 @q8 @q9 @Ff @Fd @Fh (j8 @Fw @Fy @Gk @Gp @Gn @Gj @p1 (j8 @p3 @p4 @p6 @p7 @p8 @Gw @Gc (j8 @Gf @Gv @x2 @x3 @x8 @x9 @xb (j5 @i2 @i3 @i8 @i9 @ib)))));refine BZ J0 ?_;refine aG (r:=rr) (l:=lp) (by simp[Ctx.rd,Gr]) (by simp[go_sem]) h1 ?_;simp[go_sem,Bm,Ce,q1,q2,q3,q4,q5,q6,q7,q8,q9,Ff,Fd,Fh,Fw,Fy,Gk,Gp,Gn,Gj,p1,p3,p4,p6,p7,p8,Gw,Gc,Gf,Gv,x2,x3,x8,x9,xb,i2,i3,i8,i9,ib];refine BZ J0 ?_;refine B9 ?_;by_cases Gt:u+c1+c2<=most
    ·have o1:G4 most (u+c1+c2) (S i).1.thing = .tup [(S i).1.thing,AR true]:=EL Gt _;have Ij:Φ i=[(b2,[DP b]),(b3,[r.thing,f.thing,.iface 178 (DZ l)]),(b8,[(S i).1.thing]),(b9,[AR true]),(b,[A0 ((u+c1+c2:Nat):Int),A0 (most:Int)])]:=by
      have e9:u+(S i).2=u+c1+c2:=oO;simp only[Φ,e9,if_pos Gt,AG Gt,decide_eq_true Gt]
     rw[o1,AG Gt]at W1;refine BR ?_;first|refine B4 [] fun K hK=>?_|refine AU (by rw[hP];exact BK) [] fun K hK=>?_
     refine rW J0 ?_;refine zl9 J0 (W1) ?_;refine I7 ?_;clear hK K;refine BR ?_;refine W4 Gr (φ:=Φ i) ?_ (by simp only[Φ];simp[Bm,Ce,q1,q2,q3,q4,q5,q6,q7,q8,q9,Ff,Fd,Fh,Fw,Fy,Gk,Gp,Gn,Gj,p1,p3,p4,p6,p7,p8,Gw,Gc,Gf,Gv]) (by simp[go_sem,Bm,Ce,q1,q2,q3,q4,q5,q6,q7,q8,q9,Ff,Fd,Fh,Fw,Fy,Gk,Gp,Gn,Gj,p1,p3,p4,p6,p7,p8,Gw,Gc,Gf,Gv,x2,x3,x8,x9,xb,i2,i3,i8,i9,ib]) none rfl ?_
     ·rw[Ij];refine B8 ?_ (B8 ?_ (B8 ?_ (B8 ?_ (B8 ?_ (by simp[BW])))));all_goals simp[go_sem,Bm,Ce,q1,q2,q3,q4,q5,q6,q7,q8,q9,Ff,Fd,Fh,Fw,Fy,Gk,Gp,Gn,Gj,p1,p3,p4,p6,p7,p8,Gw,Gc,Gf,Gv,x2,x3,x8,x9,xb,i2,i3,i8,i9,ib]
     ·simp only[Option.isNone_none,if_true,true_and];cases rr;simp only[R7]at h1 h2 ⊢;subst h1 h2;rfl
    ·have o1:G4 most (u+c1+c2) (S i).1.thing = .tup [GT,AR false]:=JC Gt _;have Ij:Φ i=[(b2,[DP b]),(b3,[r.thing,f.thing,.iface 178 (DZ l)]),(b8,[GT]),(b9,[AR false]),(b,[A0 (most:Int),A0 (most:Int)])]:=by
      have e9:u+(S i).2=u+c1+c2:=oO;simp only[Φ,e9,if_neg Gt,FZ Gt,decide_eq_false Gt]
     rw[o1,FZ Gt]at W1;refine BR ?_;first|refine B4 [] fun K hK=>?_|refine AU (by rw[hP];exact BK) [] fun K hK=>?_
     refine rW J0 ?_;refine zl9 J0 (W1) ?_;refine I7 ?_;clear hK K;refine BR ?_;refine W4 Gr (φ:=Φ i) ?_ (by simp only[Φ];simp[Bm,Ce,q1,q2,q3,q4,q5,q6,q7,q8,q9,Ff,Fd,Fh,Fw,Fy,Gk,Gp,Gn,Gj,p1,p3,p4,p6,p7,p8,Gw,Gc,Gf,Gv]) (by simp[go_sem,Bm,Ce,q1,q2,q3,q4,q5,q6,q7,q8,q9,Ff,Fd,Fh,Fw,Fy,Gk,Gp,Gn,Gj,p1,p3,p4,p6,p7,p8,Gw,Gc,Gf,Gv,x2,x3,x8,x9,xb,i2,i3,i8,i9,ib]) none rfl ?_
     ·rw[Ij];refine B8 ?_ (B8 ?_ (B8 ?_ (B8 ?_ (B8 ?_ (by simp[BW])))));all_goals simp[go_sem,Bm,Ce,q1,q2,q3,q4,q5,q6,q7,q8,q9,Ff,Fd,Fh,Fw,Fy,Gk,Gp,Gn,Gj,p1,p3,p4,p6,p7,p8,Gw,Gc,Gf,Gv,x2,x3,x8,x9,xb,i2,i3,i8,i9,ib]
     ·simp only[Option.isNone_none,if_true,true_and];cases rr;simp only[R7]at h1 h2 ⊢;subst h1 h2;rfl
   ·have Rh:Φ (i+1)=[(b2,[DP b]),(b3,[r.thing,f.thing,.iface 178 (DZ l)]),(b8,[GT]),(b9,[AR false]),(b,[A0 (most:Int),A0 (most:Int)])]:=by
     simp only[Φ,<- hS1,if_neg Da,FZ Da,decide_eq_false Da]
    rw[Rh];simp only[Q7,h3,YR,RY,DO,List.cons_append,List.nil_append];have J1:=j8 @Bm @Ce @q1 @q2 @q3 @q4 @q5 (j8 @q6 @q7 @q8 @q9 @Ff @Fd @Fh (j8 @Fw @Fy @Gk @Gp @Gn @Gj @p1 (j8 @p3 @p4 @p6 @p7 @p8 @Gw @Gc (j8 @Gf @Gv @x2 @x3 @x8 @x9 @xb (j5 @i2 @i3 @i8 @i9 @ib)))));refine BZ J1 ?_;refine aG (r:=rr) (l:=lp) (by simp[Ctx.rd,Gr]) (by simp[go_sem]) h1 ?_;simp[go_sem,Bm,Ce,q1,q2,q3,q4,q5,q6,q7,q8,q9,Ff,Fd,Fh,Fw,Fy,Gk,Gp,Gn,Gj,p1,p3,p4,p6,p7,p8,Gw,Gc,Gf,Gv,x2,x3,x8,x9,xb,i2,i3,i8,i9,ib];refine BZ J1 ?_;refine AQ ?_;refine W4 Gr (φ:=Φ (i+1)) ?_ (by simp only[Φ];simp[Bm,Ce,q1,q2,q3,q4,q5,q6,q7,q8,q9,Ff,Fd,Fh,Fw,Fy,Gk,Gp,Gn,Gj,p1,p3,p4,p6,p7,p8,Gw,Gc,Gf,Gv]) (by simp[go_sem,Bm,Ce,q1,q2,q3,q4,q5,q6,q7,q8,q9,Ff,Fd,Fh,Fw,Fy,Gk,Gp,Gn,Gj,p1,p3,p4,p6,p7,p8,Gw,Gc,Gf,Gv,x2,x3,x8,x9,xb,i2,i3,i8,i9,ib]) (some (.exit 2)) ⟨_,rfl,rfl⟩ ?_
    ·rw[Rh];refine B8 ?_ (B8 ?_ (B8 ?_ (B8 ?_ (B8 ?_ (by simp[BW])))));all_goals simp[go_sem,Bm,Ce,q1,q2,q3,q4,q5,q6,q7,q8,q9,Ff,Fd,Fh,Fw,Fy,Gk,Gp,Gn,Gj,p1,p3,p4,p6,p7,p8,Gw,Gc,Gf,Gv,x2,x3,x8,x9,xb,i2,i3,i8,i9,ib]
    ·rw[if_neg sS];exact⟨i+1,rfl,by rw[<- hS1];exact Da,rfl,rfl⟩
  ·rintro Ag r' (⟨-,h,-⟩|⟨_,-,-,h,-⟩) <;> (rw[h];simp)
  ·rintro Ag r' (⟨rfl,-,h⟩|⟨i,rfl,hi,-,h⟩) -
   ·rw[h];by_cases Hm:u+c<=most
    ·rw[EL Hm,AG Hm]at hR;have Ij:Φ 0=[(b2,[DP b]),(b3,[r.thing,f.thing,.iface 178 (DZ l)]),(b8,[v.thing]),(b9,[AR true]),(b,[A0 ((u+c:Nat):Int),A0 (most:Int)])]:=by
      simp only[Φ,hS0,if_pos Hm,AG Hm,decide_eq_true Hm]
     rw[Ij,Ml];simp[go_sem,Bm,Ce,q1,q2,q3,q4,q5,q6,q7,q8,q9,Ff,Fd,Fh,Fw,Fy,Gk,Gp,Gn,Gj,p1,p3,p4,p6,p7,p8,Gw,Gc,Gf,Gv];have J2:=j8 @Bm @Ce @q1 @q2 @q3 @q4 @q5 (j8 @q6 @q7 @q8 @q9 @Ff @Fd @Fh (j8 @Fw @Fy @Gk @Gp @Gn @Gj @p1 (j8 @p3 @p4 @p6 @p7 @p8 @Gw @Gc (j2 @Gf @Gv))));refine BZ J2 ?_;exact AY [(b,[A0 ((u+c:Nat):Int),A0 (most:Int)])] J2
    ·rw[JC Hm,FZ Hm]at hR;have Ij:Φ 0=[(b2,[DP b]),(b3,[r.thing,f.thing,.iface 178 (DZ l)]),(b8,[GT]),(b9,[AR false]),(b,[A0 (most:Int),A0 (most:Int)])]:=by
      simp only[Φ,hS0,if_neg Hm,FZ Hm,decide_eq_false Hm]
     rw[Ij,Ml];simp[go_sem,Bm,Ce,q1,q2,q3,q4,q5,q6,q7,q8,q9,Ff,Fd,Fh,Fw,Fy,Gk,Gp,Gn,Gj,p1,p3,p4,p6,p7,p8,Gw,Gc,Gf,Gv];have J3:=j8 @Bm @Ce @q1 @q2 @q3 @q4 @q5 (j8 @q6 @q7 @q8 @q9 @Ff @Fd @Fh (j8 @Fw @Fy @Gk @Gp @Gn @Gj @p1 (j8 @p3 @p4 @p6 @p7 @p8 @Gw @Gc (j2 @Gf @Gv))));refine BZ J3 ?_;exact AY [(b,[A0 (most:Int),A0 (most:Int)])] J3
   ·rw[h];have Hm:¬u+c<=most:=by have:=(hS i).2;omega
    rw[JC Hm,FZ Hm]at hR;have Ij:Φ i=[(b2,[DP b]),(b3,[r.thing,f.thing,.iface 178 (DZ l)]),(b8,[GT]),(b9,[AR false]),(b,[A0 (most:Int),A0 (most:Int)])]:=by
     simp only[Φ,if_neg hi,FZ hi,decide_eq_false hi]
    rw[Ij,Ml];simp[go_sem,Bm,Ce,q1,q2,q3,q4,q5,q6,q7,q8,q9,Ff,Fd,Fh,Fw,Fy,Gk,Gp,Gn,Gj,p1,p3,p4,p6,p7,p8,Gw,Gc,Gf,Gv];have J4:=j8 @Bm @Ce @q1 @q2 @q3 @q4 @q5 (j8 @q6 @q7 @q8 @q9 @Ff @Fd @Fh (j8 @Fw @Fy @Gk @Gp @Gn @Gj @p1 (j8 @p3 @p4 @p6 @p7 @p8 @Gw @Gc (j2 @Gf @Gv))));refine BZ J4 ?_;exact AY [(b,[A0 (most:Int),A0 (most:Int)])] J4
theorem zfk {most:Nat}(hm:most<=1073741824)(t:Tm){e:List MV}{u:Nat}(b:Nat)(hu:u<=most)(Ar:¬u+1<=most) :
  cT gl 96 [DP b,t.dv,MV.envM e] [(b,CJ most u)] (.tup [GT,AR false]) [(b,[A0 (most:Int),A0 (most:Int)])]:=by
 rw[AG hu];have De:(most:Int)<=(u:Int):=oO;have Zm:(u:Int)=(most:Int):=oO;refine A6 Tryz.func96 ?_;intro X hP u6 hf u8 hn hR u5 u4;refine A7 @De ?_;exact AY [(b,[A0 (most:Int),A0 (most:Int)])] @Zm
theorem z4y {most:Nat}(hm:most<=1073741824){ev:RF}(H:JY Tryz.prog gl 96 most ev)(hN:NS most ev)(t:Tm){e:List MV}{u:Nat}(b M:Nat)(hu:u<=most)(hM:M+(most - u)<=1073741824)(he:MV.nles M e)
  (h3:t.args.length<=3) (Fk:¬t.kind=1) (Ax:¬t.kind=2) {vs:List MV} {c1:Nat} (Ae:IF ev t.args e=some (vs,c1)) (Ar:u+1<=most) (Am:¬u+1+c1<=most) :
  cT gl 96 [DP b,t.dv,MV.envM e] [(b,CJ most u)] (.tup [GT,AR false]) [(b,[A0 (most:Int),A0 (most:Int)])]:=by
 rw[AG hu];have De:¬(most:Int)<=(u:Int):=oO;have A1:=JB hm H hN b (M+1) Ae h3 Ar oO (MV.nles_mono oO _ he);have o6:decide (u+1+c1<=most)=false:=decide_eq_false Am;unfold SO NT at A1;rw[AG Ar,FZ Am,o6]at A1;generalize QM ev most e (u+1) t.args=pp at A1;refine A6 Tryz.func96 ?_;intro X hP u6 hf u8 hn hR u5 u4;refine A7 (j3 @De @Fk @Ax) ?_;refine A3 tT A1 ?_;refine A2 ?_;exact AY [(b,[A0 (most:Int),A0 (most:Int)])] tT
theorem zak {most:Nat}(hm:most<=1073741824){ev:RF}(H:JY Tryz.prog gl 96 most ev)(hN:NS most ev)(t:Tm){e:List MV}{u:Nat}(b M:Nat)(hu:u<=most)(hM:M+(most - u)<=1073741824)(he:MV.nles M e)
  (h3:t.args.length<=3) (hk:t.kind=3) {f x:MV} {v:MV} {c2:Nat} {c1:Nat} (Ae:IF ev t.args e=some ([f,x],c1)) (Ar:u+1<=most) (Am:u+1+c1<=most) (Af:HX ev f [x]=some (v,c2)) :
  cT gl 96 [DP b,t.dv,MV.envM e] [(b,CJ most u)] (G4 most (u+1+c1+c2) v.thing) [(b,CJ most (u+1+c1+c2))]:=by
 rw[AG hu];have De:¬(most:Int)<=(u:Int):=oO;have A1:=JB hm H hN b (M+1) Ae h3 Ar oO (MV.nles_mono oO _ he);have B1:=IG hN Ae he;have o6:decide (u+1+c1<=most)=true:=decide_eq_true Am;unfold SO NT at A1;rw[AG Ar,AG Am,o6,H0 Ae Am]at A1;have z0:GZ [f,x] 0=f.thing:=by first|rfl|(simp only[GZ];rw[MV.thing];done)|exact rfl
 have z1:GZ [f,x] 1=x.thing:=by first|rfl|(simp only[GZ];rw[MV.thing];done)|exact rfl
 have z2:GZ [f,x] 2=GT:=by first|rfl|(simp only[GZ];rw[MV.thing];done)|exact rfl
 rw[z0,z1,z2]at A1;simp only[MV.nles]at B1;have W1:=WW hm H hN b (M+c1) Af Am oO B1.1 (by simp only[MV.nles];exact⟨B1.2.1,trivial⟩);rw[AG Am]at W1;simp only[List.map]at W1;by_cases Dc:u+1+c1+c2<=most
 ·rw[AG Dc,EL Dc]at W1 ⊢;refine A6 Tryz.func96 ?_;intro X hP u6 hf u8 hn hR u5 u4;refine A7 (j2 @De @hk) ?_;refine A3 tT A1 ?_;refine A7 @hk ?_;refine A3 tT W1 ?_;exact AY [(b,[A0 ((u+1+c1+c2:Nat):Int),A0 (most:Int)])] tT
 ·rw[FZ Dc,JC Dc]at W1 ⊢;refine A6 Tryz.func96 ?_;intro X hP u6 hf u8 hn hR u5 u4;refine A7 (j2 @De @hk) ?_;refine A3 tT A1 ?_;refine A7 @hk ?_;refine A3 tT W1 ?_;exact AY [(b,[A0 (most:Int),A0 (most:Int)])] tT
theorem zal {most:Nat}(hm:most<=1073741824){ev:RF}(H:JY Tryz.prog gl 96 most ev)(hN:NS most ev)(t:Tm){e:List MV}{u:Nat}(b M:Nat)(hu:u<=most)(hM:M+(most - u)<=1073741824)(he:MV.nles M e)
  (h3:t.args.length<=3) (hk:t.kind=4) {vs:List MV} {c1:Nat} (Ae:IF ev t.args e=some (vs,c1)) (Ar:u+1<=most) (Am:u+1+c1<=most) :
  cT gl 96 [DP b,t.dv,MV.envM e] [(b,CJ most u)] (.tup [(.iface 3 (A0 (0:Int))),AR true]) [(b,[A0 ((u+1+c1:Nat):Int),A0 (most:Int)])]:=by
 rw[AG hu];have De:¬(most:Int)<=(u:Int):=oO;have A1:=JB hm H hN b (M+1) Ae h3 Ar oO (MV.nles_mono oO _ he);have B1:=IG hN Ae he;have o6:decide (u+1+c1<=most)=true:=decide_eq_true Am;unfold SO NT at A1;rw[AG Ar,AG Am,o6,H0 Ae Am]at A1;refine A6 Tryz.func96 ?_;intro X hP u6 hf u8 hn hR u5 u4;refine A7 (j2 @De @hk) ?_;refine A3 tT A1 ?_;refine A7 @hk ?_;exact AY [(b,[A0 ((u+1+c1:Nat):Int),A0 (most:Int)])] tT
theorem zam {most:Nat}(hm:most<=1073741824){ev:RF}(H:JY Tryz.prog gl 96 most ev)(hN:NS most ev)(t:Tm){e:List MV}{u:Nat}(b M:Nat)(hu:u<=most)(hM:M+(most - u)<=1073741824)(he:MV.nles M e)
  (h3:t.args.length<=3) (hk:t.kind=5) {n:Nat} {c1:Nat} (Ae:IF ev t.args e=some ([.num n],c1)) (Ar:u+1<=most) (Am:u+1+c1<=most) :
  cT gl 96 [DP b,t.dv,MV.envM e] [(b,CJ most u)] (.tup [(.iface 3 (A0 (((n+1:Nat)):Int))),AR true]) [(b,[A0 ((u+1+c1:Nat):Int),A0 (most:Int)])]:=by
 rw[AG hu];have De:¬(most:Int)<=(u:Int):=oO;have A1:=JB hm H hN b (M+1) Ae h3 Ar oO (MV.nles_mono oO _ he);have B1:=IG hN Ae he;have o6:decide (u+1+c1<=most)=true:=decide_eq_true Am;unfold SO NT at A1;rw[AG Ar,AG Am,o6,H0 Ae Am]at A1;have z0:GZ [.num n] 0=(.iface 3 (A0 (n:Int))):=by first|rfl|(simp only[GZ];rw[MV.thing];done)|exact L5 _
 have z1:GZ [.num n] 1=GT:=by first|rfl|(simp only[GZ];rw[MV.thing];done)|exact rfl
 have z2:GZ [.num n] 2=GT:=by first|rfl|(simp only[GZ];rw[MV.thing];done)|exact rfl
 rw[z0,z1,z2]at A1;refine A6 Tryz.func96 ?_;intro X hP u6 hf u8 hn hR u5 u4;refine A7 (j2 @De @hk) ?_;refine A3 tT A1 ?_;simp only[MV.nles,MV.nle]at B1;have Yf:(n:Int)<=1073741824:=oO;have Ww:((n+1:Nat):Int)=(n:Int)+1:=oO;refine A7 (j2 @hk @Yf) ?_;exact AY [(b,[A0 ((u+1+c1:Nat):Int),A0 (most:Int)])] @Ww
theorem zan {most:Nat}(hm:most<=1073741824){ev:RF}(H:JY Tryz.prog gl 96 most ev)(hN:NS most ev)(t:Tm){e:List MV}{u:Nat}(b M:Nat)(hu:u<=most)(hM:M+(most - u)<=1073741824)(he:MV.nles M e)
  (h3:t.args.length<=3) (hk:t.kind=6) {r f:MV} {n:Nat} {v:MV} {c2:Nat} {c1:Nat} (Ae:IF ev t.args e=some ([r,f,.num n],c1)) (Ar:u+1<=most) (Am:u+1+c1<=most) (Af:ZY ev f n 0 r=some (v,c2)) :
  cT gl 96 [DP b,t.dv,MV.envM e] [(b,CJ most u)] (G4 most (u+1+c1+c2) v.thing) [(b,CJ most (u+1+c1+c2))]:=by
 rw[AG hu];have De:¬(most:Int)<=(u:Int):=oO;have A1:=JB hm H hN b (M+1) Ae h3 Ar oO (MV.nles_mono oO _ he);have B1:=IG hN Ae he;have o6:decide (u+1+c1<=most)=true:=decide_eq_true Am;unfold SO NT at A1;rw[AG Ar,AG Am,o6,H0 Ae Am]at A1;simp only[MV.nles,MV.nle]at B1;have W1:=zff hm H hN (fun h=>PM hN h) b (M+c1) Af Am oO B1.1 B1.2.1 B1.2.2.1;unfold NT at W1;rw[AG Am]at W1;by_cases Dc:u+1+c1+c2<=most
 ·rw[AG Dc,EL Dc]at W1 ⊢;refine A6 Tryz.func96 ?_;intro X hP u6 hf u8 hn hR u5 u4;refine A7 (j2 @De @hk) ?_;refine A3 tT A1 ?_;refine A7 @hk ?_;refine A3 tT W1 ?_;exact AY [(b,[A0 ((u+1+c1+c2:Nat):Int),A0 (most:Int)])] tT
 ·rw[FZ Dc,JC Dc]at W1 ⊢;refine A6 Tryz.func96 ?_;intro X hP u6 hf u8 hn hR u5 u4;refine A7 (j2 @De @hk) ?_;refine A3 tT A1 ?_;refine A7 @hk ?_;refine A3 tT W1 ?_;exact AY [(b,[A0 (most:Int),A0 (most:Int)])] tT
theorem zao {most:Nat}(hm:most<=1073741824){ev:RF}(H:JY Tryz.prog gl 96 most ev)(hN:NS most ev)(t:Tm){e:List MV}{u:Nat}(b M:Nat)(hu:u<=most)(hM:M+(most - u)<=1073741824)(he:MV.nles M e)
  (h3:t.args.length<=3) (hk:t.kind=7) {vs:List MV} {c1:Nat} (Ae:IF ev t.args e=some (vs,c1)) (Ar:u+1<=most) (Am:u+1+c1<=most) :
  cT gl 96 [DP b,t.dv,MV.envM e] [(b,CJ most u)] (.tup [(.iface 178 (DZ [])),AR true]) [(b,[A0 ((u+1+c1:Nat):Int),A0 (most:Int)])]:=by
 rw[AG hu];have De:¬(most:Int)<=(u:Int):=oO;have A1:=JB hm H hN b (M+1) Ae h3 Ar oO (MV.nles_mono oO _ he);have B1:=IG hN Ae he;have o6:decide (u+1+c1<=most)=true:=decide_eq_true Am;unfold SO NT at A1;rw[AG Ar,AG Am,o6,H0 Ae Am]at A1;refine A6 Tryz.func96 ?_;intro X hP u6 hf u8 hn hR u5 u4;refine A7 (j2 @De @hk) ?_;refine A3 tT A1 ?_;have hnil:=TX;refine A7 @hk ?_;exact AY [(b,[A0 ((u+1+c1:Nat):Int),A0 (most:Int)])] @TX
theorem zap {most:Nat}(hm:most<=1073741824){ev:RF}(H:JY Tryz.prog gl 96 most ev)(hN:NS most ev)(Fz:z0d Tryz.prog gl 151 most ev)(t:Tm){e:List MV}{u:Nat}(b M:Nat)(hu:u<=most)(hM:M+(most - u)<=1073741824)(he:MV.nles M e)
  (h3:t.args.length<=3) (hk:t.kind=9) {r f:MV} {l:List Nat} {v:MV} {c2:Nat} {c1:Nat} (Ae:IF ev t.args e=some ([r,f,.list l],c1)) (Ar:u+1<=most) (Am:u+1+c1<=most) (Af:LY ev f r l=some (v,c2)) :
  cT gl 96 [DP b,t.dv,MV.envM e] [(b,CJ most u)] (G4 most (u+1+c1+c2) v.thing) [(b,CJ most (u+1+c1+c2))]:=by
 rw[AG hu];have De:¬(most:Int)<=(u:Int):=oO;have A1:=JB hm H hN b (M+1) Ae h3 Ar oO (MV.nles_mono oO _ he);have B1:=IG hN Ae he;have o6:decide (u+1+c1<=most)=true:=decide_eq_true Am;unfold SO NT at A1;rw[AG Ar,AG Am,o6,H0 Ae Am]at A1;simp only[MV.nles,MV.nle]at B1;have W1:=Fz b (M+c1) Af Am oO B1.1 B1.2.1 B1.2.2.1;unfold NT at W1;rw[AG Am]at W1;by_cases Dc:u+1+c1+c2<=most
 ·rw[AG Dc,EL Dc]at W1 ⊢;refine A6 Tryz.func96 ?_;intro X hP u6 hf u8 hn hR u5 u4;refine A7 (j2 @De @hk) ?_;refine A3 tT A1 ?_;refine A7 @hk ?_;refine A3 tT W1 ?_;exact AY [(b,[A0 ((u+1+c1+c2:Nat):Int),A0 (most:Int)])] tT
 ·rw[FZ Dc,JC Dc]at W1 ⊢;refine A6 Tryz.func96 ?_;intro X hP u6 hf u8 hn hR u5 u4;refine A7 (j2 @De @hk) ?_;refine A3 tT A1 ?_;refine A7 @hk ?_;refine A3 tT W1 ?_;exact AY [(b,[A0 (most:Int),A0 (most:Int)])] tT
theorem z4z {most:Nat}(hm:most<=1073741824){ev:RF}(H:JY Tryz.prog gl 96 most ev)(hN:NS most ev)(t:Tm){e:List MV}{u:Nat}(b M:Nat)(hu:u<=most)(hM:M+(most - u)<=1073741824)(he:MV.nles M e)
  (h3:t.args.length<=3) (hk:t.kind=11) {x y:MV} {c1:Nat} (Ae:IF ev t.args e=some ([.both x y],c1)) (Ar:u+1<=most) (Am:u+1+c1<=most) :
  cT gl 96 [DP b,t.dv,MV.envM e] [(b,CJ most u)] (.tup [x.thing,AR true]) [(b,[A0 ((u+1+c1:Nat):Int),A0 (most:Int)])]:=by
 rw[AG hu];have De:¬(most:Int)<=(u:Int):=oO;have A1:=JB hm H hN b (M+1) Ae h3 Ar oO (MV.nles_mono oO _ he);have B1:=IG hN Ae he;have o6:decide (u+1+c1<=most)=true:=decide_eq_true Am;unfold SO NT at A1;rw[AG Ar,AG Am,o6,H0 Ae Am]at A1;have z0:GZ [.both x y] 0=(.iface 184 (.ref [x.thing,y.thing])):=by first|rfl|(simp only[GZ];rw[MV.thing];done)|exact VG _ _
 have z1:GZ [.both x y] 1=GT:=by first|rfl|(simp only[GZ];rw[MV.thing];done)|exact rfl
 have z2:GZ [.both x y] 2=GT:=by first|rfl|(simp only[GZ];rw[MV.thing];done)|exact rfl
 rw[z0,z1,z2]at A1;refine A6 Tryz.func96 ?_;intro X hP u6 hf u8 hn hR u5 u4;refine A7 (j2 @De @hk) ?_;refine A3 tT A1 ?_;refine A7 @hk ?_;exact AY [(b,[A0 ((u+1+c1:Nat):Int),A0 (most:Int)])] tT
theorem z50 {most:Nat}(hm:most<=1073741824){ev:RF}(H:JY Tryz.prog gl 96 most ev)(hN:NS most ev)(t:Tm){e:List MV}{u:Nat}(b M:Nat)(hu:u<=most)(hM:M+(most - u)<=1073741824)(he:MV.nles M e)
  (h3:t.args.length<=3) (hk:t.kind=12) {x y:MV} {c1:Nat} (Ae:IF ev t.args e=some ([.both x y],c1)) (Ar:u+1<=most) (Am:u+1+c1<=most) :
  cT gl 96 [DP b,t.dv,MV.envM e] [(b,CJ most u)] (.tup [y.thing,AR true]) [(b,[A0 ((u+1+c1:Nat):Int),A0 (most:Int)])]:=by
 rw[AG hu];have De:¬(most:Int)<=(u:Int):=oO;have A1:=JB hm H hN b (M+1) Ae h3 Ar oO (MV.nles_mono oO _ he);have B1:=IG hN Ae he;have o6:decide (u+1+c1<=most)=true:=decide_eq_true Am;unfold SO NT at A1;rw[AG Ar,AG Am,o6,H0 Ae Am]at A1;have z0:GZ [.both x y] 0=(.iface 184 (.ref [x.thing,y.thing])):=by first|rfl|(simp only[GZ];rw[MV.thing];done)|exact VG _ _
 have z1:GZ [.both x y] 1=GT:=by first|rfl|(simp only[GZ];rw[MV.thing];done)|exact rfl
 have z2:GZ [.both x y] 2=GT:=by first|rfl|(simp only[GZ];rw[MV.thing];done)|exact rfl
 rw[z0,z1,z2]at A1;refine A6 Tryz.func96 ?_;intro X hP u6 hf u8 hn hR u5 u4;refine A7 (j2 @De @hk) ?_;refine A3 tT A1 ?_;refine A7 @hk ?_;exact AY [(b,[A0 ((u+1+c1:Nat):Int),A0 (most:Int)])] tT
theorem z51 {most:Nat}(hm:most<=1073741824){ev:RF}(H:JY Tryz.prog gl 96 most ev)(hN:NS most ev)(t:Tm){e:List MV}{u:Nat}(b M:Nat)(hu:u<=most)(hM:M+(most - u)<=1073741824)(he:MV.nles M e)
  (h3:t.args.length<=3) (hk:t.kind=13) {vs:List MV} {c1:Nat} (Ae:IF ev t.args e=some (vs,c1)) (Ar:u+1<=most) (Am:u+1+c1<=most) :
  cT gl 96 [DP b,t.dv,MV.envM e] [(b,CJ most u)] (.tup [(.iface 188 (.agg [])),AR true]) [(b,[A0 ((u+1+c1:Nat):Int),A0 (most:Int)])]:=by
 rw[AG hu];have De:¬(most:Int)<=(u:Int):=oO;have A1:=JB hm H hN b (M+1) Ae h3 Ar oO (MV.nles_mono oO _ he);have B1:=IG hN Ae he;have o6:decide (u+1+c1<=most)=true:=decide_eq_true Am;unfold SO NT at A1;rw[AG Ar,AG Am,o6,H0 Ae Am]at A1;refine A6 Tryz.func96 ?_;intro X hP u6 hf u8 hn hR u5 u4;refine A7 (j2 @De @hk) ?_;refine A3 tT A1 ?_;refine A7 @hk ?_;exact AY [(b,[A0 ((u+1+c1:Nat):Int),A0 (most:Int)])] tT
theorem z52 {most:Nat}(hm:most<=1073741824){ev:RF}(H:JY Tryz.prog gl 96 most ev)(hN:NS most ev)(t:Tm){e:List MV}{u:Nat}(b M:Nat)(hu:u<=most)(hM:M+(most - u)<=1073741824)(he:MV.nles M e)
  (h3:t.args.length<=3) (hk:t.kind=10) {x y:MV} {c1:Nat} (Ae:IF ev t.args e=some ([x,y],c1)) (Ar:u+1<=most) (Am:u+1+c1<=most) :
  cT gl 96 [DP b,t.dv,MV.envM e] [(b,CJ most u)] (.tup [(.iface 184 (.ref [x.thing,y.thing])),AR true]) [(b,[A0 ((u+1+c1:Nat):Int),A0 (most:Int)])]:=by
 rw[AG hu];have De:¬(most:Int)<=(u:Int):=oO;have A1:=JB hm H hN b (M+1) Ae h3 Ar oO (MV.nles_mono oO _ he);have B1:=IG hN Ae he;have o6:decide (u+1+c1<=most)=true:=decide_eq_true Am;unfold SO NT at A1;rw[AG Ar,AG Am,o6,H0 Ae Am]at A1;have z0:GZ [x,y] 0=x.thing:=by first|rfl|(simp only[GZ];rw[MV.thing];done)|exact rfl
 have z1:GZ [x,y] 1=y.thing:=by first|rfl|(simp only[GZ];rw[MV.thing];done)|exact rfl
 have z2:GZ [x,y] 2=GT:=by first|rfl|(simp only[GZ];rw[MV.thing];done)|exact rfl
 rw[z0,z1,z2]at A1;refine A6 Tryz.func96 ?_;intro X hP u6 hf u8 hn hR u5 u4;refine A7 (j2 @De @hk) ?_;refine A3 tT A1 ?_;refine A7 @hk ?_;refine B4 [109] fun K hK=>?_;simp[go_sem,hP,u6,hn];refine dQ (cs:=[x.thing,y.thing]) (y:=.ag [x.thing,y.thing] []) (by simp[go_sem,hP,u6,hn]) (by simp[go_sem]) (by simp[go_sem]) (by rw[hn];exact uF rfl) (by rfl) ?_;simp[go_sem,hP,u6,hn];refine I7 ?_;clear hK K;exact AY [(b,[A0 ((u+1+c1:Nat):Int),A0 (most:Int)])] tT
theorem zaq {most:Nat}(hm:most<=1073741824){ev:RF}(H:JY Tryz.prog gl 96 most ev)(hN:NS most ev)(t:Tm){e:List MV}{u:Nat}(b M:Nat)(hu:u<=most)(hM:M+(most - u)<=1073741824)(he:MV.nles M e)
  (h3:t.args.length<=3) (hk:t.kind=8) {n:Nat} {l:List Nat} {c1:Nat} (Ae:IF ev t.args e=some ([.num n,.list l],c1)) (Ar:u+1<=most) (Am:u+1+c1<=most) :
  cT gl 96 [DP b,t.dv,MV.envM e] [(b,CJ most u)] (.tup [(.iface 178 (DZ (n::l))),AR true]) [(b,[A0 ((u+1+c1:Nat):Int),A0 (most:Int)])]:=by
 rw[AG hu];have De:¬(most:Int)<=(u:Int):=oO;have A1:=JB hm H hN b (M+1) Ae h3 Ar oO (MV.nles_mono oO _ he);have B1:=IG hN Ae he;have o6:decide (u+1+c1<=most)=true:=decide_eq_true Am;unfold SO NT at A1;rw[AG Ar,AG Am,o6,H0 Ae Am]at A1;have z0:GZ [.num n,.list l] 0=(.iface 3 (A0 (n:Int))):=by first|rfl|(simp only[GZ];rw[MV.thing];done)|exact L5 _
 have z1:GZ [.num n,.list l] 1=(.iface 178 (DZ l)):=by first|rfl|(simp only[GZ];rw[MV.thing];done)|exact NU _
 have z2:GZ [.num n,.list l] 2=GT:=by first|rfl|(simp only[GZ];rw[MV.thing];done)|exact rfl
 rw[z0,z1,z2]at A1;refine A6 Tryz.func96 ?_;intro X hP u6 hf u8 hn hR u5 u4;refine A7 (j2 @De @hk) ?_;refine A3 tT A1 ?_;refine A7 @hk ?_;refine AU (by rw[hP];exact BK) [93] fun K hK=>?_;simp[go_sem,hP,u6,hn];refine XY (cs:=[A0 (n:Int),DZ l]) (y:=.ag [A0 (n:Int),DZ l] []) (fun _ _=>E8) (by simp[go_sem,hP,u6,hn]) (by simp[go_sem]) (by simp[go_sem]) (by rw[hn];exact uF rfl) (by rfl) ?_;simp[go_sem,hP,u6,hn];refine I7 ?_;clear hK K;exact AY [(b,[A0 ((u+1+c1:Nat):Int),A0 (most:Int)])] @NV
theorem y6 {most:Nat}(hm:most<=1073741824){d:Nat}(H:JY Tryz.prog gl 96 most (UK d))(Fz:z0d Tryz.prog gl 151 most (UK d)) :
  JY Tryz.prog gl 96 most (UK (d+1)):=by
 intro t e u v c b M h hu hM he;have hN:=aM most d;have Cn:=zfg h;by_cases Ar:u+1<=most;rotate_left
 ·have Ao:¬u+c<=most:=oO;rw[JC Ao,FZ Ao];exact zfk hm t b hu Ar
 rw[UK]at h;by_cases h1:t.kind=1
 ·rw[if_pos h1]at h;split at h
  ·rename_i hi;simp only[uC,uD]at h;obtain⟨rfl,rfl⟩:=h;exact zfh hm t b hu h1 hi
  ·cases h
 rw[if_neg h1]at h;by_cases h2:t.kind=2
 ·rw[if_pos h2]at h;split at h;· cases h
  ·rename_i ha;simp only[uC,uD]at h;obtain⟨rfl,rfl⟩:=h;cases u9:t.args with
   | nil=>rw[u9]at ha;exact absurd rfl ha
   | cons body rest=>
    have:t.argN 0=body:=by simp[Tm.argN,u9]
    rw[this];exact zfi hm t b hu h2 u9
 rw[if_neg h2]at h;split at h;· cases h
 rename_i h3;have h3:t.args.length<=3:=oO;split at h;· cases h
 rename_i vs c1 Ae;split at h;· cases h
 rename_i w c2 Af;simp only[uC,uD]at h;obtain⟨rfl,rfl⟩:=h;have e0:u+(1+c1+c2)=u+1+c1+c2:=oO;rw[e0];by_cases Am:u+1+c1<=most;rotate_left
 ·have Ao:¬u+1+c1+c2<=most:=oO;rw[JC Ao,FZ Ao];exact z4y hm H hN t b M hu hM he h3 h1 h2 Ae Ar Am
 unfold z0b at Af;split at Af;rotate_left;· cases Af
 rename_i hk;unfold gV at Af;by_cases k3:t.kind=3
 ·rw[if_pos k3]at Af;split at Af;· exact zak hm H hN t b M hu hM he h3 k3 Ae Ar Am Af
  ·cases Af
 rw[if_neg k3]at Af;by_cases k4:t.kind=4
 ·rw[if_pos k4]at Af;simp only[uC,uD]at Af;obtain⟨rfl,rfl⟩:=Af;rw[Nat.add_zero,EL Am,AG Am,L5];exact zal hm H hN t b M hu hM he h3 k4 Ae Ar Am
 rw[if_neg k4]at Af;by_cases k5:t.kind=5
 ·rw[if_pos k5]at Af;split at Af
  ·simp only[uC,uD]at Af;obtain⟨rfl,rfl⟩:=Af;rw[Nat.add_zero,EL Am,AG Am,L5];exact zam hm H hN t b M hu hM he h3 k5 Ae Ar Am
  ·cases Af
 rw[if_neg k5]at Af;by_cases k6:t.kind=6
 ·rw[if_pos k6]at Af;split at Af;· exact zan hm H hN t b M hu hM he h3 k6 Ae Ar Am Af
  ·cases Af
 rw[if_neg k6]at Af;by_cases k7:t.kind=7
 ·rw[if_pos k7]at Af;simp only[uC,uD]at Af;obtain⟨rfl,rfl⟩:=Af;rw[Nat.add_zero,EL Am,AG Am,NU];exact zao hm H hN t b M hu hM he h3 k7 Ae Ar Am
 rw[if_neg k7]at Af;by_cases k8:t.kind=8
 ·rw[if_pos k8]at Af;split at Af
  ·simp only[uC,uD]at Af;obtain⟨rfl,rfl⟩:=Af;rw[Nat.add_zero,EL Am,AG Am,NU];exact zaq hm H hN t b M hu hM he h3 k8 Ae Ar Am
  ·cases Af
 rw[if_neg k8]at Af;by_cases k9:t.kind=9
 ·rw[if_pos k9]at Af;split at Af;· exact zap hm H hN Fz t b M hu hM he h3 k9 Ae Ar Am Af
  ·cases Af
 rw[if_neg k9]at Af;by_cases k10:t.kind=10
 ·rw[if_pos k10]at Af;split at Af
  ·simp only[uC,uD]at Af;obtain⟨rfl,rfl⟩:=Af;rw[Nat.add_zero,EL Am,AG Am,VG];exact z52 hm H hN t b M hu hM he h3 k10 Ae Ar Am
  ·cases Af
 rw[if_neg k10]at Af;by_cases k11:t.kind=11
 ·rw[if_pos k11]at Af;split at Af
  ·simp only[uC,uD]at Af;obtain⟨rfl,rfl⟩:=Af;rw[Nat.add_zero,EL Am,AG Am];exact z4z hm H hN t b M hu hM he h3 k11 Ae Ar Am
  ·cases Af
 rw[if_neg k11]at Af;by_cases k12:t.kind=12
 ·rw[if_pos k12]at Af;split at Af
  ·simp only[uC,uD]at Af;obtain⟨rfl,rfl⟩:=Af;rw[Nat.add_zero,EL Am,AG Am];exact z50 hm H hN t b M hu hM he h3 k12 Ae Ar Am
  ·cases Af
 rw[if_neg k12]at Af;have k13:t.kind=13:=oO;simp only[uC,uD]at Af;obtain⟨rfl,rfl⟩:=Af;rw[Nat.add_zero,EL Am,AG Am,y4];exact z51 hm H hN t b M hu hM he h3 k13 Ae Ar Am
theorem XZ {most:Nat}(hm:most<=1073741824)(Fz:∀ev,JY Tryz.prog gl 96 most ev->NS most ev->z0d Tryz.prog gl 151 most ev) :
  ∀d,JY Tryz.prog gl 96 most (UK d)
 | 0=>by intro t e u v c b M h;cases h
 | d+1=>y6 hm (XZ hm Fz d) (Fz _ (XZ hm Fz d) (aM most d))
def H1 (t:Ty):List DV:=[A0 t.kind,.sl (t.args.map Ty.cells),A0 (t.count:Int)]
theorem C0 (t:Ty):H1 t=[A0 t.kind,.sl (t.args.map Ty.cells),A0 (t.count:Int)]:=rfl
theorem OO (a b:Ty):cT gl 93 [a.dv,b.dv] [] (AR (a.same b)) []:=by
 induction a using Ty.ind generalizing b with
 | h a ih=>
 refine A6 Tryz.func93 ?_;intro X hP u6 hf u8 hn hR u5 u4;have hla:=Ty.fit_len (u4 a.dv sS);have Bw:=Ty.fit_len (u4 b.dv sS);by_cases hk:a.kind=b.kind
 ·by_cases hl:a.args.length=b.args.length
  ·refine A7 (j2 @hk @hl) ?_;refine BR ?_;refine AA [] (j2 @hk @hl) (NG (a.args.length) (fun i=>∀(j:Nat) (x y:Ty),j<i->a.args[j]? = some x->b.args[j]? = some y->x.same y=true) (fun i=>[sV 24 (A0 i),sV 23 (A0 a.args.length),sV 22 (.sl (a.args.map Ty.cells)),sP 3,sL 3 [.v (A0 b.kind),.v (.sl (b.args.map Ty.cells))]]) (by intro j x y h;omega) ?_ ?_)
   ·intro i Ac hI u7;obtain⟨x,hx⟩:∃x,a.args[i]? = some x:=⟨_,uB Ac⟩;obtain⟨y,hy⟩:∃y,b.args[i]? = some y:=⟨_,uB oO⟩;refine A5 ?_;refine AQ ?_;refine A7 (j2 @hx @hy) ?_;refine A3 (j2 @hx @hy) (ih x (uE hx) y) ?_;by_cases hs:x.same y=true
    ·refine CG (wr []) tT @hs (u7 ?_);intro j x' y' hj Cp Fb;by_cases Vh:j=i;· subst Vh;rw[hx]at Cp;rw[hy]at Fb;cases Cp;cases Fb;exact hs
     ·exact hI j x' y' oO Cp Fb
    ·refine A7 @hs ?_;refine EO ?_;simp[go_sem,hP,u6,hn] <;> (try omega);refine Bool.eq_false_iff.2 ?_;intro h;rw[Ty.same_eq,uH,Ty.sames_iff]at h;exact hs (h.2.2 i x y hx hy)
   ·intro hI;refine A5 ?_;refine B9 ?_;refine A2 ?_;refine EO ?_;simp[go_sem,hP,u6,hn] <;> (try omega);rw[Ty.same_eq,uH,Ty.sames_iff];exact⟨by simp[hk],hl,fun i x y hx hy=>hI i x y (uA hx).1 hx hy⟩
  ·refine A7 (j2 @hk @hl) ?_;refine EO ?_;simp[go_sem,hP,u6,hn] <;> (try omega);refine Bool.eq_false_iff.2 ?_;intro h;rw[Ty.same_eq,uH,Ty.sames_iff]at h;exact hl h.2.1
 ·refine A7 @hk ?_;refine EO ?_;simp[go_sem,hP,u6,hn] <;> (try omega);simp[Ty.same_eq,hk]
theorem dU (t:Ty):cT gl 106 [t.dv] [] t.dv []:=by
 induction t using Ty.ind with
 | h t ih=>
 refine A6 Tryz.func106 ?_;intro X hP u6 hf u8 hn hR u5 u4;have hlen:=Ty.fit_len (u4 t.dv sS);refine A2 ?_;refine BR ?_;refine AA [(1003,0)] tT (CD (t.args) (fun done rest=>[sV 12 (A0 done.length),sV 11 (A0 t.args.length),sV 10 (.sl (t.args.map Ty.cells)),(.slot 3,.one (.loc 3 0)),sL 3 [.v (A0 t.kind),.own 1003 (done.map Ty.cells)],(.tok 1003,.tk 2 done.length),sP 2,sL 2 [.v (A0 0),.own 0 []]]) ?_ ?_)
 ·intro done x rest hL hg u7;have Ac:done.length<t.args.length:=by rw[hL];simp
  have Di:=Ty.fold x;refine A5 ?_;refine AQ ?_;refine BZ @hg ?_;refine BR ?_;first|refine B4 [] fun K hK=>?_|refine AU (by rw[hP];exact BK) [] fun K hK=>?_
  refine K0 ?_;refine F8 tT (ih x (uE hg)) ?_;refine I7 ?_;clear hK K;refine A5 ?_;refine GX ?_;refine AA [(1003,21)] tT u7
 ·refine A5 ?_;refine B9 ?_;refine A2 ?_;exact BI
theorem I1 (t:Ty)(ht:t.ok):cT gl 154 [t.dv] [] (.agg (H1 t)) []:=by
 refine A6 Tryz.func154 ?_;intro X hP u6 hf u8 hn hR u5 u4;have hc:=ht.2;have h0:=(Ty.checkN_iff t).2 ht;have Di:=Ty.fold t;refine A2 ?_;refine A3 (j2 @Di @h0) (K8 t oO) ?_;refine A7 @h0 ?_;exact AC (C0 t)
theorem NW (t x:Ty)(i:Nat)(hx:t.args[i]? = some x)(ho:x.ok):cT gl 213 [.agg (H1 t),A0 (i:Int)] [] (.agg (H1 x)) []:=by
 refine A6 Tryz.func213 ?_;intro X hP u6 hf u8 hn hR u5 u4;have Bk:=C0 t;have Di:=Ty.fold x;refine BZ @Bk ?_;refine A3 (j3 @hx @Di (C0 x)) (I1 x ho) ?_;exact AC (C0 x)
theorem EM (t:Ty)(k:Int):cT gl 212 [.agg (H1 t),A0 k] [] (AR (decide (t.kind=k))) []:=by
 refine A6 Tryz.func212 ?_;intro X hP u6 hf u8 hn hR u5 u4;have Bk:=C0 t;refine A7 @Bk ?_;exact AM
theorem QN (a b:Ty):cT gl 214 [.agg (H1 a),.agg (H1 b)] [] (AR (a.same b)) []:=by
 refine A6 Tryz.func214 ?_;intro X hP u6 hf u8 hn hR u5 u4;have ha:=C0 a;have hb:=C0 b;have fa:=Ty.fold a;have fb:=Ty.fold b;by_cases h:a.count=b.count
 ·refine BZ (j2 @ha @hb) ?_;refine A3 (j5 @ha @hb @h @fa @fb) (OO a b) ?_;exact AM
 ·have hs:a.same b=false:=by
   refine Bool.eq_false_iff.2 fun e=>h ?_;rw[(Ty.same_iff a b).1 e]
  have hi:¬(a.count:Int)=(b.count:Int):=oO;refine A7 (j3 @ha @hb @hi) ?_;exact AC @hs
theorem dV (k:Int)(a b:Ty)(hc:1+a.count+b.count<=64):cT gl 155 [A0 k,.agg (H1 a),.agg (H1 b)] [] (.tup [.agg (H1 (Ty.mk k [a,b])),A0 0]) []:=by
 refine A6 Tryz.func155 ?_;intro X hP u6 hf u8 hn hR u5 u4;have ha:=C0 a;have hb:=C0 b;have Dr:(1:Int)+a.count+b.count<=64:=oO;have hr:H1 (Ty.mk k [a,b])=[A0 k,.sl [a.cells,b.cells],A0 (1+(a.count:Int)+(b.count:Int))]:=by
  rw[C0,PB];simp[Ty.kind,Ty.args];omega
 refine A7 (j3 @ha @hb @Dr) ?_;exact AC (j3 @hr (Ty.cells_eq a) (Ty.cells_eq b))
theorem CB (k:Int):cT gl 211 [A0 k] [] (.sl (AH (if k=4 then [1] else if k=5 then [1,1] else if k=7 then [2] else if k=8 then [2,1,2] else if k=13 then [5] else []))) []:=by
 refine A6 Tryz.func211 ?_;intro X hP u6 hf u8 hn hR u5 u4;by_cases Dt:k=4
 ·refine A7 @Dt ?_;refine EO ?_;simp[go_sem,hP,u6,hn,AH,Dt] <;> (try omega)
 by_cases Bv:k=5
 ·refine A7 @Bv ?_;refine EO ?_;simp[go_sem,hP,u6,hn,AH,Bv] <;> (try omega)
 by_cases Cl:k=7
 ·refine A7 @Cl ?_;refine EO ?_;simp[go_sem,hP,u6,hn,AH,Cl] <;> (try omega)
 by_cases Fu:k=8
 ·refine A7 @Fu ?_;refine EO ?_;simp[go_sem,hP,u6,hn,AH,Fu] <;> (try omega)
 by_cases Mb:k=13
 ·refine A7 @Mb ?_;refine EO ?_;simp[go_sem,hP,u6,hn,AH,Mb] <;> (try omega)
 refine A7 (j5 @Dt @Bv @Cl @Fu @Mb) ?_;refine EO ?_;simp[go_sem,hP,u6,hn,AH,Dt,Bv,Cl,Fu,Mb] <;> (try omega)
theorem pW:cT gl 203 [] [] (Ty.mk 1 []).dv []:=by
 refine A6 Tryz.func203 ?_;intro X hP u6 hf u8 hn hR u5 u4;refine A2 ?_;exact BI
theorem z53:cT gl 202 [] [] (Ty.mk 2 []).dv []:=by
 refine A6 Tryz.func202 ?_;intro X hP u6 hf u8 hn hR u5 u4;refine A2 ?_;exact BI
def WX (r:Ty)(l:List Ty):Ty:=l.foldr (fun a r=>Ty.mk 4 [a,r]) r
theorem pX (r:Ty)(l:List Ty):cT gl 247 [r.dv,.sl (l.map Ty.cells)] [] (WX r l).dv []:=by
 refine A6 Tryz.func247 ?_;intro X hP u6 hf u8 hn hR u5 u4;have Mh:=IM (u4 (.sl (l.map Ty.cells)) sS);simp at Mh;have h0:l.drop l.length=[]:=List.drop_length;refine A2 ?_;refine BR ?_;refine CR [] (by simp[go_sem]) (by simp[go_sem,h0,WX,List.foldr_nil] <;> omega) (by simp[go_sem]) (E6 (fun k:Nat=>k<=l.length) (fun k:Nat=>[sV 1 (.sl (l.map Ty.cells)),sP 2,sL 2 [.v (A0 (WX r (l.drop k)).kind),.v (.sl ((WX r (l.drop k)).args.map Ty.cells))],sP 4,sL 4 [.v (A0 0),.own 0 []],sV 5 (A0 ((k:Int) - 1))]) (fun k:Nat=>k) l.length (Nat.le_refl _) ?_);intro k hk ih;cases k with
 | zero=>
  refine A5 ?_;refine B9 ?_;refine A2 ?_;exact AC @Ty.cells_eq
 | succ k=>
  have Ac:k<l.length:=oO;obtain⟨a,ha⟩:∃a,l[k]? = some a:=⟨_,uB Ac⟩;have hd:l.drop k=a::l.drop (k+1):=by
   rw[List.drop_eq_getElem_cons Ac];rw[uB Ac,uC]at ha;rw[ha]
  have Kv:WX r (l.drop k)=Ty.mk 4 [a,WX r (l.drop (k+1))]:=by rw[hd];rfl
  have Fk:((k+1:Nat):Int) - 1=(k:Int):=oO;have hle:(k:Int)<=2147483648:=oO;have Bn:=Ty.cells_eq (WX r (l.drop (k+1)));have Va:=ih k oO oO;rw[Kv]at Va;simp only[Ty.kind,Ty.args]at Va;rw[Fk];refine A5 ?_;refine AQ ?_;refine BZ @ha ?_;refine A5 ?_;refine GX ?_;refine AA [] (Ty.cells_eq (WX r (l.drop (k+1)))) Va
def szZ:List DV:=[A0 0,.sl [],A0 0]
def szO:Option Ty->List DV
 | some t=>H1 t
 | none=>szZ
def Y0 (l:List Ty):List DV:=szO l[0]?++(szO l[1]?++szO l[2]?)
theorem pY:Y0 []=[A0 0,.sl [],A0 0,A0 0,.sl [],A0 0,A0 0,.sl [],A0 0]:=rfl
theorem dW (a:Ty):Y0 [a]=[A0 a.kind,.sl (a.args.map Ty.cells),A0 (a.count:Int),A0 0,.sl [],A0 0,A0 0,.sl [],A0 0]:=rfl
theorem UL (a b:Ty):Y0 [a,b]=[A0 a.kind,.sl (a.args.map Ty.cells),A0 (a.count:Int),A0 b.kind,.sl (b.args.map Ty.cells),A0 (b.count:Int),A0 0,.sl [],A0 0]:=rfl
theorem z0e (a b c:Ty):Y0 [a,b,c]=[A0 a.kind,.sl (a.args.map Ty.cells),A0 (a.count:Int),A0 b.kind,.sl (b.args.map Ty.cells),A0 (b.count:Int),A0 c.kind,.sl (c.args.map Ty.cells),A0 (c.count:Int)]:=rfl
theorem dX (t:Tm):cT gl 215 [t.dv] [] (WX t.type (if t.kind=9 then [Ty.mk 1 [],Ty.mk 2 [],t.type] else [Ty.mk 1 [],t.type])).dv []:=by
 refine A6 Tryz.func215 ?_;intro X hP u6 hf u8 hn hR u5 u4;have Di:=Ty.fold t.type;have hc:=Ty.cells_eq t.type;by_cases h:t.kind=9
 ·have w:=pX (gl:=gl) t.type [Ty.mk 1 [],Ty.mk 2 [],t.type];refine A7 @h ?_;refine F9 (j5 @h @Di @hc @LT @OY) pW z53 w ?_;exact AT @h
 ·have w:=pX (gl:=gl) t.type [Ty.mk 1 [],t.type];refine A7 @h ?_;refine BL (j4 @h @Di @hc @LT) pW w ?_;exact AT @h
theorem pZ (k:Int):(Ty.mk k []).dv = .agg [A0 k,.sl []]:=rfl
theorem UM (k:Int):H1 (Ty.mk k [])=[A0 k,.sl [],A0 1]:=rfl
theorem zfl (t:Tm)(h:t.kind=4):cT gl 156 [t.dv,.agg (Y0 [])] [] (.tup [.agg (H1 (Ty.mk 1 [])),A0 0]) []:=by
 rw[pY];have wp:=CB (gl:=gl) 4;rw[if_pos rfl]at wp;have wo:=I1 (gl:=gl) (Ty.mk 1 []) kE;rw[pZ,UM]at wo;rw[UM];refine A6 Tryz.func156 ?_;intro X hP u6 hf u8 hn hR u5 u4;have hi:AH [1]=[[A0 1]]:=rfl;rw[hi]at wp;refine A7 @h ?_;refine A3 @h wp ?_;refine A2 ?_;refine D4 ?_;refine A2 ?_;refine A3 tT wo ?_;exact AM
theorem zfm (t:Tm)(h:t.kind=7):cT gl 156 [t.dv,.agg (Y0 [])] [] (.tup [.agg (H1 (Ty.mk 2 [])),A0 0]) []:=by
 rw[pY];have wp:=CB (gl:=gl) 7;rw[if_neg dD,if_neg dD,if_pos rfl]at wp;have wo:=I1 (gl:=gl) (Ty.mk 2 []) aH;rw[pZ,UM]at wo;rw[UM];refine A6 Tryz.func156 ?_;intro X hP u6 hf u8 hn hR u5 u4;have hi:AH [2]=[[A0 2]]:=rfl;rw[hi]at wp;refine A7 @h ?_;refine A3 @h wp ?_;refine A2 ?_;refine D4 ?_;refine A2 ?_;refine A3 tT wo ?_;exact AM
theorem zar (t:Tm)(h:t.kind=13):cT gl 156 [t.dv,.agg (Y0 [])] [] (.tup [.agg (H1 (Ty.mk 5 [])),A0 0]) []:=by
 rw[pY];have wp:=CB (gl:=gl) 13;rw[if_neg dD,if_neg dD,if_neg dD,if_neg dD,if_pos rfl]at wp;have wo:=I1 (gl:=gl) (Ty.mk 5 []) z02;rw[pZ,UM]at wo;rw[UM];refine A6 Tryz.func156 ?_;intro X hP u6 hf u8 hn hR u5 u4;have hi:AH [5]=[[A0 5]]:=rfl;rw[hi]at wp;refine A7 @h ?_;refine A3 @h wp ?_;refine A2 ?_;refine D4 ?_;refine A2 ?_;refine A3 tT wo ?_;exact AM
theorem zfn (t:Tm)(h:t.kind=5):cT gl 156 [t.dv,.agg (Y0 [Ty.mk 1 []])] [] (.tup [.agg (H1 (Ty.mk 1 [])),A0 0]) []:=by
 rw[dW];have wp:=CB (gl:=gl) 5;rw[if_neg dD,if_pos rfl]at wp;have wo:=I1 (gl:=gl) (Ty.mk 1 []) kE;have wi:=EM (gl:=gl) (Ty.mk 1 []) 1;rw[pZ,UM]at wo;rw[UM]at wi ⊢;have hi:AH [1,1]=[[A0 1],[A0 1]]:=rfl;have hd:decide ((Ty.mk 1 []).kind=1)=true:=rfl;have hk:(Ty.mk 1 []).kind=1:=rfl;have ha:(Ty.mk 1 []).args=[]:=rfl;have hc:(Ty.mk 1 []).count=1:=rfl;rw[hi]at wp;rw[hd]at wi;rw[hk,ha,hc];refine A6 Tryz.func156 ?_;intro X hP u6 hf u8 hn hR u5 u4;refine A7 @h ?_;refine A3 @h wp ?_;refine A2 ?_;refine D4 ?_;refine A2 ?_;refine A3 tT wi ?_;refine A2 ?_;refine CN ?_;refine A2 ?_;refine A3 tT wo ?_;exact AM
theorem zfo (t:Tm)(h:t.kind=8):cT gl 156 [t.dv,.agg (Y0 [Ty.mk 1 [],Ty.mk 2 []])] [] (.tup [.agg (H1 (Ty.mk 2 [])),A0 0]) []:=by
 rw[UL];have wp:=CB (gl:=gl) 8;rw[if_neg dD,if_neg dD,if_neg dD,if_pos rfl]at wp;have wo:=I1 (gl:=gl) (Ty.mk 2 []) aH;have wi:=EM (gl:=gl) (Ty.mk 1 []) 1;have wj:=EM (gl:=gl) (Ty.mk 2 []) 2;rw[pZ,UM]at wo;rw[UM]at wi wj ⊢;have hi:AH [2,1,2]=[[A0 2],[A0 1],[A0 2]]:=rfl;have hd:decide ((Ty.mk 1 []).kind=1)=true:=rfl;have hk:(Ty.mk 1 []).kind=1:=rfl;have ha:(Ty.mk 1 []).args=[]:=rfl;have hc:(Ty.mk 1 []).count=1:=rfl;have Zy:decide ((Ty.mk 2 []).kind=2)=true:=rfl;have Ax:(Ty.mk 2 []).kind=2:=rfl;have Zh:(Ty.mk 2 []).args=[]:=rfl;have Ek:(Ty.mk 2 []).count=1:=rfl;rw[hi]at wp;rw[hd]at wi;rw[Zy]at wj;rw[hk,ha,hc,Ax,Zh,Ek];refine A6 Tryz.func156 ?_;intro X hP u6 hf u8 hn hR u5 u4;refine A7 @h ?_;refine A3 @h wp ?_;refine A2 ?_;refine D4 ?_;refine A2 ?_;refine A3 tT wi ?_;refine A2 ?_;refine CN ?_;refine A2 ?_;refine A3 tT wj ?_;refine A2 ?_;refine CN ?_;refine A2 ?_;refine A3 tT wo ?_;exact AM
theorem zfp (t:Tm)(h:t.kind=3)(x y a r:Ty)(hk:x.kind=4)(hx:x.args=[a,r])(ha:a.ok)(hr:r.ok)(hs:a.same y=true) :
  cT gl 156 [t.dv,.agg (Y0 [x,y])] [] (.tup [.agg (H1 r),A0 0]) []:=by
 rw[UL];have wp:=CB (gl:=gl) 3;rw[if_neg dD,if_neg dD,if_neg dD,if_neg dD,if_neg dD]at wp;have wi:=EM (gl:=gl) x 4;have w0:=NW (gl:=gl) x a 0 (by rw[hx];rfl) ha;have w1:=NW (gl:=gl) x r 1 (by rw[hx];rfl) hr;have ws:=QN (gl:=gl) a y;have hi:AH []=[]:=rfl;have hd:decide (x.kind=4)=true:=decide_eq_true hk;rw[hi]at wp;rw[hd]at wi;rw[hs]at ws;simp only[C0]at wi w0 w1 ws ⊢;refine A6 Tryz.func156 ?_;intro X hP u6 hf u8 hn hR u5 u4;refine A7 @h ?_;refine A3 @h wp ?_;refine A7 @h ?_;refine F9 tT wi w0 ws ?_;refine A2 ?_;refine A3 tT w1 ?_;exact AM
theorem qA (t:Tm)(h:t.kind=6\/t.kind=9)(ht:t.type.ok)(x y z:Ty)(hx:x.same t.type=true)(hy:y.same (WX t.type (if t.kind=9 then [Ty.mk 1 [],Ty.mk 2 [],t.type] else [Ty.mk 1 [],t.type]))=true)(hz:z.kind=if t.kind=9 then 2 else 1) :
  cT gl 156 [t.dv,.agg (Y0 [x,y,z])] [] (.tup [.agg (H1 t.type),A0 0]) []:=by
 rw[z0e];have wo:=I1 (gl:=gl) t.type ht;have ws:=QN (gl:=gl) x t.type;have wt:=dX (gl:=gl) t;have wy:=OO (gl:=gl) y (WX t.type (if t.kind=9 then [Ty.mk 1 [],Ty.mk 2 [],t.type] else [Ty.mk 1 [],t.type]));have Kz:=Ty.fold t.type;have fy:=Ty.fold y;have Bd:=Tm.fold t;rw[hx]at ws;rw[hy]at wy;generalize WX t.type (if t.kind=9 then [Ty.mk 1 [],Ty.mk 2 [],t.type] else [Ty.mk 1 [],t.type])=st at *;have fst:=Ty.fold st;have cst:=Ty.cells_eq st;simp only[C0]at wo ws ⊢;rcases h with h|h
 ·have wp:=CB (gl:=gl) 6;rw[if_neg dD,if_neg dD,if_neg dD,if_neg dD,if_neg dD]at wp;have hi:AH []=[]:=rfl;rw[hi]at wp;rw[if_neg oO]at hz;have wi:=EM (gl:=gl) z 1;rw[decide_eq_true hz]at wi;simp only[C0]at wi;rw[h]at Bd;refine A6 Tryz.func156 ?_;intro X hP u6 hf u8 hn hR u5 u4;refine A7 @h ?_;refine A3 @h wp ?_;refine A7 @h ?_;refine A3 (j2 @h @Kz) wo ?_;refine A7 @h ?_;refine IS (j4 @h @fy @Bd @fst) ws wt wy wi ?_;refine A2 ?_;exact AM
 ·have wp:=CB (gl:=gl) 9;rw[if_neg dD,if_neg dD,if_neg dD,if_neg dD,if_neg dD]at wp;have hi:AH []=[]:=rfl;rw[hi]at wp;rw[if_pos h]at hz;have wi:=EM (gl:=gl) z 2;rw[decide_eq_true hz]at wi;simp only[C0]at wi;rw[h]at Bd;refine A6 Tryz.func156 ?_;intro X hP u6 hf u8 hn hR u5 u4;refine A7 @h ?_;refine A3 @h wp ?_;refine A7 @h ?_;refine A3 (j2 @h @Kz) wo ?_;refine A7 @h ?_;refine IS (j4 @h @fy @Bd @fst) ws wt wy wi ?_;refine A2 ?_;exact AM
theorem zas (t:Tm)(h:t.kind=10)(x y:Ty)(hc:1+x.count+y.count<=64) :
  cT gl 156 [t.dv,.agg (Y0 [x,y])] [] (.tup [.agg (H1 (Ty.mk 3 [x,y])),A0 0]) []:=by
 rw[UL];have wp:=CB (gl:=gl) 10;rw[if_neg dD,if_neg dD,if_neg dD,if_neg dD,if_neg dD]at wp;have hi:AH []=[]:=rfl;rw[hi]at wp;have wj:=dV (gl:=gl) 3 x y hc;generalize Ty.mk 3 [x,y]=r at *;simp only[C0]at wj ⊢;refine A6 Tryz.func156 ?_;intro X hP u6 hf u8 hn hR u5 u4;refine A7 @h ?_;refine A3 @h wp ?_;refine A7 @h ?_;refine A3 tT wj ?_;exact AM
theorem zat (t:Tm)(h:t.kind=11)(x a b:Ty)(hk:x.kind=3)(hx:x.args=[a,b])(ha:a.ok) :
  cT gl 156 [t.dv,.agg (Y0 [x])] [] (.tup [.agg (H1 a),A0 0]) []:=by
 rw[dW];have wp:=CB (gl:=gl) 11;rw[if_neg dD,if_neg dD,if_neg dD,if_neg dD,if_neg dD]at wp;have hi:AH []=[]:=rfl;rw[hi]at wp;have wi:=EM (gl:=gl) x 3;have w0:=NW (gl:=gl) x a 0 (by rw[hx];rfl) ha;rw[decide_eq_true hk]at wi;simp only[C0]at wi w0 ⊢;refine A6 Tryz.func156 ?_;intro X hP u6 hf u8 hn hR u5 u4;refine A7 @h ?_;refine A3 @h wp ?_;refine A7 @h ?_;refine A3 tT wi ?_;refine A7 @h ?_;refine A3 tT w0 ?_;exact AM
theorem zau (t:Tm)(h:t.kind=12)(x a b:Ty)(hk:x.kind=3)(hx:x.args=[a,b])(hb:b.ok) :
  cT gl 156 [t.dv,.agg (Y0 [x])] [] (.tup [.agg (H1 b),A0 0]) []:=by
 rw[dW];have wp:=CB (gl:=gl) 12;rw[if_neg dD,if_neg dD,if_neg dD,if_neg dD,if_neg dD]at wp;have hi:AH []=[]:=rfl;rw[hi]at wp;have wi:=EM (gl:=gl) x 3;have w0:=NW (gl:=gl) x b 1 (by rw[hx];rfl) hb;rw[decide_eq_true hk]at wi;simp only[C0]at wi w0 ⊢;refine A6 Tryz.func156 ?_;intro X hP u6 hf u8 hn hR u5 u4;refine A7 @h ?_;refine A3 @h wp ?_;refine A7 @h ?_;refine A3 tT wi ?_;refine A7 @h ?_;refine A3 tT w0 ?_;exact AM
theorem z0f (t:Ty):(H1 t).length=3:=rfl
theorem zav {t:Tm}(ht:t.shape=true)(Fk:¬t.kind=1)(Ax:¬t.kind=2){ds:List Ty}(hl:ds.length=t.args.length)(hd:∀d∈ds,d.ok){r:Ty}(hr:CA t.kind t.type ds=(r,0)) :
  cT gl 156 [t.dv,.agg (Y0 ds)] [] (.tup [.agg (H1 r),A0 0]) []:=by
 obtain⟨ha,hi,hv,Al,hs⟩:=Tm.shape_node ht;rw[<- hl]at ha;unfold CA at hr;rw[if_neg Ax]at hr;by_cases h3:t.kind=3
 ·rw[if_pos h3]at hr;rw[h3]at ha
  match ds,ha with
  | [x,y],_=>
   split at hr
   ·rename_i hx;obtain⟨Rs,hx2⟩:=hx;have Rs:x.kind=4:=Rs;obtain⟨p,q,hp,op,oq,e0,e1⟩:=Ty.ok_args (hd x sS) (.inr Rs);have hx2:(x.arg 0).same y=true:=hx2;rw[e0]at hx2;have e2:([x,y].getD 0 AE).arg 1=q:=e1;rw[e2]at hr;cases hr;exact zfp t h3 x y p _ Rs hp op oq hx2
   ·cases hr
 rw[if_neg h3]at hr;by_cases h4:t.kind=4
 ·rw[if_pos h4]at hr;rw[h4]at ha
  match ds,ha with
  | [],_=>cases hr;exact zfl t h4
 rw[if_neg h4]at hr;by_cases h5:t.kind=5
 ·rw[if_pos h5]at hr;rw[h5]at ha
  match ds,ha with
  | [x],_=>
   split at hr
   ·rename_i hx;have hx:x.same (Ty.mk 1 [])=true:=hx;obtain rfl:=(Ty.same_iff _ _).1 hx;cases hr;exact zfn t h5
   ·cases hr
 rw[if_neg h5]at hr;by_cases h6:t.kind=6
 ·rw[if_pos h6]at hr;rw[h6]at ha;rw[if_pos (.inr (.inl h6))]at Al
  match ds,ha with
  | [x,y,z],_=>
   split at hr
   ·rename_i hx;obtain⟨hx,hy,hz⟩:=hx;have hz:z.same (Ty.mk 1 [])=true:=hz;obtain rfl:=(Ty.same_iff _ _).1 hz;cases hr;refine qA t (.inl h6) Al x y _ hx ?_ ?_;· rw[if_neg oO];exact hy
    ·rw[if_neg oO];rfl
   ·cases hr
 rw[if_neg h6]at hr;by_cases h7:t.kind=7
 ·rw[if_pos h7]at hr;rw[h7]at ha
  match ds,ha with
  | [],_=>cases hr;exact zfm t h7
 rw[if_neg h7]at hr;by_cases h8:t.kind=8
 ·rw[if_pos h8]at hr;rw[h8]at ha
  match ds,ha with
  | [x,y],_=>
   split at hr
   ·rename_i hx;obtain⟨hx,hy⟩:=hx;have hx:x.same (Ty.mk 1 [])=true:=hx;have hy:y.same (Ty.mk 2 [])=true:=hy;obtain rfl:=(Ty.same_iff _ _).1 hx;obtain rfl:=(Ty.same_iff _ _).1 hy;cases hr;exact zfo t h8
   ·cases hr
 rw[if_neg h8]at hr;by_cases h9:t.kind=9
 ·rw[if_pos h9]at hr;rw[h9]at ha;rw[if_pos (.inr (.inr h9))]at Al
  match ds,ha with
  | [x,y,z],_=>
   split at hr
   ·rename_i hx;obtain⟨hx,hy,hz⟩:=hx;have hz:z.same (Ty.mk 2 [])=true:=hz;obtain rfl:=(Ty.same_iff _ _).1 hz;cases hr;refine qA t (.inr h9) Al x y _ hx ?_ ?_;· rw[if_pos h9];exact hy
    ·rw[if_pos h9];rfl
   ·cases hr
 rw[if_neg h9]at hr;by_cases Dq:t.kind=10
 ·rw[if_pos Dq]at hr;rw[Dq]at ha
  match ds,ha with
  | [x,y],_=>
   have hr:XQ (Ty.mk 3 [x,y])=(r,0):=hr;obtain⟨o1,o2⟩:=XR (Ty.mk 3 [x,y]) (by rw[hr]);rw[o2]at hr;rw[o2]at o1;cases hr;have:=o1.2;rw[PB]at this;exact zas t Dq x y oO
 rw[if_neg Dq]at hr;by_cases Bq:t.kind=11
 ·rw[if_pos Bq]at hr;rw[Bq]at ha
  match ds,ha with
  | [x],_=>
   split at hr
   ·rename_i hx;have hx:x.kind=3:=hx;obtain⟨p,q,hp,op,oq,e0,e1⟩:=Ty.ok_args (hd x sS) (.inl hx);have e2:([x].getD 0 AE).arg 0=p:=e0;rw[e2]at hr;cases hr;exact zat t Bq x _ q hx hp op
   ·cases hr
 rw[if_neg Bq]at hr;by_cases Ch:t.kind=12
 ·rw[if_pos Ch]at hr;rw[Ch]at ha
  match ds,ha with
  | [x],_=>
   split at hr
   ·rename_i hx;have hx:x.kind=3:=hx;obtain⟨p,q,hp,op,oq,e0,e1⟩:=Ty.ok_args (hd x sS) (.inl hx);have e2:([x].getD 0 AE).arg 1=q:=e1;rw[e2]at hr;cases hr;exact zau t Ch x p _ hx hp oq
   ·cases hr
 rw[if_neg Ch]at hr;have Ts:GM t.kind=true:=by rw[WD];simp;omega
 have Qf:t.kind=13:=by
  simp[GM]at Ts;omega
 rw[Qf]at ha
 match ds,ha with
 | [],_=>cases hr;exact zar t Qf
theorem OP (t:Tm)(g:List Ty)(hgt:g.length+t.count<=2147483648)(ht:t.shape=true)(hg:∀x∈g,x.ok)(h:(t.inferN g).2=0) :
  cT gl 105 [.sl (g.map H1),t.dv] [] (.tup [.agg (H1 (t.inferN g).1),A0 0]) []:=by
 induction t using Tm.ind generalizing g with
 | h t ih=>
 obtain⟨ha,hi,hv,Al,hs⟩:=Tm.shape_node ht;refine A6 Tryz.func105 ?_;intro X hP u6 hf u8 hn hR u5 u4;have Iq:=IM (u4 (.sl (g.map H1)) sS);simp at Iq;rw[Tm.inferN_eq t]at h hR;by_cases h1:t.kind=1
 ·rw[if_pos h1]at h hR;by_cases h2:(g.length:Int)<=t.index;· rw[if_pos h2]at h;cases h
  rw[if_neg h2]at hR;have Ac:g.length - 1 - t.index.toNat<g.length:=oO;have hx:=uB Ac;rw[List.getD_eq_getElem?_getD]at hR;generalize Uk:g[g.length - 1 - t.index.toNat]=x at hx;have Cp:g[(g.length - 1 - t.index:Int).toNat]? = some x:=by rw[<- hx];congr 1;omega
  rw[hx,Option.getD_some]at hR;refine A7 (j4 @h1 @h2 @Cp (C0 x)) ?_;exact AC (C0 x)
 rw[if_neg h1]at h hR;by_cases Ax:t.kind=2
 ·rw[if_pos Ax]at h hR;rw[Ax]at ha
  obtain⟨b,hb⟩:∃b,t.args=[b]:=by
   match hh:t.args,ha with
   | [b],_=>exact⟨b,rfl⟩
  have Ma:b∈t.args:=by rw[hb];simp
  rw[if_pos (.inl Ax)]at Al;have Fs:∀x∈g++[t.type],x.ok:=by
   intro x hx;rcases List.mem_append.1 hx with hx|hx;· exact hg x hx
   ·rw[List.mem_singleton.1 hx];exact Al
  have Yv:t.count=1+(b.count+0):=by rw[Tm.count_eq,hb];rfl
  have Xk:=Tm.count_pos b;have Hq:g.length<=2147483647:=oO;rw[hb]at h hR;simp only[Tm.inferN.infers]at h hR;have Ey:(b.inferN (g++[t.type])).2=0:=by
   by_cases e:(b.inferN (g++[t.type])).2=0;· exact e
   ·rw[if_neg e]at h;simp only at h;rw[if_neg e]at h;exact absurd h e
  rw[if_pos Ey]at h hR;simp only[if_true]at h hR;have hbo:=Tm.inferN_ok b (g++[t.type]) (hs b Ma) Fs Ey;have w1:=ih b Ma (g++[t.type]) (by simp;omega) (hs b Ma) Fs Ey;generalize (b.inferN (g++[t.type])).1=rb at *;have Nd:CA t.kind t.type [rb]=XQ (Ty.mk 4 [t.type,rb]):=by rw[Ax];rfl
  rw[Nd]at h hR;obtain⟨o1,o2⟩:=XR (Ty.mk 4 [t.type,rb]) h;rw[o2]at o1 hR;have Ir:=o1.2;rw[PB]at Ir;have wo:=I1 (gl:=gl) t.type Al;have wj:=dV (gl:=gl) 4 t.type rb oO;have Kz:=Ty.fold t.type;have fb:=Tm.fold b;have Rm:List.map H1 (g++[t.type])=List.map H1 g++[H1 t.type]:=sS;have Wt:(List.map H1 g).length=g.length:=sS;generalize Ty.mk 4 [t.type,rb]=r4 at *;rw[Rm]at w1;simp only[C0 t.type,C0 rb,C0 r4]at w1 wo wj hR;have Hg:∀e:List DV,e∈List.map H1 g->e.length=3:=by intro e he;simp only[List.mem_map]at he;obtain⟨x,-,rfl⟩:=he;rfl
  generalize List.map H1 g=G at *;have Jm:List.take g.length G=G:=by rw[List.take_of_length_le];omega
  refine A7 @Ax ?_;refine A3 (j2 @Ax @Kz) wo ?_;refine A3 (j6 @Ax @hb @Jm @Wt @Hg @Hq) w1 ?_;refine A2 ?_;refine A3 tT wj ?_;exact AM
 rw[if_neg Ax]at h hR;have hlen:=Tm.fit_len (u4 t.dv sS);have hI:(Tm.inferN.infers t.args g).2=0:=by
  by_cases e:(Tm.inferN.infers t.args g).2=0;· exact e
  ·rw[if_neg e]at h;exact absurd h e
 rw[if_pos hI]at h hR;obtain⟨Dy,Ae⟩:=Tm.infers_all t.args g hI;have Km:∀a∈(Tm.inferN.infers t.args g).1,a.ok:=by
  intro a ha;obtain⟨i,hi,rfl⟩:=List.mem_iff_getElem.1 ha;obtain⟨x1,x2⟩:=Ae i t.args[i] (uB oO);rw[uB hi]at x2;rw[Option.some.inj x2];exact Tm.inferN_ok _ g (hs _ (List.getElem_mem _)) hg x1
 have wn:=zav (gl:=gl) (t:=t) ht h1 Ax Dy Km (r:=(CA t.kind t.type (Tm.inferN.infers t.args g).1).1) (by rw[<- h]);generalize (CA t.kind t.type (Tm.inferN.infers t.args g).1).1=r at *;generalize (Tm.inferN.infers t.args g).1=ds at *;have h3:t.args.length<=3:=by
  have:AO t.kind<=3:=by unfold AO;(repeat' split) <;> omega
  omega
 have Bd:=Tm.fold t;simp only[C0 r]at wn hR;have step:∀(i:Nat) (x:Tm),t.args[i]? = some x->∃d,ds[i]? = some d/\cT gl 105 [.sl (g.map H1),x.dv] [] (.tup [.agg (H1 d),A0 0]) []:=by
  intro i x hx;obtain⟨x1,x2⟩:=Ae i x hx;have hm:=uE hx;have Br:=Tm.count_mem hm;have Ap:=Tm.count_eq t;exact⟨_,x2,ih x hm g oO (hs x hm) hg x1⟩
 clear ih;have hgm:List.map H1 g=List.map H1 g:=rfl;generalize List.map H1 g=G at *;have done0:∀(p:List Ty),t.args.length=p.length->ds=p->Y0 ds=Y0 p:=by intro p _ e;rw[e]
 match u9:t.args,h3 with
 | [],_=>
  rw[u9]at Dy;obtain rfl:ds=[]:=List.length_eq_zero_iff.1 Dy;rw[pY]at wn;rw[u9]at Bd;simp only[List.map_nil]at Bd;refine A7 (j3 @h1 @Ax @u9) ?_;refine D4 ?_;refine A7 @u9 ?_;refine A3 (j2 @u9 @Bd) wn ?_;exact AM
 | [x],_=>
  obtain⟨d,hd,w⟩:=step 0 x (by rw[u9];rfl);rw[u9]at Dy
  obtain rfl:ds=[d]:=by
   match ds,Dy,hd with
   | [_],_,hd=>simp at hd;rw[hd]
  rw[dW]at wn;simp only[C0]at w;rw[u9]at Bd;simp only[List.map_cons,List.map_nil]at Bd;rw[Tm.cells_eq x]at Bd;refine A7 (j3 @h1 @Ax @u9) ?_;refine D4 ?_;refine A7 @u9 ?_;refine A3 tT w ?_;refine A2 ?_;refine AA (s':=[sV 0 (.sl G),sV 67 (A0 1),sV 66 (A0 1),sV 65 (.sl [x.cells]),sP 3,sL 3 [.v (A0 t.kind),.v (A0 t.index),.v (A0 t.type.kind),.v (.sl (t.type.args.map Ty.cells)),.v (.sl [x.cells])],sP 4,sL 4 [.v (A0 0),.own 0 [],.v (A0 0)],sP 9,sL 9 [.v (A0 d.kind),.v (.sl (d.args.map Ty.cells)),.v (A0 (d.count:Int)),.v (A0 0),.own 0 [],.v (A0 0),.v (A0 0),.own 0 [],.v (A0 0)]]) [] @u9 ?_;refine CN ?_;refine A2 ?_;refine A3 @Bd wn ?_;exact AM
 | [x,y],_=>
  obtain⟨d,hd,w⟩:=step 0 x (by rw[u9];rfl);obtain⟨e,he,v⟩:=step 1 y (by rw[u9];rfl);rw[u9]at Dy
  obtain rfl:ds=[d,e]:=by
   match ds,Dy,hd,he with
   | [_,_],_,hd,he=>simp at hd he;rw[hd,he]
  rw[UL]at wn;simp only[C0]at w v;rw[u9]at Bd;simp only[List.map_cons,List.map_nil]at Bd;rw[Tm.cells_eq x,Tm.cells_eq y]at Bd;refine A7 (j3 @h1 @Ax @u9) ?_;refine D4 ?_;refine A7 @u9 ?_;refine A3 tT w ?_;refine A2 ?_;refine AA (s':=[sV 0 (.sl G),sV 67 (A0 1),sV 66 (A0 2),sV 65 (.sl [x.cells,y.cells]),sP 3,sL 3 [.v (A0 t.kind),.v (A0 t.index),.v (A0 t.type.kind),.v (.sl (t.type.args.map Ty.cells)),.v (.sl [x.cells,y.cells])],sP 4,sL 4 [.v (A0 0),.own 0 [],.v (A0 0)],sP 9,sL 9 [.v (A0 d.kind),.v (.sl (d.args.map Ty.cells)),.v (A0 (d.count:Int)),.v (A0 0),.own 0 [],.v (A0 0),.v (A0 0),.own 0 [],.v (A0 0)]]) [] @u9 ?_;refine CN ?_;refine A7 @u9 ?_;refine A3 tT v ?_;refine A2 ?_;refine AA (s':=[sV 0 (.sl G),sV 67 (A0 2),sV 66 (A0 2),sV 65 (.sl [x.cells,y.cells]),sP 3,sL 3 [.v (A0 t.kind),.v (A0 t.index),.v (A0 t.type.kind),.v (.sl (t.type.args.map Ty.cells)),.v (.sl [x.cells,y.cells])],sP 4,sL 4 [.v (A0 0),.own 0 [],.v (A0 0)],sP 9,sL 9 [.v (A0 d.kind),.v (.sl (d.args.map Ty.cells)),.v (A0 (d.count:Int)),.v (A0 e.kind),.v (.sl (e.args.map Ty.cells)),.v (A0 (e.count:Int)),.v (A0 0),.own 0 [],.v (A0 0)]]) [] @u9 ?_;refine CN ?_;refine A2 ?_;refine A3 @Bd wn ?_;exact AM
 | [x,y,z],_=>
  obtain⟨d,hd,w⟩:=step 0 x (by rw[u9];rfl);obtain⟨e,he,v⟩:=step 1 y (by rw[u9];rfl);obtain⟨k,Dc,u⟩:=step 2 z (by rw[u9];rfl);rw[u9]at Dy
  obtain rfl:ds=[d,e,k]:=by
   match ds,Dy,hd,he,Dc with
   | [_,_,_],_,hd,he,Dc=>simp at hd he Dc;rw[hd,he,Dc]
  rw[z0e]at wn;simp only[C0]at w v u;rw[u9]at Bd;simp only[List.map_cons,List.map_nil]at Bd;rw[Tm.cells_eq x,Tm.cells_eq y,Tm.cells_eq z]at Bd;refine A7 (j3 @h1 @Ax @u9) ?_;refine D4 ?_;refine A7 @u9 ?_;refine A3 tT w ?_;refine A2 ?_;refine AA (s':=[sV 0 (.sl G),sV 67 (A0 1),sV 66 (A0 3),sV 65 (.sl [x.cells,y.cells,z.cells]),sP 3,sL 3 [.v (A0 t.kind),.v (A0 t.index),.v (A0 t.type.kind),.v (.sl (t.type.args.map Ty.cells)),.v (.sl [x.cells,y.cells,z.cells])],sP 4,sL 4 [.v (A0 0),.own 0 [],.v (A0 0)],sP 9,sL 9 [.v (A0 d.kind),.v (.sl (d.args.map Ty.cells)),.v (A0 (d.count:Int)),.v (A0 0),.own 0 [],.v (A0 0),.v (A0 0),.own 0 [],.v (A0 0)]]) [] @u9 ?_;refine CN ?_;refine A7 @u9 ?_;refine A3 tT v ?_;refine A2 ?_;refine AA (s':=[sV 0 (.sl G),sV 67 (A0 2),sV 66 (A0 3),sV 65 (.sl [x.cells,y.cells,z.cells]),sP 3,sL 3 [.v (A0 t.kind),.v (A0 t.index),.v (A0 t.type.kind),.v (.sl (t.type.args.map Ty.cells)),.v (.sl [x.cells,y.cells,z.cells])],sP 4,sL 4 [.v (A0 0),.own 0 [],.v (A0 0)],sP 9,sL 9 [.v (A0 d.kind),.v (.sl (d.args.map Ty.cells)),.v (A0 (d.count:Int)),.v (A0 e.kind),.v (.sl (e.args.map Ty.cells)),.v (A0 (e.count:Int)),.v (A0 0),.own 0 [],.v (A0 0)]]) [] @u9 ?_;refine CN ?_;refine A7 @u9 ?_;refine A3 tT u ?_;refine A2 ?_
  refine AA (s':=[sV 0 (.sl G),sV 67 (A0 3),sV 66 (A0 3),sV 65 (.sl [x.cells,y.cells,z.cells]),sP 3,sL 3 [.v (A0 t.kind),.v (A0 t.index),.v (A0 t.type.kind),.v (.sl (t.type.args.map Ty.cells)),.v (.sl [x.cells,y.cells,z.cells])],sP 4,sL 4 [.v (A0 0),.own 0 [],.v (A0 0)],sP 9,sL 9 [.v (A0 d.kind),.v (.sl (d.args.map Ty.cells)),.v (A0 (d.count:Int)),.v (A0 e.kind),.v (.sl (e.args.map Ty.cells)),.v (A0 (e.count:Int)),.v (A0 k.kind),.v (.sl (k.args.map Ty.cells)),.v (A0 (k.count:Int))]]) [] @u9 ?_;refine CN ?_;refine A2 ?_;refine A3 @Bd wn ?_;exact AM
theorem WY:cT gl 102 [.sl []] [] (A0 0) []:=by
 refine A6 Tryz.func102 ?_;intro X hP u6 hf u8 hn hR u5 u4;refine A2 ?_;refine D4 ?_;refine A2 ?_;exact AM
theorem ZZ:cT gl 104 [.sl []] [] (.sl []) []:=by
 refine A6 Tryz.func104 ?_;intro X hP u6 hf u8 hn hR u5 u4;refine A2 ?_;refine D4 ?_;refine A2 ?_;exact AM
theorem a9 (Cj:FQ gl 0=some IL)(t:Tm)(r:Ty)(hc:t.checkN=0)(h:t.inferN []=(r,0)) :
  cT gl 39 [.sl [],t.dv] [] (.tup [r.dv,A0 0]) []:=by
 obtain⟨hs,Ir⟩:=(Tm.checkN_iff t).1 hc;have w2:=LH Cj t (DS t hs) oO;rw[hc]at w2;have w3:=OP (gl:=gl) t [] (by simp;omega) hs sS (by rw[h]);rw[h]at w3;have w4:=dU (gl:=gl) r;have Bd:=Tm.fold t;have fr:=Ty.fold r;simp only[C0,List.map_nil]at w3;refine A6 Tryz.func39 ?_;intro X hP u6 hf u8 hn hR u5 u4;refine A2 ?_;refine A3 tT WY ?_;refine A2 ?_;refine A3 @Bd w2 ?_;refine A2 ?_;refine BL @Bd ZZ w3 ?_;refine A2 ?_;refine A3 @fr w4 ?_;exact BI
end
end Go.Proofs.YtkfiobkjflmchaaGreatDoor.Lift
