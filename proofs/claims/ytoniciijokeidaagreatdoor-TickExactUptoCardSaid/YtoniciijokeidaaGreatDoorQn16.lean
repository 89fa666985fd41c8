import Derived.Test.YtoniciijokeidaaGreatDoorQn15
set_option maxHeartbeats 8000000
set_option maxRecDepth 100000
set_option linter.unusedSimpArgs false
set_option linter.unusedVariables false
set_option linter.unnecessarySimpa false
namespace Go.Proofs.YtoniciijokeidaaGreatDoor.Lift
open Go
section
variable {gl:AF}
theorem zU {α:Type}(f:α->Nat):∀(l:List α),∀x∈l,f x<=(l.map f).sum
 | [],x,h=>by cases h
 | a::r,x,h=>by
  rw[List.map_cons,List.sum_cons];rcases List.mem_cons.1 h with rfl|h;· omega
  ·have:=zU f r x h;omega
theorem zV {α:Type}(f:α->Nat):∀(l:List α),(∀x∈l,1<=f x)->l.length<=(l.map f).sum
 | [],_=>Nat.zero_le _
 | a::r,h=>by
  rw[List.map_cons,List.sum_cons,List.length_cons];have h1:=h a (List.mem_cons_self ..);have:=zV f r fun x hx=>h x (List.mem_cons_of_mem _ hx);omega
theorem kJ (Bl:ET gl 0=some H1)(l:List Int)(s:Ty)(raw:Tm)(g:List Ty)(wk:Int)(hs:s.tot<=1048576)(hr:raw.tot<=1048576)(hg:1+(g.map Ty.tot).sum<=1048576) :
  cT gl 3 [.sl (AP l),s.dv,raw.dv,.sl (g.map Ty.cells),A0 wk] [] (AK true) []:=by
 have wa:=xP (gl:=gl) Bl;have hsc:s.count<=1048576:=by rw[<- Ty.tot_count];exact hs
 obtain⟨cr,ctr⟩:=Tm.tot_count raw;have ctr:=ctr oO;have Xq:∀x∈g,x.tot<=1048576:=fun x hx=>by have:=zU Ty.tot g x hx;omega
 have hgc:∀x∈g,x.count<=1048576:=fun x hx=>by rw[<- Ty.tot_count];exact Xq x hx
 have u7:g.length<=1048576:=by
  have:=zV Ty.tot g (fun x _=>by rw[Ty.tot_count,Ty.count_eq];omega);omega
 have Lo:=Ty.fold s;have Eh:=Tm.fold raw;have q0:=z4x (gl:=gl);have q1:=dC (gl:=gl) [s] 0 sS (by simp;omega) dD dD;obtain⟨s1a,s1b⟩:=jW (fun t=>Ty.cntN t 20000) [s] 0 (by simp;have:=Ty.cnt_bd s 20000;omega) dD dD;generalize QP (fun t=>Ty.cntN t 20000) [s] 0=S1 at *;have q2:=x6 (gl:=gl) [raw] S1 sS (by simp;omega) s1a s1b;obtain⟨s2a,s2b⟩:=jW (fun t=>Tm.cntN t 20000) [raw] S1 (by simp;have:=Tm.cnt_bd raw 20000;omega) s1a s1b;generalize QP (fun t=>Tm.cntN t 20000) [raw] S1=S2 at *;have q3:=dC (gl:=gl) g S2 u7 (fun x hx=>by have:=Xq x hx;omega) s2a s2b;generalize QP (fun t=>Ty.cntN t 20000) g S2=S3 at *;have q4:=XH (gl:=gl) S3;simp only[List.map_cons,List.map_nil,Ty.cells_eq s]at q1;simp only[List.map_cons,List.map_nil,Tm.cells_eq raw]at q2;have Zy:(g.map Ty.cells).length=g.length:=sS;obtain⟨cs0,hcs0⟩:∃cs:List (List Ty),cs=[g]:=⟨_,rfl⟩;have hgd:∀x∈g,x.count<=1073741824:=fun x hx=>by have:=hgc x hx;omega
 refine A8 Tryz.func3 ?_;intro X hP u7 hf u9 hn hR u6 u5;by_cases hl:l.length<=500;rotate_left
 ·refine A4 ?_;refine EW @hl wa (iO l) ?_;refine A4 ?_;refine A3 tT wa ?_;exact BR
 by_cases hS:S3<=20000;rotate_left
 ·rw[decide_eq_false hS]at q4;refine A4 ?_;refine iN (j3 @hl @Lo @Eh) wa (iO l) q0 q1 q2 q3 q4 ?_;refine A4 ?_;refine A3 tT wa ?_;exact BR
 rw[decide_eq_true hS]at q4;by_cases h40:(40:Int)<(g.length:Int)
 ·refine A4 ?_;refine iN (j5 @hl @Lo @Eh @Zy @h40) wa (iO l) q0 q1 q2 q3 q4 ?_;refine A4 ?_;refine A3 tT wa ?_;exact BR
 refine A4 ?_;refine iN (j5 @hl @Lo @Eh @Zy @h40) wa (iO l) q0 q1 q2 q3 q4 ?_;refine A4 ?_;clear q0 q1 q2 q3 q4;refine BK ?_;first|refine AQ [] fun K hK=>?_|refine AL (by rw[hP];exact AZ) [] fun K hK=>?_
 refine KI ?_;repeat (refine⟨oO,?_⟩)
 refine P5 hP u7 (zmw l) (by simp[go_sem]) rfl (by simp[go_sem]) sS (by rw[hn];exact uF rfl) ?_;rintro rr φ ⟨b,rfl,rfl⟩ -;simp[go_sem,hP,u7,hn];refine F1 ?_;clear hK K;obtain⟨g1,g2,g3⟩:=tQ l (p:=0) oO;have wg:=eS (gl:=gl) b l 0 hl oO;generalize tO l 0=cd at *;obtain⟨own,p1⟩:=cd;simp only at g1 g2 g3 wg;obtain⟨t1,t2⟩:=FL l (n:=2) g1 dD;have wt:=L7 (gl:=gl) 2 b l p1 hl g1 dD;generalize CS l 2 p1=td at *;obtain⟨t,p2⟩:=td;simp only at t1 t2 wt;have Jn:((2:Nat):Int)=2:=rfl;rw[Jn]at wt;have Av:=Ty.fold t;have Dg:=Ty.cells_eq t;have Dp:=Ty.cells_eq s;have htc:t.count<=15:=t2.2;obtain⟨us,hus⟩:∃us,us=[s,t]:=⟨_,rfl⟩;have hul:us.length=2:=by rw[hus];rfl
 have huc:∀u∈us,u.count<=1048576:=by
  intro u hu;rw[hus]at hu;simp at hu;rcases hu with rfl|rfl <;> omega
 have Zz:List.map Ty.cells us=[s.cells,t.cells]:=by rw[hus];rfl
 clear hus;obtain⟨GG,hGG⟩:∃G,G=g.map Ty.cells:=⟨_,rfl⟩;obtain⟨OO,hOO⟩:∃G,G=own.map Ty.cells:=⟨_,rfl⟩;rw[<- hGG];rw[<- hOO]at wg;refine A4 ?_;refine A3 tT wg ?_;refine A4 ?_;refine A3 tT wt ?_;refine A7 @Dg ?_;refine BK ?_;refine AC [] (j3 @Zz @Dp @Dg) (FD (2) (fun i=>True) (fun i=>[sV 3 (.sl GG),sV 4 (A0 wk),sP 7,sL 7 [.v (A0 raw.kind),.v (A0 raw.index),.v (A0 raw.type.kind),.v (.sl (raw.type.args.map Ty.cells)),.v (.sl (raw.args.map Tm.cells))],sV 11 (BC b),sV 12 (.sl OO),sV 76 (.sl (us.map Ty.cells)),sV 77 (A0 2),sV 78 (A0 i),sB  b [.v (.sl (AP l)),.v (A0 p2)]]) (trivial) ?_ ?_)
 ·intro i Jt _ Aa;have Aq:us[i]? = some us[i]:=uB oO;generalize us[i]=u at Aq;have Ca:=huc u (uE Aq);have hgu:(us.map Ty.cells)[i]? = some u.cells:=by rw[List.getElem?_map,Aq];rfl
  clear Zz;generalize List.map Ty.cells us=U at *;have hcu:=Ty.cells_eq u;have Fj:=Ty.fold u;obtain⟨y,e,w1,w2,hyc⟩:=z5g (gl:=gl) u oO;have Cs:=Ty.fold y;have Bp:=Ty.cells_eq y;have w3:=BB (gl:=gl) y y;rw[show y.same y=true from (Ty.same_iff _ _).2 rfl]at w3;have Ag:(i:Int)<2:=oO;refine AX @Ag ?_;refine AE ?_;refine A7 (j2 @hgu @hcu) ?_;refine A3 @Fj w1 ?_;refine A4 ?_;refine A3 @Fj w2 ?_;refine A4 ?_;refine A3 @Cs w3 ?_;refine A4 ?_;refine CR (wr []) tT tT (Aa tT)
 intro _;have wd1:=zdb (gl:=gl) b l p2 hl oO;obtain⟨a,ha,hx,Ef⟩:=pL l (p:=p2) oO;obtain⟨F,hF⟩:=hx.dn;have Sx:=JW _ (G4 hF);have hxc:=hx.count;generalize QS l p2=q1 at *;obtain⟨⟨x0,s1⟩,p3⟩:=q1;simp only at ha Ef wd1 Sx hxc;have f0:=Tm.fold x0;have c0:=Tm.cells_eq x0;have Nz:=Ty.fold s1;have cs1:=Ty.cells_eq s1;obtain⟨v1,v2⟩:=FL l (n:=1) Ef dD;have wt1:=L7 (gl:=gl) 1 b l p3 hl Ef dD;generalize CS l 1 p3=td at *;obtain⟨Yi,p4⟩:=td;simp only at v1 v2 wt1;have hc1':((1:Nat):Int)=1:=rfl;rw[hc1']at wt1;have wz:=bN (gl:=gl) b l hl 2 dD Yi own p4 v2 g2 oO v1;have z1:=(HV KB 2 Yi own p4 v2 g2 v1);have z2:=YE l 2 Yi own p4 v2 g2 v1;generalize DC l 2 Yi own p4=zd at *;obtain⟨zz,p5⟩:=zd;simp only at wz z1 z2;rw[show yT 2=485 from rfl]at z2;have hc2':((2:Nat):Int)=2:=rfl;rw[hc2',<- hOO]at wz;have Kc:=Tm.fold zz;have Gi:=Tm.cells_eq zz;have Ih:=Tm.cells_eq raw;have Gd:=Ty.fold Yi;obtain⟨ts,Zf⟩:∃ts,ts=[raw,zz,x0]:=⟨_,rfl⟩;have htl:ts.length=3:=by rw[Zf];rfl
 have htc4:∀u∈ts,u.tys/\u.count<=1048576:=by
  intro u hu;rw[Zf]at hu;simp at hu;rcases hu with rfl|rfl|rfl;· exact⟨ctr,oO⟩
  ·exact⟨JW _ z1.2,oO⟩
  ·exact⟨Sx,oO⟩
 have Xx:List.map Tm.cells ts=[raw.cells,zz.cells,x0.cells]:=by rw[Zf];rfl
 clear Zf;obtain⟨cx,An⟩:∃cx:List (List Ty),cx=[g,own,[]]:=⟨_,rfl⟩;have hcxl:cx.length=3:=by rw[An];rfl
 have hcxc:∀c∈cx,∀x∈c,x.count<=1073741824:=by
  intro c hc;rw[An]at hc;simp at hc;rcases hc with rfl|rfl|rfl;· exact hgd
  ·intro x hx;have:=(g2 x hx).2;omega
  ·intro x hx;cases hx
 have Zk:(cx.map fun c=>[DV.sl (c.map Ty.cells)])=[[DV.sl GG],[DV.sl OO],[DV.sl []]]:=by rw[An,hGG,hOO];rfl
 clear An;obtain⟨ws,hws⟩:∃ws:List Int,ws=[wk,20000]:=⟨_,rfl⟩;have hwsl:ws.length=2:=by rw[hws];rfl
 have hwsm:AP ws=[[A0 wk],[A0 20000]]:=by rw[hws];rfl
 clear hws;refine A2 ?_;refine B6 ?_;refine A4 ?_;refine A3 tT wd1 ?_;refine A7 (j4 @f0 @c0 @Nz @cs1) ?_;refine EW (j4 @Gd @Ih @Eh @c0) wt1 wz ?_;refine A4 ?_;refine BK ?_;refine AC [] (j4 @Xx @Ih @Gi @c0) (FD (3) (fun i=>True) (fun i=>[sV 3 (.sl GG),sV 4 (A0 wk),sV 12 (.sl OO),sV 114 (.sl (ts.map Tm.cells)),sV 115 (A0 3),sV 116 (A0 i)]) (trivial) ?_ ?_)
 ·intro i0 hi3 _ Aa;have Aq:ts[i0]? = some ts[i0]:=uB oO;generalize ts[i0]=u at Aq;obtain⟨u1,u2⟩:=htc4 u (uE Aq);have hgu:(ts.map Tm.cells)[i0]? = some u.cells:=by rw[List.getElem?_map,Aq];rfl
  clear Xx;generalize List.map Tm.cells ts=U at *;have hcu:=Tm.cells_eq u;have Fj:=Tm.fold u;have Ag:(i0:Int)<3:=oO;refine AX @Ag ?_;refine AE ?_;refine A7 (j2 @hgu @hcu) ?_;refine BK ?_;refine AC [] @Zk (FD (3) (fun i=>True) (fun i=>[sV 3 (.sl GG),sV 4 (A0 wk),sV 12 (.sl OO),sV 114 (.sl U),sV 115 (A0 3),sV 116 (A0 i0),sP 23,sL 23 [.v (A0 u.kind),.v (A0 u.index),.v (A0 u.type.kind),.v (.sl (u.type.args.map Ty.cells)),.v (.sl (u.args.map Tm.cells))],sV 122 (.sl (cx.map fun c=>[DV.sl (c.map Ty.cells)])),sV 123 (A0 3),sV 124 (A0 i)]) (trivial) ?_ ?_)
  ·intro j hj3 _ Mj;have Aq:cx[j]? = some cx[j]:=uB oO;generalize cx[j]=c at Aq;have Cw:=hcxc c (uE Aq);have hgk:(cx.map fun c=>[DV.sl (c.map Ty.cells)])[j]? = some [DV.sl (c.map Ty.cells)]:=by rw[List.getElem?_map,Aq];rfl
   clear Zk;generalize (cx.map fun c=>[DV.sl (c.map Ty.cells)])=CX at *;obtain⟨z,e,w1,w2,-,-,-⟩:=gT (gl:=gl) Bl c u Cw u1 oO;generalize c.map Ty.cells=CC at *;have Kc:=Tm.fold z;have Gi:=Tm.cells_eq z;have w3:=eL (gl:=gl) z z;rw[show z.same z=true from (Tm.same_iff _ _).2 rfl]at w3;have Ag:(j:Int)<3:=oO;refine AX @Ag ?_;refine AE ?_;refine A7 @hgk ?_;refine A3 @Fj w1 ?_;refine A4 ?_;refine A3 @Fj w2 ?_;refine A4 ?_;refine A3 @Kc w3 ?_;refine A4 ?_;refine CR (wr []) tT tT (Mj tT)
  ·intro _;refine A2 ?_;refine B6 ?_;refine A4 ?_;refine BK ?_;refine AC [] @hwsm (FD (2) (fun i=>True) (fun i=>[sV 3 (.sl GG),sV 4 (A0 wk),sV 12 (.sl OO),sV 114 (.sl U),sV 115 (A0 3),sV 116 (A0 i0),sP 23,sL 23 [.v (A0 u.kind),.v (A0 u.index),.v (A0 u.type.kind),.v (.sl (u.type.args.map Ty.cells)),.v (.sl (u.args.map Tm.cells))],sV 151 (.sl (AP ws)),sV 152 (A0 2),sV 153 (A0 i)]) (trivial) ?_ ?_)
   ·intro j To _ Mj;have Aq:ws[j]? = some ws[j]:=uB oO;generalize ws[j]=w at Aq;have hgk:(AP ws)[j]? = some [A0 w]:=IS Aq;clear hwsm;generalize AP ws=WS at *;obtain⟨v,n,e,w1,w2⟩:=xN (gl:=gl) Bl u w u1 oO;obtain⟨n2,e2,w3,w4⟩:=xO (gl:=gl) Bl u w u1 oO;have Kq:=Val.fold v;have Et:=Val.cells_eq v;have w5:=eO (gl:=gl) v v;rw[show v.same v=true from (Val.same_iff v v).2 rfl]at w5;have Ag:(j:Int)<2:=oO;refine AX @Ag ?_;refine AE ?_;refine A7 @hgk ?_;refine A3 @Fj w1 ?_;refine A4 ?_;refine A3 @Fj w2 ?_;refine A4 ?_;refine A3 @Fj w3 ?_;refine A4 ?_;refine A3 @Fj w4 ?_;refine A4 ?_;refine A3 @Kq w5 ?_;refine A4 ?_;refine CR (wr []) tT tT (Mj tT)
   ·intro _;refine A2 ?_;refine B6 ?_;refine A4 ?_;refine CR (wr []) tT tT (Aa tT)
 ·intro _;refine A2 ?_;refine B6 ?_;refine A4 ?_;exact BR
end
end Go.Proofs.YtoniciijokeidaaGreatDoor.Lift
