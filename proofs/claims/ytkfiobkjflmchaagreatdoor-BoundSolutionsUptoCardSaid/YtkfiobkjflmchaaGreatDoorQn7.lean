import Derived.Test.YtkfiobkjflmchaaGreatDoorQn6
set_option maxHeartbeats 8000000
set_option maxRecDepth 100000
set_option linter.unusedSimpArgs false
set_option linter.unusedVariables false
set_option linter.unnecessarySimpa false
namespace Go.Proofs.YtkfiobkjflmchaaGreatDoor.Lift
open Go
section
variable {gl:AB}
def kN (g:List Ty)(t:Ty)(i:Nat):Bool:=decide ((HJ g i).kind=4)&&((HJ g i).arg 1).same t
theorem gI {Q:Nat->Prop}{i:Nat}(h:∀j,j<i->Q j)(hi:Q i):∀j,j<i+1->Q j:=by
 intro j hj;by_cases e:j=i;· rw[e];exact hi
 ·exact h j oO
theorem wY {g:List Ty}{t:Ty}{i:Nat}(hi:i<g.length)(h:∀j,j<i->kN g t j=false)(hp:kN g t i=true):wV g t=some i:=by
 unfold wV;rw[List.find?_range_eq_some];exact⟨hp,List.mem_range.2 hi,fun j hj=>by show (!kN g t j)=true;rw[h j hj];rfl⟩
theorem z44 {g:List Ty}{t:Ty}(h:∀j,j<g.length->kN g t j=false):wV g t=none:=by
 unfold wV;rw[List.find?_eq_none];intro j hj;show ¬kN g t j=true;rw[h j (List.mem_range.1 hj)];decide
theorem zf2 {X:Ctx}{k kk:List Item}{s:St}(E:Prop)(S:St)(h1:(E->W X kk S)->W X k s)(h2:E->W X kk S):W X k s:=h1 h2
theorem QD (b:Nat)(l:List Int)(hl:l.length<=500)(n:Nat)(hn9:n<=9):∀(t:Ty) (g:List Ty) (p:Nat),t.small->(∀x∈g,x.small)->g.length+3 * n+15<=1000000->p<=l.length ->
  cT gl 65 [DP b,.sl (g.map Ty.cells),t.dv,A0 n] [(b,CL l p)] (CZ l n t g p).1.dv [(b,CL l (CZ l n t g p).2)]:=by
 induction n with
 | zero=>
  intro t g p ht hg Hq hp;exact kM b l hl t 0 g p oO (by have:=ht.2;omega) ht hg (by have:=ht.2;omega) hp
 | succ n ihn0=>
 intro t g p ht hg Hq hp;have Bt:=ihn0 oO;have hD:=FY (l:=l) QB n;have Fp:∀a:List Ty,(∀x∈a,x.small)->∀x∈g++a,x.small:=by
  intro a ha x hx;rcases List.mem_append.1 hx with hx|hx;· exact hg x hx
  ·exact ha x hx
 have Eb:(0:Int)<((n+1:Nat):Int):=oO;have Df:((n+1:Nat):Int) - 1=(n:Int):=oO;refine A6 Tryz.func65 ?_;intro X hP u6 hf u8 hn hR u5 u4;rw[CZ]at hR;have Hw:(ER g t).length<=g.length:=cO g t g.length;have Yb:=CO (n:=3) hp;have Ok:=DQ (l:=l) (p:=p) (n:=3) dD;rcases Jh:NK l t g p with⟨_|x,q⟩
 ·rw[Jh]at hR;simp only at hR;have hq:q<=l.length:=by have:=SB (t:=t) (g:=g) hp;rw[Jh]at this;exact this
  apply Q8 [sV 0 (DP b),sV 1 (.sl (g.map Ty.cells)),sV 3 (A0 ((n+1:Nat):Int)),sP 6,sL 6 [.v (A0 t.kind),.v (.sl (t.args.map Ty.cells))],sP 8,sL 8 [.v (A0 0),.v (A0 0),.v (A0 0),.own 0 [],.own 0 []],sB  b [.v (.sl (AH l)),.v (A0 q)]]
  ·intro Aa;refine A2 ?_;refine A3 tT (QC g t oO) ?_;rcases cP Jh with⟨h0,rfl⟩|⟨h0,h1,rfl⟩
   ·refine A7 (j2 @IY @h0) ?_;refine GX ?_;refine AA [] tT Aa
   ·have Cn:0<(ER g t).length:=oO;refine A2 ?_;refine A3 (j3 @IY @Cn @h1) (DY b l p 3 dD oO) ?_;refine A7 @h1 ?_;refine GX ?_;refine AA [] tT Aa
  ·have hq8:=CO (n:=8) hq;have Zd:=DQ (l:=l) (p:=q) (n:=8) dD;refine A7 @Eb ?_;refine A3 tT (DY b l q 8 dD oO) ?_;generalize hd:AD l q 8=d at *;obtain⟨k,r⟩:=d;simp only at hR Zd hq8;have hr:r<=l.length:=hq8;by_cases h0:k=0
   ·rw[KQ,if_pos h0]at hR;have cs:=V8 (gl:=gl) 0 b l r hl hr dD;obtain⟨fs,ss⟩:=LU l (n:=0) hr dD;generalize Xn:EA l 0 r=rs at cs fs ss hR;obtain⟨s,qs⟩:=rs;simp only at cs fs ss hR;have cx:=Bt (t) (g++[s]) qs ht (Fp [s] (by simpa using ss)) (by simp;omega) fs;have fx:=(hD (t) (g++[s]) qs ht (Fp [s] (by simpa using ss)) fs).1;generalize hex:CZ l n (t) (g++[s]) qs=rx at cx fx hR;obtain⟨x,qx⟩:=rx;simp only at cx fx hR;have cy:=Bt (s) (g) qx ss hg oO fx;have fy:=(hD (s) (g) qx ss hg fx).1;generalize Ss:CZ l n (s) (g) qx=ry at cy fy hR;obtain⟨y,qy⟩:=ry;simp only at cy fy hR;refine A7 @h0 ?_;refine A3 tT cs ?_;refine WA @Df (KB g [s] (by simp;omega)) cx (E7 2 s [x]) cy (BG 3 [Tm.mk 2 0 s [x],y]) ?_;exact AY [(b,CL l qy)] @nT.eq_1
   by_cases h1:k=1
   ·rw[KQ,if_neg h0,if_pos h1]at hR;have cs:=V8 (gl:=gl) 0 b l r hl hr dD;obtain⟨fs,ss⟩:=LU l (n:=0) hr dD;generalize Xn:EA l 0 r=rs at cs fs ss hR;obtain⟨s,qs⟩:=rs;simp only at cs fs ss hR;have cx:=Bt (t) (g) qs ht hg oO fs;have fx:=(hD (t) (g) qs ht hg fs).1;generalize hex:CZ l n (t) (g) qs=rx at cx fx hR;obtain⟨x,qx⟩:=rx;simp only at cx fx hR;have cy:=Bt (s) (g) qx ss hg oO fx;have fy:=(hD (s) (g) qx ss hg fx).1;generalize Ss:CZ l n (s) (g) qx=ry at cy fy hR;obtain⟨y,qy⟩:=ry;simp only at cy fy hR;refine A7 @h1 ?_;refine A3 tT cs ?_;refine IS @Df cx cy (BG 10 [x,y]) (BG 11 [Tm.mk 10 0 (Ty.mk 0 []) [x,y]]) ?_;exact AY [(b,CL l qy)] @nT.eq_1
   by_cases h2:k=2
   ·rw[KQ,if_neg h0,if_neg h1,if_pos h2]at hR;have cx:=Bt (t) (g++[Ty.mk 1 [],t]) r ht (Fp [Ty.mk 1 [],t] (by intro x hx;simp at hx;rcases hx with rfl|rfl;exact B5;exact ht)) (by simp;omega) hr;have fx:=(hD (t) (g++[Ty.mk 1 [],t]) r ht (Fp [Ty.mk 1 [],t] (by intro x hx;simp at hx;rcases hx with rfl|rfl;exact B5;exact ht)) hr).1;generalize hex:CZ l n (t) (g++[Ty.mk 1 [],t]) r=rx at cx fx hR;obtain⟨x,qx⟩:=rx;simp only at cx fx hR;have cy:=Bt (t) (g) qx ht hg oO fx;have fy:=(hD (t) (g) qx ht hg fx).1;generalize Ss:CZ l n (t) (g) qx=ry at cy fy hR;obtain⟨y,qy⟩:=ry;simp only at cy fy hR;have hqy:=CO (n:=3) fy;have Xs:=DQ (l:=l) (p:=qy) (n:=3) dD;obtain⟨m,hm⟩:∃m:Nat,(AD l qy 3).1=m:=⟨_,(Int.toNat_of_nonneg Xs.1).symm⟩;rw[hm]at Xs
    refine A7 @h2 ?_;refine XO (j2 @Df @LT) BE BE (KB g [Ty.mk 1 [],t] (by simp;omega)) cx (E7 2 t [x]) (E7 2 (Ty.mk 1 []) [Tm.mk 2 0 t [x]]) ?_;refine IS (j2 @Df @hm) cy (DY b l qy 3 dD oO) (L0 m oO) (E7 6 t [y,Tm.mk 2 0 (Ty.mk 1 []) [Tm.mk 2 0 t [x]],CV m]) ?_;exact AY [(b,CL l (AD l qy 3).2)] (j2 @cK.eq_1 @hm)
   by_cases h3:k=3
   ·rw[KQ,if_neg h0,if_neg h1,if_neg h2,if_pos h3]at hR;have cx:=Bt (t) (g++[Ty.mk 1 [],Ty.mk 2 [],t]) r ht (Fp [Ty.mk 1 [],Ty.mk 2 [],t] (by intro x hx;simp at hx;rcases hx with rfl|rfl|rfl;exact B5;exact G2;exact ht)) (by simp;omega) hr;have fx:=(hD (t) (g++[Ty.mk 1 [],Ty.mk 2 [],t]) r ht (Fp [Ty.mk 1 [],Ty.mk 2 [],t] (by intro x hx;simp at hx;rcases hx with rfl|rfl|rfl;exact B5;exact G2;exact ht)) hr).1;generalize hex:CZ l n (t) (g++[Ty.mk 1 [],Ty.mk 2 [],t]) r=rx at cx fx hR;obtain⟨x,qx⟩:=rx;simp only at cx fx hR;have cy:=Bt (t) (g) qx ht hg oO fx;have fy:=(hD (t) (g) qx ht hg fx).1;generalize Ss:CZ l n (t) (g) qx=ry at cy fy hR;obtain⟨y,qy⟩:=ry;simp only at cy fy hR;have cz:=Bt (Ty.mk 2 []) (g) qy G2 hg oO fy;have fz:=(hD (Ty.mk 2 []) (g) qy G2 hg fy).1;generalize hez:CZ l n (Ty.mk 2 []) (g) qy=rz at cz fz hR;obtain⟨z,qz⟩:=rz;simp only at cz fz hR;refine A7 @h3 ?_;refine z8n (j3 @Df @LT @OY) BE FF BE FF (KB g [Ty.mk 1 [],Ty.mk 2 [],t] (by simp;omega)) cx (E7 2 t [x]) (E7 2 (Ty.mk 2 []) [Tm.mk 2 0 t [x]]) (E7 2 (Ty.mk 1 []) [Tm.mk 2 0 (Ty.mk 2 []) [Tm.mk 2 0 t [x]]]) ?_;refine IS (j2 @Df @OY) cy FF cz (E7 9 t [y,Tm.mk 2 0 (Ty.mk 1 []) [Tm.mk 2 0 (Ty.mk 2 []) [Tm.mk 2 0 t [x]]],z]) ?_
    exact AY [(b,CL l qz)] tT
   by_cases h4:k=4
   ·rw[KQ,if_neg h0,if_neg h1,if_neg h2,if_neg h3,if_pos h4]at hR;have cs:=V8 (gl:=gl) 0 b l r hl hr dD;obtain⟨fs,ss⟩:=LU l (n:=0) hr dD;generalize Xn:EA l 0 r=rs at cs fs ss hR;obtain⟨s,qs⟩:=rs;simp only at cs fs ss hR;have cx:=Bt (s) (g) qs ss hg oO fs;have fx:=(hD (s) (g) qs ss hg fs).1;generalize hex:CZ l n (s) (g) qs=rx at cx fx hR;obtain⟨x,qx⟩:=rx;simp only at cx fx hR;have cy:=Bt (t) (g) qx ht hg oO fx;have fy:=(hD (t) (g) qx ht hg fx).1;generalize Ss:CZ l n (t) (g) qx=ry at cy fy hR;obtain⟨y,qy⟩:=ry;simp only at cy fy hR;refine A7 @h4 ?_;refine A3 tT cs ?_;refine IS @Df cx cy (BG 10 [x,y]) (BG 12 [Tm.mk 10 0 (Ty.mk 0 []) [x,y]]) ?_;exact AY [(b,CL l qy)] @nT.eq_1
   apply zf2 (KQ l (CZ l n) t g k r=kI l (CZ l n) t g r) [sV 215 (AR (decide (t.kind=1))),sV 214 (A0 t.kind),sV 0 (DP b),sV 1 (.sl (g.map Ty.cells)),sV 3 (A0 ((n+1:Nat):Int)),sP 6,sL 6 [.v (A0 t.kind),.v (.sl (t.args.map Ty.cells))],sP 8,sL 8 [.v (A0 0),.v (A0 0),.v (A0 0),.own 0 [],.own 0 []],sB  b [.v (.sl (AH l)),.v (A0 r)]]
   ·intro Aa;by_cases h5:k=5
    ·refine A7 @h5 ?_;refine BR ?_;refine AA [] tT (NG (g.length) (fun i=>∀j,j<i->kN g t j=false) (fun i=>[sV 177 (A0 i),sV 176 (A0 g.length),sV 0 (DP b),sV 1 (.sl (g.map Ty.cells)),sV 3 (A0 ((n+1:Nat):Int)),sP 6,sL 6 [.v (A0 t.kind),.v (.sl (t.args.map Ty.cells))],sP 8,sL 8 [.v (A0 0),.v (A0 0),.v (A0 0),.own 0 [],.own 0 []],sB  b [.v (.sl (AH l)),.v (A0 r)]]) (by intro j hj;omega) ?_ ?_)
     ·intro i hi hI u7;have hvt:=(PC hi).2;have Cy:(g.length:Int) - 1 - i=((g.length - 1 - i:Nat):Int):=oO;refine A5 ?_;refine AQ ?_;refine A7 (j2 @Cy @hvt) ?_;by_cases Pt:(HJ g i).kind=4
      ·have Cv:=hg _ (PC hi).1;obtain⟨c0,c1,-⟩:=Cv.arg (.inr Pt);obtain⟨a0,a1,ha,-,-,e0,e1⟩:=Ty.ok_args Cv.ok (.inr Pt);rw[e0]at c0;refine A3 (j4 @Cy @hvt @Pt @ha) (AV a1 t) ?_;by_cases hs:a1.same t=true
       ·have hfi:wV g t=some i:=wY hi hI (by simp[kN,Pt,e1,hs]);rw[KQ,if_neg h0,if_neg h1,if_neg h2,if_neg h3,if_neg h4,if_pos h5,hfi]at hR;simp only at hR;rw[e0]at hR;have cx:=Bt (a0) (g) r c0 hg oO hr;have fx:=(hD (a0) (g) r c0 hg hr).1;generalize hex:CZ l n (a0) (g) r=rx at cx fx hR;obtain⟨x,qx⟩:=rx;simp only at cx fx hR;refine A7 @hs ?_;refine F9 (j3 @Df @ha @vT.eq_1) (FX i) cx (BG 3 [vT i,x]) ?_;exact AY [(b,CL l qx)] (j2 @nT.eq_1 @vT.eq_1)
       ·refine CG (wr []) tT @hs (u7 (gI hI (by simp[kN,Pt,e1,hs])))
      ·refine CG (wr []) tT @Pt (u7 (gI hI (by simp[kN,Pt])))
     ·intro hI;refine A5 ?_;refine B9 ?_;refine A2 ?_;refine GX ?_;refine AA [] tT (Aa (by rw[KQ,if_neg h0,if_neg h1,if_neg h2,if_neg h3,if_neg h4,if_pos h5,z44 hI]))
    ·have hE:KQ l (CZ l n) t g k r=kI l (CZ l n) t g r:=by rw[KQ,if_neg h0,if_neg h1,if_neg h2,if_neg h3,if_neg h4,if_neg h5]
     by_cases h6:k=6
     ·refine A7 @h6 ?_;refine GX ?_;refine AA [] tT (Aa hE)
     ·have h7:k=7:=oO;refine A7 @h7 ?_;refine GX ?_;refine AA [] tT (Aa hE)
   ·intro hE;rw[hE,kI]at hR;have Vt:=CO (n:=5) hr;have h2q:=CO (n:=2) hr;have Kv:=Ty.fold t;rcases JU ht with⟨h,e⟩|⟨h,e⟩|⟨h,e⟩|⟨h,e⟩|⟨h,e⟩
    ·rw[if_pos h]at hR;rw[h]at Kv;have hb5:=DQ (l:=l) (p:=r) (n:=5) dD;refine A7 (j2 @h @Eb) ?_;refine A3 tT (DY b l r 5 dD oO) ?_;generalize hd5:AD l r 5=d at *;obtain⟨c,q5⟩:=d;simp only at hR hb5 Vt;by_cases c0:c=0
     ·rw[if_pos c0]at hR;have cx:=Bt (t) (g) q5 ht hg oO Vt;have fx:=(hD (t) (g) q5 ht hg Vt).1;generalize hex:CZ l n (t) (g) q5=rx at cx fx hR;obtain⟨x,qx⟩:=rx;simp only at cx fx hR;refine A7 @c0 ?_;refine BL (j2 @Df @Kv) cx (BG 5 [x]) ?_;exact AY [(b,CL l qx)] @nT.eq_1
     rw[if_neg c0]at hR;by_cases c1:c=1
     ·rw[if_pos c1]at hR;have cx:=Bt (t) (g) q5 ht hg oO Vt;have fx:=(hD (t) (g) q5 ht hg Vt).1;generalize hex:CZ l n (t) (g) q5=rx at cx fx hR;obtain⟨x,qx⟩:=rx;simp only at cx fx hR;have cy:=Bt (t) (g) qx ht hg oO fx;have fy:=(hD (t) (g) qx ht hg fx).1;generalize Ss:CZ l n (t) (g) qx=ry at cy fy hR;obtain⟨y,qy⟩:=ry;simp only at cy fy hR;refine A7 @c1 ?_;refine IS (j2 @Df @Kv) LI cx cy (KY BY [x,y]) ?_;exact AY [(b,CL l qy)] tT
     rw[if_neg c1]at hR;by_cases c2:c=2
     ·rw[if_pos c2]at hR;have cx:=Bt (t) (g) q5 ht hg oO Vt;have fx:=(hD (t) (g) q5 ht hg Vt).1;generalize hex:CZ l n (t) (g) q5=rx at cx fx hR;obtain⟨x,qx⟩:=rx;simp only at cx fx hR;have cy:=Bt (t) (g) qx ht hg oO fx;have fy:=(hD (t) (g) qx ht hg fx).1;generalize Ss:CZ l n (t) (g) qx=ry at cy fy hR;obtain⟨y,qy⟩:=ry;simp only at cy fy hR;refine A7 @c2 ?_;refine IS (j2 @Df @Kv) MR cx cy (KY FC [x,y]) ?_;exact AY [(b,CL l qy)] tT
     rw[if_neg c2]at hR;have Ok:=DQ (l:=l) (p:=q5) (n:=3) dD;obtain⟨m,hm⟩:∃m:Nat,(AD l q5 3).1=m:=⟨_,(Int.toNat_of_nonneg Ok.1).symm⟩;rw[hm]at Ok;by_cases c3:c=3
     ·refine A7 @c3 ?_;refine BL @hm (DY b l q5 3 dD oO) (L0 m oO) ?_;exact AY [(b,CL l (AD l q5 3).2)] (j2 @cK.eq_1 @hm)
     ·have c4:c=4:=oO;refine A7 @c4 ?_;refine BL @hm (DY b l q5 3 dD oO) (L0 m oO) ?_;exact AY [(b,CL l (AD l q5 3).2)] (j2 @cK.eq_1 @hm)
    ·rw[if_neg oO,if_pos h]at hR;rw[h]at Kv;have Et:=DQ (l:=l) (p:=r) (n:=2) dD;refine A7 @h ?_;generalize Zy:AD l r 2=d at *;obtain⟨c,q2⟩:=d;have cn:=DY (gl:=gl) b l r 2 dD oO;rw[Zy]at cn;simp only at hR Et h2q cn;by_cases c0:c=0
     ·rw[if_pos c0]at hR;have cx:=Bt (Ty.mk 1 []) (g) q2 B5 hg oO h2q;have fx:=(hD (Ty.mk 1 []) (g) q2 B5 hg h2q).1;generalize hex:CZ l n (Ty.mk 1 []) (g) q2=rx at cx fx hR;obtain⟨x,qx⟩:=rx;simp only at cx fx hR;have cy:=Bt (t) (g) qx ht hg oO fx;have fy:=(hD (t) (g) qx ht hg fx).1;generalize Ss:CZ l n (t) (g) qx=ry at cy fy hR;obtain⟨y,qy⟩:=ry;simp only at cy fy hR;refine A3 (j2 @Eb @c0) cn ?_;refine A7 @c0 ?_;refine IS (j3 @Df @LT @Kv) BE cx cy (BG 8 [x,y]) ?_;exact AY [(b,CL l qy)] @nT.eq_1
     ·rw[if_neg c0]at hR;refine A3 (j2 @Eb @c0) cn ?_;refine A7 @c0 ?_;refine A3 tT (BG 7 []) ?_;exact AY [(b,CL l q2)] @nT.eq_1
    ·rw[if_neg oO,if_neg oO,if_neg oO,if_neg oO]at hR;refine A7 @h ?_;refine A3 tT (BG 13 []) ?_;exact AY [(b,CL l r)] @nT.eq_1
    ·rw[if_neg oO,if_neg oO,if_pos h]at hR;obtain⟨s0,s1,hc⟩:=ht.arg (.inl h);have ha:t.args=[t.arg 0,t.arg 1]:=by rw[e];rfl
     have cx:=Bt (t.arg 0) (g) r s0 hg oO hr;have fx:=(hD (t.arg 0) (g) r s0 hg hr).1;generalize hex:CZ l n (t.arg 0) (g) r=rx at cx fx hR;obtain⟨x,qx⟩:=rx;simp only at cx fx hR;have cy:=Bt (t.arg 1) (g) qx s1 hg oO fx;have fy:=(hD (t.arg 1) (g) qx s1 hg fx).1;generalize Ss:CZ l n (t.arg 1) (g) qx=ry at cy fy hR;obtain⟨y,qy⟩:=ry;simp only at cy fy hR;refine A7 @h ?_;refine F9 (j2 @Df @ha) cx cy (BG 10 [x,y]) ?_;exact AY [(b,CL l qy)] @nT.eq_1
    ·rw[if_neg oO,if_neg oO,if_neg oO,if_pos h]at hR;obtain⟨s0,s1,hc⟩:=ht.arg (.inr h);have ha:t.args=[t.arg 0,t.arg 1]:=by rw[e];rfl
     have cx:=Bt (t.arg 1) (g++[t.arg 0]) r s1 (Fp [t.arg 0] (by simpa using s0)) (by simp;omega) hr;have fx:=(hD (t.arg 1) (g++[t.arg 0]) r s1 (Fp [t.arg 0] (by simpa using s0)) hr).1;generalize hex:CZ l n (t.arg 1) (g++[t.arg 0]) r=rx at cx fx hR;obtain⟨x,qx⟩:=rx;simp only at cx fx hR;refine A7 @h ?_;refine F9 (j2 @Df @ha) (KB g [t.arg 0] (by simp;omega)) cx (E7 2 (t.arg 0) [x]) ?_;exact AY [(b,CL l qx)] tT
 ·rw[Jh]at hR;simp only at hR;obtain⟨h0,h1,k,i,hk,hi,rfl,rfl⟩:=Z1 Jh;have Cn:0<(ER g t).length:=oO;have Jl:0<(AD l p 3).1:=oO;have Kg:=IU (l:=ZX (ER g t)) (i:=k) (n:=i) (by simp[ZX,hi]);have hkl:=(uA hi).1;refine A2 ?_;refine A3 tT (QC g t oO) ?_;refine A2 ?_;refine A3 (j3 @IY @Cn @Jl) (DY b l p 3 dD oO) ?_;refine A7 @Jl ?_;refine BL (j3 @IY @hk @Kg) (DY b l (AD l p 3).2 (ER g t).length oO oO) (FX i) ?_;exact AY [(b,CL l (AD l (AD l p 3).2 (ER g t).length).2)] @vT.eq_1
theorem DS (t:Tm)(h:t.shape=true):t.tys:=by
 induction t using Tm.ind with
 | h t ih=>
 obtain⟨-,-,-,h4,h5⟩:=Tm.shape_node h;rw[Tm.tys_eq];refine⟨?_,fun a ha=>ih a ha (h5 a ha)⟩;split at h4;· have:=h4.2;omega
 ·unfold Ty.zero at h4;simp at h4;rw[Ty.count_eq,h4.2];decide
theorem Z2 {l:List Int}{t:Ty}{g:List Ty}{p q:Nat}{x:Tm}(h:NK l t g p=(some x,q)):x.count=1:=by
 obtain⟨i,rfl,-⟩:=V6 h;rfl
theorem V9 (l:List Int)(p:Nat):(cK l p).1.count<=3:=by
 have:=DQ (l:=l) (p:=p) (n:=3) dD;show (CV _).count<=3;rw[OI];omega
theorem oS (l:List Int)(t:Ty):t.small->∀(g:List Ty) (p:Nat),(FP l t g p).1.count<=3 * t.count:=by
 generalize hn:t.count=n
 induction n using Nat.strongRecOn generalizing t with
 | _ n ih=>
 intro ht g p;have h1:1<=t.count:=by rw[Ty.count_eq];omega
 rw[cL l t g p ht.ok];split
 ·rename_i x q hx;have:=Z2 hx;simp only;omega
 ·rename_i q hx;have hN:=V9 l q;rcases JU ht with⟨h,e⟩|⟨h,e⟩|⟨h,e⟩|⟨h,e⟩|⟨h,e⟩;· rw[if_pos h];omega
  ·rw[if_neg oO,if_pos h];show 1+0<=_;omega
  ·rw[if_neg oO,if_neg oO,if_neg oO,if_neg oO];show 1+0<=_;omega
  ·rw[if_neg oO,if_neg oO,if_pos h];obtain⟨s0,s1,hc⟩:=ht.arg (.inl h);have a:=ih _ oO (t.arg 0) rfl s0 g q;have b:=ih _ oO (t.arg 1) rfl s1 g (FP l (t.arg 0) g q).2;show 1+(_+(_+0))<=_;omega
  ·rw[if_neg oO,if_neg oO,if_neg oO,if_pos h];obtain⟨s0,s1,hc⟩:=ht.arg (.inr h);have b:=ih _ oO (t.arg 1) rfl s1 (g++[t.arg 0]) q;show 1+(_+0)<=_;omega
def oT (l:List Int)(F:Ty->List Ty->Nat->Tm × Nat)(B:Nat):Prop:=∀t g p,t.small->(∀x∈g,x.small)->p<=l.length->(F t g p).1.count<=B
theorem oU:BY.count=9:=dD
theorem wZ:FC.count<=16:=dD
theorem cQ (f x y:Tm):(C5 f [x,y]).count=2+f.count+x.count+y.count:=by
 show 1+((1+(f.count+(x.count+0)))+(y.count+0))=_;omega
theorem x6 {l:List Int}{F:Ty->List Ty->Nat->Tm × Nat}{B:Nat}(hD:YZ l F (fun _ _ x=>x.shape=true))(hF:oT l F B):oT l (kI l F) (2 * B+20):=by
 intro t g q ht hg hq;have h5:=CO (n:=5) hq;have h2:=CO (n:=2) hq;have c1:=hF t g (AD l q 5).2 ht hg h5;have d1:=(hD t g (AD l q 5).2 ht hg h5).1;have c2:=hF t g _ ht hg d1;have e1:=hF (Ty.mk 1 []) g (AD l q 2).2 B5 hg h2;have f1:=(hD (Ty.mk 1 []) g (AD l q 2).2 B5 hg h2).1;have e2:=hF t g _ ht hg f1;have hN:=V9 l (AD l q 5).2;have hp:=oU;have hs:=wZ;unfold kI;split
 ·split;· show 1+(_+0)<=_;omega
  split;· simp only[cQ];omega
  split;· simp only[cQ];omega
  ·omega
 split
 ·split;· show 1+(_+(_+0))<=_;omega
  ·show 1+0<=_;omega
 split
 ·rename_i h;obtain⟨s0,s1,-⟩:=ht.arg (.inl h);have a1:=hF (t.arg 0) g q s0 hg hq;have a2:=hF (t.arg 1) g _ s1 hg (hD (t.arg 0) g q s0 hg hq).1;show 1+(_+(_+0))<=_;omega
 split
 ·rename_i h;obtain⟨s0,s1,-⟩:=ht.arg (.inr h);have a2:=hF (t.arg 1) (g++[t.arg 0]) q s1 (by intro x hx;rcases List.mem_append.1 hx with hx|hx;exact hg x hx;rw[List.mem_singleton.1 hx];exact s0) hq;show 1+(_+0)<=_;omega
 ·show 1+0<=_;omega
theorem oV {l:List Int}{F:Ty->List Ty->Nat->Tm × Nat}{B:Nat}(hD:YZ l F (fun _ _ x=>x.shape=true))(hF:oT l F B)(k:Int):oT l (fun t g p=>KQ l F t g k p) (3 * B+20):=by
 intro t g p ht hg hp;have Fp:∀a:List Ty,(∀x∈a,x.small)->∀x∈g++a,x.small:=by
  intro a ha x hx;rcases List.mem_append.1 hx with hx|hx;· exact hg x hx
  ·exact ha x hx
 have hE:=x6 hD hF t g p ht hg hp;obtain⟨s1,s2⟩:=LU l (n:=0) hp dD;show (KQ l F t g k p).1.count<=_;unfold KQ;split
 ·have gs:=Fp [(EA l 0 p).1] (by simpa using s2);have a:=hF t _ _ ht gs s1;have b:=hF _ g _ s2 hg (hD t _ _ ht gs s1).1;show 1+((1+(_+0))+(_+0))<=_;omega
 split
 ·have a:=hF t g _ ht hg s1;have b:=hF _ g _ s2 hg (hD t g _ ht hg s1).1;show 1+((1+(_+(_+0)))+0)<=_;omega
 split
 ·have gs:=Fp [Ty.mk 1 [],t] (by intro x hx;simp at hx;rcases hx with rfl|rfl;exact B5;exact ht);have d:=(hD t _ _ ht gs hp).1;have a:=hF t _ _ ht gs hp;have b:=hF t g _ ht hg d;have c:=V9 l (F t g (F t (g++[Ty.mk 1 [],t]) p).2).2;show 1+(_+((1+((1+(_+0))+0))+(_+0)))<=_;omega
 split
 ·have gs:=Fp [Ty.mk 1 [],Ty.mk 2 [],t] (by intro x hx;simp at hx;rcases hx with rfl|rfl|rfl;exact B5;exact G2;exact ht);have d:=(hD t _ _ ht gs hp).1;have a:=hF t _ _ ht gs hp;have b:=hF t g _ ht hg d;have c:=hF (Ty.mk 2 []) g _ G2 hg (hD t g _ ht hg d).1;show 1+(_+((1+((1+((1+(_+0))+0))+0))+(_+0)))<=_;omega
 split
 ·have a:=hF _ g _ s2 hg s1;have b:=hF t g _ ht hg (hD _ g _ s2 hg s1).1;show 1+((1+(_+(_+0)))+0)<=_;omega
 split
 ·split
  ·rename_i i hi;obtain⟨f1,f2,f3⟩:=gH hi;obtain⟨c0,c1,-⟩:=(hg _ (PC f1).1).arg (.inr f2);have a:=hF _ g _ c0 hg hp;show 1+((1+0)+(_+0))<=_;omega
  ·omega
 ·omega
def cS:Nat->Nat
 | 0=>45
 | n+1=>3 * cS n+20
theorem LW (l:List Int):∀n,oT l (CZ l n) (cS n)
 | 0=>by intro t g p ht hg hp;have:=oS l t ht g p;have:=ht.2;show _<=45;simp only[CZ];omega
 | n+1=>by
  intro t g p ht hg hp;have hq:=SB (t:=t) (g:=g) hp;have ih:=oV (FY QB n) (LW l n);unfold CZ;split
  ·rename_i x q hx;have:=Z2 hx;simp only[cS];omega
  ·rename_i q hx;rw[hx]at hq;exact ih _ t g _ ht hg (CO hq)
end
section
def z9r:Nat->Nat
 | 0=>45
 | n+1=>3 * z9r n+4
theorem z45:∀n,16<=z9r n
 | 0=>dD
 | n+1=>by have:=z45 n;simp only[z9r];omega
def Tm.closedN:Tm->Nat->Bool
 | .mk k i _ a,n=>if k=1 then decide (0<=i)&&decide (i.toNat<n) else closeds a (if k=2 then n+1 else n)
where
 closeds:List Tm->Nat->Bool
  | [],_=>true
  | a::r,n=>a.closedN n&&closeds r n
theorem Tm.closedN_eq (t:Tm)(n:Nat):t.closedN n=if t.kind=1 then decide (0<=t.index)&&decide (t.index.toNat<n) else closedN.closeds t.args (if t.kind=2 then n+1 else n):=by cases t;rw[closedN];rfl
theorem Tm.closeds_iff (l:List Tm)(n:Nat):closedN.closeds l n=true↔∀a∈l,a.closedN n=true:=by
 induction l with
 | nil=>simp[closedN.closeds]
 | cons a r ih=>simp[closedN.closeds,ih]
theorem WI {l:List Tm}{g h:List Ty}(e:∀a∈l,a.inferN g=a.inferN h):Tm.inferN.infers l g=Tm.inferN.infers l h:=by
 induction l with
 | nil=>rfl
 | cons a r ih=>simp only[Tm.inferN.infers,e a sS,ih fun x hx=>e x (by simp[hx])]
theorem xA (t:Tm):∀(l g:List Ty),t.closedN l.length=true->t.inferN (g++l)=t.inferN l:=by
 induction t using Tm.ind with
 | h t ih=>
 intro l g hc;rw[Tm.closedN_eq]at hc;rw[Tm.inferN_eq t (g++l),Tm.inferN_eq t l];by_cases h1:t.kind=1
 ·rw[if_pos h1]at hc ⊢;rw[if_pos h1];simp only[uH,decide_eq_true_eq]at hc;have h2:¬((g++l).length:Int)<=t.index:=by simp;omega
  have h3:¬(l.length:Int)<=t.index:=oO;rw[if_neg h2,if_neg h3];have e:(g++l).length - 1 - t.index.toNat=g.length+(l.length - 1 - t.index.toNat):=by simp;omega
  rw[e,List.getD_eq_getElem?_getD,List.getElem?_append_right oO,Nat.add_sub_cancel_left,List.getD_eq_getElem?_getD]
 ·rw[if_neg h1]at hc ⊢;rw[if_neg h1];rw[Tm.closeds_iff]at hc;have e:Tm.inferN.infers t.args (if t.kind=2 then g++l++[t.type] else g++l)=Tm.inferN.infers t.args (if t.kind=2 then l++[t.type] else l):=by
   by_cases h2:t.kind=2
   ·rw[if_pos h2,if_pos h2];rw[if_pos h2]at hc;refine WI fun a ha=>?_;rw[List.append_assoc];exact ih a ha (l++[t.type]) g (by simpa using hc a ha)
   ·rw[if_neg h2,if_neg h2];rw[if_neg h2]at hc;exact WI fun a ha=>ih a ha l g (hc a ha)
  rw[e]
theorem QE {t:Tm}(h:t.closedN 0=true)(g:List Ty):t.inferN g=t.inferN []:=by
 have:=xA t [] g (by simpa using h)
 simpa using this
theorem ET {k:Int}{y:Ty}{l:List Tm}{g:List Ty}{ts:List Ty}(hk:¬k=1)(h:Tm.inferN.infers l (if k=2 then g++[y] else g)=(ts,0)):(Tm.mk k 0 y l).inferN g=CA k y ts:=by
 rw[Tm.inferN_eq];show (if k=1 then _ else if (Tm.inferN.infers l (if k=2 then g++[y] else g)).2=0 then CA k y (Tm.inferN.infers l (if k=2 then g++[y] else g)).1 else _)=_;rw[if_neg hk,h,if_pos rfl]
theorem aI {a:Tm}{g:List Ty}{s:Ty}(h:a.inferN g=(s,0)):Tm.inferN.infers [a] g=([s],0):=by simp[Tm.inferN.infers,h]
theorem kO {a b:Tm}{g:List Ty}{s t:Ty}(h:a.inferN g=(s,0))(h':b.inferN g=(t,0)):Tm.inferN.infers [a,b] g=([s,t],0):=by simp[Tm.inferN.infers,h,h']
theorem z03 {a b c:Tm}{g:List Ty}{s t u:Ty}(h:a.inferN g=(s,0))(h':b.inferN g=(t,0))(Xu:c.inferN g=(u,0)):Tm.inferN.infers [a,b,c] g=([s,t,u],0):=by simp[Tm.inferN.infers,h,h',Xu]
theorem xB {y:Ty}(h:y.ok):XQ y=(y,0):=by unfold XQ;rw[if_pos ((Ty.checkN_iff y).2 h)]
theorem PE (a:Ty):a.same a=true:=(Ty.same_iff a a).2 rfl
theorem OK {k:Int}{s t:Ty}(hk:k=3\/k=4)(hs:s.shape=true)(ht:t.shape=true)(hc:1+s.count+t.count<=64):(Ty.mk k [s,t]).ok:=⟨V5 hk hs ht,by rw[show (Ty.mk k [s,t]).count=1+(s.count+(t.count+0)) from rfl];omega⟩
theorem E9 {g:List Ty}{s t:Ty}{f x:Tm}(hf:f.inferN g=(Ty.mk 4 [s,t],0))(hx:x.inferN g=(s,0)):(nT 3 [f,x]).inferN g=(t,0):=by
 unfold nT;rw[ET dD (kO hf hx)];unfold CA;rw[if_neg dD,if_pos rfl,if_pos ⟨rfl,PE s⟩];rfl
theorem Jj1 {g:List Ty}{s t:Ty}{x:Tm}(hx:x.inferN (g++[s])=(t,0))(ho:(Ty.mk 4 [s,t]).ok):(Tm.mk 2 0 s [x]).inferN g=(Ty.mk 4 [s,t],0):=by
 rw[ET dD (by rw[if_pos rfl];exact aI hx)];unfold CA;rw[if_pos rfl];exact xB ho
theorem xC {g:List Ty}{s t:Ty}{x y:Tm}(hx:x.inferN g=(s,0))(hy:y.inferN g=(t,0))(ho:(Ty.mk 3 [s,t]).ok):(nT 10 [x,y]).inferN g=(Ty.mk 3 [s,t],0):=by
 unfold nT;rw[ET dD (kO hx hy)];exact xB ho
theorem z46 {g:List Ty}{s t:Ty}{x:Tm}(hx:x.inferN g=(Ty.mk 3 [s,t],0)):(nT 11 [x]).inferN g=(s,0):=by
 unfold nT;rw[ET dD (aI hx)];rfl
theorem z47 {g:List Ty}{s t:Ty}{x:Tm}(hx:x.inferN g=(Ty.mk 3 [s,t],0)):(nT 12 [x]).inferN g=(t,0):=by
 unfold nT;rw[ET dD (aI hx)];rfl
theorem z9s {g:List Ty}{t:Ty}{x f n:Tm}(hx:x.inferN g=(t,0))(hf:f.inferN g=(Ty.mk 4 [Ty.mk 1 [],Ty.mk 4 [t,t]],0))(hn:n.inferN g=(Ty.mk 1 [],0)):(Tm.mk 6 0 t [x,f,n]).inferN g=(t,0):=by
 rw[ET dD (z03 hx hf hn)];unfold CA;rw[if_neg dD,if_neg dD,if_neg dD,if_neg dD,if_pos rfl,if_pos ⟨PE t,PE _,rfl⟩]
theorem cU {g:List Ty}{t:Ty}{x f n:Tm}(hx:x.inferN g=(t,0))(hf:f.inferN g=(Ty.mk 4 [Ty.mk 1 [],Ty.mk 4 [Ty.mk 2 [],Ty.mk 4 [t,t]]],0))(hn:n.inferN g=(Ty.mk 2 [],0)):(Tm.mk 9 0 t [x,f,n]).inferN g=(t,0):=by
 rw[ET dD (z03 hx hf hn)];unfold CA;rw[if_neg dD,if_neg dD,if_neg dD,if_neg dD,if_neg dD,if_neg dD,if_neg dD,if_pos rfl,if_pos ⟨PE t,PE _,rfl⟩]
theorem L1 {g:List Ty}{x:Tm}(hx:x.inferN g=(Ty.mk 1 [],0)):(nT 5 [x]).inferN g=(Ty.mk 1 [],0):=by
 unfold nT;rw[ET dD (aI hx)];rfl
theorem xD {g:List Ty}{x y:Tm}(hx:x.inferN g=(Ty.mk 1 [],0))(hy:y.inferN g=(Ty.mk 2 [],0)):(nT 8 [x,y]).inferN g=(Ty.mk 2 [],0):=by
 unfold nT;rw[ET dD (kO hx hy)];rfl
theorem xE (g:List Ty):(nT 4 []).inferN g=(Ty.mk 1 [],0):=by unfold nT;rw[ET dD rfl];rfl
theorem z48 (g:List Ty):(nT 7 []).inferN g=(Ty.mk 2 [],0):=by unfold nT;rw[ET dD rfl];rfl
theorem xF (g:List Ty):(nT 13 []).inferN g=(Ty.mk 5 [],0):=by unfold nT;rw[ET dD rfl];rfl
theorem TJ (g:List Ty):∀n:Nat,(CV n).inferN g=(Ty.mk 1 [],0)
 | 0=>xE g
 | n+1=>L1 (TJ g n)
theorem DT {g:List Ty}{i:Nat}(hi:i<g.length):(vT (i:Nat)).inferN g=(HJ g i,0):=by
 rw[Tm.inferN_eq];show (if (1:Int)=1 then if (g.length:Int)<=(i:Int) then _ else (g.getD (g.length - 1 - (i:Int).toNat) AE,0) else _)=_;rw[if_pos rfl,if_neg oO];rfl
theorem SC (g:List Ty):BY.inferN g=(Ty.mk 4 [Ty.mk 1 [],Ty.mk 4 [Ty.mk 1 [],Ty.mk 1 []]],0):=by
 rw[QE dD g];rfl
theorem VA (g:List Ty):FC.inferN g=(Ty.mk 4 [Ty.mk 1 [],Ty.mk 4 [Ty.mk 1 [],Ty.mk 1 []]],0):=by
 rw[QE dD g];rfl
theorem QF:DrawOK (fun t g x=>x.inferN g=(t,0)) where
 var g i hi:=DT hi
 num g n _:=TJ g n
 app g s t f x hs ht hf hx:=E9 hf hx
 lam g s t x hs ht hx:=Jj1 hx (OK (.inr rfl) hs.1 ht.1 (by have:=hs.2;have:=ht.2;omega))
 lam2 g s t r x hs ht hr hx:=by
  have c1:=hs.2;have c2:=ht.2;have c3:=hr.2;have h1:=Jj1 (g:=g++[s]) (s:=t) (t:=r) (x:=x) (by rw[List.append_assoc];exact hx) (OK (.inr rfl) ht.1 hr.1 oO);exact Jj1 h1 (OK (.inr rfl) hs.1 (V5 (.inr rfl) ht.1 hr.1) (by rw[show (Ty.mk 4 [t,r]).count=1+(t.count+(r.count+0)) from rfl];omega))
 lam3 g s t u r x hs ht hu hr hx:=by
  have c1:=hs.2;have c2:=ht.2;have c3:=hr.2;have c4:=hu.2;have h1:=Jj1 (g:=g++[s]++[t]) (s:=u) (t:=r) (x:=x) (by simp only[List.append_assoc];exact hx) (OK (.inr rfl) hu.1 hr.1 oO);have e1:(Ty.mk 4 [u,r]).count=1+(u.count+(r.count+0)):=rfl;have h2:=Jj1 h1 (OK (.inr rfl) ht.1 (V5 (.inr rfl) hu.1 hr.1) (by rw[e1];omega));have e2:(Ty.mk 4 [t,Ty.mk 4 [u,r]]).count=1+(t.count+((Ty.mk 4 [u,r]).count+0)):=rfl;exact Jj1 h2 (OK (.inr rfl) hs.1 (V5 (.inr rfl) ht.1 (V5 (.inr rfl) hu.1 hr.1)) (by rw[e2,e1];omega))
 pair g s t x y hs ht hx hy:=xC hx hy (OK (.inl rfl) hs.1 ht.1 (by have:=hs.2;have:=ht.2;omega))
 fst g s t x hs ht hx:=z46 hx
 snd g s t x hs ht hx:=z47 hx
 rc g t x f n ht hx hf hn:=z9s hx hf hn
 fold g t x f n ht hx hf hn:=cU hx hf hn
 succ g x hx:=L1 hx
 plus g x y hx hy:=E9 (E9 (SC g) hx) hy
 sub g x y hx hy:=E9 (E9 (VA g) hx) hy
 nil g:=z48 g
 cons g x y hx hy:=xD hx hy
 unit g:=xF g
def B0:List Tm->Int->Tm->Tm × Int
 | v,n,.mk k i y a=>
  if k=1 then (v.getD (v.length - 1 - i.toNat) AI,n)
  else if k=2 then (Tm.mk 2 (n+1) y [(headN (v++[vT (n+1)]) (n+1) a).1],(headN (v++[vT (n+1)]) (n+1) a).2)
  else (Tm.mk k 0 y (namesR v n a).1,(namesR v n a).2)
where
 headN:List Tm->Int->List Tm->Tm × Int
  | _,n,[]=>(AI,n)
  | v,n,x::_=>B0 v n x
 namesR:List Tm->Int->List Tm->List Tm × Int
  | _,n,[]=>([],n)
  | v,n,x::r=>((B0 v n x).1::(namesR v (B0 v n x).2 r).1,(namesR v (B0 v n x).2 r).2)
theorem LX (v:List Tm)(n:Int)(t:Tm):B0 v n t=if t.kind=1 then (v.getD (v.length - 1 - t.index.toNat) AI,n)
  else if t.kind=2 then (Tm.mk 2 (n+1) t.type [(B0.headN (v++[vT (n+1)]) (n+1) t.args).1],(B0.headN (v++[vT (n+1)]) (n+1) t.args).2)
  else (Tm.mk t.kind 0 t.type (B0.namesR v n t.args).1,(B0.namesR v n t.args).2):=by
 cases t;rw[B0];rfl
theorem Z3 (v:List Tm)(x:Tm):∀(l:List Tm) (n:Int),B0.namesR v n (l++[x])=((B0.namesR v n l).1++[(B0 v (B0.namesR v n l).2 x).1],(B0 v (B0.namesR v n l).2 x).2)
 | [],n=>rfl
 | a::r,n=>by
  simp only[List.cons_append,B0.namesR];rw[Z3 v x r]
theorem JA (t:Tm):∀(v:List Tm) (n:Int),n<=(B0 v n t).2/\(B0 v n t).2<=n+(t.count:Int):=by
 induction t using Tm.ind with
 | h t ih=>
 intro v n;have hl:∀(l:List Tm),(∀x∈l,x∈t.args)->∀n:Int,n<=(B0.namesR v n l).2/\(B0.namesR v n l).2<=n+(Tm.count.counts l:Int):=by
  intro l
  induction l with
  | nil=>intro _ n;exact⟨Int.le_refl _,by show n<=n+((0:Nat):Int);omega⟩
  | cons x r Dk=>
   intro hx n;obtain⟨a1,a2⟩:=ih x (hx x sS) v n;obtain⟨b1,b2⟩:=Dk (fun z hz=>hx z (by simp[hz])) (B0 v n x).2;have e:(Tm.count.counts (x::r):Int)=(x.count:Int)+(Tm.count.counts r:Int):=by
    show ((x.count+Tm.count.counts r:Nat):Int)=_;omega
   rw[e];simp only[B0.namesR];omega
 have hc:(t.count:Int)=1+(Tm.count.counts t.args:Int):=by
  rw[Tm.count_eq];omega
 rw[hc,LX];split;· exact⟨Int.le_refl _,by simp only;omega⟩
 split
 ·cases ha:t.args with
  | nil=>exact⟨by show n<=n+1;omega,by show n+1<=n+(1+((0:Nat):Int));omega⟩
  | cons x r=>
   obtain⟨a1,a2⟩:=ih x (by rw[ha];simp) (v++[vT (n+1)]) (n+1);have e:(Tm.count.counts (x::r):Int)=(x.count:Int)+(Tm.count.counts r:Int):=by
    show ((x.count+Tm.count.counts r:Nat):Int)=_;omega
   rw[e];show n<=(B0 _ (n+1) x).2/\(B0 _ (n+1) x).2<=_;omega
 ·obtain⟨b1,b2⟩:=hl t.args (fun _ h=>h) n;simp only;omega
theorem oW (v:List Tm):∀(l:List Tm) (n:Int),n<=(B0.namesR v n l).2/\(B0.namesR v n l).2<=n+(Tm.count.counts l:Int)
 | [],n=>⟨Int.le_refl _,by show n<=n+((0:Nat):Int);omega⟩
 | x::r,n=>by
  obtain⟨a1,a2⟩:=JA x v n;obtain⟨b1,b2⟩:=oW v r (B0 v n x).2;have e:(Tm.count.counts (x::r):Int)=(x.count:Int)+(Tm.count.counts r:Int):=by
   show ((x.count+Tm.count.counts r:Nat):Int)=_;omega
  rw[e];simp only[B0.namesR];omega
end
section
namespace Tm
def nextN:Tm->Int->Tm × Bool × Bool
 | .mk k i ty a,room=>
  match (Tm.mk k i ty a).rootN with
  | true=>if room<(Tm.mk k i ty a).growthN then (AI,true,false) else ((Tm.mk k i ty a).reducedN,true,true)
  | false=>match nexts a room with
   | (l,true,f)=>(.mk k i ty l,true,f)
   | (_,false,_)=>(.mk k i ty a,false,true)
where
 nexts:List Tm->Int->List Tm × Bool × Bool
  | [],_=>([],false,true)
  | x::r,room=>match x.nextN room with
   | (y,true,f)=>(y::r,true,f)
   | (_,false,_)=>match nexts r room with
    | (l,b,f)=>(x::l,b,f)
def loopN:Nat->Tm->Int->Tm × Int × Int
 | 0,t,n=>match t.nextN (4096 - t.count) with
  | (_,false,_)=>(t,n,0)
  | (_,true,_)=>(AI,0,5)
 | s+1,t,n=>match t.nextN (4096 - t.count) with
  | (_,false,_)=>(t,n,0)
  | (_,true,false)=>(AI,0,4)
  | (x,true,true)=>loopN s x (n+1)
end Tm
end
section
section
variable {X:Ctx}{s s0:St}{k:List Item}
def zgj (T:List Nat)(m n:Nat):Bool:=(List.range n).all fun j=>decide (j<m)||(List.range j).all fun i=>(T.getD j 0).testBit i
theorem xG {T:List Nat}{m n:Nat}(h:zgj T m n=true):∀j,m<=j->j<n->∀i,i<j->(T.getD j 0).testBit i=true:=by
 intro j hj hn i hi;have:=List.all_eq_true.1 h j (List.mem_range.2 hn);rw[Bool.or_eq_true]at this;rcases this with h1|h1;· exact absurd (of_decide_eq_true h1) oO
 ·exact List.all_eq_true.1 h1 i (List.mem_range.2 hi)
theorem kP {ops:Array Oper}{m:Nat}{T:List Nat}(Cm:YP 0 ops.toList=true)(Ja:nI T T ops.toList=true)(Hk:∀j,m<=j->j<ops.size->∀i,i<j->(T.getD j 0).testBit i=true){Q:Exit->Act->World->Prop} :
  ∀(k j fuel:Nat) (listed:Array Bool) (a:Act) (w:World),j+k=ops.size->m<=j->listed.size=ops.size->(∀i,i<ops.size->KO listed i=decide (i<j))->k<=fuel->wpOpsIn X.F 0 X.P ops Q (List.range' j k) a w->wpAnyIn X.F 0 X.P .any ops Q fuel listed a w
 | 0,j,fuel,listed,a,w,hjk,hm,Bk,hL,hf,hw=>by
  have Ae:∀i,i<ops.size->KO listed i=true:=fun i hi=>by rw[hL i hi];exact decide_eq_true oO
  have hr:∀i,¬i∈Region.ready .any ops listed:=by
   intro i hi;obtain⟨h1,o,h2,-⟩:=mem_ready.1 hi;have hj:i<ops.size:=(Array.getElem?_eq_some_iff.1 h2).1;rw[OE oO,Ae i hj]at h1;cases h1
  have hQ:Q .normal a w:=hw;cases fuel with
  | zero=>
   refine⟨?_,hQ⟩;cases hq:Region.ready .any ops listed with
   | nil=>rfl
   | cons i r=>exact absurd (by rw[hq];simp) (hr i)
  | succ fuel=>exact⟨fun _=>hQ,fun i hi=>absurd hi (hr i)⟩
 | k+1,j,fuel,listed,a,w,hjk,hm,Bk,hL,hf,hw=>by
  obtain⟨fuel,rfl⟩:∃f,fuel=f+1:=⟨fuel - 1,oO⟩;have Lo:j<ops.size:=oO;have Bn:bO ops (KO listed):=by
   intro i o hi ho e he hb;have Nt:i<ops.size:=(Array.getElem?_eq_some_iff.1 ho).1;have Ac:=KU Cm i o (by simpa using ho) e he hb;rw[hL i Nt]at hi;have:=of_decide_eq_true hi;rw[hL e.on oO];exact decide_eq_true oO
  have hj:j∈Region.ready .any ops listed:=by
   rw[mem_ready];refine⟨by rw[OE oO,hL j Lo];exact decide_eq_false oO,ops[j],uG Lo,fun e he hb=>?_⟩;have Ac:=KU Cm j ops[j] (by simp[Lo]) e he hb;show KO listed e.on=true;rw[hL e.on oO];exact decide_eq_true oO
  refine⟨fun hr=>absurd hj (by rw[hr];simp),fun i hi=>?_⟩;obtain⟨h1,o,ho,Ae⟩:=mem_ready.1 hi;have Nt:i<ops.size:=(Array.getElem?_eq_some_iff.1 ho).1;rw[OE oO,hL i Nt]at h1;have He:j<=i:=by have:=of_decide_eq_false h1;omega
  have Fo:∀e∈o.after,Region.binds .any e=true->KO listed e.on=true:=Ae;have heq:i=j:=by
   rcases Nat.lt_or_ge j i with h|h
   ·have:=P7 Cm Ja Bn i o ho Fo (Hk i oO Nt j h);rw[hL j Lo]at this;exact absurd (of_decide_eq_true this) oO
   ·omega
  subst heq;rw[List.range'_succ,wpOpsIn_cons]at hw;refine wpOpIn_mono (fun a' w' h'=>?_) hw;refine kP Cm Ja Hk k (i+1) fuel _ a' w' oO oO (by simpa using Bk) (fun x hx=>?_) oO h';rw[Q3 oO];show (x==i||KO listed x)=_;rw[hL x hx];by_cases hxi:x=i;· subst hxi;simp
  ·have:(x==i)=false:=by simpa using hxi
   rw[this,Bool.false_or]
   congr 1
   exact propext ⟨fun h=>oO,fun h=>oO⟩
theorem z49 {ops ops':Array Oper}{m:Nat}{T0:List Nat}(Xm:ops.toList.take m=ops'.toList)(hmn:m<=ops.size){evs:List Ev}{K:St->Prop}(Aq:z2v X ops' ops'.toList s0 evs)(hg:∀o∈ops'.toList,o.guard=none)(Oa:nJ ops'.toList s0 evs=true)
  (Hr:YP 0 ops.toList=true) (Ni:nI T0 T0 ops.toList=true) (Hk:∀j,m<=j->j<ops.size->∀i,i<j->(T0.getD j 0).testBit i=true) (hK:VL X ops (ops.toList.drop m) (Q2 s0 evs) K) :
  ∀(fuel:Nat) (listed:Array Bool) (G:Gh) (a:Act) (w:World),listed.size=ops.size->bO ops (KO listed)->(∀j,m<=j->KO listed j=false)->(left m listed).length+(ops.size - m)<=fuel->Rel X G (XE (KO listed) 0 evs s0) a w ->
   wpAnyIn X.F 0 X.P .any ops (Nrm X K) fuel listed a w:=by
 simp only[nJ,uH]at Oa;obtain⟨⟨⟨Cm,Ja⟩,Hh⟩,hp⟩:=Oa;generalize nH ops'.toList []=T at *;have hsz':ops'.size=m:=by
  have:=congrArg List.length Xm;simp at this;omega
 have hlen:evs.length=m:=by have:=RU Aq;simp at this;omega
 have Ay:∀i,i<m->ops'[i]? = ops[i]?:=by
  intro i hi;have h1:ops'.toList[i]? = ops.toList[i]?:=by rw[<- Xm,List.getElem?_take_of_lt hi]
  simpa using h1
 intro fuel
 induction fuel with
 | zero=>
  intro listed G a w Bk Bn htl hle R;have Nj:m=ops.size:=oO;have Ae:∀j,j<m->KO listed j=true:=by
   intro j hj;cases hq:KO listed j with
   | true=>rfl
   | false=>
    have hm:j∈left m listed:=by simp[left,hj,hq]
    have:=List.length_pos_of_mem hm;omega
  refine kP Hr Ni Hk 0 m 0 listed a w oO (Nat.le_refl _) Bk (fun i hi=>by rw[Ae i oO];exact (decide_eq_true oO).symm) (Nat.le_refl _) ?_
  have R':Rel X G (Q2 s0 evs) a w:=R.congr fun l=>by
   rw[<- jR 0];refine LR evs 0 _ _ rfl fun j ev hj Au=>?_;have Jd:j<m:=by rw[<- hlen];exact (uA hj).1
   exact absurd (Ae j Jd).symm (by simpa using Au)
  have:=hK m rfl G a w R';have hd:(ops.toList.drop m).length=0:=by simp;omega
  rw[hd]at this;exact this
 | succ fuel ih=>
  intro listed G a w Bk Bn htl hle R;by_cases Ae:∀j,j<m->KO listed j=true
  ·have R':Rel X G (Q2 s0 evs) a w:=R.congr fun l=>by
    rw[<- jR 0];refine LR evs 0 _ _ rfl fun j ev hj Au=>?_;have Jd:j<m:=by rw[<- hlen];exact (uA hj).1
    exact absurd (Ae j Jd).symm (by simpa using Au)
   have hw:=hK m rfl G a w R';have hd:(ops.toList.drop m).length=ops.size - m:=sS;rw[hd]at hw;refine kP Hr Ni Hk (ops.size - m) m (fuel+1) listed a w oO (Nat.le_refl _) Bk (fun i hi=>?_) oO hw;by_cases Wc:i<m;· rw[Ae i Wc];exact (decide_eq_true Wc).symm
   ·rw[htl i oO];exact (decide_eq_false Wc).symm
  have hex:∃j,j<m/\KO listed j=false:=by
   by_cases h:∃j,j<m/\KO listed j=false;· exact h
   ·exact absurd (fun j hj=>by
     cases hq:KO listed j with
     | true=>rfl
     | false=>exact absurd ⟨j,hj,hq⟩ h) Ae
  have Ki:Region.ready .any ops listed=[]->∀j,j<m->KO listed j=true:=by
   intro hr j
   induction j using Nat.strongRecOn with
   | _ j ihj=>
    intro hj;cases hq:KO listed j with
    | true=>rfl
    | false=>
     have Lo:j<ops.size:=oO;have:j∈Region.ready .any ops listed:=by
      rw[mem_ready];refine⟨by rw[OE oO];exact hq,ops[j],uG Lo,fun e he hb=>?_⟩;have Ac:=KU Hr j ops[j] (by simp[Lo]) e he hb;exact ihj e.on oO oO
     rw[hr]at this;cases this
  refine⟨fun hr=>absurd (Ki hr) Ae,fun i hi=>?_⟩;obtain⟨h1,o,ho,Zn⟩:=mem_ready.1 hi;have Nt:i<ops.size:=(Array.getElem?_eq_some_iff.1 ho).1;have Cc:i<listed.size:=oO;rw[OE Cc]at h1;have Fo:∀e∈o.after,Region.binds .any e=true->KO listed e.on=true:=Zn;have Wc:i<m:=by
   rcases Nat.lt_or_ge i m with h|h;· exact h
   ·exact absurd (fun j hj=>P7 Hr Ni Bn i o ho Fo (Hk i h Nt j oO)) Ae
  have Ua:bO ops' (KO listed):=by
   intro j o' hL Ls e he hb;have hj:j<m:=by have:=(Array.getElem?_eq_some_iff.1 Ls).1;omega
   exact Bn j o' hL (by rw[<- Ay j hj];exact Ls) e he hb
  have Ls:ops'[i]? = some o:=by rw[Ay i Wc];exact ho
  have Dz:i<evs.length:=oO;have Hd:evs[i]? = some evs[i]:=uB Dz;have Dl:=jS 0 Aq i o evs[i] (by simpa using Ls) Hd;have Gq:∀(j:Nat) (ev:Ev),evs[j]? = some ev->i<j->KO listed j=true->KN evs[i] ev=true:=by
   intro j ev hj He hL;have hjm:j<m:=by rw[<- hlen];exact (uA hj).1
   have Lo:j<ops'.size:=oO;rcases (KV hp i j _ ev He Hd hj).2 with h|h
   ·have:=P7 Cm Ja Ua j ops'[j] (uG Lo) (fun e he hb=>Ua j _ hL (uG Lo) e he hb) (by simpa using h);rw[h1]at this;cases this
   ·exact h
  have Mr:∀(j:Nat) (ev:Ev),evs[j]? = some ev->j<i->KO listed j=false->KN ev evs[i]=true:=by
   intro j ev hj He hL;rcases (KV hp j i ev _ He hj Hd).2 with h|h
   ·have:=P7 Cm Ja Ua i o Ls Fo (by simpa using h);rw[hL]at this;cases this
   ·exact h
  have Bg:vC X ops' o (XE (KO listed) 0 evs s0) (apply (XE (KO listed) 0 evs s0) evs[i].e):=by
   refine Dl _ (fun l v hl=>?_) (fun d hd=>?_)
   ·obtain⟨By,hg⟩:=g0 hl;rw[<- hg];refine LR evs 0 _ _ rfl fun j ev hj Au hw=>?_;simp only[Nat.zero_add]at Au;by_cases He:j<i
    ·cases hq:KO listed j with
     | true=>rw[hq]at Au;simp[He]at Au
     | false=>
      have:=Mr j ev hj He hq;simp only[KN,uH,P6]at this;exact this.1.1.1 l hw By
    ·cases hq:KO listed j with
     | false=>rw[hq]at Au;simp[He]at Au
     | true=>
      have Sb:j≠i:=fun e=>by rw[e,h1]at hq;cases hq
      have:=Gq j ev hj oO hq;simp only[KN,uH,P6]at this;exact this.1.1.2 l hw By
   ·refine XI evs 0 s0 (XJ Hh i _ Hd d hd) fun j ev hj hL=>?_;simp only[Nat.zero_add]at hL;have Sb:j≠i:=fun e=>by rw[e,h1]at hL;cases hL
    by_cases He:j<i;· exact (KV hp j i ev _ He hj Hd).1 d hd
    ·have:=Gq j ev hj oO hL;simp only[KN,uH,W7]at this
     simpa using this.2 d hd
  have u7:∀G' a' w',Rel X G' (apply (XE (KO listed) 0 evs s0) evs[i].e) a' w'->wpAnyIn X.F 0 X.P .any ops (Nrm X K) fuel (listed.setIfInBounds i true) a' w':=by
   intro G' a' w' R';refine ih _ G' a' w' (by simpa using Bk) ?_ ?_ ?_ ?_
   ·rw[Q3 Cc];intro j o' hL hoj e he hb;simp only[Bool.or_eq_true,beq_iff_eq]at hL ⊢;rcases hL with rfl|hL
    ·rw[ho]at hoj;cases hoj;exact .inr (Fo e he hb)
    ·exact .inr (Bn j o' hL hoj e he hb)
   ·intro j hj;rw[Q3 Cc];show (j==i||KO listed j)=false;rw[htl j hj,Bool.or_false]
    simp;omega
   ·have:=nK (n:=m) Cc Wc h1;omega
   ·rw[Q3 Cc];refine R'.congr fun l=>jQ h1 evs 0 s0 (Nat.zero_le _) Hd fun j ev hj Ac hL hw=>?_;simp only[Nat.zero_add]at Ac hL;have:=Gq j ev hj Ac hL;simp only[KN,uH,P6]at this;exact this.1.2 l hw
  have Wx:o.guard=none:=hg o (uE (i:=i) (by simpa using Ls));have:=Bg G a w R _ (Nrm X K) u7;unfold wpOpIn;simp only[ho];have hw:∀y,Region.wanted o y=true:=fun y=>by simp[Region.wanted,Wx]
  simp only[hw,if_true]at this ⊢;exact this
def z9t (ops:List Oper)(m:Nat):Bool:=
 let T:=nH ops []
 YP 0 ops&&nI T T ops&&zgj T m ops.length&&(ops.take m).all fun o=>o.guard.isNone
theorem zjq {id:Nat}{ops:Array Oper}{s:St}(hm:X.P.follows .mixedOrders=true)(m:Nat)(hmn:m<=ops.size)(Sf:z9t ops.toList m=true)(Ab esc':List Nat)
  (h:∀K:St->Prop,(∀s',W X k s'->K s')->zZ X Ab (ops.toList.take m).toArray s (fun s'=>vc X esc' ops (ops.toList.drop m) s' K) (ops.toList.take m) s []):W X (.code (.region id ops true)::k) s:=by
 intro G a w b cs hf hk hr R;simp only[z9t,uH,List.all_eq_true]at Sf;obtain⟨⟨⟨t1,t2⟩,t3⟩,t4⟩:=Sf;obtain⟨evs,h1,h2,h3⟩:=E8 (h (fun s'=>W X k s') (fun _ h=>h));have ht:(ops.toList.take m).toArray.toList=ops.toList.take m:=rfl;have h3':VL X ops (ops.toList.drop m) (Q2 s evs) (fun s'=>W X k s'):=CU h3
 have Us:=z49 (ops':=(ops.toList.take m).toArray) (s0:=s) rfl hmn (by rw[ht];exact h1) (fun o ho=>by have:=t4 o (by simpa using ho);cases hq:o.guard with|none=>rfl|some _=>rw[hq]at this;cases this) (by simpa using h2) t1 t2 (xG (by simpa using t3)) h3' ops.size (Array.replicate ops.size false) G a { w with drawn:=w.drawn+1 } sS (fun j o hL=>by simp[KO,Array.getElem?_replicate]at hL;split at hL <;> simp at hL) (fun j _=>by simp only[KO,Array.getD_eq_getD_getElem?,Array.getElem?_replicate];split <;> rfl) (by
   have:(left m (Array.replicate ops.size false)).length<=m:=Nat.le_trans (List.length_filter_le _ _) sS
   omega) (by
   rw[RT _ _ _ (fun j _=>by simp only[KO,Array.getD_eq_getD_getElem?,Array.getElem?_replicate];split <;> rfl)];exact R.drawn _)
 obtain⟨e',a',w',⟨rfl,G',s',hK,R'⟩,Mq⟩:=wpIn_region_any (F:=X.F) (n:=0) hm Us b k cs hr tT (z65 _);obtain⟨Jt,fr,q1,q2⟩:=hK G' a' w' b cs hf hk hr R';exact⟨Jt,fr,q1,Steps.trans (StepsIn.steps Mq) q2⟩
abbrev PF (b n cap:Nat):DV:=.prim (.slice (some ⟨b,0,none⟩) n cap)
theorem zf3 (A M D xs:List SV)(h:xs.length=M.length):put (A++(M++D)) A.length xs=A++(xs++D):=by
 apply List.ext_getElem?;intro i;rw[VV _ _ _ _ (by simp;omega)];split
 ·rename_i hi;rw[List.getElem?_append_right hi.1,List.getElem?_append_left oO]
 ·rename_i hi;by_cases h1:i<A.length;· rw[List.getElem?_append_left h1,List.getElem?_append_left h1]
  ·have h2:A.length+xs.length<=i:=oO;rw[List.getElem?_append_right oO,List.getElem?_append_right oO,List.getElem?_append_right oO,List.getElem?_append_right oO,h]
theorem IZ (l r:List (List DV)):AP (l++r)=AP l++AP r:=by simp[AP]
theorem EU {E:Nat}{l:List (List DV)}(h:∀e∈l,e.length=E):(AP l).length=l.length * E:=by simp only[AP,List.length_map];exact JT h
theorem xH {E:Nat}{full zs:List (List DV)}{n:Nat}(Ih:∀e∈full,e.length=E)(Db:∀e∈zs,e.length=E)(hle:n+zs.length<=full.length) :
  put (AP full) (n * E) (AP zs)=AP (full.take n++zs++full.drop (n+zs.length)):=by
 have h1:full=full.take n++((full.drop n).take zs.length++full.drop (n+zs.length)):=by
  have:=List.take_append_drop zs.length (full.drop n);rw[List.drop_drop]at this;rw[this,List.take_append_drop]
 have m1:∀e∈full.take n,e.length=E:=fun e he=>Ih e (List.mem_of_mem_take he);have m2:∀e∈(full.drop n).take zs.length,e.length=E:=fun e he=>Ih e (List.mem_of_mem_drop (List.mem_of_mem_take he));have e1:(AP (full.take n)).length=n * E:=by rw[EU m1,List.length_take,Nat.min_eq_left oO]
 have e2:(AP zs).length=(AP ((full.drop n).take zs.length)).length:=by rw[EU Db,EU m2,List.length_take,List.length_drop,Nat.min_eq_left oO]
 have h2:AP full=AP (full.take n)++(AP ((full.drop n).take zs.length)++AP (full.drop (n+zs.length))):=by rw[<- IZ,<- IZ,<- h1]
 rw[h2,<- e1,zf3 _ _ _ _ e2,IZ,IZ,List.append_assoc]
theorem xI {G:Gh}{w:World}{E:Nat}{zs:List (List DV)}{g:Nat->Value}(hE:∀e∈zs,e.length=E)(h:VZ G.D w E zs g):HI G w (AP zs) (YJ g (zs.length * E)):=by
 have hl:=JT hE;refine⟨by rw[LP,EU hE],fun i x v hx hv=>?_⟩;simp only[AP,List.getElem?_map]at hx;cases Jj:zs.flatten[i]? with
 | none=>rw[Jj]at hx;cases hx
 | some dd=>
  rw[Jj]at hx;cases hx;obtain⟨i1,j1,e1,k1,k2,rfl⟩:=OG hE Jj;have hj:j1<E:=by rw[<- hE e1 (uE k1)];exact (uA k2).1
  have hi:i1<zs.length:=(uA k1).1;rw[O9 _ _ _ (NB hi hj)]at hv;cases hv;exact h i1 j1 e1 dd k1 k2
theorem fG {zs:List (List DV)}(h:∀e∈zs,∀c∈e,DV.isCell c=true):ES (AP zs)=true:=by
 rw[PV];intro x hx;simp only[AP,List.mem_map,List.mem_flatten]at hx;obtain⟨d,⟨e,he,hd⟩,rfl⟩:=hx;exact h e he d hd
theorem kQ {o:Oper}{x y:Operand}{T T2:TypeId}(ho:o.op = .call { callee:=.builtin .append,args:=#[x,y],argTypes:=#[T,T2] }){d:Nat}(hd:o.dst=some d)(hn:d<X.n)
  {E B:Nat} (he:FI X.P T=some (E,B)) (h2:(E0 X.P T2).isSome=true) {b n cap:Nat} {full zs:List (List DV)} (hx:CS X (get s) x=some (.v (PF b n cap))) (hy:(CS X (get s) y).bind LN=some zs)
  (Ak:get s (.heap b)=some (.row (AP full))) (Gz:full.length=cap) (hle:n+zs.length<=cap) (Ih:∀e∈full,e.length=E) (Db:∀e∈zs,e.length=E) :
  ED X s o (CM (CM s (.heap b) (.row (AP (full.take n++zs++full.drop (n+zs.length))))) (.slot d) (.one (.v (PF b (n+zs.length) cap)))):=by
 intro G a w R next Q hK
 have hv:=(BJ (A8 R hx)).1;obtain⟨q,hq,Ft⟩:=Option.bind_eq_some_iff.1 hy;obtain⟨yb,Qb,Oj,Jc,-⟩:=GQ Ft (A8 R hq);obtain⟨c2,g,g1,g2,g3⟩:=TD Jc Db;have hle2:n * E+(AP zs).length<=(AP full).length:=by
  rw[EU Ih,EU Db,<- Nat.add_mul,Gz];exact Nat.mul_le_mul_right _ hle
 obtain⟨w',h1,Vg⟩:=R.storeRow Ak rfl (b:=b) rfl (xI Db g1) (fG c2) hle2;have Aq:=J9 (P:=X.P) (t:=T) (ty:=o.type) (t2:=T2) (w:=w) he h2 (base:=some ⟨b,0,none⟩) (len:=n) (cap:=cap) (LQ (P:=X.P) Jc w) (E5 (P:=X.P) g3) hle (w':=w') (by simp only[F7,Nat.zero_add];exact h1);rw[<- hv]at Aq;refine M5 (by intro c e;rw[ho]at e;cases e) ?_;have Az:(execOp a.eval o).run X.P w = .ok (.value (.slice (some ⟨b,0,none⟩) (n+zs.length) cap)) w':=by
  simp[execOp,ho,resolve,invoke,builtin,Aq]
 rw[Az,D1,hd];rw[xH Ih Db oO]at Vg;exact hK G _ w' (Vg.setSlot (Trans.refl X G a w' R.nil) rfl rfl (fun _ h=>h) hn (.prim _ tT))
theorem Rel.newArr {G:Gh}{a:Act}{w:World}(R:Rel X G s a w){d:Nat}(hn:d<X.n){w1:World}(Sw:w1.heap=w.heap){c:Array Value}{e:TypeId}{E:Nat}{full:List (List DV)}{n cap:Nat}
  (T':Trans X G a w G (a.put (some d) (.slice (some ⟨w.heap.size,0,none⟩) n cap)) (w1.alloc (.cells c e)) (fun _=>False))
  (hE:∀e∈full,e.length=E) (Ah:∀e∈full,∀c∈e,DV.isCell c=true) (hc:full.length * E<=c.size) (Ay:∀(i j:Nat) (e:List DV) (dd:DV),full[i]? = some e->e[j]? = some dd->∃v,c[i * E+j]? = some v/\RV G.D w dd v) :
  Rel X G (CM (CM s (.slot d) (.one (.v (PF w.heap.size n cap)))) (.heap w.heap.size) (.row (AP full))) (a.put (some d) (.slice (some ⟨w.heap.size,0,none⟩) n cap)) (w1.alloc (.cells c e)):=by
 have hp:=FV a (some d) (.slice (some ⟨w.heap.size,0,none⟩) n cap);refine R.step T' (fun l u=>(l = .slot d/\u = .one (.v (PF w.heap.size n cap)))\/(l = .heap w.heap.size/\u = .row (AP full))) (fun l u h=>?_) (fun l u h=>?_) (fun l u l' u' b h h' hb Ai=>?_)
 ·rw[BM,BM]at h;by_cases h1:Loc.heap w.heap.size=l;· rw[if_pos h1]at h;cases h;exact .inl (.inr ⟨h1.symm,rfl⟩)
  ·rw[if_neg h1]at h;by_cases h3:Loc.slot d=l;· rw[if_pos h3]at h;cases h;exact .inl (.inl ⟨h3.symm,rfl⟩)
   ·rw[if_neg h3]at h;exact .inr ⟨h,fun n hn=>FH _ _ _ _ (fun e=>h3 (by rw[hn,e])),fun b hb Qc=>Qc.elim,fun _ _=>rfl,fun _ _=>rfl⟩
 ·rcases h with⟨rfl,rfl⟩|⟨rfl,rfl⟩
  ·refine⟨?_,fun b hb=>by cases hb⟩;show LE G _ (.v _) _;rw[E4 _ _ _ (by rw[R.size];exact hn)];exact .prim _ tT
  ·refine⟨⟨c,e,?_,?_,fun i x hx=>?_⟩,fun b hb=>?_⟩
   ·have:=JP w1 (.cells c e);rw[Sw]at this;exact this
   ·rw[EU hE];exact hc
   ·simp only[AP,List.getElem?_map]at hx;cases Jj:full.flatten[i]? with
    | none=>rw[Jj]at hx;cases hx
    | some dd=>
     rw[Jj]at hx;cases hx;obtain⟨i1,j1,e1,k1,k2,rfl⟩:=OG hE Jj;obtain⟨v,hv,hr⟩:=Ay i1 j1 e1 dd k1 k2;exact⟨Ah e1 (uE k1) dd (uE k2),v,hv,hr.mono T'.grow⟩
   ·cases hb;exact⟨.inl (Nat.le_refl _),.inl R.ext.size,fun _ o hD=>absurd (R.wf.lt hD) (Nat.lt_irrefl _)⟩
 ·rcases h with⟨rfl,rfl⟩|⟨rfl,rfl⟩;· cases hb
  ·rcases h' with⟨rfl,rfl⟩|⟨rfl,rfl⟩;· cases Ai
   ·rfl
theorem PG {G:Gh}{a:Act}{w:World}(R:Rel X G s a w):newB w.heap.size s:=TI fun v hv=>by
 have hh:=R.holds _ _ hv;cases v with
 | row cs=>exact absurd (H9 hh rfl) (Nat.lt_irrefl _)
 | ob r=>exact absurd (H9 hh rfl) (Nat.lt_irrefl _)
 | mp l=>exact absurd (H9 hh rfl) (Nat.lt_irrefl _)
 | one x=>exact hh.elim
 | tk E n=>exact hh.elim
def gJ (P:Program)(T:TypeId):Option (List DV):=
 match P.underlying T with
 | some (.slice e)=>(EH P e).bind JZ
 | _=>none
theorem oX {E i j:Nat}(hj:j<E):(i * E+j) % E=j:=by
 rw[Nat.mul_comm,Nat.mul_add_mod];exact Nat.mod_eq_of_lt hj
theorem R8 {P:Program}{w:World}{t ty t2 E B:Nat}(he:FI P t=some (E,B))(hB:0<B/\B<=1024)(h2:(E0 P t2).isSome=true){base:Option Addr}{len cap:Nat}{x:Value}{n:Nat}{old new:Array Value}
  (hx:∀w',w'.heap=w.heap->(Builtin.lenOf x).run P w' = .ok n w') (hn:∀w',w'.heap=w.heap->(Builtin.firstCells E n x).run P w' = .ok new w') (ho:∀w',w'.heap=w.heap->(Builtin.firstCells E len (.slice base len cap)).run P w' = .ok old w')
  (hle:¬len+n<=cap) (Ao:len+n<=I6) (h1:old.size=len * E) (h3:new.size=n * E) {zd:List DV} (hz:gJ P t=some zd) :
  zd.length=E/\∃c e nc,(Builtin.append_ #[t,t2] ty #[.slice base len cap,x]).run P w = .ok (.slice (some ⟨w.heap.size,0,none⟩) (len+n) nc) (w.drew.alloc (.cells c e))/\len+n<=nc/\c.size=nc * E/\(∀k,k<len * E->c[k]? = old[k]?)/\(∀k,k<n * E->c[len * E+k]? = new[k]?) /\
   ∀(G:Gh) (w':World),G.τ 0=(none,0)->∀(i j:Nat) (dd:DV),i<nc - (len+n)->zd[j]? = some dd->∃v,c[(len+n+i) * E+j]? = some v/\RV G.D w' dd v:=by
 obtain⟨e,i,z,hu,hi,To,Mg,Pb,Wi⟩:=P3 he;obtain⟨E2,Db⟩:=Option.isSome_iff_exists.1 h2;obtain⟨e2,i2,Tk,-,-⟩:=IP Db;have hzz:∃cs,aZ z.cells.toList=some cs/\JZ cs=some zd:=by
  simp only[gJ,hu,EH,hi,To]at hz;exact Option.bind_eq_some_iff.1 hz
 obtain⟨zcs,Fv,Eb⟩:=hzz;have Mm:zd.length=E:=by
  have h0:HI { D:=fun _ _=>False,ν:=fun _=>0,τ:=fun _=>(none,0) } w zcs z.cells.toList.toArray:=LO rfl Fv;have:=(b7 h0 Eb).1;rw[<- this]
  simpa using Mg
 refine⟨Mm,?_⟩;unfold I6 at Ao;have Bi:¬(Builtin.nextslicecap (len+n) cap * B > 2 ^ 48):=by
  have:=R6 (need:=len+n) (cap:=cap) oO;have:Builtin.nextslicecap (len+n) cap * B<=(2 * (len+n)+600) * 1024:=Nat.mul_le_mul this hB.2;omega
 let q:Question:=.appendCap (len+n) cap e
 let nc:=q.cut (w.tape w.drawn q)
 have Ox:len+n<=nc:=by show len+n<=_;simp[nc,q,Question.cut]
 have Sj:(Builtin.zeroCells z.cells (nc - (len+n))).size=(nc - (len+n)) * E:=by simp[Builtin.zeroCells,Mg]
 refine⟨old++new++Builtin.zeroCells z.cells (nc - (len+n)),e,nc,?_,Ox,?_,fun k hk=>?_,fun k hk=>?_,fun G w' hG i j dd Cz hj=>?_⟩
 ·unfold Builtin.append_;have Em:¬(2 ^ 48<Builtin.nextslicecap (len+n) cap * B):=Bi;simp[run_underlying hu,run_underlying Tk,sizeOf,typeInfo,hi,Pb,hx w rfl,hle,Wi,Em,Question.forced,ho (w.drew) rfl,hn (w.drew) rfl,zeroValue,To,newRow,nc,q];intro h;omega
 ·simp[h1,h3,Builtin.zeroCells,Mg];rw[<- Nat.add_mul,<- Nat.add_mul]
  congr 1;omega
 ·rw[Array.getElem?_append_left (by simp[h1,h3];omega),Array.getElem?_append_left oO]
 ·rw[Array.getElem?_append_left (by simp[h1,h3];omega),Array.getElem?_append_right oO,h1]
  congr 1;omega
 ·have Sr:j<E:=by rw[<- Mm];exact (uA hj).1
  have Ac:i * E+j<(nc - (len+n)) * E:=NB Cz Sr;have Ak:HI G w' zcs z.cells.toList.toArray:=LO hG Fv;have hr:=(b7 Ak Eb).2 j dd;simp only[Array.toArray_toList]at hr;have hjz:j<z.cells.size:=oO;refine⟨z.cells[j],?_,hr _ hj (uG hjz)⟩;have Bk:(old++new).size=(len+n) * E:=by simp[h1,h3,Nat.add_mul]
  have e1:(len+n+i) * E+j=(old++new).size+(i * E+j):=by rw[Bk,Nat.add_mul (len+n) i E];omega
  rw[e1,Array.getElem?_append_right (Nat.le_add_right _ _),Nat.add_sub_cancel_left];have Cl:i * E+j<(nc - (len+n)) * z.cells.size:=by rw[Mg];exact Ac
  simp only[Builtin.zeroCells];rw[Array.getElem?_map,Array.getElem?_range,if_pos Cl];simp only[Option.map_some,Mg,oX Sr];rw[getElem!_pos z.cells j hjz]
theorem QG {E:Nat}:∀{ys:List (List DV)},(∀e∈ys,e.length=E)->∀{i j:Nat} {e:List DV} {d:DV},ys[i]? = some e->e[j]? = some d->ys.flatten[i * E+j]? = some d
 | [],_,i,j,e,d,h,_=>by simp at h
 | y::r,hE,0,j,e,d,h,hd=>by
  simp at h;subst h;rw[List.flatten_cons,Nat.zero_mul,Nat.zero_add,List.getElem?_append_left (uA hd).1];exact hd
 | y::r,hE,i+1,j,e,d,h,hd=>by
  have hy:=hE y sS;have ih:=QG (ys:=r) (fun e he=>hE e (List.mem_cons_of_mem _ he)) (by simpa using h) hd;rw[List.flatten_cons,List.getElem?_append_right (by rw[hy,Nat.add_mul];omega),hy];rw[show (i+1) * E+j - E=i * E+j from by rw[Nat.add_mul];omega];exact ih
theorem kR {o:Oper}{x y:Operand}{T T2:TypeId}(ho:o.op = .call { callee:=.builtin .append,args:=#[x,y],argTypes:=#[T,T2] }){d:Nat}(hd:o.dst=some d)(hn:d<X.n)
  {E B:Nat} (he:FI X.P T=some (E,B)) (hB:0<B/\B<=1024) (h2:(E0 X.P T2).isSome=true) {b n cap:Nat} {full zs:List (List DV)} {zd:List DV} (hx:CS X (get s) x=some (.v (PF b n cap))) (hy:(CS X (get s) y).bind LN=some zs)
  (Ak:get s (.heap b)=some (.row (AP full))) (Gz:full.length=cap) (Ox:n<=cap) (hnf:cap<n+zs.length) (Ao:n+zs.length<=I6) (Ih:∀e∈full,e.length=E) (Db:∀e∈zs,e.length=E) (hz:gJ X.P T=some zd) (Sj:JO zd=true)
  {G:Gh} {a:Act} {w:World} (R:Rel X G s a w) (next:Act->World->Prop) (Q:Exit->Act->World->Prop)
  (hK:∀b' Ba,n+zs.length<=Ba->newB b' s->X.w0.heap.size<=b'->∀G' a' w',Rel X G' (CM (CM s (.slot d) (.one (.v (PF b' (n+zs.length) Ba)))) (.heap b') (.row (AP (full.take n++zs++List.replicate (Ba - (n+zs.length)) zd)))) a' w'->next a' w') :
  o.wpIn X.F 0 X.P a w next Q:=by
 have hv:=(BJ (A8 R hx)).1;obtain⟨q,hq,Ft⟩:=Option.bind_eq_some_iff.1 hy;obtain⟨yb,Qb,Oj,Jc,-⟩:=GQ Ft (A8 R hq);obtain⟨c2,g,g1,g2,g3⟩:=TD Jc Db;obtain⟨c0,e0,k1,k2,k3⟩:LM G w b (AP full):=R.holds _ _ Ak;rw[EU Ih]at k2;have hnE:n * E<=full.length * E:=Nat.mul_le_mul_right _ oO
 have Tq:∀w':World,w'.heap=w.heap->(Builtin.firstCells E zs.length (a.eval y)).run X.P w' = .ok (YJ g (zs.length * E)) w':=fun w' hw=>by
  refine E5 (D:=G.D) ?_;rcases g3 with h|⟨b,o',cap,h,hc⟩;· exact .inl h
  ·exact .inr ⟨b,o',cap,h,fun k hk=>by rw[IC hw];exact hc k hk⟩
 have Km:∀w':World,w'.heap=w.heap->(Builtin.firstCells E n (.slice (some ⟨b,0,none⟩) n cap)).run X.P w' = .ok (YJ (fun k=>(c0[k]?).getD undef) (n * E)) w':=fun w' hw=>by
  simp only[Builtin.firstCells];refine R5 b 0 (n * E) _ (fun k hk=>?_);have Ac:k<c0.size:=oO;rw[IC hw,Nat.zero_add];simp[World.cell?,k1,Ac]
 obtain⟨Mm,c,e,nc,r1,r2,r3,r4,r5,r6⟩:=R8 (P:=X.P) (t:=T) (ty:=o.type) (t2:=T2) (w:=w) he hB h2 (base:=some ⟨b,0,none⟩) (len:=n) (cap:=cap) (fun w' _=>LQ (P:=X.P) Jc w') Tq Km oO Ao (LP _ _) (LP _ _) hz;rw[<- hv]at r1;have Az:(execOp a.eval o).run X.P w = .ok (.value (.slice (some ⟨w.heap.size,0,none⟩) (n+zs.length) nc)) (w.drew.alloc (.cells c e)):=by
  simp[execOp,ho,resolve,invoke,builtin,r1]
 refine M5 (by intro c e;rw[ho]at e;cases e) ?_;rw[Az,D1,hd];have hp:=FV a (some d) (.slice (some ⟨w.heap.size,0,none⟩) (n+zs.length) nc);have T':Trans X G a w G (a.put (some d) (.slice (some ⟨w.heap.size,0,none⟩) (n+zs.length) nc)) (w.drew.alloc (.cells c e)) (fun _=>False):=by
  refine⟨hp.1,fun h=>(h.heap fun b hb=>CX w.drew _ b hb).put hp.2,rfl,rfl,rfl,sS,fun b hb _=>CX w.drew _ b hb,fun _ h=>h.elim,fun b k hD=>⟨hD,World.cell?_alloc_lt w.drew _ _ (R.wf.lt hD)⟩,fun b k hD Ia=>absurd hD Ia,R.nil⟩
 refine hK w.heap.size nc r2 (PG R) R.ext.size G _ _ (R.newArr hn (w1:=w.drew) rfl T' (E:=E) ?_ ?_ ?_ ?_)
 ·intro e he;rcases List.mem_append.1 he with he|he
  ·rcases List.mem_append.1 he with he|he;· exact Ih e (List.mem_of_mem_take he)
   ·exact Db e he
  ·rw[(List.mem_replicate.1 he).2];exact Mm
 ·intro e he d hd;rcases List.mem_append.1 he with he|he
  ·rcases List.mem_append.1 he with he|he
   ·have he:=List.mem_of_mem_take he;obtain⟨i,hi⟩:=List.mem_iff_getElem?.1 he;obtain⟨j,hj⟩:=List.mem_iff_getElem?.1 hd;exact (k3 (i * E+j) (.v d) (by simp only[AP,List.getElem?_map,QG Ih hi hj,Option.map_some])).1
   ·exact c2 e he d hd
  ·rw[(List.mem_replicate.1 he).2]at hd;exact (P1 zd).1 Sj d hd
 ·rw[r3];simp only[List.length_append,List.length_take,List.length_replicate];exact Nat.mul_le_mul_right _ oO
 ·intro i j e dd hi hj;have Jk:(full.take n).length=n:=by rw[List.length_take,Nat.min_eq_left oO]
  rw[List.append_assoc]at hi;rcases Nat.lt_or_ge i n with h|h
  ·rw[List.getElem?_append_left oO,List.getElem?_take_of_lt h]at hi;have Sr:j<E:=by rw[<- Ih e (uE hi)];exact (uA hj).1
   have Ac:=NB h Sr;obtain⟨-,v,q1,q2⟩:=k3 (i * E+j) (.v dd) (by simp only[AP,List.getElem?_map,QG Ih hi hj,Option.map_some]);refine⟨v,?_,q2⟩;rw[r4 _ Ac,O9 _ _ _ Ac,q1];rfl
  ·rw[List.getElem?_append_right oO,Jk]at hi;rcases Nat.lt_or_ge (i - n) zs.length with h' | h'
   ·rw[List.getElem?_append_left h']at hi;have Sr:j<E:=by rw[<- Db e (uE hi)];exact (uA hj).1
    have Ac:=NB h' Sr;refine⟨_,?_,g1 _ _ _ _ hi hj⟩;have e1:i * E+j=n * E+((i - n) * E+j):=by rw[<- Nat.add_assoc,<- Nat.add_mul];congr 2;omega
    rw[e1,r5 _ Ac,O9 _ _ _ Ac]
   ·rw[List.getElem?_append_right h']at hi
    obtain⟨Oe,Iu⟩:e=zd/\i - n - zs.length<nc - (n+zs.length):=by
     have hm:=uE hi;have Ac:=(uA hi).1;simp only[List.length_replicate]at Ac;exact⟨(List.mem_replicate.1 hm).2,Ac⟩
    subst Oe;obtain⟨v,q1,q2⟩:=r6 G w R.nil (i - n - zs.length) j dd Iu hj;refine⟨v,?_,q2⟩;rw[show n+zs.length+(i - n - zs.length)=i from oO]at q1;exact q1
theorem Z4 {Ab:List Nat}{ops:Array Oper}{l:List Oper}{K:St->Prop}{d:Tmp}{x y:Operand}{T T2 ty:TypeId}{pos:String}{af:Array Edge}{q:Option (Prop × St)}
  {E B b n cap:Nat} {full zs:List (List DV)} {zd:List DV} (hx:CS X (get s) x=some (.v (PF b n cap))) (hy:(CS X (get s) y).bind LN=some zs) (Ak:get s (.heap b)=some (.row (AP full)))
  (he:FI X.P T=some (E,B)) (hz:gJ X.P T=some zd) (Sj:JO zd=true) (hB:0<B/\B<=1024) (h2:(E0 X.P T2).isSome=true) (hn:d<X.n)
  (Gz:full.length=cap) (Ox:n<=cap) (Ao:n+zs.length<=I6) (Ih:∀e∈full,e.length=E) (Db:∀e∈zs,e.length=E) (hq:q=none)
  (h1:n+zs.length<=cap->vc X Ab ops l (CM (CM s (.heap b) (.row (AP (full.take n++zs++full.drop (n+zs.length))))) (.slot d) (.one (.v (PF b (n+zs.length) cap)))) K)
  (h3:cap<n+zs.length->∀b' Ba,n+zs.length<=Ba->newB b' s->X.w0.heap.size<=b'->vc X Ab ops l (CM (CM s (.slot d) (.one (.v (PF b' (n+zs.length) Ba)))) (.heap b') (.row (AP (full.take n++zs++List.replicate (Ba - (n+zs.length)) zd)))) K) :
  ZR X Ab ops l K ⟨some d,.call { callee:=.builtin .append,args:=#[x,y],argTypes:=#[T,T2] },ty,pos,af,none⟩ s q:=by
 subst hq;rcases Nat.lt_or_ge cap (n+zs.length) with h|h
 ·intro m hm G a w R0;obtain⟨p1,p3⟩:=EQ hm;simp only[List.length_cons,List.range'_succ,wpOpsIn,p1,Region.wanted,if_true];refine kR (o:=⟨some d,.call { callee:=.builtin .append,args:=#[x,y],argTypes:=#[T,T2] },ty,pos,af,none⟩) rfl rfl hn he hB h2 hx hy Ak Gz Ox h Ao Ih Db hz Sj R0 _ _ fun b' Ba hc hb hw G' a' w' R'=>?_;exact CU (h3 h b' Ba hc hb hw) (m+1) p3 G' a' w' R'
 ·exact OA rfl (kQ (o:=⟨some d,.call { callee:=.builtin .append,args:=#[x,y],argTypes:=#[T,T2] },ty,pos,af,none⟩) rfl rfl hn he h2 hx hy Ak Gz h Ih Db) (CU (h1 h))
theorem z4a {o:Oper}{t len E B:Nat}{parts:Array (Nat × Operand)}(ho:o.op = .buildSlice t len parts){d:Nat}(hd:o.dst=some d)(hn:d<X.n)(he:FI X.P t=some (E,B)){els:List (List DV)}
  (h:HA X (get s) E 0 parts.toList=some els) (hlen:els.length=len) (hb:len * E<=16777216)
  {G:Gh} {a:Act} {w:World} (R:Rel X G s a w) (next:Act->World->Prop) (Q:Exit->Act->World->Prop)
  (hK:∀b,newB b s->X.w0.heap.size<=b->∀G' a' w',Rel X G' (CM (CM s (.slot d) (.one (.v (PF b len len)))) (.heap b) (.row (AP els))) a' w'->next a' w') :
  o.wpIn X.F 0 X.P a w next Q:=by
 obtain⟨e,i,z,hu,hi,hz,Mg,Pb,Wi⟩:=P3 he;subst hlen;have Np:((Array.range (els.length * E)).map fun k=>(if els.length * E=0 then #[] else z.cells)[k % (if els.length * E=0 then #[] else z.cells).size]!).size=els.length * E:=sS;obtain⟨q1,q2,q3,c',f1,f2,f3,f4⟩:=PW R E parts.toList 0 els ((Array.range (els.length * E)).map fun k=>(if els.length * E=0 then #[] else z.cells)[k % (if els.length * E=0 then #[] else z.cells).size]!) h (by rw[Np,Nat.zero_add];exact Nat.le_refl _);rw[Np]at f2;have Aq:(Instr.buildSlice t els.length (parts.map fun (i,x)=>(i,a.eval x))).run X.P w = .ok (.slice (some ⟨w.heap.size,0,none⟩) els.length els.length) (w.alloc (.cells c' e)):=by
  have Au:¬(els.length * E > 2 ^ 24):=oO;have hf:Instr.fill (fun k=>some (k * E,E)) ((Array.range (els.length * E)).map fun k=>(if els.length * E=0 then #[] else z.cells)[k % (if els.length * E=0 then #[] else z.cells).size]!) ((parts.map fun (q:Nat × Operand)=>(q.1,a.eval q.2)).toList)=some c':=by
   rw[Array.toList_map];exact f1
  unfold Instr.buildSlice;simp only[run_underlying hu,sizeOf,typeInfo,hi,Pb,Sem.run_bind,Sem.run_pure,run_program,Result.andThen_ok,Au,if_false];by_cases h0:els.length * E=0
  ·simp only[if_pos h0]at hf ⊢;simp only[Sem.run_bind,Sem.run_pure,Result.andThen_ok,hf,newRow,run_newObj];rfl
  ·simp only[if_neg h0]at hf ⊢;simp only[zeroValue,typeInfo,run_program,hi,hz,Sem.run_bind,Sem.run_pure,Result.andThen_ok,hf,newRow,run_newObj];rfl
 refine M5 (by intro c e;rw[ho]at e;cases e) ?_;have Az:(execOp a.eval o).run X.P w = .ok (.value (.slice (some ⟨w.heap.size,0,none⟩) els.length els.length)) (w.alloc (.cells c' e)):=by
  simp only[execOp,ho,Sem.run_bind,Aq,Result.andThen_ok,Sem.run_pure]
 rw[Az,D1,hd];have hp:=FV a (some d) (.slice (some ⟨w.heap.size,0,none⟩) els.length els.length);have T':Trans X G a w G (a.put (some d) (.slice (some ⟨w.heap.size,0,none⟩) els.length els.length)) (w.alloc (.cells c' e)) (fun _=>False):=by
  refine⟨hp.1,fun h=>(h.heap fun b hb=>CX w _ b hb).put hp.2,rfl,rfl,rfl,sS,fun b hb _=>CX w _ b hb,fun _ h=>h.elim,fun b k hD=>⟨hD,World.cell?_alloc_lt w _ _ (R.wf.lt hD)⟩,fun b k hD Ia=>absurd hD Ia,R.nil⟩
 refine hK w.heap.size (PG R) R.ext.size G _ _ (R.newArr hn (w1:=w) rfl T' (E:=E) q1 q2 (by rw[f2];exact Nat.le_refl _) fun i j e dd hi hj=>?_);obtain⟨v,hv,hr⟩:=f4 i j e dd hi hj;rw[Nat.zero_add]at hv;exact⟨v,hv,hr⟩
theorem z9u {Ab:List Nat}{ops:Array Oper}{l:List Oper}{K:St->Prop}{d:Tmp}{t len:Nat}{parts:Array (Nat × Operand)}{ty:TypeId}{pos:String}{af:Array Edge}{q:Option (Prop × St)}{E B:Nat}{els:List (List DV)}
  (he:FI X.P t=some (E,B)) (h:HA X (get s) E 0 parts.toList=some els) (hc:els.length=len/\len * E<=16777216) (hn:d<X.n) (hq:q=none)
  (k:∀b,newB b s->X.w0.heap.size<=b->vc X Ab ops l (CM (CM s (.slot d) (.one (.v (PF b len len)))) (.heap b) (.row (AP els))) K) :
  ZR X Ab ops l K ⟨some d,.buildSlice t len parts,ty,pos,af,none⟩ s q:=by
 subst hq;intro m hm G a w R0;obtain⟨p1,p3⟩:=EQ hm;simp only[List.length_cons,List.range'_succ,wpOpsIn,p1,Region.wanted,if_true];refine z4a (o:=⟨some d,.buildSlice t len parts,ty,pos,af,none⟩) rfl rfl hn he h hc.1 hc.2 R0 _ _ fun b hb hw G' a' w' R'=>?_;exact CU (k b hb hw) (m+1) p3 G' a' w' R'
end
end
section
variable {gl:AB}
theorem Tm.nextN_root (t:Tm)(room:Int)(h:t.rootN=true):t.nextN room=if room<t.growthN then (AI,true,false) else (t.reducedN,true,true):=by
 cases t;rw[nextN,h]
theorem Tm.nextN_args (t:Tm)(room:Int)(h:t.rootN=false):t.nextN room=match nextN.nexts t.args room with
  | (l,true,f)=>(.mk t.kind t.index t.type l,true,f)
  | (_,false,_)=>(t,false,true):=by
 cases t;rw[nextN,h];rfl
theorem Tm.nexts_found {room:Int}{x y:Tm}{f:Bool}(hx:x.nextN room=(y,true,f))(rest:List Tm):∀done:List Tm,(nextN.nexts done room).2.1=false->nextN.nexts (done++x::rest) room=(done++y::rest,true,f)
 | [],_=>by simp[nextN.nexts,hx]
 | a::r,h=>by
  simp only[nextN.nexts]at h;simp only[List.cons_append,nextN.nexts];rcases ha:a.nextN room with⟨z,b,g⟩;rw[ha]at h;cases b with
  | true=>simp at h
  | false=>
   simp only at h ⊢;have hr:(nextN.nexts r room).2.1=false:=by
    rcases hq:nextN.nexts r room with⟨u,v,w⟩;rw[hq]at h;exact h
   rw[nexts_found hx rest r hr]
theorem Tm.nexts_none {room:Int}{x:Tm}(hx:(x.nextN room).2.1=false):∀done:List Tm,(nextN.nexts done room).2.1=false->(nextN.nexts (done++[x]) room).2.1=false
 | [],_=>by
  rcases hq:x.nextN room with⟨u,v,w⟩;rw[hq]at hx;simp only at hx;subst hx;simp[nextN.nexts,hq]
 | a::r,h=>by
  simp only[nextN.nexts]at h;simp only[List.cons_append,nextN.nexts];rcases ha:a.nextN room with⟨z,b,g⟩;rw[ha]at h;cases b with
  | true=>simp at h
  | false=>
   simp only at h ⊢;have hr:(nextN.nexts r room).2.1=false:=by
    rcases hq:nextN.nexts r room with⟨u,v,w⟩;rw[hq]at h;exact h
   have:=nexts_none hx r hr;rcases hq:nextN.nexts (r++[x]) room with⟨u,v,w⟩;rw[hq]at this;exact this
theorem cV (b:Nat)(ys:List (List DV))(k:IntKind)(n:Int):IR b ys (.v (.prim (.int k n))) = .v (.prim (.int k n)):=rfl
theorem cW (b:Nat)(ys:List (List DV))(n:Int):IR b ys (.v (A0 n)) = .v (A0 n):=rfl
theorem cX (b:Nat)(ys:List (List DV))(n:Bool):IR b ys (.v (.prim (.bool n))) = .v (.prim (.bool n)):=rfl
theorem Z5 (b:Nat)(ys:List (List DV))(n:Bool):IR b ys (.v (AR n)) = .v (AR n):=rfl
theorem oY (b:Nat)(ys els:List (List DV)):IR b ys (.v (.sl els)) = .v (.sl els):=rfl
theorem gK (b:Nat)(ys:List (List DV))(cs:List DV):IR b ys (.v (.agg cs)) = .v (.agg cs):=rfl
theorem gL (b:Nat)(ys:List (List DV))(cs:List DV):IR b ys (.v (.tup cs)) = .v (.tup cs):=rfl
theorem z9v (b:Nat)(ys:List (List DV))(t:Tm):IR b ys (.v t.dv) = .v t.dv:=rfl
theorem gM (b:Nat)(ys:List (List DV))(k o:Nat):IR b ys (.loc k o) = .loc k o:=rfl
theorem oZ (b:Nat)(ys els:List (List DV))(k o:Nat):IR b ys (.dp els k o) = .dp els k o:=rfl
theorem gN (b:Nat)(ys els:List (List DV))(k:Nat):IR b ys (.own k els) = .own k els:=rfl
theorem gO (b:Nat)(ys:List (List DV))(p:Option Addr):IR b ys (.v (.prim (.pointer p))) = .v (.prim (.pointer p)):=rfl
theorem p5 {b:Nat}{ys:List (List DV)}{n cap:Nat}(h1:n=ys.length)(h2:n<=cap):IR b ys (.v (.prim (.slice (some ⟨b,0,none⟩) n cap))) = .v (.sl ys):=by
 show (if b=b/\n=ys.length/\n<=cap then _ else _)=_;rw[if_pos ⟨rfl,h1,h2⟩]
theorem z9w (t:Tm)(room:Int)(ht:t.shape=true)(hi:t.idx 549755813888)(hc:t.count<=1048576):cT gl 265 [t.dv,A0 room] [] (.tup [(t.nextN room).1.dv,AR (t.nextN room).2.1,AR (t.nextN room).2.2]) []:=by
 induction t using Tm.ind with
 | h t ih=>
 have hs:=(Tm.shape_node ht).2.2.2.2;have Iu:=((Tm.idx_eq t _).1 hi).2;refine A6 Tryz.func265 ?_;intro X hP u6 hf u8 hn hR u5 u4;have hlen:=Tm.fit_len (u4 t.dv sS);refine A2 ?_;refine A3 tT (zet t ht) ?_;by_cases Il:t.rootN=true
 ·refine A7 @Il ?_;refine A3 tT (z40 t ht Il hc) ?_;by_cases hg:room<t.growthN
  ·refine A7 @hg ?_;exact AT (j3 (Tm.nextN_root t room Il) @hg @AI.eq_1)
  ·refine A7 @hg ?_;refine A3 tT (wP t ht Il hi hc) ?_;exact AT (j2 (Tm.nextN_root t room Il) @hg)
 have hr:t.rootN=false:=by simpa using Il
 have Ap:=Tm.count_eq t;refine A7 @hr ?_;refine BR ?_;refine AA [] tT (DC (t.args) (fun done=>(Tm.nextN.nexts done room).2.1=false) (fun done rest=>[sV 1 (A0 room),sV 25 (A0 done.length),sV 24 (A0 t.args.length),sV 23 (.sl (t.args.map Tm.cells)),sL 4 [.v (A0 0),.v (A0 0),.v (A0 0),.own 0 [],.own 0 []],sP 4,sL 2 [.v (A0 t.kind),.v (A0 t.index),.v (A0 t.type.kind),.v (.sl (t.type.args.map Ty.cells)),.v (.sl (t.args.map Tm.cells))],sP 2]) (rfl) ?_ ?_)
 ·intro done x rest hL Ad hI u7;have Ac:done.length<t.args.length:=by rw[hL];simp
  have Aj:=uE Ad;have Bp:=Tm.count_mem Aj;refine A5 ?_;refine AQ ?_;refine A7 @Ad ?_;refine A3 @Ad (ih x Aj (hs x Aj) (Iu x Aj) oO) ?_;by_cases Bz:(x.nextN room).2.1=true
  ·refine BZ @Bz ?_;refine t_n @Bz ?_;refine A5 ?_;refine BR ?_;refine B4 [42] fun K hK=>?_;simp[go_sem,hP,u6,hn];refine oB (E:=5) (ys:=t.args.map Tm.cells) (by simp[go_sem]) (by simp[go_sem]) (by simp[go_sem,hP];rfl) dD (by simp[go_sem,hP]) (by rw[hn];exact uF rfl) (by simp[Tm.length_cells]) (by simp;omega) (by simp[I6];omega) (by rfl) ?_;intro b cap Bi Gy hw0;have Ot:(AP (t.args.map Tm.cells)).length=t.args.length * 5:=by rw[EU (E:=5) (by simp[Tm.length_cells])];simp
   simp[go_sem,hP,u6,hn];refine I7 ?_;clear hK K;have hbg:t.args.length<=I6:=by simp[I6];omega
   have Dy:done.length<t.args.length:=Ac;refine BR ?_;first|refine B4 [] fun K hK=>?_|refine AU (by rw[hP];exact BK) [] fun K hK=>?_
   refine rW (j4 @Ot @Dy @hbg @Ac) ?_;refine I7 ?_;clear hK K;have Lg:=z00 (ys:=t.args.map Tm.cells) (E:=5) (by simp[Tm.length_cells]) (i:=done.length) (by simpa using Ac) (z:=(x.nextN room).1.cells) (Tm.length_cells _);have hz:(x.nextN room).1.cells.map SV.v=[SV.v (A0 (x.nextN room).1.kind),SV.v (A0 (x.nextN room).1.index),SV.v (A0 (x.nextN room).1.type.kind),SV.v (.sl ((x.nextN room).1.type.args.map Ty.cells)),SV.v (.sl ((x.nextN room).1.args.map Tm.cells))]:=by rw[Tm.cells_eq];rfl
   rw[hz]at Lg;obtain⟨L',hL'⟩:∃L',L' = done++(x.nextN room).1::rest:=⟨_,rfl⟩;have hset:(t.args.map Tm.cells).set done.length (x.nextN room).1.cells=L'.map Tm.cells:=by rw[hL',hL];simp
   rw[Lg,hset];have Ic:t.args.length=(L'.map Tm.cells).length:=by rw[hL',hL];simp
   have Mh:L'.length<=2147483648:=by
    have:=congrArg List.length hL;rw[hL'];simp at this ⊢;omega
   have Zq:t.args.length<=cap:=by simpa using Bi
   have hx3:x.nextN room=((x.nextN room).1,true,(x.nextN room).2.2):=by rw[<- Bz]
   have hN:t.nextN room=(Tm.mk t.kind t.index t.type L',true,(x.nextN room).2.2):=by
    rw[Tm.nextN_args t room hr,hL,Tm.nexts_found hx3 rest done hI,hL']
   refine oC (b:=b) (E:=5) (ys:=L'.map Tm.cells) (by simp[go_sem]) (fun e he=>?_) (by simp[I6];omega) hw0 ?_;· obtain⟨q,_,rfl⟩:=List.mem_map.1 he;exact Tm.length_cells q
   simp[go_sem,frz,gD,NI,cV,cW,cX,Z5,oY,gK,gL,z9v,gM,oZ,gN,gO,p5 Ic Zq];refine A2 ?_;exact AT @hN
  ·have Ar:(x.nextN room).2.1=false:=by simpa using Bz
   refine CG (wr []) tT @Ar (u7 (Tm.nexts_none Ar done hI))
 ·intro hI;have hN:t.nextN room=(t,false,true):=by
   rw[Tm.nextN_args t room hr];rcases hq:Tm.nextN.nexts t.args room with⟨u,v,w⟩;rw[hq]at hI;simp only at hI;subst hI;rfl
  refine A5 ?_;refine B9 ?_;refine A2 ?_;exact AT @hN
def Tm.runOK:Nat->Tm->Bool
 | 0,t=>decide (t.checkN=0)&&t.leastN 549755813888
 | s+1,t=>decide (t.checkN=0)&&t.leastN 549755813888&&match t.nextN (4096 - t.count) with
  | (x,true,true)=>runOK s x
  | _=>true
theorem Tm.idx_of (t:Tm)(m:Int)(h:t.shape=true)(hm:t.leastN m=true):t.idx m:=by
 induction t using Tm.ind with
 | h t ih=>
 have hs:=Tm.shape_node h;rw[leastN_eq,uH]at hm;have key:∀l:List Tm,leastN.leasts l m=true->∀a∈l,a.leastN m=true:=by
  intro l
  induction l with
  | nil=>simp
  | cons a r Dk=>
   intro hl x hx;simp only[leastN.leasts,uH]at hl;rcases List.mem_cons.1 hx with rfl|hx;· exact hl.1
   ·exact Dk hl.2 x hx
 rw[idx_eq];refine⟨⟨hs.2.1,?_⟩,fun a ha=>ih a ha (hs.2.2.2.2 a ha) (key _ hm.2 a ha)⟩;have:=hm.1;simp at this;exact this
theorem Tm.runOK_head {n:Nat}{t:Tm}(h:t.runOK n=true):t.checkN=0/\t.leastN 549755813888=true:=by
 cases n with
 | zero=>simpa [runOK] using h
 | succ n=>simp only[runOK,uH,decide_eq_true_eq]at h;exact h.1
theorem Tm.runOK_next {n:Nat}{t x:Tm}(h:t.runOK (n+1)=true)(hx:t.nextN (4096 - t.count)=(x,true,true)):x.runOK n=true:=by
 simp only[runOK,uH]at h;rw[hx]at h;exact h.2
theorem Tm.loopN_end {k:Nat}{t:Tm}{n:Int}(h:(t.nextN (4096 - t.count)).2.1=false):loopN k t n=(t,n,0):=by
 rcases hq:t.nextN (4096 - t.count) with⟨u,v,w⟩;rw[hq]at h;simp only at h;subst h;cases k <;> simp[loopN,hq]
theorem Tm.loopN_zero {t:Tm}{n:Int}(h:(t.nextN (4096 - t.count)).2.1=true):loopN 0 t n=(AI,0,5):=by
 rcases hq:t.nextN (4096 - t.count) with⟨u,v,w⟩;rw[hq]at h;simp only at h;subst h;simp[loopN,hq]
theorem Tm.loopN_big {k:Nat}{t:Tm}{n:Int}(h:(t.nextN (4096 - t.count)).2.1=true)(h2:(t.nextN (4096 - t.count)).2.2=false):loopN (k+1) t n=(AI,0,4):=by
 rcases hq:t.nextN (4096 - t.count) with⟨u,v,w⟩;rw[hq]at h h2;simp only at h h2;subst h h2;simp[loopN,hq]
theorem Tm.loopN_on {k:Nat}{t:Tm}{n:Int}(h:(t.nextN (4096 - t.count)).2.1=true)(h2:(t.nextN (4096 - t.count)).2.2=true):loopN (k+1) t n=loopN k (t.nextN (4096 - t.count)).1 (n+1):=by
 rcases hq:t.nextN (4096 - t.count) with⟨u,v,w⟩;rw[hq]at h h2;simp only at h h2;subst h h2;simp[loopN,hq]
theorem gP (t:Tm)(n:Nat)(ht:t.tys)(hm:t.leastN 536870912=true)(Ww:n<=65536)(Aq:t.runOK n=true):cT gl 253 [t.dv,A0 n] [] (.tup [(Tm.loopN n t 0).1.dv,A0 (Tm.loopN n t 0).2.1,A0 (Tm.loopN n t 0).2.2]) []:=by
 have hk:=(Tm.runOK_head Aq).1;have Zz:=(Tm.checkN_iff t).1 hk;refine A6 Tryz.func253 ?_;intro X hP u6 hf u8 hn hR u5 u4;refine A2 ?_;refine A3 tT (G9 t ht oO) ?_;have e1:¬(n:Int)<0:=oO;have e2:¬65536<(n:Int):=oO;refine A7 @hk ?_;refine A3 (j3 @e1 @e2 @hm) (cG t 536870912) ?_;refine A7 @hm ?_;refine BR ?_;refine AA [] tT (E6 (fun x:Tm × Nat=>x.2<=n/\Tm.loopN x.2 x.1 ((n:Int) - x.2)=Tm.loopN n t 0/\x.1.runOK x.2=true) (fun x:Tm × Nat=>[sV 1 (A0 n),sV 8 (A0 ((n:Int) - x.2)),sL 4 [.v (A0 0),.v (A0 0),.v (A0 0),.own 0 [],.own 0 []],sP 4,sL 2 [.v (A0 x.1.kind),.v (A0 x.1.index),.v (A0 x.1.type.kind),.v (.sl (x.1.type.args.map Ty.cells)),.v (.sl (x.1.args.map Tm.cells))],sP 2]) (fun x:Tm × Nat=>x.2) (t,n) (⟨Nat.le_refl _,sS,Aq⟩) ?_);rintro⟨u,k⟩ ⟨Ts,hl,hu⟩ Cg;simp only at Ts hl hu ⊢;obtain⟨u1,u2⟩:=Tm.runOK_head hu;have uck:=(Tm.checkN_iff u).1 u1;have uix:=Tm.idx_of u _ uck.1 u2;refine A2 ?_;refine BL tT (BF u oO) (z9w u (4096 - u.count) uck.1 uix oO) ?_;by_cases Di:(u.nextN (4096 - u.count)).2.1=true
 ·cases k with
  | zero=>
   rw[Tm.loopN_zero Di]at hl;refine A7 @Di ?_;exact AT (j2 (hl).symm @AI.eq_1)
  | succ k=>
   have Au:¬(n:Int) - ((k+1:Nat):Int)=n:=oO;by_cases hg:(u.nextN (4096 - u.count)).2.2=true
   ·rw[Tm.loopN_on Di hg]at hl;have Oq:u.nextN (4096 - u.count)=((u.nextN (4096 - u.count)).1,true,true):=Prod.ext rfl (Prod.ext Di hg);have hrx:=Tm.runOK_next hu Oq;refine CG (wr []) tT (j3 @Di @hg @Au) (Cg ((u.nextN (4096 - u.count)).1,k) ⟨oO,by rw[<- hl];congr 1;simp only;omega,hrx⟩ (by simp only;omega))
   ·have Fs:(u.nextN (4096 - u.count)).2.2=false:=by simpa using hg
    rw[Tm.loopN_big Di Fs]at hl;refine A7 (j3 @Di @Fs @Au) ?_;exact AT (j2 (hl).symm @AI.eq_1)
 ·have Ze:(u.nextN (4096 - u.count)).2.1=false:=by simpa using Di
  rw[Tm.loopN_end Ze]at hl;refine A7 @Ze ?_;refine A3 tT (IV u) ?_;exact AT (hl).symm
end
section
theorem NL {Γ:List T}{t:Tm}{a:T}{F:BH Γ->a.V}(h:Dn Γ t a F)(hr:t.rootN=true):Dn Γ t.reducedN a F:=by
 cases h with
 | app hf hx=>
  have hk:((nT 3 _).argN 0).kind=2:=of_decide_eq_true hr;cases hf with
  | lam ha hb=>exact zjo hx hb
  | var h=>simp[Tm.argN,Tm.args,Tm.kind,vT,nT,D3,Tm.rootN]at hk
  | app h1 h2=>simp[Tm.argN,Tm.args,Tm.kind,vT,nT,D3,Tm.rootN]at hk
  | rc h1 h2 h3 h4=>simp[Tm.argN,Tm.args,Tm.kind,vT,nT,D3,Tm.rootN]at hk
  | fold h1 h2 h3 h4=>simp[Tm.argN,Tm.args,Tm.kind,vT,nT,D3,Tm.rootN]at hk
  | fst h1=>simp[Tm.argN,Tm.args,Tm.kind,vT,nT,D3,Tm.rootN]at hk
  | snd h1=>simp[Tm.argN,Tm.args,Tm.kind,vT,nT,D3,Tm.rootN]at hk
 | rc ha hb hf hn=>
  rename_i b f n B F N;have hk:n.kind=4\/n.kind=5:=by
   have:(decide (n.kind=4)||decide (n.kind=5))=true:=hr;rcases Bool.or_eq_true_iff.1 this with h|h;· exact .inl (of_decide_eq_true h)
   ·exact .inr (of_decide_eq_true h)
  cases hn with
  | zero=>exact hb
  | succ hx=>exact .app (.app hf hx) (.rc ha hb hf hx)
  | var h=>simp[Tm.argN,Tm.args,Tm.kind,vT,nT,D3,Tm.rootN]at hk
  | app h1 h2=>simp[Tm.argN,Tm.args,Tm.kind,vT,nT,D3,Tm.rootN]at hk
  | rc h1 h2 h3 h4=>simp[Tm.argN,Tm.args,Tm.kind,vT,nT,D3,Tm.rootN]at hk
  | fold h1 h2 h3 h4=>simp[Tm.argN,Tm.args,Tm.kind,vT,nT,D3,Tm.rootN]at hk
  | fst h1=>simp[Tm.argN,Tm.args,Tm.kind,vT,nT,D3,Tm.rootN]at hk
  | snd h1=>simp[Tm.argN,Tm.args,Tm.kind,vT,nT,D3,Tm.rootN]at hk
 | fold ha hb hf hn=>
  rename_i b f n B F N;have hk:n.kind=7\/n.kind=8:=by
   have:(decide (n.kind=7)||decide (n.kind=8))=true:=hr;rcases Bool.or_eq_true_iff.1 this with h|h;· exact .inl (of_decide_eq_true h)
   ·exact .inr (of_decide_eq_true h)
  cases hn with
  | nil=>exact hb
  | cons hx hl=>exact .app (.app (.app hf hx) hl) (.fold ha hb hf hl)
  | var h=>simp[Tm.argN,Tm.args,Tm.kind,vT,nT,D3,Tm.rootN]at hk
  | app h1 h2=>simp[Tm.argN,Tm.args,Tm.kind,vT,nT,D3,Tm.rootN]at hk
  | rc h1 h2 h3 h4=>simp[Tm.argN,Tm.args,Tm.kind,vT,nT,D3,Tm.rootN]at hk
  | fold h1 h2 h3 h4=>simp[Tm.argN,Tm.args,Tm.kind,vT,nT,D3,Tm.rootN]at hk
  | fst h1=>simp[Tm.argN,Tm.args,Tm.kind,vT,nT,D3,Tm.rootN]at hk
  | snd h1=>simp[Tm.argN,Tm.args,Tm.kind,vT,nT,D3,Tm.rootN]at hk
 | fst hx=>
  rename_i b x X;have hk:x.kind=10:=of_decide_eq_true hr;cases hx with
  | pair h1 h2=>exact h1
  | var h=>simp[Tm.argN,Tm.args,Tm.kind,vT,nT,D3,Tm.rootN]at hk
  | app h1 h2=>simp[Tm.argN,Tm.args,Tm.kind,vT,nT,D3,Tm.rootN]at hk
  | rc h1 h2 h3 h4=>simp[Tm.argN,Tm.args,Tm.kind,vT,nT,D3,Tm.rootN]at hk
  | fold h1 h2 h3 h4=>simp[Tm.argN,Tm.args,Tm.kind,vT,nT,D3,Tm.rootN]at hk
  | fst h1=>simp[Tm.argN,Tm.args,Tm.kind,vT,nT,D3,Tm.rootN]at hk
  | snd h1=>simp[Tm.argN,Tm.args,Tm.kind,vT,nT,D3,Tm.rootN]at hk
 | snd hx=>
  rename_i b x X;have hk:x.kind=10:=of_decide_eq_true hr;cases hx with
  | pair h1 h2=>exact h2
  | var h=>simp[Tm.argN,Tm.args,Tm.kind,vT,nT,D3,Tm.rootN]at hk
  | app h1 h2=>simp[Tm.argN,Tm.args,Tm.kind,vT,nT,D3,Tm.rootN]at hk
  | rc h1 h2 h3 h4=>simp[Tm.argN,Tm.args,Tm.kind,vT,nT,D3,Tm.rootN]at hk
  | fold h1 h2 h3 h4=>simp[Tm.argN,Tm.args,Tm.kind,vT,nT,D3,Tm.rootN]at hk
  | fst h1=>simp[Tm.argN,Tm.args,Tm.kind,vT,nT,D3,Tm.rootN]at hk
  | snd h1=>simp[Tm.argN,Tm.args,Tm.kind,vT,nT,D3,Tm.rootN]at hk
 | var h=>simp[Tm.argN,Tm.args,Tm.kind,vT,nT,D3,Tm.rootN]at hr
 | lam ha hb=>simp[Tm.argN,Tm.args,Tm.kind,vT,nT,D3,Tm.rootN]at hr
 | zero=>simp[Tm.argN,Tm.args,Tm.kind,vT,nT,D3,Tm.rootN]at hr
 | succ h1=>simp[Tm.argN,Tm.args,Tm.kind,vT,nT,D3,Tm.rootN]at hr
 | nil=>simp[Tm.argN,Tm.args,Tm.kind,vT,nT,D3,Tm.rootN]at hr
 | cons h1 h2=>simp[Tm.argN,Tm.args,Tm.kind,vT,nT,D3,Tm.rootN]at hr
 | pair h1 h2=>simp[Tm.argN,Tm.args,Tm.kind,vT,nT,D3,Tm.rootN]at hr
 | unit=>simp[Tm.argN,Tm.args,Tm.kind,vT,nT,D3,Tm.rootN]at hr
theorem Tm.next_root {t:Tm}{room:Int}(h:t.rootN=true):t.nextN room=if room<t.growthN then (AI,true,false) else (t.reducedN,true,true):=by
 cases t;rw[nextN,h]
theorem Tm.next_no {t:Tm}{room:Int}(h:t.rootN=false):t.nextN room=match nextN.nexts t.args room with
  | (l,true,f)=>(Tm.mk t.kind t.index t.type l,true,f)
  | (_,false,_)=>(t,false,true):=by
 cases t;rw[nextN,h];rfl
theorem Tm.nexts_some {l:List Tm}{room:Int}{m:List Tm}(h:nextN.nexts l room=(m,true,true)):∃l1 x y l2,l=l1++x::l2/\m=l1++y::l2/\x.nextN room=(y,true,true):=by
 induction l generalizing m with
 | nil=>simp[nextN.nexts]at h
 | cons a r ih=>
  simp only[nextN.nexts]at h;rcases ha:a.nextN room with⟨y,b,f⟩;rw[ha]at h;cases b with
  | true=>
   simp only[uD,true_and]at h;obtain⟨rfl,rfl⟩:=h;exact⟨[],a,y,r,rfl,rfl,ha⟩
  | false=>
   rcases hr:nextN.nexts r room with⟨m',b,f'⟩;rw[hr]at h;simp only[uD]at h;obtain⟨rfl,rfl,rfl⟩:=h;obtain⟨l1,x,y',l2,e1,e2,e3⟩:=ih hr;exact⟨a::l1,x,y',l2,by rw[e1];rfl,by rw[e2];rfl,e3⟩
theorem Tm.next_split {t x:Tm}{room:Int}(h:t.nextN room=(x,true,true)):(t.rootN=true/\x=t.reducedN/\t.growthN<=room)\/(t.rootN=false/\∃l1 u v l2,t.args=l1++u::l2/\x=Tm.mk t.kind t.index t.type (l1++v::l2)/\u.nextN room=(v,true,true)):=by
 cases hr:t.rootN with
 | true=>
  rw[next_root hr]at h;split at h;· simp at h
  ·rename_i Ac;simp only[uD,and_true]at h;exact .inl ⟨rfl,h.symm,oO⟩
 | false=>
  rw[next_no hr]at h;rcases hn:nextN.nexts t.args room with⟨m,b,f⟩;rw[hn]at h;cases b with
  | false=>simp at h
  | true=>
   simp only[uD,true_and]at h;obtain⟨rfl,rfl⟩:=h;obtain⟨l1,u,v,l2,e1,e2,e3⟩:=nexts_some hn;exact .inr ⟨rfl,l1,u,v,l2,e1,by rw[e2],e3⟩
theorem cY {a u:Tm}{l1 l2:List Tm}(h:[a]=l1++u::l2):l1=[]/\u=a/\l2=[]:=by
 cases l1 with
 | nil=>simp at h;exact⟨rfl,h.1.symm,h.2⟩
 | cons b r=>simp at h
theorem kS {a b u:Tm}{l1 l2:List Tm}(h:[a,b]=l1++u::l2):(l1=[]/\u=a/\l2=[b])\/(l1=[a]/\u=b/\l2=[]):=by
 cases l1 with
 | nil=>simp at h;exact .inl ⟨rfl,h.1.symm,h.2.symm⟩
 | cons c r=>
  simp at h;obtain⟨rfl,h⟩:=h;obtain⟨rfl,h2,h3⟩:=cY h;exact .inr ⟨rfl,h2,h3⟩
theorem z9x {a b c u:Tm}{l1 l2:List Tm}(h:[a,b,c]=l1++u::l2):(l1=[]/\u=a/\l2=[b,c])\/(l1=[a]/\u=b/\l2=[c])\/(l1=[a,b]/\u=c/\l2=[]):=by
 cases l1 with
 | nil=>simp at h;exact .inl ⟨rfl,h.1.symm,h.2.symm⟩
 | cons d r=>
  simp at h;obtain⟨rfl,h⟩:=h;rcases kS h with⟨rfl,h2,h3⟩|⟨rfl,h2,h3⟩;· exact .inr (.inl ⟨rfl,h2,h3⟩)
  ·exact .inr (.inr ⟨rfl,h2,h3⟩)
theorem TK {t x:Tm}{room:Int}{p:Prop}(h:t.nextN room=(x,true,true))(h1:t.rootN=false)(h2:t.args=[]):p:=by
 rcases Tm.next_split h with⟨hr,-,-⟩|⟨-,l1,u,v,l2,e1,-,-⟩;· rw[h1]at hr;cases hr
 ·rw[h2]at e1;cases l1 <;> simp at e1
theorem zf4 {Γ:List T}{t:Tm}{a:T}{F:BH Γ->a.V}(h:Dn Γ t a F):∀{room:Int} {x:Tm},t.nextN room=(x,true,true)->Dn Γ x a F:=by
 induction h with
 | var h=>intro room x hx;exact TK hx rfl rfl
 | zero=>intro room x hx;exact TK hx rfl rfl
 | nil=>intro room x hx;exact TK hx rfl rfl
 | unit=>intro room x hx;exact TK hx rfl rfl
 | lam ha hb ih=>
  intro room x hx;rcases Tm.next_split hx with⟨hr,-,-⟩|⟨-,l1,u,v,l2,e1,rfl,e3⟩;· simp[Tm.argN,Tm.args,Tm.kind,vT,nT,D3,Tm.rootN]at hr
  ·obtain⟨rfl,rfl,rfl⟩:=cY e1;exact .lam ha (ih e3)
 | app hf hx Cf Bx=>
  intro room x hn;rcases Tm.next_split hn with⟨hr,rfl,-⟩|⟨-,l1,u,v,l2,e1,rfl,e3⟩;· exact NL (.app hf hx) hr
  ·rcases kS e1 with⟨rfl,rfl,rfl⟩|⟨rfl,rfl,rfl⟩;· exact .app (Cf e3) hx
   ·exact .app hf (Bx e3)
 | succ hx ih=>
  intro room x hn;rcases Tm.next_split hn with⟨hr,-,-⟩|⟨-,l1,u,v,l2,e1,rfl,e3⟩;· simp[Tm.argN,Tm.args,Tm.kind,vT,nT,D3,Tm.rootN]at hr
  ·obtain⟨rfl,rfl,rfl⟩:=cY e1;exact .succ (ih e3)
 | rc ha hb hf hn Ck Cf Bt=>
  intro room x hx;rcases Tm.next_split hx with⟨hr,rfl,-⟩|⟨-,l1,u,v,l2,e1,rfl,e3⟩;· exact NL (.rc ha hb hf hn) hr
  ·rcases z9x e1 with⟨rfl,rfl,rfl⟩|⟨rfl,rfl,rfl⟩|⟨rfl,rfl,rfl⟩;· exact .rc ha (Ck e3) hf hn
   ·exact .rc ha hb (Cf e3) hn
   ·exact .rc ha hb hf (Bt e3)
 | cons hx hl Bx Kt=>
  intro room x hn;rcases Tm.next_split hn with⟨hr,-,-⟩|⟨-,l1,u,v,l2,e1,rfl,e3⟩;· simp[Tm.argN,Tm.args,Tm.kind,vT,nT,D3,Tm.rootN]at hr
  ·rcases kS e1 with⟨rfl,rfl,rfl⟩|⟨rfl,rfl,rfl⟩;· exact .cons (Bx e3) hl
   ·exact .cons hx (Kt e3)
 | fold ha hb hf hn Ck Cf Bt=>
  intro room x hx;rcases Tm.next_split hx with⟨hr,rfl,-⟩|⟨-,l1,u,v,l2,e1,rfl,e3⟩;· exact NL (.fold ha hb hf hn) hr
  ·rcases z9x e1 with⟨rfl,rfl,rfl⟩|⟨rfl,rfl,rfl⟩|⟨rfl,rfl,rfl⟩;· exact .fold ha (Ck e3) hf hn
   ·exact .fold ha hb (Cf e3) hn
   ·exact .fold ha hb hf (Bt e3)
 | pair hx hy Bx Ht=>
  intro room x hn;rcases Tm.next_split hn with⟨hr,-,-⟩|⟨-,l1,u,v,l2,e1,rfl,e3⟩;· simp[Tm.argN,Tm.args,Tm.kind,vT,nT,D3,Tm.rootN]at hr
  ·rcases kS e1 with⟨rfl,rfl,rfl⟩|⟨rfl,rfl,rfl⟩;· exact .pair (Bx e3) hy
   ·exact .pair hx (Ht e3)
 | fst hx ih=>
  intro room x hn;rcases Tm.next_split hn with⟨hr,rfl,-⟩|⟨-,l1,u,v,l2,e1,rfl,e3⟩;· exact NL (.fst hx) hr
  ·obtain⟨rfl,rfl,rfl⟩:=cY e1;exact .fst (ih e3)
 | snd hx ih=>
  intro room x hn;rcases Tm.next_split hn with⟨hr,rfl,-⟩|⟨-,l1,u,v,l2,e1,rfl,e3⟩;· exact NL (.snd hx) hr
  ·obtain⟨rfl,rfl,rfl⟩:=cY e1;exact .snd (ih e3)
def T.plain:T->Prop
 | .nat=>True
 | .list=>True
 | .unit=>True
 | .pair a b=>a.plain/\b.plain
 | .fn _ _=>False
def B2:(a:T)->a.V->Val
 | .nat,n=>Val.mk 1 (Int.ofNat n) [] []
 | .list,l=>Val.mk 2 0 (List.map Int.ofNat l) []
 | .unit,_=>Val.mk 4 0 [] []
 | .pair a b,p=>Val.mk 3 0 [] [B2 a p.1,B2 b p.2]
 | .fn _ _,_=>Val.mk 4 0 [] []
theorem AJ {Γ:List T}{t:Tm}{a:T}{F:BH Γ->a.V}(h:Dn Γ t a F):t.shape=true:=by
 have one:∀{x:Tm},x.shape=true->∀z∈[x],z.shape=true:=by intro x hx z hz;rw[List.mem_singleton.1 hz];exact hx
 have two:∀{x y:Tm},x.shape=true->y.shape=true->∀z∈[x,y],z.shape=true:=by
  intro x y hx hy z hz;simp at hz;rcases hz with rfl|rfl;exact hx;exact hy
 have three:∀{x y w:Tm},x.shape=true->y.shape=true->w.shape=true->∀z∈[x,y,w],z.shape=true:=by
  intro x y w hx hy hw z hz;simp at hz;rcases hz with rfl|rfl|rfl;exact hx;exact hy;exact hw
 induction h with
 | var h=>exact G7
 | lam ha hb ih=>exact HK rfl (.inl rfl) (T.ok_ty ha) (one ih)
 | app hf hx Cf Bx=>exact FN rfl dD (two Cf Bx)
 | zero=>rfl
 | succ hx ih=>exact FN rfl dD (one ih)
 | rc ha hb hf hn Ck Cf Bt=>exact HK rfl (.inr (.inl rfl)) (T.ok_ty ha) (three Ck Cf Bt)
 | nil=>rfl
 | cons hx hl Bx Kt=>exact FN rfl dD (two Bx Kt)
 | fold ha hb hf hn Ck Cf Bt=>exact HK rfl (.inr (.inr rfl)) (T.ok_ty ha) (three Ck Cf Bt)
 | pair hx hy Bx Ht=>exact FN rfl dD (two Bx Ht)
 | fst hx ih=>exact FN rfl dD (one ih)
 | snd hx ih=>exact FN rfl dD (one ih)
 | unit=>rfl
theorem At.lt {Γ:List T}{i:Nat}{a:T}{p:BH Γ->a.V}(h:At Γ i a p):i<Γ.length:=by
 have:=h.get;exact (uA this).1
theorem EK {Γ:List T}{t:Tm}{a:T}{F:BH Γ->a.V}(h:Dn Γ t a F):∀m:Int,(Γ.length:Int)+t.count<=m->t.leastN m=true:=by
 have Nf:∀(k:Int) (y:Ty) (m:Int),0<=m->(Tm.mk k 0 y []).leastN m=true:=by
  intro k y m hm;rw[Tm.leastN_eq];have h9:decide (m<(0:Int))=false:=decide_eq_false oO;simp[Tm.index,Tm.args,Tm.leastN.leasts,h9] <;> exact decide_eq_false oO
 have node1:∀(k:Int) (y:Ty) (x:Tm) (m:Int),0<=m->x.leastN m=true->(Tm.mk k 0 y [x]).leastN m=true:=by
  intro k y x m hm h1;rw[Tm.leastN_eq];have h9:decide (m<(0:Int))=false:=decide_eq_false oO;simp[Tm.index,Tm.args,Tm.leastN.leasts,h9,h1] <;> exact decide_eq_false oO
 have node2:∀(k:Int) (y:Ty) (x z:Tm) (m:Int),0<=m->x.leastN m=true->z.leastN m=true->(Tm.mk k 0 y [x,z]).leastN m=true:=by
  intro k y x z m hm h1 h2;rw[Tm.leastN_eq];have h9:decide (m<(0:Int))=false:=decide_eq_false oO;simp[Tm.index,Tm.args,Tm.leastN.leasts,h9,h1,h2] <;> exact decide_eq_false oO
 have node3:∀(k:Int) (y:Ty) (x z w:Tm) (m:Int),0<=m->x.leastN m=true->z.leastN m=true->w.leastN m=true->(Tm.mk k 0 y [x,z,w]).leastN m=true:=by
  intro k y x z w m hm h1 h2 h3;rw[Tm.leastN_eq];have h9:decide (m<(0:Int))=false:=decide_eq_false oO;simp[Tm.index,Tm.args,Tm.leastN.leasts,h9,h1,h2,h3] <;> exact decide_eq_false oO
 induction h with
 | var h=>
  intro m hm;have:=h.lt;rename_i Γ i a p;have h9:decide (m<((i:Nat):Int))=false:=decide_eq_false oO;rw[vT,Tm.leastN_eq];simp[Tm.index,Tm.args,Tm.leastN.leasts,h9] <;> exact decide_eq_false oO
 | lam ha hb ih=>
  intro m hm;rename_i Γ a r b f;have hc:(D3 a b).count=1+(b.count+0):=rfl;rw[hc]at hm;exact node1 _ _ _ _ oO (ih m (by simp only[List.length_cons];omega))
 | app hf hx Cf Bx=>
  intro m hm;rename_i Γ a b f x F X;have hc:(nT 3 [f,x]).count=1+(f.count+(x.count+0)):=rfl;rw[hc]at hm;exact node2 _ _ _ _ _ oO (Cf m oO) (Bx m oO)
 | zero=>intro m hm;exact Nf _ _ _ oO
 | succ hx ih=>
  intro m hm;rename_i Γ x X;have hc:(nT 5 [x]).count=1+(x.count+0):=rfl;rw[hc]at hm;exact node1 _ _ _ _ oO (ih m oO)
 | rc ha hb hf hn Ck Cf Bt=>
  intro m hm;rename_i Γ a b f n B F N;have hc:(Tm.mk 6 0 a.ty [b,f,n]).count=1+(b.count+(f.count+(n.count+0))):=rfl;rw[hc]at hm;exact node3 _ _ _ _ _ _ oO (Ck m oO) (Cf m oO) (Bt m oO)
 | nil=>intro m hm;exact Nf _ _ _ oO
 | cons hx hl Bx Kt=>
  intro m hm;rename_i Γ x l X L;have hc:(nT 8 [x,l]).count=1+(x.count+(l.count+0)):=rfl;rw[hc]at hm;exact node2 _ _ _ _ _ oO (Bx m oO) (Kt m oO)
 | fold ha hb hf hn Ck Cf Bt=>
  intro m hm;rename_i Γ a b f n B F N;have hc:(Tm.mk 9 0 a.ty [b,f,n]).count=1+(b.count+(f.count+(n.count+0))):=rfl;rw[hc]at hm;exact node3 _ _ _ _ _ _ oO (Ck m oO) (Cf m oO) (Bt m oO)
 | pair hx hy Bx Ht=>
  intro m hm;rename_i Γ a b x y X Y;have hc:(nT 10 [x,y]).count=1+(x.count+(y.count+0)):=rfl;rw[hc]at hm;exact node2 _ _ _ _ _ oO (Bx m oO) (Ht m oO)
 | fst hx ih=>
  intro m hm;rename_i Γ a b x X;have hc:(nT 11 [x]).count=1+(x.count+0):=rfl;rw[hc]at hm;exact node1 _ _ _ _ oO (ih m oO)
 | snd hx ih=>
  intro m hm;rename_i Γ a b x X;have hc:(nT 12 [x]).count=1+(x.count+0):=rfl;rw[hc]at hm;exact node1 _ _ _ _ oO (ih m oO)
 | unit=>intro m hm;exact Nf _ _ _ oO
theorem CP (t:Tm)(f b:Int):(t.upN f b).count=t.count:=by
 induction t using Tm.ind generalizing f with
 | h t ih=>
 rw[Tm.upN_eq,Tm.count_eq,Tm.count_eq t,Tm.args_mk];have key:∀l:List Tm,(∀a∈l,a∈t.args)->Tm.count.counts (l.map fun x=>x.upN (f+AX t.kind) b)=Tm.count.counts l:=by
  intro l
  induction l with
  | nil=>intro _;rfl
  | cons a r Dk=>intro h;simp only[List.map_cons,Tm.count.counts,ih a (h a sS),Dk fun b hb=>h b (by simp[hb])]
 rw[key t.args fun _ h=>h]
theorem cZ (t:Tm)(p d:Int)(s:Tm)(ht:t.shape=true):((t.inN p d s).count:Int)=t.count+t.timesN (p+d) * ((s.count:Int) - 1):=by
 induction t using Tm.ind generalizing d with
 | h t ih=>
 obtain⟨hlen,-,-,-,Dj⟩:=Tm.shape_node ht;rw[Tm.inN_eq];by_cases h1:t.kind=1
 ·have ha:t.args=[]:=by rw[h1]at hlen;simp[AO]at hlen;exact hlen
  have hc:t.count=1:=by rw[Tm.count_eq,ha];rfl
  have Zx:t.timesN (p+d)=if t.index=p+d then 1 else 0:=by
   rw[Tm.timesN_eq,ha];by_cases h2:t.index=p+d <;> simp[h1,h2,Tm.timesN.timess]
  rw[if_pos h1,hc,Zx];by_cases h2:t.index=p+d;· rw[if_pos h2,if_pos h2,CP];omega
  ·rw[if_neg h2,if_neg h2];split;· show ((1+0:Nat):Int)=_;omega
   ·rw[hc];omega
 ·rw[if_neg h1,Tm.count_eq,Tm.args_mk,Tm.count_eq t,Tm.timesN_eq,if_neg (fun h=>h1 h.1)];have key:∀l:List Tm,(∀a∈l,a∈t.args)->(Tm.count.counts (l.map fun x=>x.inN p (d+AX t.kind) s):Int)=Tm.count.counts l+Tm.timesN.timess l (p+d+AX t.kind) * ((s.count:Int) - 1):=by
   intro l
   induction l with
   | nil=>intro _;simp[Tm.count.counts,Tm.timesN.timess]
   | cons a r Dk=>
    intro h;have h3:=ih a (h a sS) (d+AX t.kind) (Dj a (h a sS));have h4:=Dk fun b hb=>h b (by simp[hb]);have e:p+(d+AX t.kind)=p+d+AX t.kind:=oO;rw[e]at h3;simp only[List.map_cons,Tm.count.counts,Tm.timesN.timess,Int.natCast_add,Int.add_mul];omega
  have:=key t.args fun _ h=>h;simp only[Int.natCast_add,Nat.zero_add];omega
theorem fH (t:Tm)(ht:t.shape=true)(hr:t.rootN=true):(t.reducedN.count:Int)=t.count+t.growthN:=by
 obtain⟨-,-,-,-,Dj⟩:=Tm.shape_node ht;unfold Tm.rootN at hr;by_cases h3:t.kind=3
 ·rw[if_pos h3]at hr;obtain⟨f,x,ha⟩:=Tm.parts2 ht (by rw[h3];rfl);have hf:t.argN 0=f:=by unfold Tm.argN;rw[ha];rfl
  have hx:t.argN 1=x:=by unfold Tm.argN;rw[ha];rfl
  rw[hf]at hr;have Cv:=Dj f (by rw[ha];simp);obtain⟨b,hb⟩:=Tm.parts1 Cv (by rw[of_decide_eq_true hr];rfl);have Ey:f.argN 0=b:=by unfold Tm.argN;rw[hb];rfl
  have hbs:=(Tm.shape_node Cv).2.2.2.2 b (by rw[hb];simp);unfold Tm.reducedN Tm.growthN;rw[if_pos h3,if_pos h3,hf,hx,Ey,cZ b 0 0 x hbs];simp only[Int.add_zero];omega
 rw[if_neg h3]at hr;by_cases h6:t.kind=6
 ·obtain⟨b,f,n,ha⟩:=Tm.parts3 ht (by rw[h6];rfl);have e0:t.argN 0=b:=by unfold Tm.argN;rw[ha];rfl
  have e1:t.argN 1=f:=by unfold Tm.argN;rw[ha];rfl
  have e2:t.argN 2=n:=by unfold Tm.argN;rw[ha];rfl
  have hc:t.count=1+(b.count+(f.count+(n.count+0))):=by rw[Tm.count_eq,ha];rfl
  rw[if_pos h6,e2]at hr;unfold Tm.reducedN Tm.growthN;rw[if_neg h3,if_pos h6,if_neg h3,if_pos h6,e0,e1,e2];by_cases hz:n.kind=4;· rw[if_pos hz,if_pos hz];omega
  ·rw[if_neg hz,if_neg hz];have h5:n.kind=5:=by
    rcases Bool.or_eq_true_iff.1 hr with h|h;· exact absurd (of_decide_eq_true h) hz
    ·exact of_decide_eq_true h
   obtain⟨m,hm⟩:=Tm.parts1 (Dj n (by rw[ha];simp)) (by rw[h5];rfl);have em:n.argN 0=m:=by unfold Tm.argN;rw[hm];rfl
   have Cq:n.count=1+(m.count+0):=by rw[Tm.count_eq,hm];rfl
   rw[em];have Vn:(Q9 (Q9 f m) (Tm.mk 6 0 t.type [b,f,m])).count=1+((1+(f.count+(m.count+0)))+((1+(b.count+(f.count+(m.count+0))))+0)):=rfl;rw[Vn];omega
 rw[if_neg h6]at hr;by_cases h9:t.kind=9
 ·obtain⟨b,f,n,ha⟩:=Tm.parts3 ht (by rw[h9];rfl);have e0:t.argN 0=b:=by unfold Tm.argN;rw[ha];rfl
  have e1:t.argN 1=f:=by unfold Tm.argN;rw[ha];rfl
  have e2:t.argN 2=n:=by unfold Tm.argN;rw[ha];rfl
  have hc:t.count=1+(b.count+(f.count+(n.count+0))):=by rw[Tm.count_eq,ha];rfl
  rw[if_pos h9,e2]at hr;unfold Tm.reducedN Tm.growthN;rw[if_neg h3,if_neg h6,if_pos h9,if_neg h3,if_neg h6,if_pos h9,e0,e1,e2];by_cases hz:n.kind=7;· rw[if_pos hz,if_pos hz];omega
  ·rw[if_neg hz,if_neg hz];have h5:n.kind=8:=by
    rcases Bool.or_eq_true_iff.1 hr with h|h;· exact absurd (of_decide_eq_true h) hz
    ·exact of_decide_eq_true h
   obtain⟨m,r,hm⟩:=Tm.parts2 (Dj n (by rw[ha];simp)) (by rw[h5];rfl);have em:n.argN 0=m:=by unfold Tm.argN;rw[hm];rfl
   have er:n.argN 1=r:=by unfold Tm.argN;rw[hm];rfl
   have Cq:n.count=1+(m.count+(r.count+0)):=by rw[Tm.count_eq,hm];rfl
   rw[em,er];have Vn:(Q9 (Q9 (Q9 f m) r) (Tm.mk 9 0 t.type [b,f,r])).count=1+((1+((1+(f.count+(m.count+0)))+(r.count+0)))+((1+(b.count+(f.count+(r.count+0))))+0)):=rfl;rw[Vn];omega
 rw[if_neg h9]at hr;have pairs:∀x:Tm,t.args=[x]->x.kind=10->∃u v,x.argN 0=u/\x.argN 1=v:=fun x _ _=>⟨_,_,rfl,rfl⟩;by_cases Bq:t.kind=11
 ·unfold Tm.reducedN Tm.growthN;rw[if_neg h3,if_neg h6,if_neg h9,if_pos Bq,if_neg h3,if_neg h6,if_neg h9,if_pos Bq];omega
 ·unfold Tm.reducedN Tm.growthN;rw[if_neg h3,if_neg h6,if_neg h9,if_neg Bq,if_neg h3,if_neg h6,if_neg h9,if_neg Bq];omega
theorem d7 (l1 l2:List Tm)(u:Tm):Tm.count.counts (l1++u::l2)=Tm.count.counts l1+u.count+Tm.count.counts l2:=by
 rw[Tm.counts_append];simp only[Tm.count.counts];omega
theorem xJ (t:Tm):t.shape=true->∀{room:Int} {x:Tm},t.nextN room=(x,true,true)->(x.count:Int)<=t.count+room:=by
 induction t using Tm.ind with
 | h t ih=>
 intro ht room x hx;rcases Tm.next_split hx with⟨hr,rfl,hg⟩|⟨-,l1,u,v,l2,e1,rfl,e3⟩;· have:=fH t ht hr;omega
 ·have hu:u∈t.args:=by rw[e1];simp
  have:=ih u hu ((Tm.shape_node ht).2.2.2.2 u hu) e3;rw[Tm.count_eq,Tm.args_mk,Tm.count_eq t,e1,d7,d7];omega
theorem kT {Γ:List T}{a:T}(Js:Γ.length<=1000000):∀(n:Nat) {t:Tm} {F:BH Γ->a.V},Dn Γ t a F->t.count<=4096->t.runOK n=true
 | 0,t,F,h,hc=>by
  have h1:=(Tm.checkN_iff t).2 ⟨AJ h,hc⟩;have h2:=EK h 549755813888 oO;simp[Tm.runOK,h1,h2]
 | n+1,t,F,h,hc=>by
  have h1:=(Tm.checkN_iff t).2 ⟨AJ h,hc⟩;have h2:=EK h 549755813888 oO;rcases hx:t.nextN (4096 - t.count) with⟨x,b,f⟩;simp only[Tm.runOK,h1,h2,hx];cases b with
  | false=>simp
  | true=>
   cases f with
   | false=>simp
   | true=>
    have:=xJ t (AJ h) hx;simp[kT Js n (zf4 h hx) oO]
theorem HU:∀(a:T) (v:a.V),a.plain->(B2 a v).nodesN.2=true/\(B2 a v).count<=a.size
 | .nat,n,_=>⟨by rw[Val.nodes_flat rfl];simp[B2,Val.okB,Val.kind,Val.num,Val.list,Val.args];exact decide_eq_true (Int.natCast_nonneg _),Nat.le_refl _⟩
 | .list,l,_=>⟨by rw[Val.nodes_flat rfl];simp[B2,Val.okB,Val.kind,Val.num,Val.list,Val.args];intro x hx;obtain⟨n,_,rfl⟩:=List.mem_map.1 hx;exact Int.natCast_nonneg _,Nat.le_refl _⟩
 | .unit,_,_=>⟨rfl,Nat.le_refl _⟩
 | .pair a b,p,h=>by
  obtain⟨a1,a2⟩:=HU a p.1 h.1;obtain⟨b1,b2⟩:=HU b p.2 h.2;refine⟨?_,?_⟩;· rw[Val.nodes_pair (v:=B2 (.pair a b) p) rfl,a1,b1];rfl
  ·show 1+((B2 a p.1).count+((B2 b p.2).count+0))<=1+a.size+b.size;omega
 | .fn _ _,_,h=>h.elim
theorem L2 {Γ:List T}{t:Tm}{a:T}{F:BH Γ->a.V}(h:Dn Γ t a F):t.closedN Γ.length=true:=by
 induction h with
 | @var Γ i a p h=>
  rw[Tm.closedN_eq,if_pos (show (vT i).kind=1 from rfl),uH];have:=h.lt;refine⟨decide_eq_true (show (0:Int)<=((i:Nat):Int) from oO),decide_eq_true (show ((i:Nat):Int).toNat<_ from oO)⟩
 | lam ha h ih=>rw[Tm.closedN_eq];exact (Tm.closeds_iff _ _).2 (by intro x hx;simp only[D3,Tm.args,List.mem_singleton]at hx;subst hx;exact ih)
 | app hf hx Cr Cg=>rw[Tm.closedN_eq];exact (Tm.closeds_iff _ _).2 (by intro x hx;simp only[nT,Tm.args,List.mem_cons,List.not_mem_nil,or_false]at hx;rcases hx with rfl|rfl;exact Cr;exact Cg)
 | zero=>rfl
 | succ hx ih=>rw[Tm.closedN_eq];exact (Tm.closeds_iff _ _).2 (by intro x hx;simp only[nT,Tm.args,List.mem_singleton]at hx;subst hx;exact ih)
 | rc ha hb hf hn Cr Cg Vj=>rw[Tm.closedN_eq];exact (Tm.closeds_iff _ _).2 (by intro x hx;simp only[Tm.args,List.mem_cons,List.not_mem_nil,or_false]at hx;rcases hx with rfl|rfl|rfl;exact Cr;exact Cg;exact Vj)
 | nil=>rfl
 | cons hx hl Cr Cg=>rw[Tm.closedN_eq];exact (Tm.closeds_iff _ _).2 (by intro x hx;simp only[nT,Tm.args,List.mem_cons,List.not_mem_nil,or_false]at hx;rcases hx with rfl|rfl;exact Cr;exact Cg)
 | fold ha hb hf hn Cr Cg Vj=>rw[Tm.closedN_eq];exact (Tm.closeds_iff _ _).2 (by intro x hx;simp only[Tm.args,List.mem_cons,List.not_mem_nil,or_false]at hx;rcases hx with rfl|rfl|rfl;exact Cr;exact Cg;exact Vj)
 | pair hx hy Cr Cg=>rw[Tm.closedN_eq];exact (Tm.closeds_iff _ _).2 (by intro x hx;simp only[nT,Tm.args,List.mem_cons,List.not_mem_nil,or_false]at hx;rcases hx with rfl|rfl;exact Cr;exact Cg)
 | fst hx ih=>rw[Tm.closedN_eq];exact (Tm.closeds_iff _ _).2 (by intro x hx;simp only[nT,Tm.args,List.mem_singleton]at hx;subst hx;exact ih)
 | snd hx ih=>rw[Tm.closedN_eq];exact (Tm.closeds_iff _ _).2 (by intro x hx;simp only[nT,Tm.args,List.mem_singleton]at hx;subst hx;exact ih)
 | unit=>rfl
theorem gQ (t:Tm)(b:Int):∀n:Nat,t.shape=true->t.closedN n=true->t.upN (n:Int) b=t:=by
 induction t using Tm.ind with
 | h t ih=>
 intro n hs hc;obtain⟨hlen,-,-,-,Dj⟩:=Tm.shape_node hs;rw[Tm.closedN_eq]at hc;rw[Tm.upN_eq];by_cases h1:t.kind=1
 ·rw[if_pos h1,uH]at hc;have c1:=of_decide_eq_true hc.1;have c2:=of_decide_eq_true hc.2;rw[if_neg oO];have ha:t.args=[]:=by rw[h1]at hlen;simp[AO]at hlen;exact hlen
  rw[ha,List.map_nil,<- ha];exact Tm.eta t
 ·rw[if_neg h1]at hc;rw[if_neg (fun h=>h1 h.1)];have hm:(t.args.map fun x=>x.upN ((n:Int)+AX t.kind) b)=t.args:=by
   conv=>rhs;rw[<- List.map_id t.args]
   refine List.map_congr_left fun x hx=>?_;have Br:=(Tm.closeds_iff _ _).1 hc x hx;by_cases h2:t.kind=2
   ·rw[if_pos h2]at Br;have:=ih x hx (n+1) (Dj x hx) Br;have hb:AX t.kind=1:=by simp[AX,h2]
    rw[hb]
    simpa using this
   ·rw[if_neg h2]at Br;have:=ih x hx n (Dj x hx) Br;have hb:AX t.kind=0:=by simp[AX,h2]
    rw[hb,Int.add_zero];exact this
  rw[hm];exact Tm.eta t
theorem zjr {t:Tm}{a:T}{F:BH []->a.V}(h:Dn [] t a F)(b:Int):t.upN 0 b=t:=gQ t b 0 (AJ h) (L2 h)
theorem B3 {t:Tm}{a:T}{F:BH []->a.V}(h:Dn [] t a F)(Γ:List T):Dn Γ t a (fun _=>F ()):=by
 have h1:=MI h Γ;rw[zjr h]at h1;have h2:Dn (Γ++[]) t a (fun _=>F ()):=h1.eq fun ρ=>rfl;have h3:∀L,L=Γ++[]->Dn L t a (fun _=>F ()):=by rintro _ rfl;exact h2
 exact h3 Γ (List.append_nil Γ).symm
def WJ:List Int->Int->Prop
 | [],_=>True
 | a::r,p=>a<=p/\(∀b∈r,a<b)/\WJ r p
theorem WJ.mono {l:List Int}{p q:Int}(h:WJ l p)(hq:p<=q):WJ l q:=by
 induction l with
 | nil=>trivial
 | cons a r ih=>exact⟨by have:=h.1;omega,h.2.1,ih h.2.2⟩
theorem WJ.snoc {l:List Int}{p:Int}(h:WJ l p){n:Int}(hn:p<n):WJ (l++[n]) n:=by
 induction l with
 | nil=>exact⟨Int.le_refl _,sS,trivial⟩
 | cons a r ih=>
  have h1:=h.1;refine⟨oO,fun b hb=>?_,ih h.2.2⟩;rcases List.mem_append.1 hb with hb|hb;· exact h.2.1 b hb
  ·simp at hb;omega
theorem WJ.after {l:List Int}{p:Int}(h:WJ l p):∀(j k:Nat) (n:Int),l[j]? = some n->j<k->l[k]?≠some n:=by
 induction l with
 | nil=>intro j k n hj;simp at hj
 | cons a r ih=>
  intro j k n hj hk;obtain⟨k,rfl⟩:∃k',k=k'+1:=⟨k - 1,oO⟩;cases j with
  | zero=>
   simp at hj;subst hj;intro hc;have:=h.2.1 _ (uE (by simpa using hc));omega
  | succ j=>simpa using ih h.2.2 j k n (by simpa using hj) oO
def fI (Δ:List T)(s:List Int)(n:Int)(a:T):Prop:=∃j:Nat,s[j]? = some n/\Δ[s.length - 1 - j]? = some a
theorem fI.up {Δ:List T}{s:List Int}{n m:Int}{a b:T}(h:fI Δ s n a):fI (b::Δ) (s++[m]) n a:=by
 obtain⟨j,h1,h2⟩:=h;have hj:=(uA h1).1;refine⟨j,by rw[List.getElem?_append_left hj];exact h1,?_⟩;rw[List.length_append,show s.length+[m].length - 1 - j=(s.length - 1 - j)+1 by simp;omega,List.getElem?_cons_succ];exact h2
theorem fI.new {Δ:List T}{s:List Int}{m:Int}{b:T}:fI (b::Δ) (s++[m]) m b:=by
 refine⟨s.length,sS,?_⟩;rw[List.length_append,show s.length+[m].length - 1 - s.length=0 from sS];rfl
def Sc (Δ:List T)(s:List Int)(p:Int):Prop:=s.length=Δ.length/\s.Nodup/\∀n∈s,n<=p
theorem Sc.push {Δ:List T}{s:List Int}{p n:Int}(h:Sc Δ s p)(b:T)(hn:p<n):Sc (b::Δ) (s++[n]) n:=by
 obtain⟨h1,h2,h3⟩:=h;refine⟨by simp[h1],?_,?_⟩
 ·rw[List.nodup_append];refine⟨h2,sS,fun x hx y hy=>?_⟩;rw[List.mem_singleton.1 hy];have:=h3 x hx;omega
 ·intro x hx;rcases List.mem_append.1 hx with hx|hx;· have:=h3 x hx;omega
  ·simp at hx;omega
theorem Sc.mono {Δ:List T}{s:List Int}{p q:Int}(h:Sc Δ s p)(hq:p<=q):Sc Δ s q:=⟨h.1,h.2.1,fun x hx=>by have:=h.2.2 x hx;omega⟩
theorem fI.rep {Δ:List T}{s:List Int}{p n:Int}{a:T}(h:fI Δ s n a)(hs:Sc Δ s p):∃(u:Tm) (G:BH Δ->a.V),Rep s (vT n) u/\Dn Δ u a G/\u.count=1:=by
 obtain⟨j,h1,h2⟩:=h;have hj:=(uA h1).1;obtain⟨G,hG⟩:=At.of h2;refine⟨vT ((s.length:Int) - 1 - (j:Int)),G,.var h1 fun k hk hh=>?_,?_,rfl⟩
 ·have Ax:=(uA hh).1;have e1:=(uA h1).2;have e2:=(uA hh).2;exact List.pairwise_iff_getElem.1 hs.2.1 j k hj Ax hk (e1.trans e2.symm)
 ·rw[show (s.length:Int) - 1 - (j:Int)=((s.length - 1 - j:Nat):Int) from oO];exact .var hG
def NE (Γ Δ:List T)(s:List Int)(vs:List Tm):Prop:=vs.length=Γ.length/\∀i a,Γ[i]? = some a->∃n,vs[vs.length - 1 - i]? = some (vT n)/\fI Δ s n a
theorem NE.nil {Δ:List T}{s:List Int}:NE [] Δ s []:=⟨rfl,fun i a h=>by simp at h⟩
theorem NE.skip {Γ Δ:List T}{s:List Int}{vs:List Tm}(h:NE Γ Δ s vs)(b:T)(m:Int):NE Γ (b::Δ) (s++[m]) vs:=⟨h.1,fun i a hi=>by
 obtain⟨n,h1,h2⟩:=h.2 i a hi;exact⟨n,h1,h2.up⟩⟩
theorem NE.push {Γ Δ:List T}{s:List Int}{vs:List Tm}(h:NE Γ Δ s vs)(b:T)(m:Int):NE (b::Γ) (b::Δ) (s++[m]) (vs++[vT m]):=by
 refine⟨by simp[h.1],fun i a hi=>?_⟩;cases i with
 | zero=>
  have hi:b=a:=by simpa using hi
  subst hi;exact⟨m,sS,.new⟩
 | succ i=>
  have hi:Γ[i]? = some a:=by simpa using hi
  have hl:=(uA hi).1;obtain⟨n,h1,h2⟩:=h.2 i a hi;have h0:=h.1;refine⟨n,?_,h2.up⟩;rw[List.length_append,show vs.length+[vT m].length - 1 - (i+1)=vs.length - 1 - i by simp;omega,List.getElem?_append_left oO];exact h1
theorem kU {k:Int}(h1:k≠1)(h2:k≠2)(y:Ty)(a:Tm)(vs:List Tm)(p:Int):(B0 vs p (Tm.mk k 0 y [a])).1=Tm.mk k 0 y [(B0 vs p a).1]:=by
 rw[LX,if_neg (show ¬(Tm.mk k 0 y [a]).kind=1 from h1),if_neg (show ¬(Tm.mk k 0 y [a]).kind=2 from h2)];rfl
theorem kV {k:Int}(h1:k≠1)(h2:k≠2)(y:Ty)(a b:Tm)(vs:List Tm)(p:Int):(B0 vs p (Tm.mk k 0 y [a,b])).1=Tm.mk k 0 y [(B0 vs p a).1,(B0 vs (B0 vs p a).2 b).1]:=by
 rw[LX,if_neg (show ¬(Tm.mk k 0 y [a,b]).kind=1 from h1),if_neg (show ¬(Tm.mk k 0 y [a,b]).kind=2 from h2)];rfl
theorem z04 {k:Int}(h1:k≠1)(h2:k≠2)(y:Ty)(a b c:Tm)(vs:List Tm)(p:Int):(B0 vs p (Tm.mk k 0 y [a,b,c])).1=Tm.mk k 0 y [(B0 vs p a).1,(B0 vs (B0 vs p a).2 b).1,(B0 vs (B0 vs (B0 vs p a).2 b).2 c).1]:=by
 rw[LX,if_neg (show ¬(Tm.mk k 0 y [a,b,c]).kind=1 from h1),if_neg (show ¬(Tm.mk k 0 y [a,b,c]).kind=2 from h2)];rfl
theorem kW {k:Int}(h1:k≠1)(h2:k≠2)(y:Ty)(vs:List Tm)(p:Int):(B0 vs p (Tm.mk k 0 y [])).1=Tm.mk k 0 y []:=by
 rw[LX,if_neg (show ¬(Tm.mk k 0 y []).kind=1 from h1),if_neg (show ¬(Tm.mk k 0 y []).kind=2 from h2)];rfl
def Nm (Δ:List T)(s:List Int)(x:Tm)(a:T)(c:Nat):Prop:=∃(u:Tm) (G:BH Δ->a.V),Rep s x u/\Dn Δ u a G/\u.count=c
theorem Nm.count {Δ:List T}{s:List Int}{x:Tm}{a:T}{c:Nat}(h:Nm Δ s x a c):x.count=c:=by
 obtain⟨u,G,h1,h2,h3⟩:=h;rw[h1.count,h3]
theorem Nm.lam {Δ:List T}{s:List Int}{x:Tm}{a b:T}{c:Nat}{m:Int}(ha:a.ok)(h:Nm (a::Δ) (s++[m]) x b c):Nm Δ s (Tm.mk 2 m a.ty [x]) (.fn a b) (1+c):=by
 obtain⟨u,G,h1,h2,h3⟩:=h;exact⟨_,_,.lam h1,.lam ha h2,by show 1+(u.count+0)=1+c;omega⟩
theorem Nm.app {Δ:List T}{s:List Int}{x y:Tm}{a b:T}{c d:Nat}(h:Nm Δ s x (.fn a b) c)(h':Nm Δ s y a d):Nm Δ s (nT 3 [x,y]) b (1+(c+d)):=by
 obtain⟨u,G,h1,h2,h3⟩:=h;obtain⟨v,H,k1,k2,k3⟩:=h';exact⟨_,_,.n2 dD dD h1 k1,.app h2 k2,by show 1+(u.count+(v.count+0))=_;omega⟩
theorem Nm.rc {Δ:List T}{s:List Int}{x y z:Tm}{a:T}{c d e:Nat}(ha:a.ok)(h:Nm Δ s x a c)(h':Nm Δ s y (.fn .nat (.fn a a)) d)(Xu:Nm Δ s z .nat e):Nm Δ s (Tm.mk 6 0 a.ty [x,y,z]) a (1+(c+(d+e))):=by
 obtain⟨u,G,h1,h2,h3⟩:=h;obtain⟨v,H,k1,k2,k3⟩:=h';obtain⟨w,I,l1,l2,l3⟩:=Xu;exact⟨_,_,.n3 dD dD h1 k1 l1,.rc ha h2 k2 l2,by show 1+(u.count+(v.count+(w.count+0)))=_;omega⟩
theorem Nm.fold {Δ:List T}{s:List Int}{x y z:Tm}{a:T}{c d e:Nat}(ha:a.ok)(h:Nm Δ s x a c)(h':Nm Δ s y (.fn .nat (.fn .list (.fn a a))) d)(Xu:Nm Δ s z .list e):Nm Δ s (Tm.mk 9 0 a.ty [x,y,z]) a (1+(c+(d+e))):=by
 obtain⟨u,G,h1,h2,h3⟩:=h;obtain⟨v,H,k1,k2,k3⟩:=h';obtain⟨w,I,l1,l2,l3⟩:=Xu;exact⟨_,_,.n3 dD dD h1 k1 l1,.fold ha h2 k2 l2,by show 1+(u.count+(v.count+(w.count+0)))=_;omega⟩
theorem aJ {Γ:List T}{t:Tm}{a:T}{F:BH Γ->a.V}(h:Dn Γ t a F):∀{Δ:List T} {s:List Int} {vs:List Tm} {p:Int},NE Γ Δ s vs->Sc Δ s p->Nm Δ s (B0 vs p t).1 a t.count:=by
 induction h with
 | @var Γ i a q hv=>
  intro Δ s vs p hE hS;obtain⟨n,h1,h2⟩:=hE.2 i a hv.get;rw[LX,if_pos (show (vT (i:Int)).kind=1 from rfl)];show Nm Δ s (vs.getD (vs.length - 1 - ((i:Int)).toNat) AI) a _;rw[Int.toNat_natCast,List.getD_eq_getElem?_getD,h1];exact h2.rep hS
 | @lam Γ a r b f ha hb ih=>
  intro Δ s vs p hE hS;rw[LX,if_neg (show ¬(D3 a b).kind=1 by show ¬(2:Int)=1;decide),if_pos (show (D3 a b).kind=2 from rfl)];show Nm Δ s (Tm.mk 2 (p+1) a.ty [(B0 (vs++[vT (p+1)]) (p+1) b).1]) _ (1+(b.count+0));rw[Nat.add_zero];exact .lam ha (ih (hE.push a (p+1)) (hS.push a oO))
 | @app Γ a b f x F X hf hx i1 i2=>
  intro Δ s vs p hE hS;show Nm Δ s (B0 vs p (Tm.mk 3 0 (Ty.mk 0 []) [f,x])).1 _ (1+(f.count+(x.count+0)));rw[kV dD dD,Nat.add_zero];exact .app (i1 hE hS) (i2 hE (hS.mono (JA f vs p).1))
 | zero=>
  intro Δ s vs p hE hS;show Nm Δ s (B0 vs p (Tm.mk 4 0 (Ty.mk 0 []) [])).1 _ 1;rw[kW dD dD];exact⟨_,_,.n0 _ _ dD dD,.zero,rfl⟩
 | @succ Γ x X hx i1=>
  intro Δ s vs p hE hS;obtain⟨u,G,h1,h2,h3⟩:=i1 hE hS;show Nm Δ s (B0 vs p (Tm.mk 5 0 (Ty.mk 0 []) [x])).1 _ (1+(x.count+0));rw[kU dD dD,<- h3];exact⟨_,_,.n1 dD dD h1,.succ h2,rfl⟩
 | @rc Γ a b f n B F N ha hb hf hn i1 i2 i3=>
  intro Δ s vs p hE hS;have q1:=(JA b vs p).1;have q2:=(JA f vs (B0 vs p b).2).1;show Nm Δ s (B0 vs p (Tm.mk 6 0 a.ty [b,f,n])).1 _ (1+(b.count+(f.count+(n.count+0))));rw[z04 dD dD,Nat.add_zero];exact .rc ha (i1 hE hS) (i2 hE (hS.mono q1)) (i3 hE (hS.mono (Int.le_trans q1 q2)))
 | nil=>
  intro Δ s vs p hE hS;show Nm Δ s (B0 vs p (Tm.mk 7 0 (Ty.mk 0 []) [])).1 _ 1;rw[kW dD dD];exact⟨_,_,.n0 _ _ dD dD,.nil,rfl⟩
 | @cons Γ x l X L hx hl i1 i2=>
  intro Δ s vs p hE hS;obtain⟨u,G,h1,h2,h3⟩:=i1 hE hS;obtain⟨v,H,k1,k2,k3⟩:=i2 hE (hS.mono (JA x vs p).1);show Nm Δ s (B0 vs p (Tm.mk 8 0 (Ty.mk 0 []) [x,l])).1 _ (1+(x.count+(l.count+0)));rw[kV dD dD,<- h3,<- k3];exact⟨_,_,.n2 dD dD h1 k1,.cons h2 k2,rfl⟩
 | @fold Γ a b f n B F N ha hb hf hn i1 i2 i3=>
  intro Δ s vs p hE hS;have q1:=(JA b vs p).1;have q2:=(JA f vs (B0 vs p b).2).1;show Nm Δ s (B0 vs p (Tm.mk 9 0 a.ty [b,f,n])).1 _ (1+(b.count+(f.count+(n.count+0))));rw[z04 dD dD,Nat.add_zero];exact .fold ha (i1 hE hS) (i2 hE (hS.mono q1)) (i3 hE (hS.mono (Int.le_trans q1 q2)))
 | @pair Γ a b x y X Y hx hy i1 i2=>
  intro Δ s vs p hE hS;obtain⟨u,G,h1,h2,h3⟩:=i1 hE hS;obtain⟨v,H,k1,k2,k3⟩:=i2 hE (hS.mono (JA x vs p).1);show Nm Δ s (B0 vs p (Tm.mk 10 0 (Ty.mk 0 []) [x,y])).1 _ (1+(x.count+(y.count+0)));rw[kV dD dD,<- h3,<- k3];exact⟨_,_,.n2 dD dD h1 k1,.pair h2 k2,rfl⟩
 | @fst Γ a b x X hx i1=>
  intro Δ s vs p hE hS;obtain⟨u,G,h1,h2,h3⟩:=i1 hE hS;show Nm Δ s (B0 vs p (Tm.mk 11 0 (Ty.mk 0 []) [x])).1 _ (1+(x.count+0));rw[kU dD dD,<- h3];exact⟨_,_,.n1 dD dD h1,.fst h2,rfl⟩
 | @snd Γ a b x X hx i1=>
  intro Δ s vs p hE hS;obtain⟨u,G,h1,h2,h3⟩:=i1 hE hS;show Nm Δ s (B0 vs p (Tm.mk 12 0 (Ty.mk 0 []) [x])).1 _ (1+(x.count+0));rw[kU dD dD,<- h3];exact⟨_,_,.n1 dD dD h1,.snd h2,rfl⟩
 | unit=>
  intro Δ s vs p hE hS;show Nm Δ s (B0 vs p (Tm.mk 13 0 (Ty.mk 0 []) [])).1 _ 1;rw[kW dD dD];exact⟨_,_,.n0 _ _ dD dD,.unit,rfl⟩
end
end Go.Proofs.YtkfiobkjflmchaaGreatDoor.Lift
