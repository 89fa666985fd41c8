import Derived.Test.YtkfiobkjflmchaaGreatDoorQn14
set_option maxHeartbeats 8000000
set_option maxRecDepth 100000
set_option linter.unusedSimpArgs false
set_option linter.unusedVariables false
set_option linter.unnecessarySimpa false
namespace Go.Proofs.YtkfiobkjflmchaaGreatDoor.Lift
open Go
section
variable {gl:AB}
theorem XD (Cj:FQ gl 0=some IL)(l:List Int):cT gl 3 [.sl (AH l)] [] (AR true) []:=by
 have wa:=yN Cj;refine A6 Tryz.func3 ?_;intro X hP u6 hf u8 hn hR u5 u4;by_cases hl:l.length<=500;rotate_left
 ·refine A2 ?_;refine BL @hl wa (z9a l) ?_;refine A2 ?_;refine A3 tT wa ?_;exact AM
 refine A2 ?_;refine BL @hl wa (z9a l) ?_;refine A2 ?_;refine BR ?_;first|refine B4 [] fun K hK=>?_|refine AU (by rw[hP];exact BK) [] fun K hK=>?_
 refine K0 ?_;repeat (refine⟨oO,?_⟩)
 refine P9 hP u6 (zjj l) (by simp[go_sem]) rfl (by simp[go_sem]) sS (by rw[hn];exact uF rfl) ?_;rintro rr φ ⟨b,rfl,rfl⟩ -;simp[go_sem,hP,u6,hn];refine I7 ?_;clear hK K;refine BR ?_;first|refine B4 [] fun K hK=>?_|refine AU (by rw[hP];exact BK) [] fun K hK=>?_
 refine K0 ?_;repeat (refine⟨oO,?_⟩)
 refine P9 hP u6 (rU b l 0 hl oO) (by simp[go_sem]) rfl (by simp[go_sem]) sS (by rw[hn];exact uF rfl) ?_;rintro rr φ ⟨f,p,q,e0,l0,S0,hq,rfl,rfl⟩ -;have Jh:p.kind=8:=by obtain⟨a,fi,n,-,-,-,h,-⟩:=S0;exact h
 obtain⟨a,fi,t,e,ha,Bz,hle,hT,w⟩:=z5u l0 S0;have h1:=Fm.fold f;have h2:=Fm.cells_eq f;have h4:=Pf.fold p;have h5:=Pf.cells_eq p;have As:=Tm.fold t;have Ap:=Tm.cells_eq t;simp[go_sem,hP,u6,hn,h2,h5];refine I7 ?_;clear hK K;refine A2 ?_;refine A3 (j2 @h4 @Ap) w ?_;by_cases q1:e=0;rotate_left
 ·have wl:=OQ (gl:=gl) e;have Bw:Y6 e=true:=by
   rcases hle with h|h|h|h;· exact absurd h q1
   ·rw[h];rfl
   ·rw[h];rfl
   ·rw[h];rfl
  rw[Bw]at wl;refine A7 @q1 ?_;refine A3 tT wl ?_;exact AM
 obtain⟨tc,G,f7⟩:=hT q1;have Dm:a.plain:=by rcases ha with rfl|rfl <;> trivial
 have hpy:a.ty.plain:=by rcases ha with rfl|rfl <;> exact⟨fun h=>absurd h dD,trivial⟩
 have Po:a.ok:=by rcases ha with rfl|rfl <;> exact (by decide:(1:Nat)<=64)
 have wv:=z9e (gl:=gl) a.ty b l q hl hq hpy;obtain⟨x,hx,Ya⟩:=kZ l a q Dm;have Al:f.type=a.ty:=by rw[Bz];rfl
 rw[hx]at wv;generalize (GY l a.ty q).2=q2 at *;obtain⟨P,Gm,g1,g2,g3,g4⟩:=lL (ls:=[a]) (r:=.nat) f7;have f2:JJ [a]:=⟨Dm,Po,trivial⟩;have f5:T.nat.plain:=trivial;have f6:T.nat.ok:=by show (1:Nat)<=64;decide
 obtain⟨c,d,Bp⟩:=ZH (l:=[a]) (r:=.nat) f7 (show BH [a] from (x,())) f2 f5;obtain⟨c',d',Pq⟩:=ZH g1 (eG [a] (x,())) (VH f2) (L8 f5);have hmj:=qM [a] g3 (z0k [a] (x,()) f2);rw[<- g2]at hmj;have Kj:=lK f5 f6 hmj;have ww:=RA (gl:=gl) (ls:=[a]) (r:=.nat) Cj f7 oO g1 (x,()) _ _ Kj f2 sS f5 f6 (Bp d (Nat.le_refl _)) (Pq d' (Nat.le_refl _)) 50000 dD (MV.les_mono dD ⟨Ya,trivial⟩)
 have hw:=lN (A:=KS t (B2 .nat (WS [a] (G ()) (x,()))) c (50000:Nat)) (O:=fQ t (B2 T.nat.maj (WS ([a].map T.maj) (Gm ()) (eG [a] (x,())))) c' (50000:Nat)) (by
  rcases Y4 t (B2 .nat (WS [a] (G ()) (x,()))) c (50000:Nat) with h|h|h;· exact .inl h
  ·exact .inr (.inl h)
  ·exact .inr (.inr h.1)) (by
  rcases z0m t (B2 T.nat.maj (WS ([a].map T.maj) (Gm ()) (eG [a] (x,())))) c' (50000:Nat) with h|h|h;· exact .inl h
  ·exact .inr (.inl h)
  ·exact .inr (.inr h.1))
 generalize KF (KS t (B2 .nat (WS [a] (G ()) (x,()))) c (50000:Nat)) (fQ t (B2 T.nat.maj (WS ([a].map T.maj) (Gm ()) (eG [a] (x,())))) c' (50000:Nat))=wr at *;obtain⟨wb,we⟩:=wr;simp only at hw ww;have Hw:(HG [a] (x,())).map Val.cells=[(B2 a x).cells]:=rfl;rw[Hw]at ww;have Cd:=Val.cells_eq (B2 a x);have Dw:=Val.fold (B2 a x);have Da:=Ty.fold a.ty;have If:=Ty.cells_eq a.ty;clear Bp Pq hmj Kj hx Ya g1 g2 g3 g4 hT f7;generalize B2 a x=v at *;rcases hw with rfl|rfl|⟨rfl,rfl⟩
 ·have wl:=OQ (gl:=gl) 4;rw[show Y6 4=true from rfl]at wl;refine A7 (j2 @q1 @Al) ?_;refine BL (j5 @As @Al @Da @Cd @Dw) wv ww ?_;refine A2 ?_;refine A3 tT wl ?_;exact AM
 ·have wl:=OQ (gl:=gl) 5;rw[show Y6 5=true from rfl]at wl;refine A7 (j2 @q1 @Al) ?_;refine BL (j5 @As @Al @Da @Cd @Dw) wv ww ?_;refine A2 ?_;refine A3 tT wl ?_;exact AM
 ·have wl:=OQ (gl:=gl) 0;rw[show Y6 0=false from rfl]at wl;refine A7 (j2 @q1 @Al) ?_;refine BL (j5 @As @Al @Da @Cd @Dw) wv ww ?_;refine A2 ?_;refine A3 tT wl ?_;exact AM
end
end Go.Proofs.YtkfiobkjflmchaaGreatDoor.Lift
