import Derived.Test.YtkfiobkjflmchaaGreatDoorQn12
set_option maxHeartbeats 8000000
set_option maxRecDepth 100000
set_option linter.unusedSimpArgs false
set_option linter.unusedVariables false
set_option linter.unnecessarySimpa false
namespace Go.Proofs.YtkfiobkjflmchaaGreatDoor.Lift
open Go
section
variable {gl:AB}
theorem z0v {Γ:List T}{hs:List Fm}(k:CK Γ hs 1 1){f:Fm}(hf:FDn (.nat::Γ) f)(cf:f.count<=4096){t:Tm}{F:BH Γ->T.V .nat}(ht:Dn Γ t .nat F)(ct:t.count<=400000){a b:Pf}{fa fb:Fm}{ea eb:Int}{na nb:Nat}(Wg:na+nb<=400000)
  (ha:KG gl Γ hs a fa ea na) (hb:KG gl (.nat::Γ) (JF hs 1++[f]) b fb eb nb) :
  ∃e,(e=0->ea=0/\eb=0/\f.typedN (gT (.nat::Γ))=0)/\(KK ea->KK eb->fa=f.inN 0 0 (nT 4 [])->fb=(f.upN 1 1).inN 0 0 (nT 5 [vT (0:Nat)])->KK e)/\X5 gl Γ hs (H2 16 f t a b) (f.inN 0 0 t) e (na+nb+t.count):=by
 have Le:gT (.nat::Γ)=gT Γ++[T.ty .nat]:=by simp[gT]
 have k2:CK (.nat::Γ) (JF hs 1) 0 1:=(k.less dD (Nat.le_refl 1)).below (by show _<=64;decide);have Mk:FDn (.nat::.nat::Γ) (f.upN 1 1):=l7 (Γ:=Γ) (Ξ:=[.nat]) hf [.nat] rfl;have Lj:=N4 f 1 1;have Ci:Dn (.nat::Γ) (nT 5 [vT (0:Nat)]) .nat _:=.succ (.var .zero);obtain⟨e1,r1,r2,w1⟩:=VK (gl:=gl) k ht oO 1 rfl;obtain⟨e2,u2,p1,p2,p3,Wq⟩:=N5 (gl:=gl) (k.less dD dD) ha hf oO (t:=(nT 4 [])) (F:=_) .zero dD;obtain⟨e3,u3,s1,s2,s3,Zo⟩:=N5 (gl:=gl) ((k2.with (hf) (by exact cf)).less dD dD) hb Mk oO (t:=(nT 5 [vT (0:Nat)])) Ci dD
 have w0:=TW (gl:=gl) hf (gT (.nat::Γ)) (ZN fun x hx=>by
  rcases List.mem_cons.1 hx with rfl|hx;· show _<=64;decide
  ·exact k.2.2.1 x hx) (by have:=k.1;simp only[I2,List.length_cons];omega) (by have:=k.1;simp only[List.length_cons];omega)
 have Ac:KK (HP f.chk (f.typedN (gT (.nat::Γ)))):=NR (LK _) (U3 hf);have hz:HP f.chk (f.typedN (gT (.nat::Γ)))=0->f.chk=0/\f.typedN (gT (.nat::Γ))=0:=DI;generalize HP f.chk (f.typedN (gT (.nat::Γ)))=e0 at *;have wp:=SW (gl:=gl) hf ht (by have:=k.1;omega) oO oO;have Dm:KK (Jj0 f t):=SM ht;have Lm:Jj0 f t=0->(f.inN 0 0 t).count<=4096:=fun h=>(PL hf h).1;have hdt:FDn Γ (f.inN 0 0 t):=WT ht hf;have wr:=U2 (gl:=gl) (gT Γ) hs 1 1 (by have:=k.1;simp only[I2];omega) (by have:=k.2.1;omega);have Mf:=QR (gl:=gl) [T.ty .nat] (gT Γ) hs (fun f hf=>⟨HY (k.2.2.2 f hf).1 _ (by have:=k.1;have:=(k.2.2.2 f hf).2;omega),(k.2.2.2 f hf).2⟩) dD (by have:=k.1;simp only[I2];omega) (by have:=k.2.1;omega);have Mf:cT gl 227 [RB (gT Γ) hs,.sl [[A0 1,.sl []]]] [] (RB (gT Γ++[T.ty .nat]) (JF hs 1)) []:=Mf;have ww:=Y8 (gl:=gl) (gT Γ++[T.ty .nat]) (JF hs 1) (f) (by have:=k.2.1;simp;omega);have Wm:=XV (gl:=gl) f 1 1 (HY hf _ (by have:=k.1;simp only[List.length_cons];omega)) dD dD dD oO;rw[Le]at Zo;rw[JE,show (gT Γ++[T.ty .nat]).map Ty.cells=(gT Γ).map Ty.cells++[[A0 1,.sl []]] by rw[List.map_append];rfl]at w0;have Vq:(gT Γ).length<=2147483647:=by have:=k.1;rw[I2];omega
 have wg:=aS (gl:=gl) t (AJ ht);have l1:=Pf.length_cells a;have l2:=Pf.length_cells b;have l3:=Fm.length_cells f;have l4:=Tm.length_cells t;have Av:=Fm.fold f;have As:=Tm.fold t;have Uo:=Fm.cells_eq (f.upN 1 1);have Vw:=BG (gl:=gl) 4 [];have Vw:cT gl 42 [A0 4,.sl []] [] ((nT 4 [])).dv []:=Vw;have Tv:=BG (gl:=gl) 5 [vT (0:Nat)];have Tv:cT gl 42 [A0 5,.sl [[A0 1,A0 0,A0 0,.sl [],.sl []]]] [] ((nT 5 [vT (0:Nat)])).dv []:=Tv;have Cy:t.idx 1099511627776:=Tm.idx_of t _ (AJ ht) (EK ht _ (by have:=k.1;omega));have hlu:(FE (FE (GF t) u2) (L9 u3 1)).length<=na+nb+t.count:=by
  have:=G5 (FE (GF t) u2) (L9 u3 1);have:=G5 (GF t) u2;have:=H7 t;have:=NY u3 1;omega
 have wu1:=M0 (gl:=gl) (GF t) u2 (by have:=H7 t;omega);have wu2:=M0 (gl:=gl) (FE (GF t) u2) (L9 u3 1) (by have:=H7 t;have:=G5 (GF t) u2;have:=NY u3 1;omega);have wo:=QS (gl:=gl) u3 1 oO;have hv:∀v,v=(if Jj0 f t=0 then f.inN 0 0 t else AF)->Jj0 f t=0->v=f.inN 0 0 t:=fun v h h0=>by rw[h,if_pos h0]
 generalize hvq:(if Jj0 f t=0 then f.inN 0 0 t else AF)=v at *;have hv:=hv v rfl;generalize Jj0 f t=pe at *;generalize FE (FE (GF t) u2) (L9 u3 1)=uu at *
 obtain⟨V,U,E,hx⟩:∃(V:Fm) (U:List Int) (E:Int),(e0≠0/\V=AF/\U=[]/\E=e0)\/(e0=0/\((e1≠0/\V=AF/\U=[]/\E=e1)\/(e1=0/\((e2≠0/\V=AF/\U=[]/\E=e2)\/(e2=0/\((e3≠0/\V=AF/\U=[]/\E=e3)\/(e3=0/\V=v/\U=uu/\E=pe))))))):=by
  by_cases q0:e0=0
  ·by_cases q1:e1=0
   ·by_cases q2:e2=0
    ·by_cases q3:e3=0;· exact⟨v,uu,pe,.inr ⟨q0,.inr ⟨q1,.inr ⟨q2,.inr ⟨q3,rfl,rfl,rfl⟩⟩⟩⟩⟩
     ·exact⟨AF,[],e3,.inr ⟨q0,.inr ⟨q1,.inr ⟨q2,.inl ⟨q3,rfl,rfl,rfl⟩⟩⟩⟩⟩
    ·exact⟨AF,[],e2,.inr ⟨q0,.inr ⟨q1,.inl ⟨q2,rfl,rfl,rfl⟩⟩⟩⟩
   ·exact⟨AF,[],e1,.inr ⟨q0,.inl ⟨q1,rfl,rfl,rfl⟩⟩⟩
  ·exact⟨AF,[],e0,.inl ⟨q0,rfl,rfl,rfl⟩⟩
 have hE:E=0->e0=0/\e1=0/\e2=0/\e3=0/\pe=0/\V=v:=by
  intro h;rcases hx with⟨q,-,-,q'⟩|⟨q0,⟨q,-,-,q'⟩|⟨q1,⟨q,-,-,q'⟩|⟨q2,⟨q,-,-,q'⟩|⟨q3,q4,-,q'⟩⟩⟩⟩;· exact absurd (q'.symm.trans h) q
  ·exact absurd (q'.symm.trans h) q
  ·exact absurd (q'.symm.trans h) q
  ·exact absurd (q'.symm.trans h) q
  ·exact⟨q0,q1,q2,q3,q'.symm.trans h,q4⟩
 have hU:U.length<=na+nb+t.count:=by
  rcases hx with⟨-,-,q,-⟩|⟨-,⟨-,-,q,-⟩|⟨-,⟨-,-,q,-⟩|⟨-,⟨-,-,q,-⟩|⟨-,-,q,-⟩⟩⟩⟩ <;> rw[q] <;> first|exact Nat.zero_le _|exact hlu
 refine⟨E,fun h=>⟨(p2 (hE h).2.2.1).1,(s2 (hE h).2.2.2.1).1,(hz (hE h).1).2⟩,fun g1 g2 g3 g4=>?_,V,U,hU,fun h=>?_,?_⟩
 ·rcases hx with⟨-,-,-,q⟩|⟨-,⟨-,-,-,q⟩|⟨-,⟨-,-,-,q⟩|⟨-,⟨-,-,-,q⟩|⟨-,-,-,q⟩⟩⟩⟩ <;> rw[q];· exact Ac
  ·exact r1
  ·exact p3 g1 g3
  ·exact s3 g2 g4
  ·exact Dm
 ·obtain⟨-,h1,-,-,h4,h5⟩:=hE h;exact⟨h5.trans (hv h4),hdt,by have:=Lm h4;omega⟩
 have Cd:=Fm.cells_eq v;have Xf:=Fm.cells_eq V;have w:cT gl 188 [RB (gT Γ) hs,(H2 16 f t a b).dv] [] (.tup [V.dv,.sl (AH U),A0 E]) []:=by
  rw[IH];refine A6 Tryz.func188 ?_;intro X hP u6 hf u8 hn hR u5 u4;refine A2 ?_;refine BL (j3 @Av @IX @Ty.length_cells) BE w0 ?_;rcases hx with⟨q0,rfl,rfl,rfl⟩|⟨q0,hx⟩
  ·refine A7 @q0 ?_;refine EO ?_;simp[go_sem,hP,u6,hn,AF,AK] <;> (try omega);all_goals exact RH
  refine A7 @q0 ?_;refine A3 @As w1 ?_;rcases hx with⟨q1,rfl,rfl,rfl⟩|⟨q1,hx⟩
  ·refine A7 @q1 ?_;refine EO ?_;simp[go_sem,hP,u6,hn,AF,AK] <;> (try omega);all_goals exact RH
  have wf:=wg (r2 q1) Cy;refine A7 @q1 ?_;refine BL @Av Vw Wq ?_;rcases hx with⟨q2,rfl,rfl,rfl⟩|⟨q2,hx⟩
  ·refine A7 @q2 ?_;refine EO ?_;simp[go_sem,hP,u6,hn,AF,AK] <;> (try omega);all_goals exact RH
  refine A7 @q2 ?_;refine A3 tT wr ?_;refine A2 ?_;refine cC (j2 @Av @Uo) BE Mf ww Wm (FX 0) Tv Zo ?_;rcases hx with⟨q3,rfl,rfl,rfl⟩|⟨q3,rfl,rfl,rfl⟩
  ·refine A7 @q3 ?_;refine EO ?_;simp[go_sem,hP,u6,hn,AF,AK] <;> (try omega);all_goals exact RH
  refine A7 @q3 ?_;refine A3 (j3 @Av @As @Cd) wp ?_;refine A2 ?_;refine IS @As wf wu1 wo wu2 ?_;exact AC (j2 @Cd @AK)
 rw[IH]at w ⊢;refine A6 Tryz.func130 ?_;intro X hP u6 hf u8 hn hR u5 u4;refine A2 ?_;refine A3 @Xf w ?_;exact AC (j2 @Xf @AK)
theorem z5h {Γ:List T}{hs:List Fm}(k:CK Γ hs 2 1){f:Fm}(hf:FDn (.list::Γ) f)(cf:f.count<=4096){t:Tm}{F:BH Γ->T.V .list}(ht:Dn Γ t .list F)(ct:t.count<=400000){a b:Pf}{fa fb:Fm}{ea eb:Int}{na nb:Nat}(Wg:na+nb<=400000)
  (ha:KG gl Γ hs a fa ea na) (hb:KG gl (.list::.nat::Γ) (JF hs 2++[f.upN 1 1]) b fb eb nb) :
  ∃e,(e=0->ea=0/\eb=0/\f.typedN (gT (.list::Γ))=0)/\(KK ea->KK eb->fa=f.inN 0 0 (nT 7 [])->fb=(f.upN 1 2).inN 0 0 (nT 8 [vT (1:Nat),vT (0:Nat)])->KK e)/\X5 gl Γ hs (H2 17 f t a b) (f.inN 0 0 t) e (na+nb+t.count):=by
 have Le:gT (.list::.nat::Γ)=gT Γ++[T.ty .nat,T.ty .list]:=by simp[gT]
 have k2:CK (.list::.nat::Γ) (JF hs 2) 0 1:=(k.less (Nat.le_refl 2) (Nat.le_refl 1)).below2 (by show _<=64;decide) (by show _<=64;decide);have Mk:FDn (.list::.list::.nat::Γ) (f.upN 1 2):=l7 (Γ:=Γ) (Ξ:=[.list,.nat]) hf [.list] rfl;have Lj:=N4 f 1 2;have hcu3:=Fm.cells_eq (f.upN 1 1);have Ci:Dn (.list::.nat::Γ) (nT 8 [vT (1:Nat),vT (0:Nat)]) .list _:=.cons (.var (.succ .zero)) (.var .zero);obtain⟨e1,r1,r2,w1⟩:=VK (gl:=gl) k ht oO 2 rfl;obtain⟨e2,u2,p1,p2,p3,Wq⟩:=N5 (gl:=gl) (k.less dD dD) ha hf oO (t:=(nT 7 [])) (F:=_) .nil dD;obtain⟨e3,u3,s1,s2,s3,Zo⟩:=N5 (gl:=gl) ((k2.with (l7 (Γ:=Γ) (Ξ:=[.nat]) hf [.list] rfl) (by rw[N4];exact cf)).less dD dD) hb Mk oO (t:=(nT 8 [vT (1:Nat),vT (0:Nat)])) Ci dD
 have w0:=TW (gl:=gl) hf (gT (.list::Γ)) (ZN fun x hx=>by
  rcases List.mem_cons.1 hx with rfl|hx;· show _<=64;decide
  ·exact k.2.2.1 x hx) (by have:=k.1;simp only[I2,List.length_cons];omega) (by have:=k.1;simp only[List.length_cons];omega)
 have Ac:KK (HP f.chk (f.typedN (gT (.list::Γ)))):=NR (LK _) (U3 hf);have hz:HP f.chk (f.typedN (gT (.list::Γ)))=0->f.chk=0/\f.typedN (gT (.list::Γ))=0:=DI;generalize HP f.chk (f.typedN (gT (.list::Γ)))=e0 at *;have wp:=SW (gl:=gl) hf ht (by have:=k.1;omega) oO oO;have Dm:KK (Jj0 f t):=SM ht;have Lm:Jj0 f t=0->(f.inN 0 0 t).count<=4096:=fun h=>(PL hf h).1;have hdt:FDn Γ (f.inN 0 0 t):=WT ht hf;have wr:=U2 (gl:=gl) (gT Γ) hs 2 1 (by have:=k.1;simp only[I2];omega) (by have:=k.2.1;omega);have Mf:=QR (gl:=gl) [T.ty .nat,T.ty .list] (gT Γ) hs (fun f hf=>⟨HY (k.2.2.2 f hf).1 _ (by have:=k.1;have:=(k.2.2.2 f hf).2;omega),(k.2.2.2 f hf).2⟩) dD (by have:=k.1;simp only[I2];omega) (by have:=k.2.1;omega);have Mf:cT gl 227 [RB (gT Γ) hs,.sl [[A0 1,.sl []],[A0 2,.sl []]]] [] (RB (gT Γ++[T.ty .nat,T.ty .list]) (JF hs 2)) []:=Mf;have ww:=Y8 (gl:=gl) (gT Γ++[T.ty .nat,T.ty .list]) (JF hs 2) (f.upN 1 1) (by have:=k.2.1;simp;omega);have Wm:=XV (gl:=gl) f 1 2 (HY hf _ (by have:=k.1;simp only[List.length_cons];omega)) dD dD dD oO;have wup1:=XV (gl:=gl) f 1 1 (HY hf _ (by have:=k.1;simp only[List.length_cons];omega)) dD dD dD oO;rw[Le]at Zo
 rw[JE,show (gT Γ++[T.ty .list]).map Ty.cells=(gT Γ).map Ty.cells++[[A0 2,.sl []]] by rw[List.map_append];rfl]at w0;have Vq:(gT Γ).length<=2147483647:=by have:=k.1;rw[I2];omega
 have wg:=aS (gl:=gl) t (AJ ht);have l1:=Pf.length_cells a;have l2:=Pf.length_cells b;have l3:=Fm.length_cells f;have l4:=Tm.length_cells t;have Av:=Fm.fold f;have As:=Tm.fold t;have Uo:=Fm.cells_eq (f.upN 1 2);have Vw:=BG (gl:=gl) 7 [];have Vw:cT gl 42 [A0 7,.sl []] [] ((nT 7 [])).dv []:=Vw;have Tv:=BG (gl:=gl) 8 [vT (1:Nat),vT (0:Nat)];have Tv:cT gl 42 [A0 8,.sl [[A0 1,A0 1,A0 0,.sl [],.sl []],[A0 1,A0 0,A0 0,.sl [],.sl []]]] [] ((nT 8 [vT (1:Nat),vT (0:Nat)])).dv []:=Tv;have Cy:t.idx 1099511627776:=Tm.idx_of t _ (AJ ht) (EK ht _ (by have:=k.1;omega));have hlu:(FE (FE (GF t) u2) (L9 u3 2)).length<=na+nb+t.count:=by
  have:=G5 (FE (GF t) u2) (L9 u3 2);have:=G5 (GF t) u2;have:=H7 t;have:=NY u3 2;omega
 have wu1:=M0 (gl:=gl) (GF t) u2 (by have:=H7 t;omega);have wu2:=M0 (gl:=gl) (FE (GF t) u2) (L9 u3 2) (by have:=H7 t;have:=G5 (GF t) u2;have:=NY u3 2;omega);have wo:=QS (gl:=gl) u3 2 oO;have hv:∀v,v=(if Jj0 f t=0 then f.inN 0 0 t else AF)->Jj0 f t=0->v=f.inN 0 0 t:=fun v h h0=>by rw[h,if_pos h0]
 generalize hvq:(if Jj0 f t=0 then f.inN 0 0 t else AF)=v at *;have hv:=hv v rfl;generalize Jj0 f t=pe at *;generalize FE (FE (GF t) u2) (L9 u3 2)=uu at *
 obtain⟨V,U,E,hx⟩:∃(V:Fm) (U:List Int) (E:Int),(e0≠0/\V=AF/\U=[]/\E=e0)\/(e0=0/\((e1≠0/\V=AF/\U=[]/\E=e1)\/(e1=0/\((e2≠0/\V=AF/\U=[]/\E=e2)\/(e2=0/\((e3≠0/\V=AF/\U=[]/\E=e3)\/(e3=0/\V=v/\U=uu/\E=pe))))))):=by
  by_cases q0:e0=0
  ·by_cases q1:e1=0
   ·by_cases q2:e2=0
    ·by_cases q3:e3=0;· exact⟨v,uu,pe,.inr ⟨q0,.inr ⟨q1,.inr ⟨q2,.inr ⟨q3,rfl,rfl,rfl⟩⟩⟩⟩⟩
     ·exact⟨AF,[],e3,.inr ⟨q0,.inr ⟨q1,.inr ⟨q2,.inl ⟨q3,rfl,rfl,rfl⟩⟩⟩⟩⟩
    ·exact⟨AF,[],e2,.inr ⟨q0,.inr ⟨q1,.inl ⟨q2,rfl,rfl,rfl⟩⟩⟩⟩
   ·exact⟨AF,[],e1,.inr ⟨q0,.inl ⟨q1,rfl,rfl,rfl⟩⟩⟩
  ·exact⟨AF,[],e0,.inl ⟨q0,rfl,rfl,rfl⟩⟩
 have hE:E=0->e0=0/\e1=0/\e2=0/\e3=0/\pe=0/\V=v:=by
  intro h;rcases hx with⟨q,-,-,q'⟩|⟨q0,⟨q,-,-,q'⟩|⟨q1,⟨q,-,-,q'⟩|⟨q2,⟨q,-,-,q'⟩|⟨q3,q4,-,q'⟩⟩⟩⟩;· exact absurd (q'.symm.trans h) q
  ·exact absurd (q'.symm.trans h) q
  ·exact absurd (q'.symm.trans h) q
  ·exact absurd (q'.symm.trans h) q
  ·exact⟨q0,q1,q2,q3,q'.symm.trans h,q4⟩
 have hU:U.length<=na+nb+t.count:=by
  rcases hx with⟨-,-,q,-⟩|⟨-,⟨-,-,q,-⟩|⟨-,⟨-,-,q,-⟩|⟨-,⟨-,-,q,-⟩|⟨-,-,q,-⟩⟩⟩⟩ <;> rw[q] <;> first|exact Nat.zero_le _|exact hlu
 refine⟨E,fun h=>⟨(p2 (hE h).2.2.1).1,(s2 (hE h).2.2.2.1).1,(hz (hE h).1).2⟩,fun g1 g2 g3 g4=>?_,V,U,hU,fun h=>?_,?_⟩
 ·rcases hx with⟨-,-,-,q⟩|⟨-,⟨-,-,-,q⟩|⟨-,⟨-,-,-,q⟩|⟨-,⟨-,-,-,q⟩|⟨-,-,-,q⟩⟩⟩⟩ <;> rw[q];· exact Ac
  ·exact r1
  ·exact p3 g1 g3
  ·exact s3 g2 g4
  ·exact Dm
 ·obtain⟨-,h1,-,-,h4,h5⟩:=hE h;exact⟨h5.trans (hv h4),hdt,by have:=Lm h4;omega⟩
 have Cd:=Fm.cells_eq v;have Xf:=Fm.cells_eq V;have w:cT gl 189 [RB (gT Γ) hs,(H2 17 f t a b).dv] [] (.tup [V.dv,.sl (AH U),A0 E]) []:=by
  rw[IH];refine A6 Tryz.func189 ?_;intro X hP u6 hf u8 hn hR u5 u4;refine A2 ?_;refine BL (j3 @Av @IX @Ty.length_cells) FF w0 ?_;rcases hx with⟨q0,rfl,rfl,rfl⟩|⟨q0,hx⟩
  ·refine A7 @q0 ?_;refine EO ?_;simp[go_sem,hP,u6,hn,AF,AK] <;> (try omega);all_goals exact RH
  refine A7 @q0 ?_;refine A3 @As w1 ?_;rcases hx with⟨q1,rfl,rfl,rfl⟩|⟨q1,hx⟩
  ·refine A7 @q1 ?_;refine EO ?_;simp[go_sem,hP,u6,hn,AF,AK] <;> (try omega);all_goals exact RH
  have wf:=wg (r2 q1) Cy;refine A7 @q1 ?_;refine BL @Av Vw Wq ?_;rcases hx with⟨q2,rfl,rfl,rfl⟩|⟨q2,hx⟩
  ·refine A7 @q2 ?_;refine EO ?_;simp[go_sem,hP,u6,hn,AF,AK] <;> (try omega);all_goals exact RH
  refine A7 @q2 ?_;refine A3 tT wr ?_;refine A2 ?_;refine zgd (j3 @Av @Uo @hcu3) BE FF Mf wup1 ww Wm (FX 1) (FX 0) Tv Zo ?_;rcases hx with⟨q3,rfl,rfl,rfl⟩|⟨q3,rfl,rfl,rfl⟩
  ·refine A7 @q3 ?_;refine EO ?_;simp[go_sem,hP,u6,hn,AF,AK] <;> (try omega);all_goals exact RH
  refine A7 @q3 ?_;refine A3 (j3 @Av @As @Cd) wp ?_;refine A2 ?_;refine IS @As wf wu1 wo wu2 ?_;exact AC (j2 @Cd @AK)
 rw[IH]at w ⊢;refine A6 Tryz.func130 ?_;intro X hP u6 hf u8 hn hR u5 u4;refine A2 ?_;refine A3 @Xf w ?_;exact AC (j2 @Xf @AK)
theorem U5 {Γ:List T}{hs:List Fm}(k:CK Γ hs 0 0){f:Fm}(hf:FDn (.nat::Γ) f)(cf:f.count<=900000){a b:Pf}{s s':Tm}{fb:Fm}{ea eb:Int}{na nb:Nat}(Wg:na+nb<=1000000)(cs:s.count<=1000000)(Cu:s'.count<=1000000){S:BH Γ->T.nat.V}(Dv:Dn Γ s .nat S)
  (ha:KG gl Γ hs a (DM s s') ea na) (hb:KG gl Γ hs b fb eb nb) :
  ∃e,(e=0->ea=0/\eb=0)/\(KK ea->KK eb->fb=f.inN 0 0 s->KK e)/\X5 gl Γ hs (MC f a b) (f.inN 0 0 s') e nb:=by
 obtain⟨f',u,a1,a2,wa⟩:=ha;obtain⟨e2,u2,p1,p2,p3,Wq⟩:=N5 (gl:=gl) k hb hf oO Dv cs
 have w0:=TW (gl:=gl) hf (gT (.nat::Γ)) (ZN fun x hx=>by
  rcases List.mem_cons.1 hx with rfl|hx;· show _<=64;decide
  ·exact k.2.2.1 x hx) (by have:=k.1;simp only[I2,List.length_cons];omega) (by have:=k.1;simp only[List.length_cons];omega)
 have Ac:KK (HP f.chk (f.typedN (gT (.nat::Γ)))):=NR (LK _) (U3 hf);generalize HP f.chk (f.typedN (gT (.nat::Γ)))=e0 at *;rw[JE,show (gT Γ++[T.ty .nat]).map Ty.cells=(gT Γ).map Ty.cells++[[A0 1,.sl []]] by rw[List.map_append];rfl]at w0;have Vq:(gT Γ).length<=2147483647:=by have:=k.1;rw[I2];omega
 have l1:=Pf.length_cells a;have l2:=Pf.length_cells b;have l3:=Fm.length_cells f;have Av:=Fm.fold f;by_cases q0:e0=0;rotate_left
 ·refine⟨e0,fun h=>absurd h q0,fun _ _ _=>Ac,AF,[],Nat.zero_le _,fun h=>absurd h q0,?_⟩;have w:cT gl 192 [RB (gT Γ) hs,(MC f a b).dv] [] (.tup [AF.dv,.sl (AH []),A0 e0]) []:=by
   rw[MW,CQ];refine A6 Tryz.func192 ?_;intro X hP u6 hf u8 hn hR u5 u4;refine A2 ?_;refine BL (j3 @Av @IX @Ty.length_cells) BE w0 ?_;refine A7 @q0 ?_;exact AC @AK
  rw[MW,CQ]at w ⊢;refine A6 Tryz.func130 ?_;intro X hP u6 hf u8 hn hR u5 u4;refine A2 ?_;refine A3 tT w ?_;exact AC @AK
 by_cases q1:ea=0;rotate_left
 ·refine⟨ea,fun h=>absurd h q1,fun h _ _=>h,AF,[],Nat.zero_le _,fun h=>absurd h q1,?_⟩;have w:cT gl 192 [RB (gT Γ) hs,(MC f a b).dv] [] (.tup [AF.dv,.sl (AH []),A0 ea]) []:=by
   rw[MW,CQ];refine A6 Tryz.func192 ?_;intro X hP u6 hf u8 hn hR u5 u4;refine A2 ?_;refine BL (j3 @Av @IX @Ty.length_cells) BE w0 ?_;refine A7 @q0 ?_;refine A3 tT wa ?_;refine A7 @q1 ?_;exact AC @AK
  rw[MW,CQ]at w ⊢;refine A6 Tryz.func130 ?_;intro X hP u6 hf u8 hn hR u5 u4;refine A2 ?_;refine A3 tT w ?_;exact AC @AK
 obtain⟨rfl,a3,a4⟩:=a2 q1;obtain⟨S1,S2,h1,h2⟩:=zk8 a3;have wp:=SW (gl:=gl) hf h2 (by have:=k.1;omega) oO Cu;have l4:=Tm.length_cells s;have l5:=Tm.length_cells s';have wa:cT gl 83 [RB (gT Γ) hs,a.dv] [] (.tup [.agg [A0 1,A0 0,.sl [],.sl [s.cells,s'.cells],.sl [],.sl (AH u)],A0 ea]) []:=wa;by_cases q2:e2=0;rotate_left
 ·refine⟨e2,fun h=>absurd h q2,fun _ g2 g3=>p3 g2 g3,AF,[],Nat.zero_le _,fun h=>absurd h q2,?_⟩;have w:cT gl 192 [RB (gT Γ) hs,(MC f a b).dv] [] (.tup [AF.dv,.sl (AH []),A0 e2]) []:=by
   rw[MW,CQ];refine A6 Tryz.func192 ?_;intro X hP u6 hf u8 hn hR u5 u4;refine A2 ?_;refine BL (j3 @Av @IX @Ty.length_cells) BE w0 ?_;refine A7 @q0 ?_;refine A3 tT wa ?_;refine A7 @q1 ?_;refine A3 @Av Wq ?_;refine A7 @q2 ?_;exact AC @AK
  rw[MW,CQ]at w ⊢;refine A6 Tryz.func130 ?_;intro X hP u6 hf u8 hn hR u5 u4;refine A2 ?_;refine A3 tT w ?_;exact AC @AK
 refine⟨Jj0 f s',fun _=>⟨q1,(p2 q2).1⟩,fun _ _ _=>SM h2,if Jj0 f s' = 0 then f.inN 0 0 s' else AF,u2,p1,fun h=>⟨by rw[if_pos h],WT h2 hf,by have:=(PL hf h).1;omega⟩,?_⟩;generalize (if Jj0 f s' = 0 then f.inN 0 0 s' else AF)=v at *;generalize Jj0 f s' = pe at *;have Cd:=Fm.cells_eq v;have w:cT gl 192 [RB (gT Γ) hs,(MC f a b).dv] [] (.tup [v.dv,.sl (AH u2),A0 pe]) []:=by
  rw[MW];refine A6 Tryz.func192 ?_;intro X hP u6 hf u8 hn hR u5 u4;refine A2 ?_;refine BL (j3 @Av @IX @Ty.length_cells) BE w0 ?_;refine A7 @q0 ?_;refine A3 tT wa ?_;refine A7 @q1 ?_;refine A3 @Av Wq ?_;refine A7 @q2 ?_;refine A3 (j2 @Av @Cd) wp ?_;refine A7 @Cd ?_;exact AC (j2 @Cd @AK)
 rw[MW]at w ⊢;refine A6 Tryz.func130 ?_;intro X hP u6 hf u8 hn hR u5 u4;refine A2 ?_;refine A3 @Cd w ?_;exact AC (j2 @Cd @AK)
theorem PO {f:Fm}(h:f.count<=4096):f.chk=0:=by unfold Fm.chk;rw[if_neg oO]
abbrev sqD (g:List Ty)(hs:List Fm):DV:=.agg [.sl (g.map Ty.cells),.sl (hs.map Fm.cells)]
theorem lU {Γ:List T}{hs:List Fm}(k:CK Γ hs 0 0)(Al:∀h∈hs,h.typedN (gT Γ)=0):cT gl 81 [.sl [],sqD (gT Γ) hs] [] (A0 0) []:=by
 have wc:=KX (gl:=gl) (gT Γ) (fun x hx=>by have:=(ZN k.2.2.1 x hx).2;omega);rw[k.ctx]at wc;have k1:=k.1;have k2:=k.2.1;have hq:¬(16:Int)<hs.length:=oO;generalize hg:gT Γ=g at *;refine A6 Tryz.func81 ?_;intro X hP u6 hf u8 hn hR u5 u4;refine A2 ?_;refine D4 ?_;refine A2 ?_;refine A3 tT wc ?_;refine A7 @hq ?_;refine BR ?_;refine AA [] tT (CD (hs) (fun done rest=>[sP 3,sL 3 [.v (.sl (g.map Ty.cells)),.v (.sl (hs.map Fm.cells))],sV 38 (.sl (hs.map Fm.cells)),sV 39 (A0 hs.length),sV 40 (A0 done.length)]) ?_ ?_)
 ·intro done x rest hL Ad u7;have Ac:done.length<hs.length:=by rw[hL];simp
  have Aj:=uE Ad;have hx:=k.2.2.2 x Aj;have w:=iF (gl:=gl) hx.1 (gT Γ) (ZN k.2.2.1) (by have:=hx.2;simp only[I2];omega) (by have:=hx.2;omega);rw[k.ctx,PO hx.2,hg,Al x Aj]at w;have w:cT gl 126 [.sl (g.map Ty.cells),x.dv] [] (A0 0) []:=w;refine A5 ?_;refine AQ ?_;refine A7 @Ad ?_;refine A3 @Ad w ?_;refine CG (wr []) tT tT u7
 ·refine A5 ?_;refine B9 ?_;refine A2 ?_;exact AM
theorem QT {Γ:List T}{hs:List Fm}(k:CK Γ hs 0 0)(Al:∀h∈hs,h.typedN (gT Γ)=0){p:Pf}(hp:PS p)(cp:p.count<=1073741824){f:Fm}{e:Int}{n:Nat}(hI:KG gl Γ hs p f e n)(hn:n<=1000000) :
  ∃(f':Fm) (u:List Int),(HP p.chk e=0->f' = f)/\cT gl 26 [.sl [],sqD (gT Γ) hs,p.dv] [] (.tup [prD f' u,A0 (HP p.chk e)]) []:=by
 have ws:=lU (gl:=gl) k Al;have wp:=iH (gl:=gl) hp cp;obtain⟨f',u,h1,h2,w⟩:=hI;have By:=Pf.fold p;by_cases q1:p.chk=0;rotate_left
 ·refine⟨AF,[],fun h=>absurd (DI h).1 q1,?_⟩;rw[show HP p.chk e=p.chk by unfold HP;rw[if_neg q1]];refine A6 Tryz.func26 ?_;intro X hP u6 hf u8 hn hR u5 u4;refine A2 ?_;refine A3 tT ws ?_;refine A2 ?_;refine A3 @By wp ?_;refine A7 @q1 ?_;refine EO ?_;simp[go_sem,hP,u6,hn,AF,AK] <;> (try omega)
 rw[show HP p.chk e=e by unfold HP;rw[if_pos q1]];rw[q1]at wp;by_cases q2:e=0
 ·obtain⟨rfl,h3,h4⟩:=h2 q2;have wc:=PK (gl:=gl) f';have Av:=Fm.fold f';refine⟨f',u,fun _=>rfl,?_⟩;refine A6 Tryz.func26 ?_;intro X hP u6 hf u8 hn hR u5 u4;refine A2 ?_;refine A3 tT ws ?_;refine A2 ?_;refine A3 @By wp ?_;refine A2 ?_;refine A3 @By w ?_;refine A7 @q2 ?_;refine A3 @Av wc ?_;exact AC @q2
 ·refine⟨AF,[],fun h=>absurd h q2,?_⟩;refine A6 Tryz.func26 ?_;intro X hP u6 hf u8 hn hR u5 u4;refine A2 ?_;refine A3 tT ws ?_;refine A2 ?_;refine A3 @By wp ?_;refine A2 ?_;refine A3 @By w ?_;refine A7 @q2 ?_;refine EO ?_;simp[go_sem,hP,u6,hn,AF,AK] <;> (try omega)
abbrev A4:Ty:=Ty.mk 1 []
theorem JM:cT gl 71 [] [] (Ty.mk 2 []).dv []:=by
 refine A6 Tryz.func71 ?_;intro X hP u6 hf u8 hn hR u5 u4;refine A2 ?_;exact BI
theorem Y9 (f a:Tm):cT gl 114 [f.dv,a.dv] [] (nT 3 [f,a]).dv []:=by
 have w:=gZ (gl:=gl) 3 [f,a];have e:Tm.mk 3 0 (Ty.mk 0 []) [f,a]=nT 3 [f,a]:=rfl;rw[e]at w;have Hh:=Tm.fold (nT 3 [f,a]);have h1:=Tm.cells_eq f;have h2:=Tm.cells_eq a;simp only[List.map_cons,List.map_nil,h1,h2]at w;have h3:=Tm.cells_eq (nT 3 [f,a]);generalize nT 3 [f,a]=r at *;refine A6 Tryz.func114 ?_;intro X hP u6 hf u8 hn hR u5 u4;refine A2 ?_;refine A3 tT w ?_;exact AC @h3
theorem PP (y:Ty)(f:Fm):cT gl 62 [y.dv,f.dv] [] (qF 4 y f).dv []:=by
 have h1:=Ty.cells_eq y;have h2:=Fm.cells_eq f;rw[MK];refine A6 Tryz.func62 ?_;intro X hP u6 hf u8 hn hR u5 u4;refine A7 (j2 @h1 @h2) ?_;exact AC (j2 @h1 @h2)
theorem SZ (i:Int):cT gl 55 [A0 i] [] (J7 i).dv []:=by
 rw[lR];refine A6 Tryz.func55 ?_;intro X hP u6 hf u8 hn hR u5 u4;refine A2 ?_;exact AM
theorem MY (s t:Tm):cT gl 53 [s.dv,t.dv] [] (DM s t).dv []:=by
 have h1:=Tm.cells_eq s;have h2:=Tm.cells_eq t;rw[VE];refine A6 Tryz.func53 ?_;intro X hP u6 hf u8 hn hR u5 u4;refine A2 ?_;exact AC (j2 @h1 @h2)
theorem j0 (y:Ty)(f:Fm):cT gl 116 [y.dv,f.dv] [] (qF 5 y f).dv []:=by
 have h1:=Ty.cells_eq y;have h2:=Fm.cells_eq f;rw[MK];refine A6 Tryz.func116 ?_;intro X hP u6 hf u8 hn hR u5 u4;refine A2 ?_;exact AC (j2 @h1 @h2)
theorem II (t:Tm):cT gl 56 [t.dv] [] (GI t).dv []:=by
 have h1:=Tm.cells_eq t;rw[rG];refine A6 Tryz.func56 ?_;intro X hP u6 hf u8 hn hR u5 u4;refine A2 ?_;exact AC @h1
theorem KI (f:Fm)(t:Tm)(p:Pf):cT gl 58 [f.dv,t.dv,p.dv] [] (GU f t p).dv []:=by
 have h1:=Fm.cells_eq f;have h2:=Tm.cells_eq t;have h3:=Pf.cells_eq p;rw[OR];refine A6 Tryz.func58 ?_;intro X hP u6 hf u8 hn hR u5 u4;refine A2 ?_;exact AC (j3 @h1 @h2 @h3)
theorem PQ (p q:Pf):cT gl 57 [p.dv,q.dv] [] (JL p q).dv []:=by
 have h1:=Pf.cells_eq p;have h2:=Pf.cells_eq q;rw[MU];refine A6 Tryz.func57 ?_;intro X hP u6 hf u8 hn hR u5 u4;refine A2 ?_;exact AC (j2 @h1 @h2)
theorem PR (y:Ty)(p:Pf):cT gl 63 [y.dv,p.dv] [] (I3 y p).dv []:=by
 have h1:=Ty.cells_eq y;have h2:=Pf.cells_eq p;rw[X6];refine A6 Tryz.func63 ?_;intro X hP u6 hf u8 hn hR u5 u4;refine A2 ?_;exact AC (j2 @h1 @h2)
theorem j9 (t:Tm)(p:Pf):cT gl 80 [t.dv,p.dv] [] (GH t p).dv []:=by
 have h1:=Tm.cells_eq t;have h2:=Pf.cells_eq p;rw[M2];refine A6 Tryz.func80 ?_;intro X hP u6 hf u8 hn hR u5 u4;refine A2 ?_;exact AC (j2 @h1 @h2)
theorem LA (f:Fm)(p q:Pf):cT gl 52 [f.dv,p.dv,q.dv] [] (MC f p q).dv []:=by
 have h1:=Fm.cells_eq f;have h2:=Pf.cells_eq p;have h3:=Pf.cells_eq q;rw[MW];refine A6 Tryz.func52 ?_;intro X hP u6 hf u8 hn hR u5 u4;refine A2 ?_;exact AC (j3 @h1 @h2 @h3)
theorem eQ (k:Int)(f:Fm)(t:Tm)(p q:Pf):cT gl 64 [A0 k,f.dv,t.dv,p.dv,q.dv] [] (H2 k f t p q).dv []:=by
 have h1:=Fm.cells_eq f;have h2:=Tm.cells_eq t;have h3:=Pf.cells_eq p;have h4:=Pf.cells_eq q;rw[IH];refine A6 Tryz.func64 ?_;intro X hP u6 hf u8 hn hR u5 u4;refine A2 ?_;exact AC (j4 @h1 @h2 @h3 @h4)
theorem aT (t:Tm)(hi:t.idx 1099511627776)(hc:t.count<=1000000):cT gl 54 [t.dv] [] (t.upN 0 1).dv []:=by
 have w:=z9l (gl:=gl) t 0 1 hi dD dD dD oO;have h1:=Tm.fold t;have h2:=Tm.cells_eq (t.upN 0 1);generalize t.upN 0 1=u at *;refine A6 Tryz.func54 ?_;intro X hP u6 hf u8 hn hR u5 u4;refine A2 ?_;refine A3 @h1 w ?_;exact AC @h2
def EI (s:Tm):Fm:=qF 5 A4 (DM (vT 0) (s.upN 0 1))
theorem JG (t:Tm)(hi:t.idx 1099511627776)(hc:t.count<=1000000):cT gl 59 [t.dv] [] (EI t).dv []:=by
 have w:=aT (gl:=gl) t hi hc;have w2:=MY (gl:=gl) (vT 0) (t.upN 0 1);have w3:=j0 (gl:=gl) A4 (DM (vT 0) (t.upN 0 1));have w4:=SI (gl:=gl) 0;have e:(Tm.mk 1 0 (Ty.mk 0 []) [])=vT 0:=rfl;rw[e]at w4;show RC _ _ _ _ _ (qF 5 A4 (DM (vT 0) (t.upN 0 1))).dv _;have h1:=Tm.fold t;have h2:=Tm.fold (t.upN 0 1);have h3:=Fm.fold (DM (vT 0) (t.upN 0 1));have h4:=Fm.cells_eq (qF 5 A4 (DM (vT 0) (t.upN 0 1)));have h5:=Tm.fold (vT 0);generalize qF 5 A4 (DM (vT 0) (t.upN 0 1))=f2 at *;generalize DM (vT 0) (t.upN 0 1)=f1 at *;generalize t.upN 0 1=u at *;generalize vT 0=v0 at *;refine A6 Tryz.func59 ?_;intro X hP u6 hf u8 hn hR u5 u4;refine A2 ?_;refine WA (j4 @h1 @h2 @h3 @h5) EG w4 w w2 w3 ?_;exact AC @h4
def VM:Tm->List Tm->Tm
 | f,[]=>f
 | f,a::r=>VM (nT 3 [f,a]) r
theorem zbi (f:Tm)(l:List Tm)(a:Tm):VM f (l++[a])=nT 3 [VM f l,a]:=by
 induction l generalizing f with
 | nil=>rfl
 | cons b r ih=>exact ih _
theorem FK (f:Tm)(l:List Tm)(hl:l.length<=1000):cT gl 50 [f.dv,.sl (l.map Tm.cells)] [] (VM f l).dv []:=by
 refine A6 Tryz.func50 ?_;intro X hP u6 hf u8 hn hR u5 u4;refine A2 ?_;refine BR ?_;refine CR [] (by simp[go_sem]) (by simp[go_sem,VM] <;> omega) (by simp[go_sem]) (CD (l) (fun done rest=>[sV 1 (.sl (l.map Tm.cells)),sP 4,sL 4 [.v (A0 0),.v (A0 0),.v (A0 0),.own 0 [],.own 0 []],sV 5 (A0 done.length),sP 2,sL 2 [.v (A0 (VM f done).kind),.v (A0 (VM f done).index),.v (A0 (VM f done).type.kind),.v (.sl ((VM f done).type.args.map Ty.cells)),.v (.sl ((VM f done).args.map Tm.cells))]]) ?_ ?_)
 ·intro done x rest hL Ad u7;have Ac:done.length<l.length:=by rw[hL];simp
  have w:=Y9 (gl:=gl) (VM f done) x;have h1:=Tm.fold (VM f done);have h3:=Tm.cells_eq (nT 3 [VM f done,x]);rw[zbi]at u7;generalize nT 3 [VM f done,x]=r at *;generalize VM f done=g at *;refine A5 ?_;refine AQ ?_;refine A7 @Ad ?_;refine A3 (j3 @Ad @h1 @h3) w ?_;refine CG (wr []) tT tT u7
 ·have h1:=Tm.cells_eq (VM f l);refine A5 ?_;refine B9 ?_;refine A2 ?_;exact AC @h1
abbrev RG:Ty:=Ty.mk 4 [A4,A4]
theorem IJ:cT gl 49 [] [] RG.dv []:=by
 have w:=SH (gl:=gl) A4 A4;have h1:=Ty.fold A4;have h2:=Ty.cells_eq (Ty.mk 4 [A4,A4]);show RC _ _ _ _ _ (Ty.mk 4 [A4,A4]).dv _;generalize Ty.mk 4 [A4,A4]=r at *;refine A6 Tryz.func49 ?_;intro X hP u6 hf u8 hn hR u5 u4;refine A2 ?_;refine F9 @h1 EG EG w ?_;exact AC @h2
theorem KJ (i:Int):cT gl 51 [A0 i] [] (vT i).dv []:=by
 have w4:=SI (gl:=gl) i;have e:(Tm.mk 1 i (Ty.mk 0 []) [])=vT i:=rfl;rw[e]at w4;have h1:=Tm.cells_eq (vT i);generalize vT i=r at *;refine A6 Tryz.func51 ?_;intro X hP u6 hf u8 hn hR u5 u4;refine A2 ?_;refine A3 tT w4 ?_;exact AC @h1
theorem N6 (k:Int)(b g n:Tm):cT gl 60 [A0 k,b.dv,g.dv,n.dv] [] (Tm.mk k 0 A4 [b,g,n]).dv []:=by
 have h1:=Tm.cells_eq b;have h2:=Tm.cells_eq g;have h3:=Tm.cells_eq n;refine A6 Tryz.func60 ?_;intro X hP u6 hf u8 hn hR u5 u4;refine A2 ?_;refine A3 tT EG ?_;exact AT (j3 @h1 @h2 @h3)
theorem z5i {t:Tm}{a:T}{F:BH []->a.V}(ht:Dn [] t a F)(ct:t.count<=1000000)(s:Ty)(hs:s=a.ty):cT gl 46 [t.dv,s.dv] [] (A0 (t.typeE []).2) []:=by
 subst hs;have k0:CK [] [] 0 0:=⟨dD,dD,sS,sS⟩;have w:=M7 (gl:=gl) t [] sS (DS t (AJ ht)) oO;have w:cT gl 86 [.sl [],t.dv] [] (.tup [(t.typeE []).1.dv,A0 (t.typeE []).2]) []:=w;have h1:=Tm.fold t;rcases SU k0 ht with⟨he,-⟩|he
 ·have he:t.typeE []=(a.ty,0):=he;rw[he]at w ⊢;simp only at w ⊢;have ws:=AV (gl:=gl) a.ty a.ty;rw[(Ty.same_iff a.ty a.ty).2 rfl]at ws;have h2:=Ty.cells_eq a.ty;have h3:=Ty.fold a.ty;generalize a.ty=y at *;refine A6 Tryz.func46 ?_;intro X hP u6 hf u8 hn hR u5 u4;refine A2 ?_;refine A3 (j2 @h1 @h2) w ?_;refine A2 ?_;refine A3 @h3 ws ?_;refine A2 ?_;exact AM
 ·have he:(t.typeE []).2=4:=he;rw[he]at w ⊢;have h2:=Ty.cells_eq (t.typeE []).1;generalize (t.typeE []).1=y at *;refine A6 Tryz.func46 ?_;intro X hP u6 hf u8 hn hR u5 u4;refine A2 ?_;refine A3 (j2 @h1 @h2) w ?_;refine A2 ?_;exact AM
theorem G6 {t:Tm}{a:T}{F:BH []->a.V}(ht:Dn [] t a F)(ct:t.count<=1000000)(s:Ty)(hs:s=a.ty) :
  ∃e,KK e/\e=(t.typeE []).2/\cT gl 46 [t.dv,s.dv] [] (A0 e) []:=by
 have k0:CK [] [] 0 0:=⟨dD,dD,sS,sS⟩;refine⟨_,?_,rfl,z5i ht ct s hs⟩;rcases SU k0 ht with⟨he,-⟩|he;· exact .inl (by rw[show t.typeE []=(a.ty,0) from he])
 ·exact .inr (.inr (.inl he))
def DB:Pf:=.mk 0 0 (Ty.mk 0 []) [] [] []
theorem T3 {f:Fm}{p:Pf}(hf:FDn [] f)(cf:f.count<=1000000)(hp:PS p)(cp:p.count<=1073741824) :
  ∃(f':Fm) (p':Pf) (e:Int),(KK e/\(f.chk=0->p.chk=0->e=0))/\(e=0->f' = f/\p' = p/\f.chk=0/\p.chk=0)/\cT gl 61 [f.dv,p.dv] [] (.tup [f'.dv,p'.dv,A0 e]) []:=by
 have w1:=H6 (gl:=gl) hf oO;have w2:=iH (gl:=gl) hp cp;have h1:=Fm.fold f;have h2:=Pf.fold p;have h3:=Fm.cells_eq f;have h4:=Pf.cells_eq p;by_cases q1:f.chk=0
 ·by_cases q2:p.chk=0
  ·refine⟨f,p,0,⟨.inl rfl,fun _ _=>rfl⟩,fun _=>⟨rfl,rfl,q1,q2⟩,?_⟩;refine A6 Tryz.func61 ?_;intro X hP u6 hf u8 hn hR u5 u4;refine A2 ?_;refine BL (j4 @h1 @h2 @q1 @q2) w1 w2 ?_;refine A2 ?_;exact AC (j2 @h3 @h4)
  ·refine⟨AF,DB,4,⟨.inr (.inr (.inl rfl)),fun _ h=>absurd h q2⟩,fun h=>by simp at h,?_⟩;refine A6 Tryz.func61 ?_;intro X hP u6 hf u8 hn hR u5 u4;refine A2 ?_;refine BL (j4 @h1 @h2 @q1 @q2) w1 w2 ?_;refine A2 ?_;refine EO ?_;simp[go_sem,hP,u6,hn,AF,DB] <;> (try omega);all_goals exact RH
 ·refine⟨AF,DB,4,⟨.inr (.inr (.inl rfl)),fun h=>absurd h q1⟩,fun h=>by simp at h,?_⟩;refine A6 Tryz.func61 ?_;intro X hP u6 hf u8 hn hR u5 u4;refine A2 ?_;refine A3 (j3 @h1 @h2 @q1) w1 ?_;refine A2 ?_;refine EO ?_;simp[go_sem,hP,u6,hn,AF,DB] <;> (try omega);all_goals exact RH
abbrev UN (g:List Ty)(hs:List Fm)(vs us:List Tm):DV:=.agg [.sl (g.map Ty.cells),.sl (hs.map Fm.cells),.sl (vs.map Tm.cells),.sl (us.map Tm.cells)]
theorem NZ {Γ:List T}{hs:List Fm}{v h:Nat}(k:CK Γ hs v h)(s:Ty)(t:Tm)(vs us:List Tm)(hv:vs.length<=1000) :
  cT gl 139 [UN (gT Γ) hs vs us,s.dv,t.dv] [] (UN (gT Γ++[s]) (JF hs 1) (vs++[t]) us) []:=by
 have w:=XU (gl:=gl) vs t oO;have As:=Tm.fold t;have Bp:=Ty.cells_eq s;have Le:(gT Γ).length<=2147483647:=by rw[I2];have:=k.1;omega
 have Ws:hs.length<=2147483647:=by have:=k.2.1;omega
 have k1:=k.1;have k4:=k.2.2.2;generalize hg:gT Γ=g at *;generalize vs++[t]=On at *;refine A6 Tryz.func139 ?_;intro X hP u6 hf u8 hn hR u5 u4;refine A2 ?_;refine A3 @As w ?_;refine A7 (j3 @IX @Ty.length_cells @Bp) ?_;refine BR ?_;refine AA [(1007,0)] @Bp (CD (hs) (fun done rest=>[sP 3,sL 3 [.v (.sl (g.map Ty.cells)),.v (.sl (hs.map Fm.cells)),.v (.sl (vs.map Tm.cells)),.v (.sl (us.map Tm.cells))],sP 6,sL 6 [.own 0 [],.own 0 [],.own 0 [],.own 0 []],sP 7,sL 7 [.v (.sl ((g++[s]).map Ty.cells)),.own 1007 (done.map fun h=>(h.upN 0 1).cells),.v (.sl (On.map Tm.cells)),.v (.sl (us.map Tm.cells))],(.tok 1007,.tk 5 done.length),sV 8 (A0 done.length)]) ?_ ?_)
 ·intro done x rest hL Ad u7;have Ac:done.length<hs.length:=by rw[hL];simp
  have hx:=k4 x (uE Ad);have w2:=pN (gl:=gl) hx.1 (by have:=hx.2;omega) oO 1 dD dD 0 dD dD;rw[PO hx.2,if_pos rfl]at w2;have Br:=Fm.cells_eq (x.upN 0 1);have Cd:=Fm.fold x;refine A5 ?_;refine AQ ?_;refine A7 @Ad ?_;refine A3 (j3 @Ad @Cd @Br) w2 ?_;refine A7 @Br ?_;refine CG (wr [(1007,50)]) @Br tT u7
 ·refine A5 ?_;refine B9 ?_;refine A2 ?_;exact AM
theorem T4 (g:List Ty)(hs:List Fm)(vs us:List Tm)(f:Fm)(t:Tm)(hh:hs.length<=1000)(hu:us.length<=1000) :
  cT gl 137 [UN g hs vs us,f.dv,t.dv] [] (UN g (hs++[f]) vs (us++[t])) []:=by
 have w:=XU (gl:=gl) us t oO;have As:=Tm.fold t;have Ed:=Fm.cells_eq f;have Ws:hs.length<=2147483647:=oO;generalize us++[t]=Xg at *;refine A6 Tryz.func137 ?_;intro X hP u6 hf u8 hn hR u5 u4;refine A2 ?_;refine A3 @As w ?_;refine A7 (j3 @rD @Fm.length_cells @Ed) ?_;exact AC @Ed
theorem lV {Γ:List T}{hs:List Fm}(k:CK Γ hs 0 0)(Al:∀h∈hs,h.typedN (gT Γ)=0){p:Pf}(hp:PS p)(cp:p.count<=1073741824)(hc:p.chk=0){f:Fm}{n:Nat}(hI:KG gl Γ hs p f 0 n)(hn:n<=1000000)(vs us:List Tm)(b:Nat)(m:Int) :
  cT gl 136 [DP b,UN (gT Γ) hs vs us,p.dv] [(b,bn m)] f.dv [(b,bn m)]:=by
 obtain⟨f',u,h1,w⟩:=QT (gl:=gl) k Al hp cp hI hn;have e0:HP p.chk 0=0:=by unfold HP;rw[if_pos hc]
 obtain rfl:=h1 e0;rw[e0]at w;have By:=Pf.fold p;have Ed:=Fm.cells_eq f';generalize gT Γ=g at *;refine A6 Tryz.func136 ?_;intro X hP u6 hf u8 hn hR u5 u4;refine A2 ?_;refine A3 @By w ?_;refine A2 ?_;exact AY [(b,bn m)] @Ed
theorem jA {Γ:List T}{s:T}{f:Fm}(hf:FDn Γ (qF 5 s.ty f))(hc:f.content=false)(cf:(qF 5 s.ty f).count<=4096):cT gl 85 [(qF 5 s.ty f).dv] [] (.tup [s.ty.dv,A0 0]) []:=by
 have hd:=X7 hf;have Ir:(qF 5 s.ty f).count=1+0+(f.count+0):=rfl;have w1:=SN (gl:=gl) hf cf;have w2:=SN (gl:=gl) hd.2 oO;rw[dM]at w1;rw[hc]at w2;have w3:=H6 (gl:=gl) hf oO;rw[PO cf]at w3;have l3:=Fm.length_cells f;have Bp:=Ty.cells_eq s.ty;have Av:=Fm.fold f;have wo:cT gl 132 [(qF 5 s.ty f).dv] [] (.tup [s.ty.dv,A0 0]) []:=by
  rw[MK]at w1 ⊢;generalize s.ty=y at *;refine A6 Tryz.func132 ?_;intro X hP u6 hf u8 hn hR u5 u4;refine A2 ?_;refine A3 tT w1 ?_;refine A2 ?_;refine A3 @Av w2 ?_;refine A2 ?_;exact AC @Bp
 rw[MK]at w3 wo ⊢;generalize s.ty=y at *;refine A6 Tryz.func85 ?_;intro X hP u6 hf u8 hn hR u5 u4;refine A2 ?_;refine A3 tT w3 ?_;refine A2 ?_;refine A3 @Bp wo ?_;exact AC @Bp
theorem jB (p:Pf)(y:Ty)(a b c:Tm)(hk:p.kind=16\/p.kind=17):cT gl 142 [p.dv,y.dv,a.dv,b.dv,c.dv] [] (Tm.mk (if p.kind=17 then 9 else 6) 0 y [a,b,c]).dv []:=by
 have h1:=Tm.cells_eq a;have h2:=Tm.cells_eq b;have h3:=Tm.cells_eq c;by_cases q:p.kind=17
 ·rw[if_pos q];refine A6 Tryz.func142 ?_;intro X hP u6 hf u8 hn hR u5 u4;refine A7 @q ?_;exact AT (j3 @h1 @h2 @h3)
 ·rw[if_neg q];refine A6 Tryz.func142 ?_;intro X hP u6 hf u8 hn hR u5 u4;refine A7 @q ?_;exact AT (j3 @h1 @h2 @h3)
theorem z6 (t:Tm)(e:Int)(hc:t.count<=1000000):∃(t':Tm) (e':Int),(KK e->KK e')/\t'.count<=4096/\(e' = 0->e=0/\t' = t)/\cT gl 91 [t.dv,A0 e] [] (.tup [t'.dv,A0 e']) []:=by
 have w:=z4k (gl:=gl) t oO;have As:=Tm.fold t;have Ap:=Tm.cells_eq t;by_cases q:e=0
 ·by_cases q2:(4096:Int)<t.count
  ·refine⟨AI,4,fun _=>.inr (.inr (.inl rfl)),dD,fun h=>by simp at h,?_⟩;refine A6 Tryz.func91 ?_;intro X hP u6 hf u8 hn hR u5 u4;refine A7 @q ?_;refine A3 @As w ?_;refine A7 @q2 ?_;exact AT @AI.eq_1
  ·refine⟨t,0,fun _=>.inl rfl,oO,fun _=>⟨q,rfl⟩,?_⟩;refine A6 Tryz.func91 ?_;intro X hP u6 hf u8 hn hR u5 u4;refine A7 @q ?_;refine A3 @As w ?_;refine A7 @q2 ?_;exact AC @Ap
 ·refine⟨AI,e,fun h=>h,dD,fun h=>absurd h q,?_⟩;refine A6 Tryz.func91 ?_;intro X hP u6 hf u8 hn hR u5 u4;refine A7 @q ?_;exact AT @AI.eq_1
theorem EW {g:List Ty}{hs:List Fm}{vs us:List Tm}{p:Pf}{t:Tm}{e n n':Int}(ct:t.count<=1000000)(hl:KK e)
  (w:∀b,cT gl 90 [DP b,UN g hs vs us,p.dv] [(b,bn n)] (.tup [t.dv,A0 e]) [(b,bn n')]) :
  ∃(t':Tm) (e':Int),KK e'/\t'.count<=4096/\(e' = 0->e=0/\t' = t)/\∀b,cT gl 34 [DP b,UN g hs vs us,p.dv] [(b,bn n)] (.tup [t'.dv,A0 e']) [(b,bn n')]:=by
 obtain⟨t',e',h1,h2,h3,w2⟩:=z6 (gl:=gl) t e ct;refine⟨t',e',h1 hl,h2,h3,fun b=>?_⟩;have w:=w b;have As:=Tm.fold t;have Ap:=Tm.cells_eq t;have Vl:=Tm.cells_eq t';have By:=Pf.fold p;refine A6 Tryz.func34 ?_;intro X hP u6 hf u8 hn hR u5 u4;refine A2 ?_;refine A3 (j2 @By @Ap) w ?_;refine A2 ?_;refine A3 (j2 @As @Ap) w2 ?_;refine A2 ?_;exact AY [(b,bn n')] @Vl
theorem MD (i:Nat):PS (J7 i):=.mk (ix:=true) (ty:=false) (show HZ 1 0 0 0 true false by unfold HZ;decide) (by show (0:Int)<=i;omega) sS sS (fun _=>rfl) (by simp[J7,Pf.terms]) (by simp[J7,Pf.forms]) (by simp[J7,Pf.args])
theorem z0w {a b:Pf}(ha:PS a)(hb:PS b):PS (SX a b):=.mk (ix:=false) (ty:=false) (show HZ 3 0 0 2 false false by unfold HZ;decide) (by show (0:Int)<=0;omega) (fun _=>rfl) sS (fun _=>rfl) (by simp[SX,Pf.terms]) (by simp[SX,Pf.forms]) (by
 intro x hx;simp[SX,Pf.args]at hx;rcases hx with rfl|rfl;· exact ha
 ·exact hb)
theorem zbj {a:Pf}(i:Bool)(ha:PS a):PS (rE (if i then 5 else 4) a):=.mk (ix:=false) (ty:=false) (show HZ (if i then 5 else 4) 0 0 1 false false by unfold HZ;cases i <;> decide) (by show (0:Int)<=0;omega) (fun _=>rfl) sS (fun _=>rfl) (by simp[rE,Pf.terms]) (by simp[rE,Pf.forms]) (by
 intro x hx;simp[rE,Pf.args]at hx;subst hx;exact ha)
theorem X8 {y:Ty}{a:Pf}(hy:y.ok)(ha:PS a):PS (I3 y a):=.mk (ix:=false) (ty:=true) (show HZ 8 0 0 1 false true by unfold HZ;decide) (by show (0:Int)<=0;omega) (fun _=>rfl) (fun _=>hy) sS (by simp[I3,Pf.terms]) (by simp[I3,Pf.forms]) (by
 intro x hx;simp[I3,Pf.args]at hx;subst hx;exact ha)
theorem aU {t:Tm}{a:Pf}(ht:t.shape=true/\t.count<=16384)(ha:PS a):PS (GH t a):=.mk (ix:=false) (ty:=false) (show HZ 9 1 0 1 false false by unfold HZ;decide) (by show (0:Int)<=0;omega) (fun _=>rfl) sS (fun _=>rfl) (by
 intro x hx;simp[GH,Pf.terms]at hx;subst hx;exact ht) (by simp[GH,Pf.forms]) (by
 intro x hx;simp[GH,Pf.args]at hx;subst hx;exact ha)
theorem QU {f:Fm}{t:Tm}{a:Pf}{Γ:List T}(Js:Γ.length<=1000)(hf:FDn Γ f)(cf:f.count<=1000000)(ht:t.shape=true/\t.count<=16384)(ha:PS a):PS (GU f t a):=.mk (ix:=false) (ty:=false) (show HZ 10 1 1 1 false false by unfold HZ;decide) (by show (0:Int)<=0;omega) (fun _=>rfl) sS (fun _=>rfl) (by
 intro x hx;simp[GU,Pf.terms]at hx;subst hx;exact ht) (by
 intro x hx;simp[GU,Pf.forms]at hx;subst hx;exact⟨Γ,Js,hf,cf⟩) (by
 intro x hx;simp[GU,Pf.args]at hx;subst hx;exact ha)
theorem YA {a b:Pf}(ha:PS a)(hb:PS b):PS (JL a b):=.mk (ix:=false) (ty:=false) (show HZ 11 0 0 2 false false by unfold HZ;decide) (by show (0:Int)<=0;omega) (fun _=>rfl) sS (fun _=>rfl) (by simp[JL,Pf.terms]) (by simp[JL,Pf.forms]) (by
 intro x hx;simp[JL,Pf.args]at hx;rcases hx with rfl|rfl;· exact ha
 ·exact hb)
theorem z7 {k:Int}(hk:k=16\/k=17){f:Fm}{t:Tm}{a b:Pf}{Γ:List T}(Js:Γ.length<=1000)(hf:FDn Γ f)(cf:f.count<=1000000)(ht:t.shape=true/\t.count<=16384)(ha:PS a)(hb:PS b):PS (H2 k f t a b):=.mk (ix:=false) (ty:=false) (show HZ k 1 1 2 false false by unfold HZ;rcases hk with rfl|rfl <;> decide) (by show (0:Int)<=0;omega) (fun _=>rfl) sS (fun _=>rfl) (by
 intro x hx;simp[H2,Pf.terms]at hx;subst hx;exact ht) (by
 intro x hx;simp[H2,Pf.forms]at hx;subst hx;exact⟨Γ,Js,hf,cf⟩) (by
 intro x hx;simp[H2,Pf.args]at hx;rcases hx with rfl|rfl;· exact ha
 ·exact hb)
theorem MZ {t:Tm}(ht:t.shape=true/\t.count<=16384):PS (GI t):=.mk (ix:=false) (ty:=false) (show HZ 18 1 0 0 false false by unfold HZ;decide) (by show (0:Int)<=0;omega) (fun _=>rfl) sS (fun _=>rfl) (by
 intro x hx;simp[GI,Pf.terms]at hx;subst hx;exact ht) (by simp[GI,Pf.forms]) (by simp[GI,Pf.args])
theorem YB {f:Fm}{a b:Pf}{Γ:List T}(Js:Γ.length<=1000)(hf:FDn Γ f)(cf:f.count<=1000000)(ha:PS a)(hb:PS b):PS (MC f a b):=.mk (ix:=false) (ty:=false) (show HZ 19 0 1 2 false false by unfold HZ;decide) (by show (0:Int)<=0;omega) (fun _=>rfl) sS (fun _=>rfl) (by simp[MC,Pf.terms]) (by
 intro x hx;simp[MC,Pf.forms]at hx;subst hx;exact⟨Γ,Js,hf,cf⟩) (by
 intro x hx;simp[MC,Pf.args]at hx;rcases hx with rfl|rfl;· exact ha
 ·exact hb)
theorem zgo (t s:Tm):∀d:Int,0<=d->t.shape=true->(t.upN d 1).inN 0 d s=t:=by
 induction t using Tm.ind with
 | h t ih=>
 intro d hd hs;obtain⟨hlen,-,-,hz,Dj⟩:=Tm.shape_node hs;rw[Tm.upN_eq,Tm.inN_eq,Tm.kind_mk,Tm.index_mk,Tm.type_mk,Tm.args_mk];by_cases h1:t.kind=1
 ·have ha:t.args=[]:=by rw[h1]at hlen;simp[AO]at hlen;exact hlen
  have hy:t.type=Ty.mk 0 []:=kG (by simpa [h1] using hz);have et:t=Tm.mk 1 t.index (Ty.mk 0 []) []:=XS t h1 rfl hy ha;rw[if_pos h1];by_cases h2:d<=t.index
  ·have e5:(if t.kind=1/\d<=t.index then t.index+1 else t.index)=t.index+1:=if_pos ⟨h1,h2⟩;rw[e5,if_neg oO,if_pos oO,show t.index+1 - 1=t.index from oO];exact et.symm
  ·have e5:(if t.kind=1/\d<=t.index then t.index+1 else t.index)=t.index:=if_neg fun h=>h2 h.2;rw[e5,if_neg oO,if_neg oO,ha,List.map_nil,<- ha];exact Tm.eta t
 ·have e5:(if t.kind=1/\d<=t.index then t.index+1 else t.index)=t.index:=if_neg fun h=>h1 h.1;have hb:=K9 t.kind;rw[if_neg h1,e5,List.map_map];have e3:(t.args.map ((fun x:Tm=>x.inN 0 (d+AX t.kind) s) ∘ fun x:Tm=>x.upN (d+AX t.kind) 1))=t.args:=by
   conv=>rhs;rw[<- List.map_id t.args]
   exact List.map_congr_left fun x hx=>ih x hx (d+AX t.kind) oO (Dj x hx)
  rw[e3];exact Tm.eta t
theorem CE {Γ:List T}{s:Tm}{F:BH Γ->T.nat.V}(h:Dn Γ s .nat F):FDn Γ (EI s):=.q (a:=T.nat) sS (by show _<=64;decide) (.eq (.var .zero) (MI h [T.nat]))
theorem BP (s:Tm):(EI s).count=s.count+3:=by
 have h1:(EI s).count=1+0+((1+((vT 0).count+((s.upN 0 1).count+0))+0)+0):=rfl;have h2:(vT 0).count=1:=rfl;rw[h1,h2,CP];omega
theorem I4 {Γ:List T}{t:Tm}{a:T}{F:BH Γ->a.V}(h:Dn Γ t a F)(hc:Γ.length+t.count<=1099511627776):t.idx 1099511627776:=Tm.idx_of t _ (AJ h) (EK h _ oO)
theorem EX (i:Int):cT gl 30 [A0 i] [] (vT i).dv []:=SI i
abbrev DU (g:Tm):Tm:=nT 3 [g,vT 0]
def T5 (g:Tm):Fm:=qF 4 A4 (EI (DU g))
def EB (g:Tm):Pf:=I3 A4 (GU (EI (DU g)) (DU g) (GI (DU g)))
theorem lW {g:Tm}{G:BH []->(T.fn .nat .nat).V}(hg:Dn [] g (.fn .nat .nat) G):∃F:BH [T.nat]->T.nat.V,Dn [T.nat] (DU g) .nat F:=⟨_,.app (B3 hg [T.nat]) (.var .zero)⟩
theorem EY (g:Tm):(DU g).count=g.count+2:=by
 have h1:(DU g).count=1+(g.count+((vT 0).count+0)):=rfl;have h2:(vT 0).count=1:=rfl;omega
theorem lX {g:Tm}{G:BH []->(T.fn .nat .nat).V}(hg:Dn [] g (.fn .nat .nat) G):FDn [] (T5 g):=by
 obtain⟨F,hd⟩:=lW hg;exact .q (a:=T.nat) sS (by show _<=64;decide) (CE hd)
theorem VN {g:Tm}{G:BH []->(T.fn .nat .nat).V}(hg:Dn [] g (.fn .nat .nat) G)(cg:g.count<=10000):PS (EB g):=by
 obtain⟨F,hd⟩:=lW hg;have h1:=AJ hd;have h2:=EY g;have h3:=BP (DU g);exact X8 (y:=A4) (T.ok_ty (a:=T.nat) (by show _<=64;decide)) (QU (Γ:=[T.nat]) dD (CE hd) oO ⟨h1,oO⟩ (MZ ⟨h1,oO⟩))
theorem I5 (g:Tm):(EB g).count=1+((1+(DU g).count+(EI (DU g)).count)+(1+(DU g).count)):=by
 have:(EB g).count=1+0+0+((1+((DU g).count+0)+((EI (DU g)).count+0)+((1+((DU g).count+0)+0+0)+0))+0):=rfl;omega
theorem aV {Γ:List T}{hs:List Fm}(k:CK Γ hs 1 0){g:Tm}{G:BH []->(T.fn .nat .nat).V}(hg:Dn [] g (.fn .nat .nat) G)(cg:g.count<=10000):∃e,KK e/\KG gl Γ hs (EB g) (T5 g) e ((DU g).count):=by
 have Ap:=EY g;have k2:CK (T.nat::Γ) (JF hs 1) 0 0:=k.below (by show _<=64;decide);have hd:Dn (T.nat::Γ) (DU g) .nat _:=.app (B3 hg _) (.var .zero);obtain⟨e1,l1,-,r1⟩:=KH (gl:=gl) k2 hd oO;have i1:=A9 r1;have hq:(DM (vT 0) ((DU g).upN 0 1)).inN 0 0 (DU g)=DM (DU g) (DU g):=by
  have h1:=zgo (DU g) (DU g) 0 dD (AJ hd);have h2:(vT 0).inN 0 0 (DU g)=DU g:=by
   rw[V3,if_pos dD];exact kH _ _
  show Fm.mk 1 _ [(vT 0).inN 0 0 (DU g),((DU g).upN 0 1).inN 0 0 (DU g)] []=_;rw[h1,h2];rfl
 have Wr:(DM (vT 0) ((DU g).upN 0 1)).count=1+((vT 0).count+(((DU g).upN 0 1).count+0))+0:=rfl;have Cd:(vT 0).count=1:=rfl;rw[CP]at Wr;obtain⟨e2,-,l2,r2⟩:=MX (gl:=gl) k2 (s:=T.nat) (CE hd) oO hd oO dD i1;have i2:=A9 r2;have r3:=SY (gl:=gl) k (s:=T.nat) (by show _<=64;decide) i2 oO;have i3:=A9 r3;refine⟨_,?_,by rw[Nat.zero_add]at i3;exact i3⟩;exact NR (NR (l2 (NR l1 (LK _)) hq.symm) (LK _)) (LK _)
theorem OZ {g:Tm}{G:BH []->(T.fn .nat .nat).V}(hg:Dn [] g (.fn .nat .nat) G)(cg:g.count<=10000) :
  ∃(f':Fm) (p':Pf) (e:Int),KK e/\(e=0->f' = T5 g/\p' = EB g/\(T5 g).chk=0/\(EB g).chk=0)/\((g.typeE []).2=0->(T5 g).chk=0->(EB g).chk=0->e=0)/\cT gl 24 [g.dv] [] (.tup [f'.dv,p'.dv,A0 e]) []:=by
 obtain⟨e0,t1,t2,wt⟩:=G6 (gl:=gl) hg oO RG rfl;have Ap:=EY g;have hci:=BP (DU g);have Xj:=I5 g;have Ed:(T5 g).count=1+0+((EI (DU g)).count+0):=rfl;obtain⟨f',p',e',⟨r1,r0⟩,r2,wc⟩:=T3 (gl:=gl) (lX hg) oO (VN hg cg) oO;obtain⟨F,hd⟩:=lW hg;have hid:=I4 hd (by simp;omega);have Wv:=Tm.fold g;obtain⟨Py,e_tv1⟩:∃x:Tm,x=vT 0:=⟨_,rfl⟩;have w_tv1:=EX (gl:=gl) 0;rw[<- e_tv1]at w_tv1;obtain⟨Ha,e_tv2⟩:∃x:Tm,x=DU g:=⟨_,rfl⟩;have w_tv2:=FK (gl:=gl) g [Py] sS;simp only[List.map_cons,List.map_nil]at w_tv2;have e_app:VM g [Py]=Ha:=by rw[e_tv2,e_tv1];rfl
 rw[e_app]at w_tv2;rw[<- e_tv2]at hid Ap hci Xj;have w_fv4:=JG (gl:=gl) Ha hid oO;obtain⟨Pa,e_fv4⟩:∃x:Fm,x=EI Ha:=⟨_,rfl⟩;rw[<- e_fv4]at w_fv4;have w_fv5:=PP (gl:=gl) A4 Pa;obtain⟨fv5,e_fv5⟩:∃x:Fm,x=qF 4 A4 Pa:=⟨_,rfl⟩;rw[<- e_fv5]at w_fv5;have w_pv6:=II (gl:=gl) Ha;obtain⟨Sq,e_pv6⟩:∃x:Pf,x=GI Ha:=⟨_,rfl⟩;rw[<- e_pv6]at w_pv6;have w_pv7:=KI (gl:=gl) Pa Ha Sq;obtain⟨Sg,e_pv7⟩:∃x:Pf,x=GU Pa Ha Sq:=⟨_,rfl⟩;rw[<- e_pv7]at w_pv7;have w_pv8:=PR (gl:=gl) A4 Sg;obtain⟨Nb,e_pv8⟩:∃x:Pf,x=I3 A4 Sg:=⟨_,rfl⟩;rw[<- e_pv8]at w_pv8;have g1:T5 g=fv5:=by rw[e_fv5,e_fv4,e_tv2];rfl
 have g2:EB g=Nb:=by rw[e_pv8,e_pv7,e_pv6,e_fv4,e_tv2];rfl
 rw[g1,g2]at wc r2 r0 ⊢;have h1:=Tm.fold Py;have h2:=Tm.fold Ha;have h3:=Tm.cells_eq Ha;have h4:=Fm.fold Pa;have h5:=Fm.fold fv5;have h6:=Pf.fold Sq;have h7:=Pf.fold Sg;have h8:=Pf.fold Nb;have h9:=Fm.cells_eq f';have Dq:=Pf.cells_eq p';have Bq:=Tm.cells_eq Py;by_cases q:e0=0
 ·refine⟨f',p',e',r1,r2,fun _=>r0,?_⟩;refine A6 Tryz.func24 ?_;intro X hP u6 hf u8 hn hR u5 u4;refine A2 ?_;refine BL @Wv IJ wt ?_;refine A7 @q ?_;refine BL (j4 @Wv @h1 @h3 @Bq) w_tv1 w_tv2 ?_;refine z8n (j8 @h2 @h4 @h5 @h6 @h7 @h8 @h9 @Dq) EG w_fv4 w_fv5 EG w_fv4 w_pv6 w_pv7 w_pv8 wc ?_;refine A2 ?_;exact AC (j2 @h9 @Dq)
 ·refine⟨AF,DB,e0,t1,fun h=>absurd h q,fun h=>absurd (t2.trans h) q,?_⟩;refine A6 Tryz.func24 ?_;intro X hP u6 hf u8 hn hR u5 u4;refine A2 ?_;refine BL @Wv IJ wt ?_;refine A7 @q ?_;refine EO ?_;simp[go_sem,hP,u6,hn,AF,DB] <;> (try omega);all_goals exact RH
def HE (cs:List (Option T))(Δ:List T)(s:List Int)(us:List Tm):Prop:=us.length=cs.length/\∀(i:Nat) (a:T),cs[i]? = some (some a)->∃m,us[i]? = some (vT m)/\fI Δ s m a
theorem HE.nil {Δ:List T}{s:List Int}:HE [] Δ s []:=⟨rfl,fun i a h=>by simp at h⟩
theorem HE.up {cs:List (Option T)}{Δ:List T}{s:List Int}{us:List Tm}(h:HE cs Δ s us)(b:T)(m:Int):HE cs (b::Δ) (s++[m]) us:=⟨h.1,fun i a hi=>by
 obtain⟨n,h1,h2⟩:=h.2 i a hi;exact⟨n,h1,h2.up⟩⟩
theorem HE.snoc {cs:List (Option T)}{Δ:List T}{s:List Int}{us:List Tm}(h:HE cs Δ s us)(c:Option T)(u:Tm)(hc:∀a,c=some a->∃m,u=vT m/\fI Δ s m a):HE (cs++[c]) Δ s (us++[u]):=by
 refine⟨by simp[h.1],fun i a hi=>?_⟩;have h0:=h.1;by_cases q:i<cs.length
 ·rw[List.getElem?_append_left q]at hi;obtain⟨n,h1,h2⟩:=h.2 i a hi;exact⟨n,by rw[List.getElem?_append_left oO];exact h1,h2⟩
 ·rw[List.getElem?_append_right oO]at hi;have hl:=(uA hi).1;have hz:i - cs.length=0:=by simp at hl;omega
  rw[hz]at hi;obtain⟨m,rfl,h2⟩:=hc a (by simpa using hi);refine⟨m,?_,h2⟩;rw[List.getElem?_append_right oO,show i - us.length=0 from oO];rfl
def I8 (gl:AB)(Γ:List T)(hs:List Fm)(p:Pf)(cs:List (Option T))(a:T)(N:Nat):Prop:=
 ∀(Δ:List T) (s:List Int) (vs us:List Tm) (n:Int),0<=n->n+N<=1000000->Sc Δ s n->NE Γ Δ s vs->HE cs Δ s us ->
  ∃(t:Tm) (e n':Int),n<=n'/\n'<=n+N/\KK e/\t.count<=4096/\(e=0->∃c,Nm Δ s t a c) /\
   ∀b,cT gl 34 [DP b,UN (gT Γ) hs vs us,p.dv] [(b,bn n)] (.tup [t.dv,A0 e]) [(b,bn n')]
theorem I8.hyp {Γ:List T}{hs:List Fm}{cs:List (Option T)}{a:T}{i:Nat}(hi:i<cs.length)(hc:cs[cs.length - 1 - i]? = some (some a))(hl:cs.length<=1000):I8 gl Γ hs (J7 i) cs a 0:=by
 intro Δ s vs us n h0 h1 hS hE hH;obtain⟨m,hu,L⟩:=hH.2 _ _ hc;obtain⟨u,G,k1,k2,k3⟩:=L.rep hS;have hul:=hH.1;have Tk:us[((us.length:Int) - 1 - (i:Int)).toNat]? = some (vT m):=by
  rw[show ((us.length:Int) - 1 - (i:Int)).toNat=cs.length - 1 - i from oO];exact hu
 have Ke:=Tm.cells_eq (vT m);have Sy:(i:Int)<(us.length:Int):=oO;have hul2:us.length<=1000:=oO;have Om:(0:Int)<=(i:Int):=oO;have hmc:(vT m).count=1:=rfl;have w:∀b,cT gl 90 [DP b,UN (gT Γ) hs vs us,(J7 i).dv] [(b,bn n)] (.tup [(vT m).dv,A0 0]) [(b,bn n)]:=by
  intro b;rw[lR];generalize vT m=t at *;generalize (i:Int)=j at *;refine A6 Tryz.func90 ?_;intro X hP u6 hf u8 hn hR u5 u4;refine A7 (j5 @Tk @Sy @Om @hul2 @Ke) ?_;exact AY [(b,bn n)] @Ke
 obtain⟨t',e',r1,r2,r3,w2⟩:=EW (gl:=gl) oO (.inl rfl) w;exact⟨t',e',n,oO,oO,r1,r2,fun h=>⟨1,by rw[(r3 h).2];exact⟨u,G,k1,k2,k3⟩⟩,w2⟩
theorem I8.alli {Γ:List T}{hs:List Fm}{p:Pf}{cs:List (Option T)}{a r:T}{N:Nat}(k:CK Γ hs 1 0)(ha:a.ok)(h:I8 gl (a::Γ) (JF hs 1) p cs r N):I8 gl Γ hs (I3 a.ty p) cs (.fn a r) (N+1):=by
 intro Δ s vs us n h0 h1 hS hE hH;obtain⟨t,e,n',n1,n2,e1,e2,e3,w⟩:=h (a::Δ) (s++[n+1]) (vs++[vT (n+1)]) us (n+1) oO oO (hS.push a oO) (hE.push a _) (hH.up a _);have Hw:=hE.1;have kl:=k.1;have Cq:(Tm.mk 2 (n+1) a.ty [t]).count=1+(t.count+0):=rfl;have w0:∀b,cT gl 90 [DP b,UN (gT Γ) hs vs us,(I3 a.ty p).dv] [(b,bn n)] (.tup [(Tm.mk 2 (n+1) a.ty [t]).dv,A0 e]) [(b,bn n')]:=by
  intro b;have w:=w b;have wf:=GS (gl:=gl) b n h0 oO;have wv:=EX (gl:=gl) (n+1);have wb:=NZ (gl:=gl) k a.ty (vT (n+1)) vs us oO;have wl:=NQ (gl:=gl) a.ty (n+1) t;rw[JE]at w;have l1:=Pf.length_cells p;have By:=Pf.fold p;have Ap:=Tm.cells_eq t;have As:=Tm.fold t;have Bp:=Ty.cells_eq a.ty;have Cv:=Ty.fold a.ty;have Bn:=Tm.cells_eq (Tm.mk 2 (n+1) a.ty [t]);have Dw:=Tm.fold (vT (n+1));have Cd:=Tm.cells_eq (vT (n+1));rw[X6];generalize Tm.mk 2 (n+1) a.ty [t]=r0 at *;generalize vs++[vT (n+1)]=On at *;generalize vT (n+1)=v0 at *;generalize JF hs 1=Iz at *;generalize gT Γ++[a.ty]=g' at *;generalize gT Γ=g at *;generalize a.ty=y at *;refine A6 Tryz.func90 ?_;intro X hP u6 hf u8 hn hR u5 u4;refine A2 ?_;refine A3 tT wf ?_;refine A2 ?_;refine F9 (j5 @By @Cv @Dw @Ap @Cd) wv wb w ?_;refine A2 ?_;refine A3 (j4 @As @Cv @Ap @Bn) wl ?_;refine A2 ?_;exact AY [(b,bn n')] @Bn
 obtain⟨t',e',r1,r2,r3,w2⟩:=EW (gl:=gl) oO e1 w0;refine⟨t',e',n',oO,oO,r1,r2,fun h=>?_,w2⟩;obtain⟨h4,rfl⟩:=r3 h;obtain⟨c,hn⟩:=e3 h4;exact⟨_,.lam ha hn⟩
theorem I8.alle {Γ:List T}{hs:List Fm}{p:Pf}{cs:List (Option T)}{a r:T}{N:Nat}(kl:Γ.length<=16)(h:I8 gl Γ hs p cs (.fn a r) N){x:Tm}{F:BH Γ->a.V}(hx:Dn Γ x a F)(cx:x.count<=100000):I8 gl Γ hs (GH x p) cs r (N+x.count):=by
 intro Δ s vs us n h0 h1 hS hE hH;obtain⟨t,e,n',n1,n2,e1,e2,e3,w⟩:=h Δ s vs us n oO oO hS hE hH;have Hw:=hE.1;have Kd:=aJ hx hE (hS.mono n1);have Wh:=JA x vs n';have Ox:=Kd.count;have w0:∀b,cT gl 90 [DP b,UN (gT Γ) hs vs us,(GH x p).dv] [(b,bn n)] (.tup [(nT 3 [t,(B0 vs n' x).1]).dv,A0 e]) [(b,bn (B0 vs n' x).2)]:=by
  intro b;have w:=w b;have wn:=TR (gl:=gl) b x (AJ hx) vs n' (by rw[Hw];exact L2 hx) oO oO oO;generalize B0 vs n' x=xr at *;obtain⟨x',m⟩:=xr;simp only at wn ⊢;have wa:=Y9 (gl:=gl) t x';have l1:=Pf.length_cells p;have l2:=Tm.length_cells x;have By:=Pf.fold p;have Dx:=Tm.fold x;have Ap:=Tm.cells_eq t;have As:=Tm.fold t;have Br:=Tm.cells_eq x';have Lz:=Tm.fold x';have Bn:=Tm.cells_eq (nT 3 [t,x']);rw[M2];generalize nT 3 [t,x']=r0 at *;generalize gT Γ=g at *;refine A6 Tryz.func90 ?_;intro X hP u6 hf u8 hn hR u5 u4;refine A2 ?_;refine A3 (j2 @By @Ap) w ?_;refine A2 ?_;refine BL (j6 @Dx @As @Lz @Br @Ap @Bn) wn wa ?_;refine A2 ?_;exact AY [(b,bn m)] @Bn
 have Cq:(nT 3 [t,(B0 vs n' x).1]).count=1+(t.count+((B0 vs n' x).1.count+0)):=rfl;obtain⟨t',e',r1,r2,r3,w2⟩:=EW (gl:=gl) oO e1 w0;refine⟨t',e',_,oO,oO,r1,r2,fun h=>?_,w2⟩;obtain⟨h4,rfl⟩:=r3 h;obtain⟨c,hn⟩:=e3 h4;exact⟨_,.app hn Kd⟩
theorem I8.exi {Γ:List T}{hs:List Fm}{p:Pf}{cs:List (Option T)}{a:T}(kl:Γ.length<=16){f:Fm}(hf:FDn Γ (qF 5 a.ty f))(Ed:f.content=false)(cf:(qF 5 a.ty f).count<=4096){x:Tm}{F:BH Γ->a.V}(hx:Dn Γ x a F)(cx:x.count<=100000):I8 gl Γ hs (GU (qF 5 a.ty f) x p) cs a x.count:=by
 intro Δ s vs us n h0 h1 hS hE hH;have Hw:=hE.1;have Kd:=aJ hx hE hS;have Wh:=JA x vs n;have Ox:=Kd.count;have Ir:(qF 5 a.ty f).count=1+0+(f.count+0):=rfl;have wh:=SN (gl:=gl) (X7 hf).2 oO;rw[Ed]at wh;have w0:∀b,cT gl 90 [DP b,UN (gT Γ) hs vs us,(GU (qF 5 a.ty f) x p).dv] [(b,bn n)] (.tup [(B0 vs n x).1.dv,A0 0]) [(b,bn (B0 vs n x).2)]:=by
  intro b;have wn:=TR (gl:=gl) b x (AJ hx) vs n (by rw[Hw];exact L2 hx) oO oO oO;generalize B0 vs n x=xr at *;obtain⟨x',m⟩:=xr;simp only at wn ⊢;have l1:=Pf.length_cells p;have l2:=Tm.length_cells x;have l3:=Fm.length_cells f;have Av:=Fm.fold f;have Dx:=Tm.fold x;have Br:=Tm.cells_eq x';have Lz:=Tm.fold x';have hcq:(qF 5 a.ty f).cells=[A0 5,A0 a.ty.kind,.sl (a.ty.args.map Ty.cells),.sl [],.sl [f.cells]]:=by rw[Fm.cells_eq];rfl
  rw[OR,hcq];generalize gT Γ=g at *;refine A6 Tryz.func90 ?_;intro X hP u6 hf u8 hn hR u5 u4;refine A2 ?_;refine A3 (j2 @Dx @Br) wn ?_;refine A2 ?_;refine A3 @Av wh ?_;refine A2 ?_;exact AY [(b,bn m)] @Br
 obtain⟨t',e',r1,r2,r3,w2⟩:=EW (gl:=gl) oO (.inl rfl) w0;refine⟨t',e',_,oO,oO,r1,r2,fun h=>?_,w2⟩;obtain⟨h4,rfl⟩:=r3 h;exact⟨_,Kd⟩
theorem I8.exe {Γ:List T}{hs:List Fm}{p q:Pf}{cs:List (Option T)}{a r:T}{N M m0:Nat}(k:CK Γ hs 1 1)(Al:∀h∈hs,h.typedN (gT Γ)=0)(hp:PS p)(cp:p.count<=1073741824)(Yr:p.chk=0){f:Fm}(hI:KG gl Γ hs p (qF 5 a.ty f) 0 m0)(hm:m0<=1000000)
  (hf:FDn Γ (qF 5 a.ty f)) (Ed:f.content=false) (cf:(qF 5 a.ty f).count<=4096) (Bp:cs.length<=1000) (h1:I8 gl Γ hs p cs a N) (h2:I8 gl (a::Γ) (JF hs 1++[f]) q (cs++[none]) r M):I8 gl Γ hs (JL p q) cs r (N+M+1):=by
 intro Δ s vs us n n0 nN hS hE hH;have hd:=X7 hf;have hul:=hH.1;obtain⟨t,e,n',n1,n2,e1,e2,e3,w⟩:=h1 Δ s vs us n oO oO hS hE hH;have Hw:=hE.1;have kl:=k.1;have kh:=k.2.1;have Ir:(qF 5 a.ty f).count=1+0+(f.count+0):=rfl;have wh:=SN (gl:=gl) hd.2 oO;rw[Ed]at wh;have wF:=fun b=>lV (gl:=gl) (k.less dD dD) Al hp cp Yr hI hm vs us b n;have l1:=Pf.length_cells p;have l2:=Pf.length_cells q;have l3:=Fm.length_cells f;have Av:=Fm.fold f;have By:=Pf.fold p;have Ou:=Pf.fold q;have Ap:=Tm.cells_eq t;have As:=Tm.fold t;have Wp:=MK 5 a.ty f;have Cv:=Ty.fold a.ty;have Ex:=Ty.cells_eq a.ty;by_cases q1:e=0;rotate_left
 ·have w0:∀b,cT gl 90 [DP b,UN (gT Γ) hs vs us,(JL p q).dv] [(b,bn n)] (.tup [AI.dv,A0 e]) [(b,bn n')]:=by
   intro b;have w:=w b;have wF:=wF b;rw[MU];rw[Wp]at wF;generalize gT Γ=g at *;refine A6 Tryz.func90 ?_;intro X hP u6 hf u8 hn hR u5 u4;refine A2 ?_;refine A3 @By wF ?_;refine A2 ?_;refine A3 (j2 @By @Ap) w ?_;refine A7 @q1 ?_;exact AY [(b,bn n')] @AI.eq_1
  obtain⟨t',e',r1,r2,r3,w2⟩:=EW (gl:=gl) dD e1 w0;exact⟨t',e',n',oO,oO,r1,r2,fun h=>absurd (r3 h).1 q1,w2⟩
 obtain⟨c,hn⟩:=e3 q1;obtain⟨u,e',Dg,m1,m2,u1,u2,u3,w3⟩:=h2 (a::Δ) (s++[n'+1]) (vs++[vT (n'+1)]) (us++[AI]) (n'+1) oO oO ((hS.mono n1).push a oO) (hE.push a _) ((hH.up a _).snoc none AI (fun _ h=>by cases h));have w0:∀b,cT gl 90 [DP b,UN (gT Γ) hs vs us,(JL p q).dv] [(b,bn n)] (.tup [(nT 3 [Tm.mk 2 (n'+1) a.ty [u],t]).dv,A0 e']) [(b,bn Dg)]:=by
  intro b;have w:=w b;have w3:=w3 b;have wF:=wF b;have wf:=GS (gl:=gl) b n' oO oO;have wv:=EX (gl:=gl) (n'+1);have wb:=NZ (gl:=gl) k a.ty (vT (n'+1)) vs us oO;have wa:=T4 (gl:=gl) (gT Γ++[a.ty]) (JF hs 1) (vs++[vT (n'+1)]) us f AI (by simp;omega) oO;have wl:=NQ (gl:=gl) a.ty (n'+1) u;have wp:=Y9 (gl:=gl) (Tm.mk 2 (n'+1) a.ty [u]) t;rw[JE]at w3;have Lj:=Tm.cells_eq u;have Mk:=Tm.fold u;have Bn:=Tm.cells_eq (Tm.mk 2 (n'+1) a.ty [u]);have Gz:=Tm.fold (Tm.mk 2 (n'+1) a.ty [u]);have If:=Tm.cells_eq (nT 3 [Tm.mk 2 (n'+1) a.ty [u],t]);have Dw:=Tm.fold (vT (n'+1));have Cd:=Tm.cells_eq (vT (n'+1));have hz:AI.dv = .agg [A0 0,A0 0,A0 0,.sl [],.sl []]:=rfl;rw[MU];rw[Wp]at wF;rw[hz]at wa;generalize us++[AI]=Xg at *;generalize nT 3 [Tm.mk 2 (n'+1) a.ty [u],t]=r0 at *;generalize Tm.mk 2 (n'+1) a.ty [u]=r1 at *;generalize vs++[vT (n'+1)]=On at *;generalize vT (n'+1)=v0 at *;generalize JF hs 1++[f]=Wy at *;generalize JF hs 1=Iz at *;generalize gT Γ++[a.ty]=g' at *;generalize gT Γ=g at *;generalize a.ty=y at *;refine A6 Tryz.func90 ?_;intro X hP u6 hf u8 hn hR u5 u4;refine A2 ?_;refine A3 @By wF ?_;refine A2 ?_;refine A3 (j2 @By @Ap) w ?_;refine A7 @q1 ?_;refine A3 tT wf ?_;refine A2 ?_;refine A3 @Cd wv ?_;refine A2 ?_
  refine A3 @Av wh ?_;refine A2 ?_;refine F9 (j5 @Cv @Dw @Av @Ou @Lj) wb wa w3 ?_;refine A2 ?_;refine BL (j5 @Mk @Cv @As @Gz @If) wl wp ?_;refine A2 ?_;exact AY [(b,bn Dg)] @If
 have Cq:(nT 3 [Tm.mk 2 (n'+1) a.ty [u],t]).count=1+((1+(u.count+0))+(t.count+0)):=rfl;obtain⟨t',Qo,r1,r2,r3,w2⟩:=EW (gl:=gl) oO u1 w0;refine⟨t',Qo,Dg,oO,oO,r1,r2,fun h=>?_,w2⟩;obtain⟨h4,rfl⟩:=r3 h;obtain⟨d,hu⟩:=u3 h4;exact⟨_,.app (.lam (X7 hf).1 hu) hn⟩
theorem lY {t:Tm}{a:T}{F:BH []->a.V}(h:Dn [] t a F)(n:Nat)(k:Int):t.upN (n:Int) k=t:=by
 refine gQ t k n (AJ h) ?_;have:=L2 (B3 h (List.replicate n T.nat))
 rwa [List.length_replicate]at this
theorem z8 {t:Tm}{a:T}{F:BH []->a.V}(h:Dn [] t a F)(n:Nat)(s:Tm):t.inN 0 (n:Int) s=t:=by
 have h1:=zgo t s n oO (AJ h)
 rwa [lY h]at h1
abbrev AS (k:Int)(b g n:Tm):Tm:=Tm.mk k 0 A4 [b,g,n]
theorem rK {k:Int}(hk:k=6\/k=9):AX k=0:=by rcases hk with rfl|rfl <;> rfl
theorem VO {k:Int}(hk:k=6\/k=9)(y:Ty){b g:Tm}{c a:T}{B:BH []->c.V}{G:BH []->a.V}(hb:Dn [] b c B)(hg:Dn [] g a G)(x:Tm)(n:Nat)(m:Int):(Tm.mk k 0 y [b,g,x]).upN (n:Int) m=Tm.mk k 0 y [b,g,x.upN n m]:=by
 have h1:¬k=1:=by rcases hk with rfl|rfl <;> decide
 rw[Tm.upN_eq];simp only[Tm.kind_mk,Tm.index_mk,Tm.type_mk,Tm.args_mk,rK hk,Int.add_zero,h1,false_and,if_false,List.map_cons,List.map_nil,lY hb,lY hg]
theorem zA {k:Int}(hk:k=6\/k=9)(y:Ty){b g:Tm}{c a:T}{B:BH []->c.V}{G:BH []->a.V}(hb:Dn [] b c B)(hg:Dn [] g a G)(x:Tm)(n:Nat)(s:Tm):(Tm.mk k 0 y [b,g,x]).inN 0 (n:Int) s=Tm.mk k 0 y [b,g,x.inN 0 n s]:=by
 have h1:¬k=1:=by rcases hk with rfl|rfl <;> decide
 rw[Tm.inN_eq];simp only[Tm.kind_mk,Tm.index_mk,Tm.type_mk,Tm.args_mk,rK hk,Int.add_zero,h1,if_false,List.map_cons,List.map_nil,z8 hb,z8 hg]
theorem eR (s:Tm):(EI s).upN 0 1=EI (s.upN 0 1):=by
 have h1:=dP s 0 1 1 1 dD dD;have h2:=dP s 0 1 0 1 dD dD;have h3:(vT 0).upN 1 1=vT 0:=by rw[SA];rfl
 show qF 5 A4 (DM ((vT 0).upN (0+1) 1) ((s.upN 0 1).upN (0+1) 1))=qF 5 A4 (DM (vT 0) ((s.upN 0 1).upN 0 1));rw[h1,show (s.upN 0 1).upN 0 1=s.upN 0 (1+1) from h2,show (0:Int)+1=1 from rfl,h3]
theorem zB (s x:Tm):(EI s).inN 0 0 x=EI (s.inN 0 0 x):=by
 have h1:=zgl s x 0 0 1 dD dD dD;have h3:(vT 0).inN 0 (0+1) x=vT 0:=by rw[V3];rfl
 show qF 5 A4 (DM ((vT 0).inN 0 (0+1) x) ((s.upN 0 1).inN 0 (0+1) x))=qF 5 A4 (DM (vT 0) ((s.inN 0 0 x).upN 0 1));rw[h3,h1]
theorem G0 {b g:Tm}{B:BH []->T.nat.V}{G:BH []->(T.fn .nat (.fn .nat .nat)).V}(hb:Dn [] b .nat B)(hg:Dn [] g (.fn .nat (.fn .nat .nat)) G){Γ:List T}{x:Tm}{X:BH Γ->T.nat.V}(hx:Dn Γ x .nat X):∃F:BH Γ->T.nat.V,Dn Γ (AS 6 b g x) .nat F:=⟨_,.rc (a:=T.nat) (by show _<=64;decide) (B3 hb Γ) (B3 hg Γ) hx⟩
theorem EN {b g:Tm}{B:BH []->T.nat.V}{G:BH []->(T.fn .nat (.fn .list (.fn .nat .nat))).V}(hb:Dn [] b .nat B)(hg:Dn [] g (.fn .nat (.fn .list (.fn .nat .nat))) G){Γ:List T}{x:Tm}{X:BH Γ->T.list.V}(hx:Dn Γ x .list X):∃F:BH Γ->T.nat.V,Dn Γ (AS 9 b g x) .nat F:=⟨_,.fold (a:=T.nat) (by show _<=64;decide) (B3 hb Γ) (B3 hg Γ) hx⟩
abbrev GV (g:Tm):Tm:=nT 3 [nT 3 [g,vT 1],vT 0]
def T6 (b g:Tm):Fm:=qF 4 A4 (EI (AS 6 b g (vT 0)))
def zC (g:Tm):Pf:=MC (DM ((GV g).upN 0 1) (nT 3 [nT 3 [g,vT 2],vT 0])) (J7 0) (GI (GV g))
def zD (b g:Tm):Pf:=JL (J7 0) (GU (EI (AS 6 b g (nT 5 [vT 1]))) (GV g) (zC g))
def zE (b g:Tm):Pf:=GU (EI (AS 6 b g (nT 4 []))) b (GI b)
def OS (b g:Tm):Pf:=I3 A4 (H2 16 (EI (AS 6 b g (vT 0))) (vT 0) (zE b g) (zD b g))
theorem BU:(T.nat).ok:=by show _<=64;decide
theorem BO (k:Int)(b g x:Tm):(AS k b g x).count=1+(b.count+(g.count+x.count)):=by
 have:(AS k b g x).count=1+(b.count+(g.count+(x.count+0))):=rfl;omega
theorem OT (g:Tm):(GV g).count=g.count+4:=by
 have:(GV g).count=1+((1+(g.count+((vT 1).count+0)))+((vT 0).count+0)):=rfl;have h1:(vT 1).count=1:=rfl;have h2:(vT 0).count=1:=rfl;omega
theorem D2 (s t:Tm):(DM s t).count=1+(s.count+t.count):=by
 have:(DM s t).count=1+(s.count+(t.count+0))+0:=rfl;omega
theorem z5j {b g:Tm}{B:BH []->T.nat.V}{G:BH []->(T.fn .nat (.fn .nat .nat)).V}(hb:Dn [] b .nat B)(hg:Dn [] g (.fn .nat (.fn .nat .nat)) G)(cb:b.count<=1000)(cg:g.count<=1000):∃e n,n<=100000/\(e=0->(EI (AS 6 b g (vT 0))).typedN (gT [T.nat,T.nat])=0)/\KG gl [] [] (OS b g) (T6 b g) e n:=by
 obtain⟨F0,d0⟩:=G0 hb hg (Γ:=[T.nat,T.nat]) (x:=vT 0) (.var .zero);obtain⟨F1,d1⟩:=G0 hb hg (Γ:=[T.nat]) (x:=nT 4 []) .zero;obtain⟨F2,d2⟩:=G0 hb hg (Γ:=[T.nat,T.nat]) (x:=nT 5 [vT 0]) (.succ (.var .zero));obtain⟨F3,d3⟩:=G0 hb hg (Γ:=[T.nat,T.nat,T.nat]) (x:=nT 5 [vT 1]) (.succ (.var (.succ .zero)));have c0:=BO 6 b g (vT 0);have c1:=BO 6 b g (nT 4 []);have c2:=BO 6 b g (nT 5 [vT 0]);have c3:=BO 6 b g (nT 5 [vT 1]);have v0:(vT 0).count=1:=rfl;have v1:(nT 4 []).count=1:=rfl;have v2:(nT 5 [vT 0]).count=2:=rfl;have v3:(nT 5 [vT 1]).count=2:=rfl;have i0:=BP (AS 6 b g (vT 0));have i1:=BP (AS 6 b g (nT 4 []));have i3:=BP (AS 6 b g (nT 5 [vT 1]));have cr:=OT g;have k0:CK [] [] 3 2:=⟨dD,dD,sS,sS⟩;have k1:CK [T.nat] [] 2 2:=k0.below BU;have k2:CK [T.nat,T.nat] [EI (AS 6 b g (vT 0))] 1 1:=(k1.below BU).with (CE d0) oO
 obtain⟨e1,-,-,r1⟩:=KH (gl:=gl) (k1.less dD dD) (B3 hb [T.nat]) oO;have q1:=D2 (vT 0) ((AS 6 b g (nT 4 [])).upN 0 1);rw[CP]at q1;obtain⟨e2,-,-,r2⟩:=MX (gl:=gl) (k1.less dD dD) (s:=T.nat) (CE d1) oO (B3 hb [T.nat]) oO dD (A9 r1);have ib:=A9 r2;have q0:=D2 (vT 0) ((AS 6 b g (vT 0)).upN 0 1);rw[CP]at q0;have df:FDn [T.nat,T.nat,T.nat] (DM (vT 0) ((AS 6 b g (vT 0)).upN 0 1)):=.eq (.var .zero) (MI d0 [T.nat]);have k3:CK [T.nat,T.nat,T.nat] (JF [EI (AS 6 b g (vT 0))] 1++[DM (vT 0) ((AS 6 b g (vT 0)).upN 0 1)]) 0 0:=(k2.below BU).with df oO
 have dr:Dn [T.nat,T.nat,T.nat] (GV g) .nat _:=.app (.app (B3 hg _) (.var (.succ .zero))) (.var .zero);obtain⟨e3,-,-,r3⟩:=KH (gl:=gl) k3 dr oO;have r4:=LL (gl:=gl) k3 (i:=0) (f:=DM (vT 0) ((AS 6 b g (vT 0)).upN 0 1)) rfl sS;have Vx:FDn [T.nat,T.nat,T.nat,T.nat] (DM ((GV g).upN 0 1) (nT 3 [nT 3 [g,vT 2],vT 0])):=.eq (MI dr [T.nat]) (.app (.app (B3 hg _) (.var (.succ (.succ .zero)))) (.var .zero));have cn:=D2 ((GV g).upN 0 1) (nT 3 [nT 3 [g,vT 2],vT 0]);have cn2:(nT 3 [nT 3 [g,vT 2],vT 0]).count=1+((1+(g.count+(1+0)))+(1+0)):=rfl;rw[CP]at cn;obtain⟨e5,-,-,r5⟩:=U5 (gl:=gl) (na:=0) (nb:=0) k3 Vx oO dD dD (by rw[CP];omega) (.var .zero) (A9 r4) (A9 r3);have q3:=D2 (vT 0) ((AS 6 b g (nT 5 [vT 1])).upN 0 1);rw[CP]at q3;obtain⟨e6,-,-,r6⟩:=MX (gl:=gl) (na:=0) k3 (s:=T.nat) (CE d3) oO dr oO dD (A9 r5);have Di:(EI (AS 6 b g (nT 5 [vT 0]))).upN 0 1=EI (AS 6 b g (nT 5 [vT 1])):=by
  rw[eR];have:=VO (k:=6) (.inl rfl) A4 hb hg (nT 5 [vT 0]) 0 1;rw[show ((0:Nat):Int)=0 from rfl]at this;rw[this];rfl
 have r7:=LL (gl:=gl) (k2.less dD dD) (i:=0) (f:=EI (AS 6 b g (vT 0))) rfl sS;have r8:=U4 (gl:=gl) (na:=0) (nb:=0+(GV g).count) k2 (s:=T.nat) (fo:=EI (AS 6 b g (nT 5 [vT 0]))) oO (A9 r7) (fun _=>by rw[Di];exact A9 r6) (CE d2);obtain⟨e9,z9,-,r9⟩:=z0v (gl:=gl) (na:=0+b.count) (nb:=0+(0+(GV g).count)) (k1.less dD dD) (CE d0) oO (t:=vT 0) (.var .zero) dD oO ib (A9 r8);have Ca:(EI (AS 6 b g (vT 0))).inN 0 0 (vT 0)=EI (AS 6 b g (vT 0)):=by
  rw[zB];have:=zA (k:=6) (.inl rfl) A4 hb hg (vT 0) 0 (vT 0);rw[show ((0:Nat):Int)=0 from rfl]at this;rw[this];rfl
 rw[Ca]at r9;have Uf:=SY (gl:=gl) (k0.less dD dD) (s:=T.nat) BU (A9 r9) oO;exact⟨_,_,oO,fun h=>(z9 (DI (DI h).1).1).2.2,A9 Uf⟩
theorem QV (y:Ty)(p:Pf):(I3 y p).count=1+p.count:=by
 have:(I3 y p).count=1+0+0+(p.count+0):=rfl;omega
theorem N7 (f:Fm)(t:Tm)(p:Pf):(GU f t p).count=1+t.count+f.count+p.count:=by
 have:(GU f t p).count=1+(t.count+0)+(f.count+0)+(p.count+0):=rfl;omega
theorem U6 (p q:Pf):(JL p q).count=1+p.count+q.count:=by
 have:(JL p q).count=1+0+0+(p.count+(q.count+0)):=rfl;omega
theorem YD (k:Int)(f:Fm)(t:Tm)(p q:Pf):(H2 k f t p q).count=1+t.count+f.count+p.count+q.count:=by
 have:(H2 k f t p q).count=1+(t.count+0)+(f.count+0)+(p.count+(q.count+0)):=rfl;omega
theorem O0 (t:Tm):(GI t).count=1+t.count:=by
 have:(GI t).count=1+(t.count+0)+0+0:=rfl;omega
theorem U7 (f:Fm)(p q:Pf):(MC f p q).count=1+f.count+p.count+q.count:=by
 have:(MC f p q).count=1+0+(f.count+0)+(p.count+(q.count+0)):=rfl;omega
theorem LB (i:Int):(J7 i).count=1:=rfl
theorem z5k {b g:Tm}{B:BH []->T.nat.V}{G:BH []->(T.fn .nat (.fn .nat .nat)).V}(hb:Dn [] b .nat B)(hg:Dn [] g (.fn .nat (.fn .nat .nat)) G):FDn [] (T6 b g):=by
 obtain⟨F0,d0⟩:=G0 hb hg (Γ:=[T.nat]) (x:=vT 0) (.var .zero);exact .q (a:=T.nat) sS BU (CE d0)
theorem rM {b g:Tm}{B:BH []->T.nat.V}{G:BH []->(T.fn .nat (.fn .nat .nat)).V}(hb:Dn [] b .nat B)(hg:Dn [] g (.fn .nat (.fn .nat .nat)) G)(cb:b.count<=1000)(cg:g.count<=1000):PS (OS b g)/\(OS b g).count<=100000/\(T6 b g).count<=100000:=by
 obtain⟨F0,d0⟩:=G0 hb hg (Γ:=[T.nat,T.nat]) (x:=vT 0) (.var .zero);obtain⟨F1,d1⟩:=G0 hb hg (Γ:=[T.nat]) (x:=nT 4 []) .zero;obtain⟨F3,d3⟩:=G0 hb hg (Γ:=[T.nat,T.nat,T.nat]) (x:=nT 5 [vT 1]) (.succ (.var (.succ .zero)));have c0:=BO 6 b g (vT 0);have c1:=BO 6 b g (nT 4 []);have c3:=BO 6 b g (nT 5 [vT 1]);have v0:(vT 0).count=1:=rfl;have v1:(nT 4 []).count=1:=rfl;have v3:(nT 5 [vT 1]).count=2:=rfl;have i0:=BP (AS 6 b g (vT 0));have i1:=BP (AS 6 b g (nT 4 []));have i3:=BP (AS 6 b g (nT 5 [vT 1]));have cr:=OT g;have dr:Dn [T.nat,T.nat,T.nat] (GV g) .nat _:=.app (.app (B3 hg _) (.var (.succ .zero))) (.var .zero);have Vx:FDn [T.nat,T.nat,T.nat,T.nat] (DM ((GV g).upN 0 1) (nT 3 [nT 3 [g,vT 2],vT 0])):=.eq (MI dr [T.nat]) (.app (.app (B3 hg _) (.var (.succ (.succ .zero)))) (.var .zero));have cn:=D2 ((GV g).upN 0 1) (nT 3 [nT 3 [g,vT 2],vT 0]);have cn2:(nT 3 [nT 3 [g,vT 2],vT 0]).count=1+((1+(g.count+(1+0)))+(1+0)):=rfl;rw[CP]at cn;have Dt:(vT 0).shape=true/\(vT 0).count<=16384:=⟨rfl,dD⟩;refine⟨?_,?_,?_⟩
 ·exact X8 (y:=A4) (T.ok_ty BU) (z7 (.inl rfl) (Γ:=[T.nat,T.nat]) dD (CE d0) oO Dt (QU (Γ:=[T.nat]) dD (CE d1) oO ⟨AJ hb,oO⟩ (MZ ⟨AJ hb,oO⟩))
   (YA (MD 0) (QU (Γ:=[T.nat,T.nat,T.nat]) dD (CE d3) oO ⟨AJ dr,oO⟩ (YB (Γ:=[T.nat,T.nat,T.nat,T.nat]) dD Vx oO (MD 0) (MZ ⟨AJ dr,oO⟩)))))
 ·unfold OS zE zD zC;rw[QV,YD,N7,O0,U6,LB,N7,U7,LB,O0];omega
 ·have:(T6 b g).count=1+0+((EI (AS 6 b g (vT 0))).count+0):=rfl;omega
abbrev GJ (g:Tm):Tm:=nT 3 [nT 3 [nT 3 [g,vT 2],vT 1],vT 0]
abbrev AL:Ty:=Ty.mk 2 []
def T7 (b g:Tm):Fm:=qF 4 AL (EI (AS 9 b g (vT 0)))
def zF (g:Tm):Pf:=MC (DM ((GJ g).upN 0 1) (nT 3 [nT 3 [nT 3 [g,vT 3],vT 2],vT 0])) (J7 0) (GI (GJ g))
def lZ (b g:Tm):Pf:=JL (J7 0) (GU (EI (AS 9 b g (nT 8 [vT 2,vT 1]))) (GJ g) (zF g))
def zG (b g:Tm):Pf:=GU (EI (AS 9 b g (nT 7 []))) b (GI b)
def OU (b g:Tm):Pf:=I3 AL (H2 17 (EI (AS 9 b g (vT 0))) (vT 0) (zG b g) (lZ b g))
theorem J8:(T.list).ok:=by show _<=64;decide
theorem N0 (g:Tm):(GJ g).count=g.count+6:=by
 have:(GJ g).count=1+((1+((1+(g.count+((vT 2).count+0)))+((vT 1).count+0)))+((vT 0).count+0)):=rfl;have h1:(vT 1).count=1:=rfl;have h0:(vT 0).count=1:=rfl;have h2:(vT 2).count=1:=rfl;omega
theorem z0x (s:Tm):(EI s).upN 1 1=EI (s.upN 1 1):=by
 have h1:=zfe s 0 1 1 1 dD dD dD;have h3:(vT 0).upN 2 1=vT 0:=by rw[SA];rfl
 show qF 5 A4 (DM ((vT 0).upN (1+1) 1) ((s.upN 0 1).upN (1+1) 1))=qF 5 A4 (DM (vT 0) ((s.upN 1 1).upN 0 1));rw[show (1:Int)+1=2 from rfl,h3];rw[show (0:Int)+1+1=2 from rfl,show (0:Int)+1=1 from rfl]at h1;rw[h1]
theorem z5l {b g:Tm}{B:BH []->T.nat.V}{G:BH []->(T.fn .nat (.fn .list (.fn .nat .nat))).V}(hb:Dn [] b .nat B)(hg:Dn [] g (.fn .nat (.fn .list (.fn .nat .nat))) G)(cb:b.count<=1000)(cg:g.count<=1000):∃e n,n<=100000/\(e=0->(EI (AS 9 b g (vT 0))).typedN (gT [T.list,T.list])=0)/\KG gl [] [] (OU b g) (T7 b g) e n:=by
 obtain⟨F0,d0⟩:=EN hb hg (Γ:=[T.list,T.list]) (x:=vT 0) (.var .zero);obtain⟨F4,d4⟩:=EN hb hg (Γ:=[T.list,T.nat,T.list]) (x:=vT 0) (.var .zero);obtain⟨F1,d1⟩:=EN hb hg (Γ:=[T.list]) (x:=nT 7 []) .nil;obtain⟨F2,d2⟩:=EN hb hg (Γ:=[T.list,T.nat,T.list]) (x:=nT 8 [vT 1,vT 0]) (.cons (.var (.succ .zero)) (.var .zero));obtain⟨F3,d3⟩:=EN hb hg (Γ:=[T.nat,T.list,T.nat,T.list]) (x:=nT 8 [vT 2,vT 1]) (.cons (.var (.succ (.succ .zero))) (.var (.succ .zero)));have c0:=BO 9 b g (vT 0);have c1:=BO 9 b g (nT 7 []);have c2:=BO 9 b g (nT 8 [vT 1,vT 0]);have c3:=BO 9 b g (nT 8 [vT 2,vT 1]);have v0:(vT 0).count=1:=rfl;have v1:(nT 7 []).count=1:=rfl;have v2:(nT 8 [vT 1,vT 0]).count=3:=rfl;have v3:(nT 8 [vT 2,vT 1]).count=3:=rfl;have i0:=BP (AS 9 b g (vT 0));have i1:=BP (AS 9 b g (nT 7 []));have i3:=BP (AS 9 b g (nT 8 [vT 2,vT 1]));have cr:=N0 g;have k0:CK [] [] 4 2:=⟨dD,dD,sS,sS⟩;have k1:CK [T.list] [] 3 2:=k0.below J8;have hup:(EI (AS 9 b g (vT 0))).upN 1 1=EI (AS 9 b g (vT 0)):=by
  rw[z0x];have:=VO (k:=9) (.inr rfl) A4 hb hg (vT 0) 1 1;rw[show ((1:Nat):Int)=1 from rfl]at this;rw[this];rfl
 have k2:CK [T.list,T.nat,T.list] [EI (AS 9 b g (vT 0))] 1 1:=(k1.below2 BU J8).with (CE d4) oO
 obtain⟨e1,-,-,r1⟩:=KH (gl:=gl) (k1.less dD dD) (B3 hb [T.list]) oO;have q1:=D2 (vT 0) ((AS 9 b g (nT 7 [])).upN 0 1);rw[CP]at q1;obtain⟨e2,-,-,r2⟩:=MX (gl:=gl) (k1.less dD dD) (s:=T.nat) (CE d1) oO (B3 hb [T.list]) oO dD (A9 r1);have ib:=A9 r2;have q0:=D2 (vT 0) ((AS 9 b g (vT 0)).upN 0 1);rw[CP]at q0;have df:FDn [T.nat,T.list,T.nat,T.list] (DM (vT 0) ((AS 9 b g (vT 0)).upN 0 1)):=.eq (.var .zero) (MI d4 [T.nat]);have k3:CK [T.nat,T.list,T.nat,T.list] (JF [EI (AS 9 b g (vT 0))] 1++[DM (vT 0) ((AS 9 b g (vT 0)).upN 0 1)]) 0 0:=(k2.below BU).with df oO
 have dr:Dn [T.nat,T.list,T.nat,T.list] (GJ g) .nat _:=.app (.app (.app (B3 hg _) (.var (.succ (.succ .zero)))) (.var (.succ .zero))) (.var .zero);obtain⟨e3,-,-,r3⟩:=KH (gl:=gl) k3 dr oO;have r4:=LL (gl:=gl) k3 (i:=0) (f:=DM (vT 0) ((AS 9 b g (vT 0)).upN 0 1)) rfl sS;have Vx:FDn [T.nat,T.nat,T.list,T.nat,T.list] (DM ((GJ g).upN 0 1) (nT 3 [nT 3 [nT 3 [g,vT 3],vT 2],vT 0])):=.eq (MI dr [T.nat]) (.app (.app (.app (B3 hg _) (.var (.succ (.succ (.succ .zero))))) (.var (.succ (.succ .zero)))) (.var .zero));have cn:=D2 ((GJ g).upN 0 1) (nT 3 [nT 3 [nT 3 [g,vT 3],vT 2],vT 0]);have cn2:(nT 3 [nT 3 [nT 3 [g,vT 3],vT 2],vT 0]).count=1+((1+((1+(g.count+(1+0)))+(1+0)))+(1+0)):=rfl;rw[CP]at cn;obtain⟨e5,-,-,r5⟩:=U5 (gl:=gl) (na:=0) (nb:=0) k3 Vx oO dD dD (by rw[CP];omega) (.var .zero) (A9 r4) (A9 r3);have q3:=D2 (vT 0) ((AS 9 b g (nT 8 [vT 2,vT 1])).upN 0 1);rw[CP]at q3;obtain⟨e6,-,-,r6⟩:=MX (gl:=gl) (na:=0) k3 (s:=T.nat) (CE d3) oO dr oO dD (A9 r5);have Di:(EI (AS 9 b g (nT 8 [vT 1,vT 0]))).upN 0 1=EI (AS 9 b g (nT 8 [vT 2,vT 1])):=by
  rw[eR];have:=VO (k:=9) (.inr rfl) A4 hb hg (nT 8 [vT 1,vT 0]) 0 1;rw[show ((0:Nat):Int)=0 from rfl]at this;rw[this];rfl
 have r7:=LL (gl:=gl) (k2.less dD dD) (i:=0) (f:=EI (AS 9 b g (vT 0))) rfl sS;have r8:=U4 (gl:=gl) (na:=0) (nb:=0+(GJ g).count) k2 (s:=T.nat) (fo:=EI (AS 9 b g (nT 8 [vT 1,vT 0]))) oO (A9 r7) (fun _=>by rw[Di];exact A9 r6) (CE d2);have ir8:=A9 r8;obtain⟨e9,z9,-,r9⟩:=z5h (gl:=gl) (na:=0+b.count) (nb:=0+(0+(GJ g).count)) (k1.less dD dD) (CE d0) oO (t:=vT 0) (.var .zero) dD oO ib (by rw[hup];exact ir8);have Ca:(EI (AS 9 b g (vT 0))).inN 0 0 (vT 0)=EI (AS 9 b g (vT 0)):=by
  rw[zB];have:=zA (k:=9) (.inr rfl) A4 hb hg (vT 0) 0 (vT 0);rw[show ((0:Nat):Int)=0 from rfl]at this;rw[this];rfl
 rw[Ca]at r9;have Uf:=SY (gl:=gl) (k0.less dD dD) (s:=T.list) J8 (A9 r9) oO;exact⟨_,_,oO,fun h=>(z9 (DI (DI h).1).1).2.2,A9 Uf⟩
theorem z5m {b g:Tm}{B:BH []->T.nat.V}{G:BH []->(T.fn .nat (.fn .list (.fn .nat .nat))).V}(hb:Dn [] b .nat B)(hg:Dn [] g (.fn .nat (.fn .list (.fn .nat .nat))) G):FDn [] (T7 b g):=by
 obtain⟨F0,d0⟩:=EN hb hg (Γ:=[T.list]) (x:=vT 0) (.var .zero);exact .q (a:=T.list) sS J8 (CE d0)
theorem rN {b g:Tm}{B:BH []->T.nat.V}{G:BH []->(T.fn .nat (.fn .list (.fn .nat .nat))).V}(hb:Dn [] b .nat B)(hg:Dn [] g (.fn .nat (.fn .list (.fn .nat .nat))) G)(cb:b.count<=1000)(cg:g.count<=1000):PS (OU b g)/\(OU b g).count<=100000/\(T7 b g).count<=100000:=by
 obtain⟨F0,d0⟩:=EN hb hg (Γ:=[T.list,T.list]) (x:=vT 0) (.var .zero);obtain⟨F1,d1⟩:=EN hb hg (Γ:=[T.list]) (x:=nT 7 []) .nil;obtain⟨F3,d3⟩:=EN hb hg (Γ:=[T.nat,T.list,T.nat,T.list]) (x:=nT 8 [vT 2,vT 1]) (.cons (.var (.succ (.succ .zero))) (.var (.succ .zero)));have c0:=BO 9 b g (vT 0);have c1:=BO 9 b g (nT 7 []);have c3:=BO 9 b g (nT 8 [vT 2,vT 1]);have v0:(vT 0).count=1:=rfl;have v1:(nT 7 []).count=1:=rfl;have v3:(nT 8 [vT 2,vT 1]).count=3:=rfl;have i0:=BP (AS 9 b g (vT 0));have i1:=BP (AS 9 b g (nT 7 []));have i3:=BP (AS 9 b g (nT 8 [vT 2,vT 1]));have cr:=N0 g;have dr:Dn [T.nat,T.list,T.nat,T.list] (GJ g) .nat _:=.app (.app (.app (B3 hg _) (.var (.succ (.succ .zero)))) (.var (.succ .zero))) (.var .zero);have Vx:FDn [T.nat,T.nat,T.list,T.nat,T.list] (DM ((GJ g).upN 0 1) (nT 3 [nT 3 [nT 3 [g,vT 3],vT 2],vT 0])):=.eq (MI dr [T.nat]) (.app (.app (.app (B3 hg _) (.var (.succ (.succ (.succ .zero))))) (.var (.succ (.succ .zero)))) (.var .zero));have cn:=D2 ((GJ g).upN 0 1) (nT 3 [nT 3 [nT 3 [g,vT 3],vT 2],vT 0]);have cn2:(nT 3 [nT 3 [nT 3 [g,vT 3],vT 2],vT 0]).count=1+((1+((1+(g.count+(1+0)))+(1+0)))+(1+0)):=rfl;rw[CP]at cn;have Dt:(vT 0).shape=true/\(vT 0).count<=16384:=⟨rfl,dD⟩;refine⟨?_,?_,?_⟩
 ·exact X8 (y:=AL) (T.ok_ty J8) (z7 (.inr rfl) (Γ:=[T.list,T.list]) dD (CE d0) oO Dt (QU (Γ:=[T.list]) dD (CE d1) oO ⟨AJ hb,oO⟩ (MZ ⟨AJ hb,oO⟩))
   (YA (MD 0) (QU (Γ:=[T.nat,T.list,T.nat,T.list]) dD (CE d3) oO ⟨AJ dr,oO⟩ (YB (Γ:=[T.nat,T.nat,T.list,T.nat,T.list]) dD Vx oO (MD 0) (MZ ⟨AJ dr,oO⟩)))))
 ·unfold OU zG lZ zF;rw[QV,YD,N7,O0,U6,LB,N7,U7,LB,O0];omega
 ·have:(T7 b g).count=1+0+((EI (AS 9 b g (vT 0))).count+0):=rfl;omega
theorem eS (k:Int)(a:T)(f:Fm):(qF k a.ty f).cells=[A0 k,A0 a.ty.kind,.sl (a.ty.args.map Ty.cells),.sl [],.sl [f.cells]]:=by rw[Fm.cells_eq];rfl
theorem z5n {Γ:List T}{hs:List Fm}(k:CK Γ hs 1 1){p:Pf}{f:Fm}(hk:p.kind=16)(Ud:p.forms[0]? = some f)(vs us:List Tm)(hv:vs.length<=999)(hu:us.length<=1000)(n1 n2:Int)(x:Tm) :
  cT gl 201 [UN (gT Γ) hs vs us,p.dv,.sl [[A0 n1],[A0 n2]],x.dv] [] (UN (gT Γ++[A4]) (JF hs 1++[f]) (vs++[vT n1]) (us++[x])) []:=by
 have kh:=k.2.1;have wn:cT gl 47 [] [] A4.dv []:=EG;have wv:=EX (gl:=gl) n1;have wb:=NZ (gl:=gl) k A4 (vT n1) vs us oO;have wa:=T4 (gl:=gl) (gT Γ++[A4]) (JF hs 1) (vs++[vT n1]) us f x (by simp;omega) hu;have Dw:=Tm.fold (vT n1);have Cd:=Tm.cells_eq (vT n1);have Av:=Fm.fold f;have Dx:=Tm.fold x;have Ko:=Ty.fold A4;generalize us++[x]=Xg at *;generalize vs++[vT n1]=On at *;generalize vT n1=v0 at *;generalize JF hs 1++[f]=Wy at *;generalize JF hs 1=Iz at *;generalize gT Γ++[A4]=g' at *;generalize gT Γ=g at *;generalize A4=y at *;refine A6 Tryz.func201 ?_;intro X hP u6 hf u8 hn hR u5 u4;refine A7 @hk ?_;refine IS (j5 @Dw @Ko @Ud @Av @Dx) wn wv wb wa ?_;refine A2 ?_;exact AM
theorem zH {Γ:List T}{hs:List Fm}(k:CK Γ hs 2 1){p:Pf}{f:Fm}(hk:p.kind=17)(Ud:p.forms[0]? = some f)(hd:FDn (T.list::Γ) f)(cf:f.count<=4096)(vs us:List Tm)(hv:vs.length<=998)(hu:us.length<=1000)(n1 n2:Int)(x:Tm) :
  cT gl 201 [UN (gT Γ) hs vs us,p.dv,.sl [[A0 n1],[A0 n2]],x.dv] [] (UN ((gT Γ++[A4])++[AL]) (JF (JF hs 1) 1++[f.upN 1 1]) ((vs++[vT n1])++[vT n2]) (us++[x])) []:=by
 have kh:=k.2.1;have k1:=k.1;have k2:CK (T.nat::Γ) (JF hs 1) 1 1:=k.below BU;have wn:cT gl 47 [] [] A4.dv []:=EG;have wl:cT gl 71 [] [] AL.dv []:=JM;have wv:=EX (gl:=gl) n1;have Yi:=EX (gl:=gl) n2;have wb:=NZ (gl:=gl) k A4 (vT n1) vs us oO;have wb2:=NZ (gl:=gl) k2 AL (vT n2) (vs++[vT n1]) us (by simp;omega);rw[JE]at wb2;have wb3:cT gl 139 [UN (gT Γ++[A4]) (JF hs 1) (vs++[vT n1]) us,AL.dv,(vT n2).dv] [] (UN ((gT Γ++[A4])++[AL]) (JF (JF hs 1) 1) ((vs++[vT n1])++[vT n2]) us) []:=wb2;clear wb2;have wi:=pN (gl:=gl) hd oO (by simp;omega) 1 dD dD 1 dD dD;rw[PO cf,if_pos rfl]at wi;have wa:=T4 (gl:=gl) ((gT Γ++[A4])++[AL]) (JF (JF hs 1) 1) ((vs++[vT n1])++[vT n2]) us (f.upN 1 1) x (by simp;omega) hu;have Dw:=Tm.fold (vT n1);have Cd:=Tm.cells_eq (vT n1);have hfv2:=Tm.fold (vT n2);have hcv2:=Tm.cells_eq (vT n2);have Av:=Fm.fold f;have Mk:=Fm.fold (f.upN 1 1);have Lj:=Fm.cells_eq (f.upN 1 1);have Dx:=Tm.fold x;have Ko:=Ty.fold A4;have Gz:=Ty.fold AL;generalize us++[x]=Xg at *;generalize (vs++[vT n1])++[vT n2]=vs'' at *;generalize vs++[vT n1]=On at *;generalize vT n1=v0 at *;generalize vT n2=v1 at *;generalize JF (JF hs 1) 1++[f.upN 1 1]=Fu at *;generalize JF (JF hs 1) 1=Wy at *
 generalize JF hs 1=Iz at *;generalize f.upN 1 1=fu at *;generalize (gT Γ++[A4])++[AL]=g'' at *;generalize gT Γ++[A4]=g' at *;generalize gT Γ=g at *;generalize A4=y at *;generalize AL=z at *;refine A6 Tryz.func201 ?_;intro X hP u6 hf u8 hn hR u5 u4;refine A7 @hk ?_;refine A3 (j3 @Ud @Av @Lj) wi ?_;refine A2 ?_;refine cC (j6 @Dw @Ko @hfv2 @Gz @Mk @Dx) wn wv wb wl Yi wb3 wa ?_;refine A2 ?_;exact AM
theorem I8.ind {Γ:List T}{hs:List Fm}{p q:Pf}{cs:List (Option T)}{a:T}{N M:Nat}(k:CK Γ hs 1 1){f:Fm}(hf:FDn (T.nat::Γ) (qF 5 a.ty f))(Ed:f.content=false)(cf:(qF 5 a.ty f).count<=4096)(Bp:cs.length<=1000){x:Tm}{F:BH Γ->(T.nat).V}(hx:Dn Γ x T.nat F)(cx:x.count<=100000)
  (h1:I8 gl Γ hs p cs a N) (h2:I8 gl (T.nat::Γ) (JF hs 1++[qF 5 a.ty f]) q (cs++[some a]) a M):I8 gl Γ hs (H2 16 (qF 5 a.ty f) x p q) cs a (N+3+M+x.count):=by
 intro Δ s vs us n n0 nN hS hE hH;have Po:=(X7 hf).1;have hul:=hH.1;obtain⟨t,e,n',n1,n2,e1,e2,e3,w⟩:=h1 Δ s vs us n oO oO hS hE hH;have Hw:=hE.1;have kl:=k.1;have kh:=k.2.1;have wT:=jA (gl:=gl) hf Ed cf;have l1:=Pf.length_cells p;have l2:=Pf.length_cells q;have l3:=Fm.length_cells f;have l4:=Tm.length_cells x;have Av:=Fm.fold f;have By:=Pf.fold p;have Ou:=Pf.fold q;have Dx:=Tm.fold x;have Ap:=Tm.cells_eq t;have As:=Tm.fold t;have Cv:=Ty.fold a.ty;have Ex:=Ty.cells_eq a.ty;have Wp:=MK 5 a.ty f;have Qm:=eS 5 a f;by_cases q1:e=0;rotate_left
 ·have w0:∀b,cT gl 90 [DP b,UN (gT Γ) hs vs us,(H2 16 (qF 5 a.ty f) x p q).dv] [(b,bn n)] (.tup [AI.dv,A0 e]) [(b,bn n')]:=by
   intro b;have w:=w b;have wR:cT gl 141 [DP b,UN (gT Γ) hs vs us,(H2 16 (qF 5 a.ty f) x p q).dv] [(b,bn n)] (.tup [AE.dv,AI.dv,AI.dv,A0 e]) [(b,bn n')]:=by
    rw[IH,Qm];rw[Wp]at wT;generalize gT Γ=g at *;generalize a.ty=y at *;refine A6 Tryz.func141 ?_;intro X hP u6 hf u8 hn hR u5 u4;refine A2 ?_;refine A3 @Ex wT ?_;refine A2 ?_;refine A3 (j2 @By @Ap) w ?_;refine A7 @q1 ?_;exact AY [(b,bn n')] (j2 @AI.eq_1 @AE.eq_1)
   have Fv:AI.dv = .agg [A0 0,A0 0,A0 0,.sl [],.sl []]:=rfl;have Eb:AE.dv = .agg [A0 0,.sl []]:=rfl;rw[Fv,Eb]at wR;rw[IH,Qm]at wR ⊢;generalize gT Γ=g at *;generalize a.ty=y at *;refine A6 Tryz.func90 ?_;intro X hP u6 hf u8 hn hR u5 u4;refine A2 ?_;refine A3 tT wR ?_;refine A7 @q1 ?_;exact AY [(b,bn n')] @AI.eq_1
  obtain⟨t',e',r1,r2,r3,w2⟩:=EW (gl:=gl) dD e1 w0;exact⟨t',e',n',oO,oO,r1,r2,fun h=>absurd (r3 h).1 q1,w2⟩
 obtain⟨c,hn⟩:=e3 q1;have hS3:Sc (a::T.nat::Δ) (s++[n'+1]++[n'+3]) (n'+3):=((hS.mono n1).push T.nat (by omega:n'<n'+1)).push a oO;have hE3:NE (T.nat::Γ) (a::T.nat::Δ) (s++[n'+1]++[n'+3]) (vs++[vT (n'+1)]):=(hE.push T.nat (n'+1)).skip a (n'+3)
 have hH3:HE (cs++[some a]) (a::T.nat::Δ) (s++[n'+1]++[n'+3]) (us++[vT (n'+3)]):=((hH.up T.nat (n'+1)).up a (n'+3)).snoc (some a) (vT (n'+3)) (fun b h=>by
  obtain rfl:=Option.some.inj h;exact⟨n'+3,rfl,.new⟩)
 obtain⟨u,e',Dg,m1,m2,u1,u2,u3,w3⟩:=h2 (a::T.nat::Δ) (s++[n'+1]++[n'+3]) (vs++[vT (n'+1)]) (us++[vT (n'+3)]) (n'+3) oO oO hS3 hE3 hH3;have hR:∀b,cT gl 141 [DP b,UN (gT Γ) hs vs us,(H2 16 (qF 5 a.ty f) x p q).dv] [(b,bn n)] (.tup [(if e' = 0 then a.ty else AE).dv,(if e' = 0 then t else AI).dv,(if e' = 0 then Tm.mk 2 (n'+1) A4 [Tm.mk 2 (n'+3) a.ty [u]] else AI).dv,A0 e']) [(b,bn Dg)]:=by
  intro b;have w:=w b;have w3:=w3 b;have Xo:=GS (gl:=gl) b n' oO oO;have Vr:=GS (gl:=gl) b (n'+1) oO oO;have Uq:=GS (gl:=gl) b (n'+2) oO oO;rw[show n'+1+1=n'+2 from oO]at Vr;rw[show n'+2+1=n'+3 from oO]at Uq;have wv:=EX (gl:=gl) (n'+3);have wS:=z5n (gl:=gl) k (p:=H2 16 (qF 5 a.ty f) x p q) (f:=qF 5 a.ty f) rfl rfl vs us oO oO (n'+1) (n'+2) (vT (n'+3));rw[JE]at w3;have Gb:=NQ (gl:=gl) a.ty (n'+3) u;have Lj:=Tm.cells_eq u;have Mk:=Tm.fold u;have Dw:=Tm.fold (vT (n'+3));have Cd:=Tm.cells_eq (vT (n'+3));have Bn:=Tm.cells_eq (Tm.mk 2 (n'+3) a.ty [u]);have Gz:=Tm.fold (Tm.mk 2 (n'+3) a.ty [u]);have Ep:=NQ (gl:=gl) A4 (n'+1) (Tm.mk 2 (n'+3) a.ty [u]);have Kk:=Tm.cells_eq (Tm.mk 2 (n'+1) A4 [Tm.mk 2 (n'+3) a.ty [u]]);have wn:cT gl 47 [] [] A4.dv []:=EG;have Ko:=Ty.fold A4;have Yz:cT gl 34 [DP b,UN (gT Γ++[A4]) (JF hs 1++[qF 5 a.ty f]) (vs++[vT (n'+1)]) (us++[vT (n'+3)]),q.dv] [(b,bn (n'+3))] (.tup [u.dv,A0 e']) [(b,bn Dg)]:=w3;clear w3;generalize Qz:H2 16 (qF 5 a.ty f) x p q=pp at *;have Jh:pp.kind=16:=by rw[<- Qz];rfl
  have Zb:pp.forms[0]? = some (qF 5 a.ty f):=by rw[<- Qz];rfl
  have Vz:pp.args[0]? = some p:=by rw[<- Qz];rfl
  have Xc:pp.args[1]? = some q:=by rw[<- Qz];rfl
  have My:=Pf.fold pp;have Na:=Fm.fold (qF 5 a.ty f);generalize Tm.mk 2 (n'+1) A4 [Tm.mk 2 (n'+3) a.ty [u]]=r0 at *;generalize Tm.mk 2 (n'+3) a.ty [u]=r1 at *;generalize us++[vT (n'+3)]=Xg at *;generalize vs++[vT (n'+1)]=On at *;generalize vT (n'+3)=v0 at *;generalize JF hs 1++[qF 5 a.ty f]=Iz at *;generalize (gT Γ++[A4])=g' at *;generalize gT Γ=g at *;generalize qF 5 a.ty f=qf at *;generalize a.ty=y at *;generalize A4=yn at *;by_cases q2:e' = 0
  ·simp only[if_pos q2];refine A6 Tryz.func141 ?_;intro X hP u6 hf u8 hn hR u5 u4;refine A2 ?_;refine A3 (j3 @Zb @Na @Ex) wT ?_;refine A2 ?_;refine A3 (j3 @Vz @By @Ap) w ?_;refine A7 @q1 ?_;refine F9 tT Xo Vr Uq ?_;refine A2 ?_;refine F9 (j6 @Cd @Dw @My @Xc @Ou @Lj) wv wS Yz ?_;refine A7 @q2 ?_;refine A3 (j3 @Cv @Mk @Bn) Gb ?_;refine A7 @Jh ?_;refine BL (j5 @Ko @Gz @Kk @Ap @Ex) wn Ep ?_;refine A2 ?_;exact AY [(b,bn Dg)] (j4 @Kk @Ap @Ex @q2)
  ·simp only[if_neg q2];refine A6 Tryz.func141 ?_;intro X hP u6 hf u8 hn hR u5 u4;refine A2 ?_;refine A3 (j3 @Zb @Na @Ex) wT ?_;refine A2 ?_;refine A3 (j3 @Vz @By @Ap) w ?_;refine A7 @q1 ?_;refine F9 tT Xo Vr Uq ?_;refine A2 ?_;refine F9 (j6 @Cd @Dw @My @Xc @Ou @Lj) wv wS Yz ?_;refine A7 @q2 ?_;exact AY [(b,bn Dg)] (j2 @AI.eq_1 @AE.eq_1)
 have hbc:(Tm.mk 2 (n'+1) A4 [Tm.mk 2 (n'+3) a.ty [u]]).count=1+(1+(u.count+0)+0):=rfl;by_cases q2:e' = 0;rotate_left
 ·have w0:∀b,cT gl 90 [DP b,UN (gT Γ) hs vs us,(H2 16 (qF 5 a.ty f) x p q).dv] [(b,bn n)] (.tup [AI.dv,A0 e']) [(b,bn Dg)]:=by
   intro b;have wR:=hR b;simp only[if_neg q2]at wR;have Fv:AI.dv = .agg [A0 0,A0 0,A0 0,.sl [],.sl []]:=rfl;have Eb:AE.dv = .agg [A0 0,.sl []]:=rfl;rw[Fv,Eb]at wR;rw[IH,Qm]at wR ⊢;generalize gT Γ=g at *;generalize a.ty=y at *;refine A6 Tryz.func90 ?_;intro X hP u6 hf u8 hn hR u5 u4;refine A2 ?_;refine A3 tT wR ?_;refine A7 @q2 ?_;exact AY [(b,bn Dg)] @AI.eq_1
  obtain⟨t',Qo,r1,r2,r3,w2⟩:=EW (gl:=gl) dD u1 w0;exact⟨t',Qo,Dg,oO,oO,r1,r2,fun h=>absurd (r3 h).1 q2,w2⟩
 obtain⟨d,hu⟩:=u3 q2;have Kd:=aJ hx hE (hS.mono (show n<=Dg from oO));have Wh:=JA x vs Dg;have Ox:=Kd.count;have Lr:∃c,Nm Δ s (Tm.mk 2 (n'+1) A4 [Tm.mk 2 (n'+3) a.ty [u]]) (.fn .nat (.fn a a)) c:=⟨_,.lam (a:=.nat) BU (.lam Po hu)⟩;have w0:∀b,cT gl 90 [DP b,UN (gT Γ) hs vs us,(H2 16 (qF 5 a.ty f) x p q).dv] [(b,bn n)] (.tup [(Tm.mk 6 0 a.ty [t,Tm.mk 2 (n'+1) A4 [Tm.mk 2 (n'+3) a.ty [u]],(B0 vs Dg x).1]).dv,A0 0]) [(b,bn (B0 vs Dg x).2)]:=by
  intro b;have wR:=hR b;simp only[if_pos q2,q2]at wR;generalize Tm.mk 2 (n'+1) A4 [Tm.mk 2 (n'+3) a.ty [u]]=r0 at *;have wn:=TR (gl:=gl) b x (AJ hx) vs Dg (by rw[Hw];exact L2 hx) oO oO oO;generalize B0 vs Dg x=xr at *;obtain⟨x',m⟩:=xr;simp only at wn ⊢;have wL:=jB (gl:=gl) (H2 16 (qF 5 a.ty f) x p q) a.ty t r0 x' (.inl rfl);have Fc:(if (H2 16 (qF 5 a.ty f) x p q).kind=17 then (9:Int) else 6)=6:=rfl;rw[Fc]at wL;have Br:=Tm.cells_eq x';have Lz:=Tm.fold x';have Cb:=Tm.cells_eq r0;have Bz:=Tm.fold r0;have Bn:=Tm.cells_eq (Tm.mk 6 0 a.ty [t,r0,x']);generalize Tm.mk 6 0 a.ty [t,r0,x']=res at *;rw[IH,Qm]at wR wL ⊢;generalize gT Γ=g at *;generalize a.ty=y at *;refine A6 Tryz.func90 ?_;intro X hP u6 hf u8 hn hR u5 u4;refine A2 ?_;refine A3 (j3 @Ex @Ap @Cb) wR ?_;refine A2 ?_;refine BL (j7 @Dx @Br @Lz @As @Bz @Cv @Bn) wn wL ?_;refine A2 ?_;exact AY [(b,bn m)] @Bn
 have Cq:(Tm.mk 6 0 a.ty [t,Tm.mk 2 (n'+1) A4 [Tm.mk 2 (n'+3) a.ty [u]],(B0 vs Dg x).1]).count=1+(t.count+((Tm.mk 2 (n'+1) A4 [Tm.mk 2 (n'+3) a.ty [u]]).count+((B0 vs Dg x).1.count+0))):=rfl;obtain⟨t',Qo,r1,r2,r3,w2⟩:=EW (gl:=gl) oO (.inl rfl) w0;refine⟨t',Qo,_,oO,oO,r1,r2,fun h=>?_,w2⟩;obtain⟨h4,rfl⟩:=r3 h;obtain⟨c2,Lr⟩:=Lr;exact⟨_,.rc Po hn Lr Kd⟩
theorem I8.lists {Γ:List T}{hs:List Fm}{p q:Pf}{cs:List (Option T)}{a:T}{N M:Nat}(k:CK Γ hs 2 1){f:Fm}(hf:FDn (T.list::Γ) (qF 5 a.ty f))(Ed:f.content=false)(cf:(qF 5 a.ty f).count<=4096)(Bp:cs.length<=1000){x:Tm}{F:BH Γ->(T.list).V}(hx:Dn Γ x T.list F)(cx:x.count<=100000)
  (h1:I8 gl Γ hs p cs a N) (h2:I8 gl (T.list::T.nat::Γ) (JF (JF hs 1) 1++[(qF 5 a.ty f).upN 1 1]) q (cs++[some a]) a M):I8 gl Γ hs (H2 17 (qF 5 a.ty f) x p q) cs a (N+3+M+x.count):=by
 intro Δ s vs us n n0 nN hS hE hH;have Po:=(X7 hf).1;have hul:=hH.1;obtain⟨t,e,n',n1,n2,e1,e2,e3,w⟩:=h1 Δ s vs us n oO oO hS hE hH;have Hw:=hE.1;have kl:=k.1;have kh:=k.2.1;have wT:=jA (gl:=gl) hf Ed cf;have l1:=Pf.length_cells p;have l2:=Pf.length_cells q;have l3:=Fm.length_cells f;have l4:=Tm.length_cells x;have Av:=Fm.fold f;have By:=Pf.fold p;have Ou:=Pf.fold q;have Dx:=Tm.fold x;have Ap:=Tm.cells_eq t;have As:=Tm.fold t;have Cv:=Ty.fold a.ty;have Ex:=Ty.cells_eq a.ty;have Wp:=MK 5 a.ty f;have Qm:=eS 5 a f;by_cases q1:e=0;rotate_left
 ·have w0:∀b,cT gl 90 [DP b,UN (gT Γ) hs vs us,(H2 17 (qF 5 a.ty f) x p q).dv] [(b,bn n)] (.tup [AI.dv,A0 e]) [(b,bn n')]:=by
   intro b;have w:=w b;have wR:cT gl 141 [DP b,UN (gT Γ) hs vs us,(H2 17 (qF 5 a.ty f) x p q).dv] [(b,bn n)] (.tup [AE.dv,AI.dv,AI.dv,A0 e]) [(b,bn n')]:=by
    rw[IH,Qm];rw[Wp]at wT;generalize gT Γ=g at *;generalize a.ty=y at *;refine A6 Tryz.func141 ?_;intro X hP u6 hf u8 hn hR u5 u4;refine A2 ?_;refine A3 @Ex wT ?_;refine A2 ?_;refine A3 (j2 @By @Ap) w ?_;refine A7 @q1 ?_;exact AY [(b,bn n')] (j2 @AI.eq_1 @AE.eq_1)
   have Fv:AI.dv = .agg [A0 0,A0 0,A0 0,.sl [],.sl []]:=rfl;have Eb:AE.dv = .agg [A0 0,.sl []]:=rfl;rw[Fv,Eb]at wR;rw[IH,Qm]at wR ⊢;generalize gT Γ=g at *;generalize a.ty=y at *;refine A6 Tryz.func90 ?_;intro X hP u6 hf u8 hn hR u5 u4;refine A2 ?_;refine A3 tT wR ?_;refine A7 @q1 ?_;exact AY [(b,bn n')] @AI.eq_1
  obtain⟨t',e',r1,r2,r3,w2⟩:=EW (gl:=gl) dD e1 w0;exact⟨t',e',n',oO,oO,r1,r2,fun h=>absurd (r3 h).1 q1,w2⟩
 obtain⟨c,hn⟩:=e3 q1;have hS3:Sc (a::T.list::T.nat::Δ) (s++[n'+1]++[n'+2]++[n'+3]) (n'+3):=(((hS.mono n1).push T.nat (by omega:n'<n'+1)).push T.list (by omega:n'+1<n'+2)).push a oO;have hE3:NE (T.list::T.nat::Γ) (a::T.list::T.nat::Δ) (s++[n'+1]++[n'+2]++[n'+3]) (vs++[vT (n'+1)]++[vT (n'+2)]):=((hE.push T.nat (n'+1)).push T.list (n'+2)).skip a (n'+3)
 have hH3:HE (cs++[some a]) (a::T.list::T.nat::Δ) (s++[n'+1]++[n'+2]++[n'+3]) (us++[vT (n'+3)]):=(((hH.up T.nat (n'+1)).up T.list (n'+2)).up a (n'+3)).snoc (some a) (vT (n'+3)) (fun b h=>by
  obtain rfl:=Option.some.inj h;exact⟨n'+3,rfl,.new⟩)
 obtain⟨u,e',Dg,m1,m2,u1,u2,u3,w3⟩:=h2 (a::T.list::T.nat::Δ) (s++[n'+1]++[n'+2]++[n'+3]) (vs++[vT (n'+1)]++[vT (n'+2)]) (us++[vT (n'+3)]) (n'+3) oO oO hS3 hE3 hH3;have hR:∀b,cT gl 141 [DP b,UN (gT Γ) hs vs us,(H2 17 (qF 5 a.ty f) x p q).dv] [(b,bn n)] (.tup [(if e' = 0 then a.ty else AE).dv,(if e' = 0 then t else AI).dv,(if e' = 0 then Tm.mk 2 (n'+1) A4 [Tm.mk 2 (n'+2) AL [Tm.mk 2 (n'+3) a.ty [u]]] else AI).dv,A0 e']) [(b,bn Dg)]:=by
  intro b;have w:=w b;have w3:=w3 b;have Xo:=GS (gl:=gl) b n' oO oO;have Vr:=GS (gl:=gl) b (n'+1) oO oO;have Uq:=GS (gl:=gl) b (n'+2) oO oO;rw[show n'+1+1=n'+2 from oO]at Vr;rw[show n'+2+1=n'+3 from oO]at Uq;have wv:=EX (gl:=gl) (n'+3);have wS:=zH (gl:=gl) k (p:=H2 17 (qF 5 a.ty f) x p q) rfl rfl hf cf vs us oO oO (n'+1) (n'+2) (vT (n'+3));rw[JE,JE]at w3;have Gb:=NQ (gl:=gl) a.ty (n'+3) u;have Lj:=Tm.cells_eq u;have Mk:=Tm.fold u;have Dw:=Tm.fold (vT (n'+3));have Cd:=Tm.cells_eq (vT (n'+3));have Bn:=Tm.cells_eq (Tm.mk 2 (n'+3) a.ty [u]);have Gz:=Tm.fold (Tm.mk 2 (n'+3) a.ty [u]);have Qy:=NQ (gl:=gl) AL (n'+2) (Tm.mk 2 (n'+3) a.ty [u]);have hcl3:=Tm.cells_eq (Tm.mk 2 (n'+2) AL [Tm.mk 2 (n'+3) a.ty [u]]);have hfl3:=Tm.fold (Tm.mk 2 (n'+2) AL [Tm.mk 2 (n'+3) a.ty [u]]);have Ep:=NQ (gl:=gl) A4 (n'+1) (Tm.mk 2 (n'+2) AL [Tm.mk 2 (n'+3) a.ty [u]]);have wli:cT gl 71 [] [] AL.dv []:=JM;have hfli:=Ty.fold AL;have Kk:=Tm.cells_eq (Tm.mk 2 (n'+1) A4 [Tm.mk 2 (n'+2) AL [Tm.mk 2 (n'+3) a.ty [u]]]);have wn:cT gl 47 [] [] A4.dv []:=EG;have Ko:=Ty.fold A4
  have Yz:cT gl 34 [DP b,UN ((gT Γ++[A4])++[AL]) (JF (JF hs 1) 1++[(qF 5 a.ty f).upN 1 1]) (vs++[vT (n'+1)]++[vT (n'+2)]) (us++[vT (n'+3)]),q.dv] [(b,bn (n'+3))] (.tup [u.dv,A0 e']) [(b,bn Dg)]:=w3;clear w3;generalize Qz:H2 17 (qF 5 a.ty f) x p q=pp at *;have Jh:pp.kind=17:=by rw[<- Qz];rfl
  have Zb:pp.forms[0]? = some (qF 5 a.ty f):=by rw[<- Qz];rfl
  have Vz:pp.args[0]? = some p:=by rw[<- Qz];rfl
  have Xc:pp.args[1]? = some q:=by rw[<- Qz];rfl
  have My:=Pf.fold pp;have Na:=Fm.fold (qF 5 a.ty f);generalize Tm.mk 2 (n'+1) A4 [Tm.mk 2 (n'+2) AL [Tm.mk 2 (n'+3) a.ty [u]]]=r0 at *;generalize Tm.mk 2 (n'+2) AL [Tm.mk 2 (n'+3) a.ty [u]]=r2 at *;generalize Tm.mk 2 (n'+3) a.ty [u]=r1 at *;generalize us++[vT (n'+3)]=Xg at *;generalize vs++[vT (n'+1)]++[vT (n'+2)]=On at *;generalize vT (n'+3)=v0 at *;generalize JF (JF hs 1) 1++[(qF 5 a.ty f).upN 1 1]=Iz at *;generalize ((gT Γ++[A4])++[AL])=g' at *;generalize gT Γ=g at *;generalize qF 5 a.ty f=qf at *;generalize a.ty=y at *;generalize A4=yn at *;generalize AL=yl at *;by_cases q2:e' = 0
  ·simp only[if_pos q2];refine A6 Tryz.func141 ?_;intro X hP u6 hf u8 hn hR u5 u4;refine A2 ?_;refine A3 (j3 @Zb @Na @Ex) wT ?_;refine A2 ?_;refine A3 (j3 @Vz @By @Ap) w ?_;refine A7 @q1 ?_;refine F9 tT Xo Vr Uq ?_;refine A2 ?_;refine F9 (j6 @Cd @Dw @My @Xc @Ou @Lj) wv wS Yz ?_;refine A7 @q2 ?_;refine A3 (j3 @Cv @Mk @Bn) Gb ?_;refine A7 @Jh ?_;refine BL (j3 @hfli @Gz @hcl3) wli Qy ?_;refine A2 ?_;refine BL (j5 @Ko @hfl3 @Kk @Ap @Ex) wn Ep ?_;refine A2 ?_;exact AY [(b,bn Dg)] (j4 @Kk @Ap @Ex @q2)
  ·simp only[if_neg q2];refine A6 Tryz.func141 ?_;intro X hP u6 hf u8 hn hR u5 u4;refine A2 ?_;refine A3 (j3 @Zb @Na @Ex) wT ?_;refine A2 ?_;refine A3 (j3 @Vz @By @Ap) w ?_;refine A7 @q1 ?_;refine F9 tT Xo Vr Uq ?_;refine A2 ?_;refine F9 (j6 @Cd @Dw @My @Xc @Ou @Lj) wv wS Yz ?_;refine A7 @q2 ?_;exact AY [(b,bn Dg)] (j2 @AI.eq_1 @AE.eq_1)
 have hbc:(Tm.mk 2 (n'+1) A4 [Tm.mk 2 (n'+2) AL [Tm.mk 2 (n'+3) a.ty [u]]]).count=1+(1+(1+(u.count+0)+0)+0):=rfl;by_cases q2:e' = 0;rotate_left
 ·have w0:∀b,cT gl 90 [DP b,UN (gT Γ) hs vs us,(H2 17 (qF 5 a.ty f) x p q).dv] [(b,bn n)] (.tup [AI.dv,A0 e']) [(b,bn Dg)]:=by
   intro b;have wR:=hR b;simp only[if_neg q2]at wR;have Fv:AI.dv = .agg [A0 0,A0 0,A0 0,.sl [],.sl []]:=rfl;have Eb:AE.dv = .agg [A0 0,.sl []]:=rfl;rw[Fv,Eb]at wR;rw[IH,Qm]at wR ⊢;generalize gT Γ=g at *;generalize a.ty=y at *;refine A6 Tryz.func90 ?_;intro X hP u6 hf u8 hn hR u5 u4;refine A2 ?_;refine A3 tT wR ?_;refine A7 @q2 ?_;exact AY [(b,bn Dg)] @AI.eq_1
  obtain⟨t',Qo,r1,r2,r3,w2⟩:=EW (gl:=gl) dD u1 w0;exact⟨t',Qo,Dg,oO,oO,r1,r2,fun h=>absurd (r3 h).1 q2,w2⟩
 obtain⟨d,hu⟩:=u3 q2;have Kd:=aJ hx hE (hS.mono (show n<=Dg from oO));have Wh:=JA x vs Dg;have Ox:=Kd.count;have Lr:∃c,Nm Δ s (Tm.mk 2 (n'+1) A4 [Tm.mk 2 (n'+2) AL [Tm.mk 2 (n'+3) a.ty [u]]]) (.fn .nat (.fn .list (.fn a a))) c:=⟨_,.lam (a:=.nat) BU ((.lam (a:=.list) J8 (.lam Po hu)))⟩;have w0:∀b,cT gl 90 [DP b,UN (gT Γ) hs vs us,(H2 17 (qF 5 a.ty f) x p q).dv] [(b,bn n)] (.tup [(Tm.mk 9 0 a.ty [t,Tm.mk 2 (n'+1) A4 [Tm.mk 2 (n'+2) AL [Tm.mk 2 (n'+3) a.ty [u]]],(B0 vs Dg x).1]).dv,A0 0]) [(b,bn (B0 vs Dg x).2)]:=by
  intro b;have wR:=hR b;simp only[if_pos q2,q2]at wR;generalize Tm.mk 2 (n'+1) A4 [Tm.mk 2 (n'+2) AL [Tm.mk 2 (n'+3) a.ty [u]]]=r0 at *;have wn:=TR (gl:=gl) b x (AJ hx) vs Dg (by rw[Hw];exact L2 hx) oO oO oO;generalize B0 vs Dg x=xr at *;obtain⟨x',m⟩:=xr;simp only at wn ⊢;have wL:=jB (gl:=gl) (H2 17 (qF 5 a.ty f) x p q) a.ty t r0 x' (.inr rfl);have Fc:(if (H2 17 (qF 5 a.ty f) x p q).kind=17 then (9:Int) else 6)=9:=rfl;rw[Fc]at wL;have Br:=Tm.cells_eq x';have Lz:=Tm.fold x';have Cb:=Tm.cells_eq r0;have Bz:=Tm.fold r0;have Bn:=Tm.cells_eq (Tm.mk 9 0 a.ty [t,r0,x']);generalize Tm.mk 9 0 a.ty [t,r0,x']=res at *;rw[IH,Qm]at wR wL ⊢;generalize gT Γ=g at *;generalize a.ty=y at *;refine A6 Tryz.func90 ?_;intro X hP u6 hf u8 hn hR u5 u4;refine A2 ?_;refine A3 (j3 @Ex @Ap @Cb) wR ?_;refine A2 ?_;refine BL (j7 @Dx @Br @Lz @As @Bz @Cv @Bn) wn wL ?_;refine A2 ?_;exact AY [(b,bn m)] @Bn
 have Cq:(Tm.mk 9 0 a.ty [t,Tm.mk 2 (n'+1) A4 [Tm.mk 2 (n'+2) AL [Tm.mk 2 (n'+3) a.ty [u]]],(B0 vs Dg x).1]).count=1+(t.count+((Tm.mk 2 (n'+1) A4 [Tm.mk 2 (n'+2) AL [Tm.mk 2 (n'+3) a.ty [u]]]).count+((B0 vs Dg x).1.count+0))):=rfl;obtain⟨t',Qo,r1,r2,r3,w2⟩:=EW (gl:=gl) oO (.inl rfl) w0;refine⟨t',Qo,_,oO,oO,r1,r2,fun h=>?_,w2⟩;obtain⟨h4,rfl⟩:=r3 h;obtain⟨c2,Lr⟩:=Lr;exact⟨_,.fold Po hn Lr Kd⟩
abbrev BA:T:=.pair .nat .nat
abbrev FL:Ty:=Ty.mk 3 [A4,A4]
abbrev DL (x:Tm):Tm:=nT 11 [x]
abbrev HM (x:Tm):Tm:=nT 12 [x]
abbrev uT (g:Tm):Tm:=nT 10 [HM (vT 0),nT 3 [nT 3 [g,DL (vT 0)],HM (vT 0)]]
abbrev zgp (g:Tm):Tm:=Tm.mk 2 0 A4 [Tm.mk 2 0 FL [uT g]]
abbrev C7 (b c g n:Tm):Tm:=Tm.mk 6 0 FL [nT 10 [b,c],zgp g,n]
abbrev T8 (s:Tm):Fm:=FA 2 (DM (DL (vT 0)) (DL (s.upN 0 1))) (DM (HM (vT 0)) (HM (s.upN 0 1)))
def HO (s:Tm):Fm:=qF 5 FL (T8 s)
abbrev ZO:Pf:=rE 4 (J7 0)
abbrev m4:Pf:=rE 5 (J7 0)
abbrev wC (g:Tm):Tm:=nT 3 [nT 3 [g,DL (vT 1)],HM (vT 1)]
def m5:Pf:=MC (DM (HM (vT 1)) (vT 0)) m4 (GI (HM (vT 0)))
def zI (g:Tm):Pf:=MC (DM (wC g) (nT 3 [nT 3 [g,vT 0],HM (vT 1)])) ZO (GI (nT 3 [nT 3 [g,DL (vT 0)],HM (vT 0)]))
def aW (b c g:Tm):Pf:=MC (DM (wC g) (nT 3 [nT 3 [g,DL (C7 b c g (vT 2))],vT 0])) m4 (zI g)
def zg2 (b c g:Tm):Pf:=JL (J7 0) (GU (HO (C7 b c g (nT 5 [vT 1]))) (uT g) (SX m5 (aW b c g)))
def zg3 (b c g:Tm):Pf:=GU (HO (C7 b c g (nT 4 []))) (nT 10 [b,c]) (SX (GI b) (GI c))
def eT (b c g:Tm):Pf:=H2 16 (HO (C7 b c g (vT 0))) (vT 0) (zg3 b c g) (zg2 b c g)
def X9 (b c g:Tm):Pf:=I3 A4 (JL (eT b c g) (GU (EI (DL (C7 b c g (vT 1)))) (DL (vT 0)) ZO))
def rO (b c g:Tm):Fm:=qF 4 A4 (EI (DL (C7 b c g (vT 0))))
theorem T9:BA.ok:=by show _<=64;decide
theorem H8 (s:Tm):(HO s).count=2 * s.count+10:=by
 have h1:(HO s).count=1+0+((1+0+((1+((1+((vT 0).count+0))+((1+((s.upN 0 1).count+0))+0))+0)+((1+((1+((vT 0).count+0))+((1+((s.upN 0 1).count+0))+0))+0)+0)))+0):=rfl;have h2:(vT 0).count=1:=rfl;rw[h1,h2,CP];omega
theorem VP (s:Tm):(T8 s).count=2 * s.count+9:=by
 have h1:=H8 s;have h2:(HO s).count=1+0+((T8 s).count+0):=rfl;omega
theorem DE (b c g n:Tm):(C7 b c g n).count=b.count+c.count+g.count+n.count+13:=by
 have h1:(C7 b c g n).count=1+((1+(b.count+(c.count+0)))+((1+((1+((1+((1+((vT 0).count+0))+((1+((1+(g.count+((1+((vT 0).count+0))+0)))+((1+((vT 0).count+0))+0)))+0)))+0))+0))+(n.count+0))):=rfl;have h2:(vT 0).count=1:=rfl;omega
theorem D9 (s:Tm):(DL s).count=s.count+1:=by
 have:(DL s).count=1+(s.count+0):=rfl;omega
theorem FG (s:Tm):(HM s).count=s.count+1:=by
 have:(HM s).count=1+(s.count+0):=rfl;omega
theorem BB (s t:Tm):(nT 3 [s,t]).count=s.count+t.count+1:=by
 have:(nT 3 [s,t]).count=1+(s.count+(t.count+0)):=rfl;omega
theorem PT (s t:Tm):(nT 10 [s,t]).count=s.count+t.count+1:=by
 have:(nT 10 [s,t]).count=1+(s.count+(t.count+0)):=rfl;omega
theorem zg4 (s:Tm):(HO s).upN 0 1=HO (s.upN 0 1):=by
 have h1:=dP s 0 1 1 1 dD dD;have h2:=dP s 0 1 0 1 dD dD;have h3:(vT 0).upN 1 1=vT 0:=by rw[SA];rfl
 show qF 5 FL (FA 2 (DM (DL ((vT 0).upN (0+1) 1)) (DL ((s.upN 0 1).upN (0+1) 1))) (DM (HM ((vT 0).upN (0+1) 1)) (HM ((s.upN 0 1).upN (0+1) 1))))=qF 5 FL (FA 2 (DM (DL (vT 0)) (DL ((s.upN 0 1).upN 0 1))) (DM (HM (vT 0)) (HM ((s.upN 0 1).upN 0 1))));rw[h1,show (s.upN 0 1).upN 0 1=s.upN 0 (1+1) from h2,show (0:Int)+1=1 from rfl,h3]
theorem zg5 (s x:Tm):(HO s).inN 0 0 x=HO (s.inN 0 0 x):=by
 have h1:=zgl s x 0 0 1 dD dD dD;have h3:(vT 0).inN 0 (0+1) x=vT 0:=by rw[V3];rfl
 show qF 5 FL (FA 2 (DM (DL ((vT 0).inN 0 (0+1) x)) (DL ((s.upN 0 1).inN 0 (0+1) x))) (DM (HM ((vT 0).inN 0 (0+1) x)) (HM ((s.upN 0 1).inN 0 (0+1) x))))=qF 5 FL (FA 2 (DM (DL (vT 0)) (DL ((s.inN 0 0 x).upN 0 1))) (DM (HM (vT 0)) (HM ((s.inN 0 0 x).upN 0 1))));rw[h3,h1]
theorem z0y {g:Tm}{G:BH []->(T.fn .nat (.fn .nat .nat)).V}(hg:Dn [] g (.fn .nat (.fn .nat .nat)) G):∃F:BH []->(T.fn .nat (.fn BA BA)).V,Dn [] (zgp g) (.fn .nat (.fn BA BA)) F:=
 ⟨_,.lam (a:=.nat) BU (.lam (a:=BA) T9 (.pair (.snd (.var .zero)) (.app (.app (B3 hg _) (.fst (.var .zero))) (.snd (.var .zero)))))⟩
theorem FR {b c g:Tm}{B C:BH []->T.nat.V}{G:BH []->(T.fn .nat (.fn .nat .nat)).V}(hb:Dn [] b .nat B)(hc:Dn [] c .nat C)(hg:Dn [] g (.fn .nat (.fn .nat .nat)) G){Γ:List T}{x:Tm}{X:BH Γ->T.nat.V}(hx:Dn Γ x .nat X):∃F:BH Γ->BA.V,Dn Γ (C7 b c g x) BA F:=by
 obtain⟨S,hS⟩:=z0y hg;exact⟨_,.rc (a:=BA) T9 (B3 (.pair hb hc) Γ) (B3 hS Γ) hx⟩
theorem FB {Γ:List T}{s:Tm}{F:BH Γ->BA.V}(h:Dn Γ s BA F):FDn Γ (HO s)/\FDn (BA::Γ) (T8 s):=by
 have h1:FDn (BA::Γ) (T8 s):=.two (.inl rfl) (.eq (.fst (.var .zero)) (.fst (MI h [BA]))) (.eq (.snd (.var .zero)) (.snd (MI h [BA])));exact⟨.q (a:=BA) sS T9 h1,h1⟩
theorem zJ {b c g:Tm}{B C:BH []->T.nat.V}{G:BH []->(T.fn .nat (.fn .nat .nat)).V}(hb:Dn [] b .nat B)(hc:Dn [] c .nat C)(hg:Dn [] g (.fn .nat (.fn .nat .nat)) G)(cb:b.count<=100)(cc:c.count<=100)(cg:g.count<=1000) :
  ∃e n,n<=100000/\(e=0->(HO (C7 b c g (vT 0))).typedN (gT [T.nat,T.nat])=0/\∃m,m<=100000/\KG gl [T.nat] [] (eT b c g) (HO (C7 b c g (vT 0))) 0 m)/\KG gl [] [] (X9 b c g) (rO b c g) e n:=by
 obtain⟨S,hS⟩:=z0y hg;obtain⟨F0,d0⟩:=FR hb hc hg (Γ:=[T.nat,T.nat]) (x:=vT 0) (.var .zero);obtain⟨F1,d1⟩:=FR hb hc hg (Γ:=[T.nat]) (x:=nT 4 []) .zero;obtain⟨F2,d2⟩:=FR hb hc hg (Γ:=[T.nat,T.nat]) (x:=nT 5 [vT 0]) (.succ (.var .zero));obtain⟨F3,d3⟩:=FR hb hc hg (Γ:=[BA,T.nat,T.nat]) (x:=nT 5 [vT 1]) (.succ (.var (.succ .zero)));obtain⟨F4,d4⟩:=FR hb hc hg (Γ:=[T.nat,BA,T.nat,T.nat]) (x:=vT 2) (.var (.succ (.succ .zero)));obtain⟨F5,d5⟩:=FR hb hc hg (Γ:=[T.nat]) (x:=vT 0) (.var .zero);obtain⟨F6,d6⟩:=FR hb hc hg (Γ:=[BA,T.nat]) (x:=vT 1) (.var (.succ .zero));have c0:=DE b c g (vT 0);have c1:=DE b c g (nT 4 []);have c2:=DE b c g (vT 2);have c3:=DE b c g (nT 5 [vT 1]);have c4:=DE b c g (vT 1);have w0:(vT 0).count=1:=rfl;have w1:(nT 4 []).count=1:=rfl;have w2:(vT 2).count=1:=rfl;have w3:(nT 5 [vT 1]).count=2:=rfl;have w4:(vT 1).count=1:=rfl;have i0:=H8 (C7 b c g (vT 0));have i1:=H8 (C7 b c g (nT 4 []));have i3:=H8 (C7 b c g (nT 5 [vT 1]));have a0:=VP (C7 b c g (vT 0));have a1:=VP (C7 b c g (nT 4 []));have a3:=VP (C7 b c g (nT 5 [vT 1]));have k0:CK [] [] 4 2:=⟨dD,dD,sS,sS⟩;have k1:CK [T.nat] [] 3 2:=k0.below BU
 have k2:CK [T.nat,T.nat] [HO (C7 b c g (vT 0))] 2 1:=(k1.below BU).with (FB d0).1 oO
 obtain⟨e1,-,-,r1⟩:=KH (gl:=gl) (k1.less dD dD) (B3 hb [T.nat]) oO;obtain⟨e2,-,-,r2⟩:=KH (gl:=gl) (k1.less dD dD) (B3 hc [T.nat]) oO;have r3:=rI (gl:=gl) (A9 r1) (A9 r2) dD;have cp:=PT b c;obtain⟨e4,-,-,r4⟩:=MX (gl:=gl) (na:=0+0) (k1.less dD dD) (s:=BA) (FB d1).1 oO (B3 (.pair hb hc) [T.nat]) oO dD (A9 r3);have ib:=A9 r4;have k3:CK [BA,T.nat,T.nat] (JF [HO (C7 b c g (vT 0))] 1++[T8 (C7 b c g (vT 0))]) 1 0:=(k2.below T9).with (FB d0).2 oO
 have Ow:=k3.less (v':=0) (h':=0) dD dD;have hy:=LL (gl:=gl) Ow (i:=0) (f:=T8 (C7 b c g (vT 0))) rfl sS;have rR:=lT (gl:=gl) true (A9 hy);have rL:=lT (gl:=gl) false (A9 hy);have cs:=FG ((C7 b c g (vT 0)).upN 0 1);have cf:=D9 ((C7 b c g (vT 0)).upN 0 1);rw[CP]at cs cf;have v1:Dn [T.nat,BA,T.nat,T.nat] (vT 1) BA _:=.var (.succ .zero);have v0:Dn [BA,T.nat,T.nat] (vT 0) BA _:=.var .zero;have f1:FDn [T.nat,BA,T.nat,T.nat] (DM (HM (vT 1)) (vT 0)):=.eq (.snd v1) (.var .zero);obtain⟨e5,-,-,r5⟩:=KH (gl:=gl) Ow (.snd v0) dD;obtain⟨e6,-,-,r6⟩:=U5 (gl:=gl) (na:=0) (nb:=0) Ow f1 dD dD dD oO (.snd v0) (A9 rR) (A9 r5);have dg:Dn [BA,T.nat,T.nat] (nT 3 [nT 3 [g,DL (vT 0)],HM (vT 0)]) .nat _:=.app (.app (B3 hg _) (.fst v0)) (.snd v0);have dw:Dn [T.nat,BA,T.nat,T.nat] (wC g) .nat _:=.app (.app (B3 hg _) (.fst v1)) (.snd v1);have f2:FDn [T.nat,BA,T.nat,T.nat] (DM (wC g) (nT 3 [nT 3 [g,vT 0],HM (vT 1)])):=.eq dw (.app (.app (B3 hg _) (.var .zero)) (.snd v1));have f3:FDn [T.nat,BA,T.nat,T.nat] (DM (wC g) (nT 3 [nT 3 [g,DL (C7 b c g (vT 2))],vT 0])):=.eq dw (.app (.app (B3 hg _) (.fst d4)) (.var .zero))
 have n1:(nT 3 [nT 3 [g,DL (vT 0)],HM (vT 0)]).count=g.count+6:=by rw[BB,BB,D9,FG];omega
 have n2:(wC g).count=g.count+6:=by rw[wC,BB,BB,D9,FG];omega
 have n3:(DM (wC g) (nT 3 [nT 3 [g,vT 0],HM (vT 1)])).count<=2 * g.count+20:=by
  have b1:=D2 (wC g) (nT 3 [nT 3 [g,vT 0],HM (vT 1)]);have b2:=BB (nT 3 [g,vT 0]) (HM (vT 1));have b3:=BB g (vT 0);have b4:=FG (vT 1);omega
 have n4:(DM (wC g) (nT 3 [nT 3 [g,DL (C7 b c g (vT 2))],vT 0])).count<=10000:=by
  have b1:=D2 (wC g) (nT 3 [nT 3 [g,DL (C7 b c g (vT 2))],vT 0]);have b2:=BB (nT 3 [g,DL (C7 b c g (vT 2))]) (vT 0);have b3:=BB g (DL (C7 b c g (vT 2)));have b4:=D9 (C7 b c g (vT 2));omega
 obtain⟨e7,-,-,r7⟩:=KH (gl:=gl) Ow dg oO;obtain⟨e8,-,-,r8⟩:=U5 (gl:=gl) (na:=0) (nb:=0) Ow f2 oO dD dD oO (.fst v0) (A9 rL) (A9 r7);obtain⟨e9,-,-,r9⟩:=U5 (gl:=gl) (na:=0) (nb:=0) Ow f3 oO dD dD oO (.snd v0) (A9 rR) (A9 r8);have Uf:=rI (gl:=gl) (A9 r6) (A9 r9) dD;have du:Dn [BA,T.nat,T.nat] (uT g) BA _:=.pair (.snd v0) dg;have cu:(uT g).count=g.count+9:=by rw[uT,PT,FG];omega
 obtain⟨e11,-,-,r11⟩:=MX (gl:=gl) (na:=0+0) Ow (s:=BA) (FB d3).1 oO du oO dD (A9 Uf);have Di:(HO (C7 b c g (nT 5 [vT 0]))).upN 0 1=HO (C7 b c g (nT 5 [vT 1])):=by
  rw[zg4];have:=VO (k:=6) (.inl rfl) FL (.pair hb hc) hS (nT 5 [vT 0]) 0 1;rw[show ((0:Nat):Int)=0 from rfl]at this;rw[this];rfl
 have r12:=LL (gl:=gl) (k2.less dD dD) (i:=0) (f:=HO (C7 b c g (vT 0))) rfl sS;have r13:=U4 (gl:=gl) (na:=0) (nb:=0+0+(uT g).count) (k2.less dD dD) (s:=BA) (fo:=HO (C7 b c g (nT 5 [vT 0]))) oO (A9 r12) (fun _=>by rw[Di];exact A9 r11) (FB d2).1;obtain⟨e14,z14,-,r14⟩:=z0v (gl:=gl) (na:=0+0+(nT 10 [b,c]).count) (nb:=0+(0+0+(uT g).count)) (k1.less dD dD) (FB d0).1 oO (t:=vT 0) (.var .zero) dD oO ib (A9 r13);have Ca:(HO (C7 b c g (vT 0))).inN 0 0 (vT 0)=HO (C7 b c g (vT 0)):=by
  rw[zg5];have:=zA (k:=6) (.inl rfl) FL (.pair hb hc) hS (vT 0) 0 (vT 0);rw[show ((0:Nat):Int)=0 from rfl]at this;rw[this];rfl
 rw[Ca]at r14;have i14:=A9 r14;have k4:CK [BA,T.nat] [T8 (C7 b c g (vT 0))] 1 0:=((k1.below T9).with (FB d5).2 oO).less dD dD;have hy2:=LL (gl:=gl) (k4.less dD dD) (i:=0) (f:=T8 (C7 b c g (vT 0))) rfl sS;have rL2:=lT (gl:=gl) false (A9 hy2);have ci:=BP (DL (C7 b c g (vT 1)));rw[D9]at ci;have qi:=D2 (vT 0) ((DL (C7 b c g (vT 1))).upN 0 1);rw[CP,D9]at qi;obtain⟨e15,-,-,r15⟩:=MX (gl:=gl) (na:=0) (k4.less dD dD) (s:=T.nat) (f:=DM (vT 0) ((DL (C7 b c g (vT 1))).upN 0 1)) (CE (.fst d6)) oO (t:=DL (vT 0)) (.fst (.var .zero)) dD dD (A9 rL2);have hfo2:(EI (DL (C7 b c g (vT 0)))).upN 0 1=EI (DL (C7 b c g (vT 1))):=by
  rw[eR,show (DL (C7 b c g (vT 0))).upN 0 1=DL ((C7 b c g (vT 0)).upN 0 1) from rfl];have:=VO (k:=6) (.inl rfl) FL (.pair hb hc) hS (vT 0) 0 1;rw[show ((0:Nat):Int)=0 from rfl]at this;rw[this];rfl
 have r16:=U4 (gl:=gl) (nb:=0+(DL (vT 0)).count) (k1.less dD dD) (s:=BA) (fa:=T8 (C7 b c g (vT 0))) (fo:=EI (DL (C7 b c g (vT 0)))) (by rw[D9];omega) i14 (fun _=>by rw[hfo2];exact A9 r15) (CE (.fst d5));have r17:=SY (gl:=gl) (k0.less dD dD) (s:=T.nat) BU (A9 r16) (by rw[D9];omega);refine⟨_,_,?_,fun h=>?_,A9 r17⟩;· rw[D9];omega
 ·have h1:=(DI (DI (DI h).1).1).1;refine⟨(z14 (DI h1).1).2.2,_,?_,h1 ▸ i14⟩;omega
theorem zK (p q:Pf):(SX p q).count=1+p.count+q.count:=by
 have:(SX p q).count=1+0+0+(p.count+(q.count+0)):=rfl;omega
theorem zL {b c g:Tm}{B C:BH []->T.nat.V}{G:BH []->(T.fn .nat (.fn .nat .nat)).V}(hb:Dn [] b .nat B)(hc:Dn [] c .nat C)(hg:Dn [] g (.fn .nat (.fn .nat .nat)) G):FDn [] (rO b c g):=by
 obtain⟨F0,d0⟩:=FR hb hc hg (Γ:=[T.nat]) (x:=vT 0) (.var .zero);exact .q (a:=T.nat) sS BU (CE (.fst d0))
theorem jC {b c g:Tm}{B C:BH []->T.nat.V}{G:BH []->(T.fn .nat (.fn .nat .nat)).V}(hb:Dn [] b .nat B)(hc:Dn [] c .nat C)(hg:Dn [] g (.fn .nat (.fn .nat .nat)) G)(cb:b.count<=100)(cc:c.count<=100)(cg:g.count<=1000) :
  PS (X9 b c g)/\(X9 b c g).count<=100000/\(rO b c g).count<=100000/\PS (eT b c g):=by
 obtain⟨F0,d0⟩:=FR hb hc hg (Γ:=[T.nat,T.nat]) (x:=vT 0) (.var .zero);obtain⟨F1,d1⟩:=FR hb hc hg (Γ:=[T.nat]) (x:=nT 4 []) .zero;obtain⟨F3,d3⟩:=FR hb hc hg (Γ:=[BA,T.nat,T.nat]) (x:=nT 5 [vT 1]) (.succ (.var (.succ .zero)));obtain⟨F4,d4⟩:=FR hb hc hg (Γ:=[T.nat,BA,T.nat,T.nat]) (x:=vT 2) (.var (.succ (.succ .zero)));obtain⟨F6,d6⟩:=FR hb hc hg (Γ:=[BA,T.nat]) (x:=vT 1) (.var (.succ .zero));have c0:=DE b c g (vT 0);have c1:=DE b c g (nT 4 []);have c2:=DE b c g (vT 2);have c3:=DE b c g (nT 5 [vT 1]);have c4:=DE b c g (vT 1);have w0:(vT 0).count=1:=rfl;have w1:(nT 4 []).count=1:=rfl;have w2:(vT 2).count=1:=rfl;have w3:(nT 5 [vT 1]).count=2:=rfl;have w4:(vT 1).count=1:=rfl;have i0:=H8 (C7 b c g (vT 0));have i1:=H8 (C7 b c g (nT 4 []));have i3:=H8 (C7 b c g (nT 5 [vT 1]));have ci:=BP (DL (C7 b c g (vT 1)));have ci0:=BP (DL (C7 b c g (vT 0)));rw[D9]at ci ci0;have v1:Dn [T.nat,BA,T.nat,T.nat] (vT 1) BA _:=.var (.succ .zero);have v0:Dn [BA,T.nat,T.nat] (vT 0) BA _:=.var .zero;have f1:FDn [T.nat,BA,T.nat,T.nat] (DM (HM (vT 1)) (vT 0)):=.eq (.snd v1) (.var .zero);have dg:Dn [BA,T.nat,T.nat] (nT 3 [nT 3 [g,DL (vT 0)],HM (vT 0)]) .nat _:=.app (.app (B3 hg _) (.fst v0)) (.snd v0)
 have dw:Dn [T.nat,BA,T.nat,T.nat] (wC g) .nat _:=.app (.app (B3 hg _) (.fst v1)) (.snd v1);have f2:FDn [T.nat,BA,T.nat,T.nat] (DM (wC g) (nT 3 [nT 3 [g,vT 0],HM (vT 1)])):=.eq dw (.app (.app (B3 hg _) (.var .zero)) (.snd v1));have f3:FDn [T.nat,BA,T.nat,T.nat] (DM (wC g) (nT 3 [nT 3 [g,DL (C7 b c g (vT 2))],vT 0])):=.eq dw (.app (.app (B3 hg _) (.fst d4)) (.var .zero));have n1:(nT 3 [nT 3 [g,DL (vT 0)],HM (vT 0)]).count=g.count+6:=by rw[BB,BB,D9,FG];omega
 have n2:(wC g).count=g.count+6:=by rw[wC,BB,BB,D9,FG];omega
 have n3:(DM (wC g) (nT 3 [nT 3 [g,vT 0],HM (vT 1)])).count<=2 * g.count+20:=by
  have b1:=D2 (wC g) (nT 3 [nT 3 [g,vT 0],HM (vT 1)]);have b2:=BB (nT 3 [g,vT 0]) (HM (vT 1));have b3:=BB g (vT 0);have b4:=FG (vT 1);omega
 have n4:(DM (wC g) (nT 3 [nT 3 [g,DL (C7 b c g (vT 2))],vT 0])).count<=10000:=by
  have b1:=D2 (wC g) (nT 3 [nT 3 [g,DL (C7 b c g (vT 2))],vT 0]);have b2:=BB (nT 3 [g,DL (C7 b c g (vT 2))]) (vT 0);have b3:=BB g (DL (C7 b c g (vT 2)));have b4:=D9 (C7 b c g (vT 2));omega
 have n5:(DM (HM (vT 1)) (vT 0)).count=4:=by rw[D2,FG];omega
 have du:Dn [BA,T.nat,T.nat] (uT g) BA _:=.pair (.snd v0) dg;have cu:(uT g).count=g.count+9:=by rw[uT,PT,FG];omega
 have cp:=PT b c;have cs:=FG (vT 0);have cf:=D9 (vT 0);have Dt:(vT 0).shape=true/\(vT 0).count<=16384:=⟨rfl,dD⟩;have pL:PS ZO:=zbj false (MD 0);have pR:PS m4:=zbj true (MD 0);have p1:PS m5:=YB (Γ:=[T.nat,BA,T.nat,T.nat]) dD f1 oO pR (MZ ⟨rfl,oO⟩);have p2:PS (zI g):=YB (Γ:=[T.nat,BA,T.nat,T.nat]) dD f2 oO pL (MZ ⟨AJ dg,oO⟩);have p3:PS (aW b c g):=YB (Γ:=[T.nat,BA,T.nat,T.nat]) dD f3 oO pR p2;have pS:PS (zg2 b c g):=YA (MD 0) (QU (Γ:=[BA,T.nat,T.nat]) dD (FB d3).1 oO ⟨AJ du,oO⟩ (z0w p1 p3));have dp:Dn [] (nT 10 [b,c]) BA _:=.pair hb hc;have pB:PS (zg3 b c g):=QU (Γ:=[T.nat]) dD (FB d1).1 oO ⟨AJ dp,oO⟩ (z0w (MZ ⟨AJ hb,oO⟩) (MZ ⟨AJ hc,oO⟩));have pI:PS (eT b c g):=z7 (.inl rfl) (Γ:=[T.nat,T.nat]) dD (FB d0).1 oO Dt pB pS;have m0:ZO.count=2:=rfl;have m1:m4.count=2:=rfl;refine⟨X8 (y:=A4) (T.ok_ty BU) (YA pI (QU (Γ:=[BA,T.nat]) dD (CE (.fst d6)) oO ⟨rfl,oO⟩ pL)),?_,?_,pI⟩
 ·unfold X9 eT zg3 zg2 m5 aW zI;simp only[QV,YD,N7,O0,U6,LB,U7,zK];omega
 ·have:(rO b c g).count=1+0+((EI (DL (C7 b c g (vT 0)))).count+0):=rfl;omega
end
end Go.Proofs.YtkfiobkjflmchaaGreatDoor.Lift
