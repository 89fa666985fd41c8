import Derived.Test.YtoniciijokeidaaGreatDoorQn8
set_option maxHeartbeats 8000000
set_option maxRecDepth 100000
set_option linter.unusedSimpArgs false
set_option linter.unusedVariables false
set_option linter.unnecessarySimpa false
namespace Go.Proofs.YtoniciijokeidaaGreatDoor.Lift
open Go
section
variable {gl:AF}
theorem JW (t:Tm)(h:t.shape=true):t.tys:=by
 induction t using Tm.ind with
 | h t ih=>
 obtain⟨-,-,-,h4,h5⟩:=Tm.shape_node h;rw[Tm.tys_eq];refine⟨?_,fun a ha=>ih a ha (h5 a ha)⟩;split at h4;· have:=h4.2;omega
 ·unfold Ty.zero at h4;simp at h4;rw[Ty.count_eq,h4.2];decide
theorem SB {l:List Int}{t:Ty}{g:List Ty}{p q:Nat}{x:Tm}(h:NJ l t g p=(some x,q)):x.count=1:=by
 obtain⟨i,rfl,-⟩:=UE h;rfl
theorem QI (l:List Int)(p:Nat):(aW l p).1.count<=3:=by
 have:=EM (l:=l) (p:=p) (n:=3) dD;show (IU _).count<=3;rw[Y1];omega
theorem YD (l:List Int)(t:Ty):t.small->∀(g:List Ty) (p:Nat),(FB l t g p).1.count<=3 * t.count:=by
 generalize hn:t.count=n
 induction n using Nat.strongRecOn generalizing t with
 | _ n ih=>
 intro ht g p;have h1:1<=t.count:=by rw[Ty.count_eq];omega
 rw[aX l t g p ht.ok];split
 ·rename_i x q hx;have:=SB hx;simp only;omega
 ·rename_i q hx;have hN:=QI l q;rcases JT ht with⟨h,e⟩|⟨h,e⟩|⟨h,e⟩|⟨h,e⟩|⟨h,e⟩;· rw[if_pos h];omega
  ·rw[if_neg oO,if_pos h];show 1+0<=_;omega
  ·rw[if_neg oO,if_neg oO,if_neg oO,if_neg oO];show 1+0<=_;omega
  ·rw[if_neg oO,if_neg oO,if_pos h];obtain⟨s0,s1,hc⟩:=ht.arg (.inl h);have a:=ih _ oO (t.arg 0) rfl s0 g q;have b:=ih _ oO (t.arg 1) rfl s1 g (FB l (t.arg 0) g q).2;show 1+(_+(_+0))<=_;omega
  ·rw[if_neg oO,if_neg oO,if_neg oO,if_pos h];obtain⟨s0,s1,hc⟩:=ht.arg (.inr h);have b:=ih _ oO (t.arg 1) rfl s1 (g++[t.arg 0]) q;show 1+(_+0)<=_;omega
def TX (l:List Int)(F:Ty->List Ty->Nat->Tm × Nat)(B:Nat):Prop:=∀t g p,t.small->(∀x∈g,x.small)->p<=l.length->(F t g p).1.count<=B
theorem nK:EF.count=9:=dD
theorem vN:iT.count<=16:=dD
theorem bZ (f x y:Tm):(KS f [x,y]).count=2+f.count+x.count+y.count:=by
 show 1+((1+(f.count+(x.count+0)))+(y.count+0))=_;omega
theorem cA {l:List Int}{F:Ty->List Ty->Nat->Tm × Nat}{B:Nat}(hD:TT l F (fun _ _ x=>x.shape=true))(hF:TX l F B):TX l (eQ l F) (2 * B+20):=by
 intro t g q ht hg hq;have h5:=CO (n:=5) hq;have h2:=CO (n:=2) hq;have c1:=hF t g (AW l q 5).2 ht hg h5;have d1:=(hD t g (AW l q 5).2 ht hg h5).1;have c2:=hF t g _ ht hg d1;have e1:=hF (Ty.mk 1 []) g (AW l q 2).2 DN hg h2;have f1:=(hD (Ty.mk 1 []) g (AW l q 2).2 DN hg h2).1;have e2:=hF t g _ ht hg f1;have hN:=QI l (AW l q 5).2;have hp:=nK;have hs:=vN;unfold eQ;split
 ·split;· show 1+(_+0)<=_;omega
  split;· simp only[bZ];omega
  split;· simp only[bZ];omega
  ·omega
 split
 ·split;· show 1+(_+(_+0))<=_;omega
  ·show 1+0<=_;omega
 split
 ·rename_i h;obtain⟨s0,s1,-⟩:=ht.arg (.inl h);have a1:=hF (t.arg 0) g q s0 hg hq;have a2:=hF (t.arg 1) g _ s1 hg (hD (t.arg 0) g q s0 hg hq).1;show 1+(_+(_+0))<=_;omega
 split
 ·rename_i h;obtain⟨s0,s1,-⟩:=ht.arg (.inr h);have a2:=hF (t.arg 1) (g++[t.arg 0]) q s1 (by intro x hx;rcases List.mem_append.1 hx with hx|hx;exact hg x hx;rw[List.mem_singleton.1 hx];exact s0) hq;show 1+(_+0)<=_;omega
 ·show 1+0<=_;omega
theorem nL {l:List Int}{F:Ty->List Ty->Nat->Tm × Nat}{B:Nat}(hD:TT l F (fun _ _ x=>x.shape=true))(hF:TX l F B)(k:Int):TX l (fun t g p=>IX l F t g k p) (3 * B+20):=by
 intro t g p ht hg hp;have Bx:∀a:List Ty,(∀x∈a,x.small)->∀x∈g++a,x.small:=by
  intro a ha x hx;rcases List.mem_append.1 hx with hx|hx;· exact hg x hx
  ·exact ha x hx
 have hE:=cA hD hF t g p ht hg hp;obtain⟨s1,s2⟩:=FL l (n:=0) hp dD;show (IX l F t g k p).1.count<=_;unfold IX;split
 ·have gs:=Bx [(CS l 0 p).1] (by simpa using s2);have a:=hF t _ _ ht gs s1;have b:=hF _ g _ s2 hg (hD t _ _ ht gs s1).1;show 1+((1+(_+0))+(_+0))<=_;omega
 split
 ·have a:=hF t g _ ht hg s1;have b:=hF _ g _ s2 hg (hD t g _ ht hg s1).1;show 1+((1+(_+(_+0)))+0)<=_;omega
 split
 ·have gs:=Bx [Ty.mk 1 [],t] (by intro x hx;simp at hx;rcases hx with rfl|rfl;exact DN;exact ht);have d:=(hD t _ _ ht gs hp).1;have a:=hF t _ _ ht gs hp;have b:=hF t g _ ht hg d;have c:=QI l (F t g (F t (g++[Ty.mk 1 [],t]) p).2).2;show 1+(_+((1+((1+(_+0))+0))+(_+0)))<=_;omega
 split
 ·have gs:=Bx [Ty.mk 1 [],Ty.mk 2 [],t] (by intro x hx;simp at hx;rcases hx with rfl|rfl|rfl;exact DN;exact F7;exact ht);have d:=(hD t _ _ ht gs hp).1;have a:=hF t _ _ ht gs hp;have b:=hF t g _ ht hg d;have c:=hF (Ty.mk 2 []) g _ F7 hg (hD t g _ ht hg d).1;show 1+(_+((1+((1+((1+(_+0))+0))+0))+(_+0)))<=_;omega
 split
 ·have a:=hF _ g _ s2 hg s1;have b:=hF t g _ ht hg (hD _ g _ s2 hg s1).1;show 1+((1+(_+(_+0)))+0)<=_;omega
 split
 ·split
  ·rename_i i hi;obtain⟨f1,f2,f3⟩:=X5 hi;obtain⟨c0,c1,-⟩:=(hg _ (N3 f1).1).arg (.inr f2);have a:=hF _ g _ c0 hg hp;show 1+((1+0)+(_+0))<=_;omega
  ·omega
 ·omega
def yT:Nat->Nat
 | 0=>45
 | n+1=>3 * yT n+20
theorem YE (l:List Int):∀n,TX l (DC l n) (yT n)
 | 0=>by intro t g p ht hg hp;have:=YD l t ht g p;have:=ht.2;show _<=45;simp only[DC];omega
 | n+1=>by
  intro t g p ht hg hp;have hq:=PD (t:=t) (g:=g) hp;have ih:=nL (HV KB n) (YE l n);unfold DC;split
  ·rename_i x q hx;have:=SB hx;simp only[yT];omega
  ·rename_i q hx;rw[hx]at hq;exact ih _ t g _ ht hg (CO hq)
end
section
theorem nM (l:List Int)(p:Nat):∃a:T,(EN l p).1=a.ty/\a.plain/\a.size<=3:=by
 rcases iV l p with h|h|h|h|h;· exact⟨.nat,h,trivial,dD⟩
 ·exact⟨.list,h,trivial,dD⟩
 ·exact⟨.unit,h,trivial,dD⟩
 ·exact⟨.pair .nat .list,h,⟨trivial,trivial⟩,dD⟩
 ·exact⟨.pair .nat .nat,h,⟨trivial,trivial⟩,dD⟩
theorem nN {a:T}(h:a.size<=15):a.ty.small:=⟨T.ty_shape a,by rw[T.ty_count];exact h⟩
end
section
variable {gl:AF}
theorem W2 {ev:RD}{e:List MV}{x:Tm}{rest:List Tm}:∀(done:List Tm) {u:Int} {r:List MV × Int × Bool} {vs:List MV} {uk:Int},DR ev (done++x::rest) e u=some r->DR ev done e u=some (vs,uk,false) ->
  ∃v u1 o,ev x e uk=some (v,u1,o)/\(o=true->r.2.1=u1/\r.2.2=true)/\(o=false->DR ev (done++[x]) e u=some (vs++[v],u1,false))
 | [],u,r,vs,uk,h,hd=>by
  simp only[DR,uC,uD]at hd;obtain⟨rfl,rfl,-⟩:=hd;simp only[List.nil_append,DR]at h ⊢;split at h;· cases h
  ·rename_i v1 u1 h1;obtain rfl:=Option.some.inj h;exact⟨v1,u1,true,h1,fun _=>⟨rfl,rfl⟩,fun h=>by cases h⟩
  ·rename_i v1 u1 h1;exact⟨v1,u1,false,h1,fun h=>(by cases h),fun _=>(by simp only[h1])⟩
 | t::done,u,r,vs,uk,h,hd=>by
  simp only[List.cons_append,DR]at h hd ⊢;split at hd;· cases hd
  ·simp at hd
  ·rename_i v1 u1 h1;simp only[h1]at h ⊢;split at hd;· cases hd
   ·rename_i vs2 u2 o2 h2;simp only[uC,uD]at hd;obtain⟨rfl,rfl,rfl⟩:=hd;split at h;· cases h
    ·rename_i vs3 u3 o3 h3;obtain⟨v,u4,o4,g1,g2,g3⟩:=W2 done h3 h2;obtain rfl:=Option.some.inj h;exact⟨v,u4,o4,g1,g2,fun h=>by simp only[g3 h];rfl⟩
def vsD (ev:RD)(e:List MV)(u:Int)(l:List Tm):List MV:=((DR ev l e u).getD ([],0,false)).1
def ukD (ev:RD)(e:List MV)(u:Int)(l:List Tm):Int:=((DR ev l e u).getD ([],0,false)).2.1
theorem zqr {ev:RD}{e:List MV}{u:Int}{l:List Tm}(h:∃vs uk,DR ev l e u=some (vs,uk,false)):DR ev l e u=some (vsD ev e u l,ukD ev e u l,false):=by
 obtain⟨vs,uk,h⟩:=h;simp only[vsD,ukD,h,Option.getD_some]
theorem UM {ev:RD}{e:List MV}:∀{l:List Tm} {u:Int} {vs:List MV} {uk:Int},DR ev l e u=some (vs,uk,false)->vs.length=l.length
 | [],u,vs,uk,h=>by
  simp only[DR,uC,uD]at h;obtain⟨rfl,-,-⟩:=h;rfl
 | t::l,u,vs,uk,h=>by
  simp only[DR]at h;split at h;· cases h
  ·simp at h
  ·rename_i v1 u1 h1;split at h;· cases h
   ·rename_i vs2 u2 o2 h2;simp only[uC,uD]at h;obtain⟨rfl,rfl,rfl⟩:=h;simp[UM h2]
theorem zh7 (ev:RD)(e:List MV)(u:Int):vsD ev e u []=[]:=rfl
theorem zh8 (ev:RD)(e:List MV)(u:Int):ukD ev e u []=u:=rfl
theorem num_dv (n:Nat):(MV.num n).dv = .agg [A0 (n:Int),.sl [],.sl [],A0 0,A0 0,A0 0,.sl [],.sl [],.sl []]:=by rw[MV.dv,MV.cells]
theorem list_dv (l:List Nat):(MV.list l).dv = .agg [A0 0,.sl (AP (l.map Int.ofNat)),.sl [],A0 0,A0 0,A0 0,.sl [],.sl [],.sl []]:=by rw[MV.dv,MV.cells]
theorem both_dv (a b:MV):(MV.both a b).dv = .agg [A0 0,.sl [],.sl [a.cells,b.cells],A0 0,A0 0,A0 0,.sl [],.sl [],.sl []]:=by rw[MV.dv,MV.cells]
theorem unit_dv:MV.unit.dv = .agg [A0 0,.sl [],.sl [],A0 0,A0 0,A0 0,.sl [],.sl [],.sl []]:=by rw[MV.dv,MV.cells]
theorem clo_dv (b:Tm)(e:List MV):(MV.clo b e).dv = .agg [A0 0,.sl [],.sl [],A0 b.kind,A0 b.index,A0 b.type.kind,.sl (List.map Ty.cells b.type.args),.sl (List.map Tm.cells b.args),.sl (e.reverse.map MV.cells)]:=by rw[MV.dv,MV.cells,MV.cellss_map,List.map_reverse]
theorem jG:fV.dv = .agg [A0 0,.sl [],.sl [],A0 0,A0 0,A0 0,.sl [],.sl [],.sl []]:=by rw[fV,num_dv];rfl
end
section
section
variable {X:Ctx}{s:St}
theorem g6 {o:Oper}{t len E B:Nat}{parts:Array (Nat × Operand)}(ho:o.op = .buildSlice t len parts){d:Nat}(hd:o.dst=some d)(hn:d<X.n)(Jr:d≠0)(hf:DQ d s=true)(he:DW X.P t=some (E,B)){els:List (List DV)}
  (h:Jj1 X (get s) E 0 parts.toList=some els) (hc:els.length=len/\len * E<=16777216/\len<=HL):EU X s o (CV (CV (OU s (.tok 0)) (.slot d) (.one (.own d els))) (.tok d) (.tk E len)):=by
 intro G a w R next Q hK
 obtain⟨c,e,h1,h2,h3⟩:=RK R he h hc.1 hc.2.1 hc.2.2;refine PT (by intro c e;rw[ho]at e;cases e) ?_;simp only[execOp,ho,Sem.run_bind,h1,Result.andThen_ok,Sem.run_pure,E8,hd];have Kf:(FY G (EB G.D w.heap.size 0 (len * E)) d (some ⟨w.heap.size,0,none⟩,len)).τ 0=(none,0):=by simp only[FY,if_neg (Ne.symm Jr)];exact R.nil
 have T:Trans X G a w (FY G (EB G.D w.heap.size 0 (len * E)) d (some ⟨w.heap.size,0,none⟩,len)) a (w.alloc (.cells c e)) (fun _=>False):=U7 R (hi:=len * E) oO rfl Kf;refine hK (FY G (EB G.D w.heap.size 0 (len * E)) d (some ⟨w.heap.size,0,none⟩,len)) _ _ (R.ownNew (t:=0) hn hf T rfl (fun k hk=>by simp[FY,hk]) (fun b h=>h.elim) ?_ ?_ (fun b hb=>?_))
 ·simp only[LX,FY,if_true];rw[<- hc.1]at h3 ⊢;exact⟨rfl,h3⟩
 ·simp only[MB,FY,if_true];exact⟨Nat.le_refl _,fun h=>absurd h (Nat.lt_irrefl _)⟩
 ·simp[HA,FY]at hb
theorem cB {Ad:List Nat}{ops:Array Oper}{l:List Oper}{K:St->Prop}{d:Tmp}{t len:Nat}{parts:Array (Nat × Operand)}{ty:TypeId}{pos:String}{af:Array Edge}{q:Option (Prop × St)}{E B:Nat}{els:List (List DV)}
  (he:DW X.P t=some (E,B)) (h:Jj1 X (get s) E 0 parts.toList=some els) (hc:els.length=len/\len * E<=16777216/\len<=HL) (hn:d<X.n) (Jr:d≠0) (hf:DQ d s=true) (hq:q=none)
  (k:vc X Ad ops l (CV (CV (OU s (.tok 0)) (.slot d) (.one (.own d els))) (.tok d) (.tk E len)) K) :
  eD X Ad ops l K ⟨some d,.buildSlice t len parts,ty,pos,af,none⟩ s q:=by
 subst hq;exact V6 rfl (g6 (o:=⟨some d,.buildSlice t len parts,ty,pos,af,none⟩) rfl rfl hn Jr hf he h hc) (DM k)
theorem z43 {ops:Array Oper}{s0:St}{K:St->Prop}{l:List Oper}{k:St->List Ev->Prop}{ev:List Ev}{fp wr:List Loc}{d:Tmp}{t len:Nat}{parts:Array (Nat × Operand)}{ty:TypeId}{pos:String}{af:Array Edge}{q:Option (Prop × St)}{E B:Nat}{els:List (List DV)}
  (hk:∀s ev,k s ev->VD X ops s0 l s ev K) (he:DW X.P t=some (E,B)) (h:Jj1 X (get (HS s fp)) E 0 parts.toList=some els) (hc:els.length=len/\len * E<=16777216/\len<=HL) (hn:d<X.n) (Jr:d≠0) (hq:q=none)
  (g:YV k ev s fp [d] [(.tok 0,none),(.slot d,some (.one (.own d els))),(.tok d,some (.tk E len))]) :
  mB X ops s0 l K k ⟨some d,.buildSlice t len parts,ty,pos,af,none⟩ ev s fp wr q:=by
 subst hq;show VD X ops s0 _ s ev K;refine Q3 ⟨fp,_,[d]⟩ (fun s' hs Eh=>Q4 (.inl rfl) ?_) (hk _ _ g);have hf:=P3 (Eh d sS);exact g6 (o:=⟨some d,.buildSlice t len parts,ty,pos,af,none⟩) rfl rfl hn Jr hf.2 he (RQ hs h) hc
end
end
section
variable {gl:AF}
theorem zay {α:Type}{e:List α}{i:Nat}{x:α}(h:e[i]? = some x):e.reverse[e.length - 1 - i]? = some x:=by
 have hi:=(uA h).1;rw[List.getElem?_reverse oO,<- h]
 congr 1
 omega
theorem vO {most:Int}(hm:most<=1073741824){d:Nat}(H:yS Tryz.prog gl 146 most (OB most d)):yS Tryz.prog gl 146 most (OB most (d+1)):=fun t e u v u' o b M h Sm hu hM hMb he Cq=>by
 have B:=@vJ most d;rw[OB]at h;have Av:=Tm.fold t;have hlen:e.reverse.length=e.length:=List.length_reverse;unfold KT;refine A8 Tryz.func146 ?_;intro X hP u7 hf u9 hn hR u6 u5;have Ag:=Tm.fit_len (u5 t.dv sS);by_cases Ca:u=most
 ·rw[if_pos Ca]at h;simp only[uC,uD]at h;obtain⟨rfl,rfl,rfl⟩:=h;subst Ca;refine A4 ?_;exact AI [(b,[A0 u,A0 u,AK true])] @jG
 rw[if_neg Ca]at h;by_cases h1:t.kind=1
 ·rw[if_pos h1]at h;split at h
  ·rename_i Xf;split at h
   ·rename_i v1 hv;simp only[uC,uD]at h;obtain⟨rfl,rfl,rfl⟩:=h;have hgv:=zay hv;have Fu:=(uA hv).1;generalize e.reverse=r at *;have Nb:(e.length:Int) - 1 - t.index=((e.length - 1 - t.index.toNat:Nat):Int):=oO;refine A7 (j5 @Ca @h1 @hlen @Nb @hgv) ?_;exact AI [(b,[A0 (u+1),A0 most,AK false])] tT
   ·cases h
  ·cases h
 rw[if_neg h1]at h;by_cases h2:t.kind=2
 ·rw[if_pos h2]at h;split at h
  ·rename_i body r u8;simp only[uC,uD]at h;obtain⟨rfl,rfl,rfl⟩:=h;have Aq:t.args[0]? = some body:=by rw[u8];rfl
   refine A7 (j4 @Ca @h1 @h2 @Aq) ?_;exact AI [(b,[A0 (u+1),A0 most,AK false])] @clo_dv
  ·cases h
 rw[if_neg h2]at h
 obtain⟨r,Ah⟩:∃r,DR (OB most d) t.args e (u+1)=some r:=by
  cases hq:DR (OB most d) t.args e (u+1) with
  | none=>rw[hq]at h;cases h
  | some r=>exact⟨r,rfl⟩
 rw[Ah]at h;obtain⟨el,hela⟩:∃el,el=e.reverse:=⟨_,rfl⟩;refine A7 (j3 @Ca @h1 @h2) ?_;refine BK ?_;refine AC [(1007,0)] (j2 @zh7 @zh8) (O8 (t.args) (fun done=>(∃vs uk,DR (OB most d) done e (u+1)=some (vs,uk,false))) (fun done rest=>[sV 66 (A0 done.length),sV 65 (A0 t.args.length),sV 64 (.sl (t.args.map Tm.cells)),sV 0 (BC b),sV 2 (.sl (e.reverse.map MV.cells)),sP 4,sL 4 [.v (A0 t.kind),.v (A0 t.index),.v (A0 t.type.kind),.v (.sl (t.type.args.map Ty.cells)),.v (.sl (t.args.map Tm.cells))],sP 6,sL 6 [.v (A0 0),.own 0 [],.own 0 [],.v (A0 0),.v (A0 0),.v (A0 0),.own 0 [],.own 0 [],.own 0 []],(.slot 7,.one (.own 1007 ((vsD (OB most d) e (u+1) done).map MV.cells))),(.tok 1007,.tk 9 (vsD (OB most d) e (u+1) done).length),sB  b [.v (A0 (ukD (OB most d) e (u+1) done)),.v (A0 most),.v (AK false)]]) (⟨[],u+1,rfl⟩) ?_ ?_)
 ·intro done x rest hL Aq hI Aa;have hlt1:done.length<t.args.length:=by rw[hL];simp
  have hd:=zqr hI;rw[hL]at Ah;obtain⟨v1,u1,o1,g1,g2,g3⟩:=W2 done Ah hd;obtain⟨b1,b2,b3⟩:=PH B done hd oO hM he Cq;have Us:=UM hd;have w:=H b M g1 oO b2 hM oO he Cq;unfold KT at w;have Bi:=Tm.fold x;refine A2 ?_;refine AE ?_;refine A7 @Aq ?_;cases o1 with
  | true=>
   obtain⟨k1,k2⟩:=g2 rfl;obtain⟨rv,ru,ro⟩:=r;simp only at k1 k2;subst k1 k2;simp only[uC,uD]at h;obtain⟨rfl,rfl,rfl⟩:=h;refine A3 (j2 @Aq @Bi) w ?_;refine A4 ?_;exact AI [(b,[A0 ru,A0 most,AK true])] @jG
  | false=>
   have g3:=g3 rfl;have e1:vsD (OB most d) e (u+1) (done++[x])=vsD (OB most d) e (u+1) done++[v1]:=by simp only[vsD,g3,Option.getD_some]
   have e2:ukD (OB most d) e (u+1) (done++[x])=u1:=by simp only[ukD,g3,Option.getD_some]
   have Dv:=MV.cells_eq v1;refine A3 (j2 @Aq @Bi) w ?_;refine CR (wr [(1007,76)]) (j4 @e1 @e2 @Us @Dv) @Us (Aa ⟨_,_,g3⟩)
 ·intro hI;have hd:=zqr hI;rw[hd]at Ah;obtain rfl:=Option.some.inj Ah;simp only at h;obtain⟨b1,b2,b3⟩:=PH B _ hd oO hM he Cq;have Hc:=UM hd;clear Ah hI;clear hd;generalize vsD (OB most d) e (u+1) t.args=l at *;generalize ukD (OB most d) e (u+1) t.args=u1 at *;obtain⟨M2,hM2⟩:∃M2,M2=M+(u1 - (u+1)):=⟨_,rfl⟩;rw[<- hM2]at b3;have hM20:0<=M2:=oO;have hM2b:M2+(most - u1)<=1073741824:=oO;unfold MP at h;refine A2 ?_;refine B6 ?_;by_cases h3:t.kind=3
  ·rw[if_pos h3]at h;split at h
   ·rename_i f x;simp only[MV.les]at b3;have w:=G9 hm H b M2 h oO b2 hM20 hM2b b3.1 b3.2.1;unfold KT at w;refine A7 @h3 ?_;refine A3 @h3 w ?_;exact AI [(b,[A0 u',A0 most,AK o])] tT
   ·cases h
  rw[if_neg h3]at h;by_cases h4:t.kind=4
  ·rw[if_pos h4]at h;simp only[uC,uD]at h;obtain⟨rfl,rfl,rfl⟩:=h;have hz:(MV.num 0).dv=_:=jG;refine A7 @h4 ?_;exact AI [(b,[A0 u1,A0 most,AK false])] @hz
  rw[if_neg h4]at h;by_cases h5:t.kind=5
  ·rw[if_pos h5]at h;split at h
   ·rename_i n;simp only[uC,uD]at h;obtain⟨rfl,rfl,rfl⟩:=h;simp only[MV.les,MV.le]at b3;have hz:=num_dv (n+1);have hq:((n+1:Nat):Int)=(n:Int)+1:=oO;rw[hq]at hz;refine A7 @h5 ?_;exact AI [(b,[A0 u1,A0 most,AK false])] @hz
   ·cases h
  rw[if_neg h5]at h;by_cases h6:t.kind=6
  ·rw[if_pos h6]at h;split at h
   ·rename_i b0 f n;simp only[MV.les]at b3;obtain⟨c1,c2,c3,-⟩:=b3;simp only[MV.le]at c3;have Fk:=MV.numF_num n;have Km:=MV.cells_eq f;have Ar:=MV.fold f;generalize hnn:MV.num n=nn at *;refine A7 @h6 ?_;refine BK ?_;refine AC [] tT (CH (fun x:Nat × MV × Int × Bool=>x.1<=n/\u1<=x.2.2.1/\x.2.2.1<=most/\x.2.1.le (M2+(x.2.2.1 - u1))/\(x.2.2.2=false->G8 (OB most d) f (n - x.1) x.1 x.2.1 x.2.2.1=some (v,u',o))/\(x.2.2.2=true->v=x.2.1/\u' = x.2.2.1/\o=true)) (fun x:Nat × MV × Int × Bool=>[sV 0 (BC b),sP 6,sL 6 [.v (A0 0),.own 0 [],.own 0 [],.v (A0 0),.v (A0 0),.v (A0 0),.own 0 [],.own 0 [],.own 0 []],sV 7 (.sl [b0.cells,f.cells,nn.cells]),sP 10,sL 10 [.v (A0 x.2.1.numF),.v (.sl (AP x.2.1.listF)),.v (.sl (x.2.1.pairF.map MV.cells)),.v (A0 x.2.1.bodyF.kind),.v (A0 x.2.1.bodyF.index),.v (A0 x.2.1.bodyF.type.kind),.v (.sl (x.2.1.bodyF.type.args.map Ty.cells)),.v (.sl (x.2.1.bodyF.args.map Tm.cells)),.v (.sl (x.2.1.envF.map MV.cells))],sV 11 (A0 x.1),sB  b [.v (A0 x.2.2.1),.v (A0 most),.v (AK x.2.2.2)]]) (fun x:Nat × MV × Int × Bool=>n - x.1) (0,b0,u1,false) (⟨Nat.zero_le _,Int.le_refl u1,b2,MV.le_mono (by show M2<=M2+(u1 - u1);omega) c1,fun _=>h,fun h=>(by cases h)⟩) ?_);rintro⟨k,r,uk,ok⟩ ⟨i1,i2,i3,i4,i5,i6⟩ ih;simp only at i1 i2 i3 i4 i5 i6;have Do:=MV.fold r;cases ok with
    | true=>
     obtain⟨rfl,rfl,rfl⟩:=i6 rfl;by_cases hk:(k:Int)<n
     ·refine A7 (j2 @hk @Fk) ?_;exact AI [(b,[A0 u',A0 most,AK true])] tT
     ·refine A7 (j2 @hk @Fk) ?_;exact AI [(b,[A0 u',A0 most,AK true])] tT
    | false=>
     have i5:=i5 rfl;by_cases hk:(k:Int)<n;rotate_left
     ·have Jq:n - k=0:=oO;rw[Jq]at i5;simp only[G8,uC,uD]at i5;obtain⟨rfl,rfl,rfl⟩:=i5;refine A7 (j2 @hk @Fk) ?_;exact AI [(b,[A0 uk,A0 most,AK false])] tT
     ·have Jq:n - k=(n - (k+1))+1:=oO;rw[Jq]at i5;simp only[G8]at i5;have Dx:((k+1:Nat):Int)=(k:Int)+1:=oO;split at i5;· cases i5
      ·rename_i g u2 g1;have w:=G9 (gl:=gl) hm H b (M2+(uk - u1)) g1 oO i3 oO oO (MV.le_mono oO c2) (by simp only[MV.le];omega);obtain⟨d1,d2,d3⟩:=C6 B g1 i3 (M:=M2+(uk - u1)) oO (MV.le_mono oO c2) (by simp only[MV.le];omega);simp only[uC,uD]at i5;obtain⟨rfl,rfl,rfl⟩:=i5;unfold KT at w;have hkd:=num_dv k;refine A7 (j2 @hk @Fk) ?_;refine A3 (j2 @hkd @Ar) w ?_;refine CR (wr []) @Dx tT (ih (k+1,r,u2,true) ⟨by show k+1<=n;omega,by show u1<=u2;omega,d2,MV.le_mono (by show _<=M2+(u2 - u1);omega) i4,fun h=>(by cases h),fun _=>⟨rfl,rfl,rfl⟩⟩ (by show n - (k+1)<n - k;omega))
      ·rename_i g u2 g1;have w:=G9 (gl:=gl) hm H b (M2+(uk - u1)) g1 oO i3 oO oO (MV.le_mono oO c2) (by simp only[MV.le];omega);obtain⟨d1,d2,d3⟩:=C6 B g1 i3 (M:=M2+(uk - u1)) oO (MV.le_mono oO c2) (by simp only[MV.le];omega);have Bx:=MV.fold g;have hkd:=num_dv k;split at i5;· cases i5
       ·rename_i r2 u3 g2;have w2:=G9 (gl:=gl) hm H b (M2+(u2 - u1)) g2 oO d2 oO oO (MV.le_mono oO d3) (MV.le_mono oO i4);obtain⟨d4,d5,d6⟩:=C6 B g2 d2 (M:=M2+(u2 - u1)) oO (MV.le_mono oO d3) (MV.le_mono oO i4);simp only[uC,uD]at i5;obtain⟨rfl,rfl,rfl⟩:=i5;unfold KT at w w2;have Fm:=MV.cells_eq r2;refine A7 (j2 @hk @Fk) ?_;refine A3 (j2 @hkd @Ar) w ?_;refine A4 ?_;refine A3 (j2 @Bx @Do) w2 ?_;refine CR (wr []) (j2 @Dx @Fm) tT (ih (k+1,r2,u3,true) ⟨by show k+1<=n;omega,by show u1<=u3;omega,d5,MV.le_mono (by show _<=M2+(u3 - u1);omega) d6,fun h=>(by cases h),fun _=>⟨rfl,rfl,rfl⟩⟩ (by show n - (k+1)<n - k;omega))
       ·rename_i r2 u3 g2;have w2:=G9 (gl:=gl) hm H b (M2+(u2 - u1)) g2 oO d2 oO oO (MV.le_mono oO d3) (MV.le_mono oO i4);obtain⟨d4,d5,d6⟩:=C6 B g2 d2 (M:=M2+(u2 - u1)) oO (MV.le_mono oO d3) (MV.le_mono oO i4);unfold KT at w w2;have Fm:=MV.cells_eq r2;refine A7 (j2 @hk @Fk) ?_;refine A3 (j2 @hkd @Ar) w ?_;refine A4 ?_;refine A3 (j2 @Bx @Do) w2 ?_;refine CR (wr []) (j2 @Dx @Fm) tT (ih (k+1,r2,u3,false) ⟨by show k+1<=n;omega,by show u1<=u3;omega,d5,MV.le_mono (by show _<=M2+(u3 - u1);omega) d6,fun _=>i5,fun h=>(by cases h)⟩ (by show n - (k+1)<n - k;omega))
   ·cases h
  rw[if_neg h6]at h;by_cases h7:t.kind=7
  ·rw[if_pos h7]at h;simp only[uC,uD]at h;obtain⟨rfl,rfl,rfl⟩:=h;have hz:(MV.list []).dv = .agg [A0 0,.sl [],.sl [],A0 0,A0 0,A0 0,.sl [],.sl [],.sl []]:=list_dv [];refine A7 @h7 ?_;exact AI [(b,[A0 u1,A0 most,AK false])] @hz
  rw[if_neg h7]at h;by_cases h8:t.kind=8
  ·rw[if_pos h8]at h;split at h
   ·rename_i n rl;simp only[uC,uD]at h;obtain⟨rfl,rfl,rfl⟩:=h;simp only[MV.les,MV.le]at b3;have hz:=list_dv (n::rl);have hq:AP (List.map Int.ofNat (n::rl))=[A0 (n:Int)]::AP (List.map Int.ofNat rl):=rfl;rw[hq]at hz;have hrl:=b3.2.1.1;refine A7 @h8 ?_;refine AL (by rw[hP];exact AZ) [146] fun K hK=>?_;simp[go_sem,hP,u7,hn];refine z43 (E:=1) (els:=[[A0 (n:Int)]]) (fun _ _=>D8) (by simp[go_sem,hP];rfl) (by simp[go_sem,hP,u7,hn]) ⟨rfl,dD,dD⟩ (by rw[hn];exact uF rfl) dD (by rfl) ?_;simp[go_sem,hP,u7,hn];refine F1 ?_;clear hK K;exact AI [(b,[A0 u1,A0 most,AK false])] @hz
   ·cases h
  rw[if_neg h8]at h;by_cases Cc:t.kind=10
  ·rw[if_neg (show ¬t.kind=9 from oO),if_pos Cc]at h;split at h
   ·rename_i p q;simp only[uC,uD]at h;obtain⟨rfl,rfl,rfl⟩:=h;have hz:=both_dv p q;have Ef:=MV.cells_eq p;have Ir:=MV.cells_eq q;refine A7 @Cc ?_;exact AI [(b,[A0 u1,A0 most,AK false])] (j3 @hz @Ef @Ir)
   ·cases h
  by_cases Ck:t.kind=11
  ·rw[if_neg (show ¬t.kind=9 from oO),if_neg Cc,if_pos Ck]at h;split at h
   ·rename_i p q;simp only[uC,uD]at h;obtain⟨rfl,rfl,rfl⟩:=h;have Ar:=MV.fold p;refine A7 @Ck ?_;exact AI [(b,[A0 u1,A0 most,AK false])] @Ar
   ·cases h
  by_cases Cf:t.kind=12
  ·rw[if_neg (show ¬t.kind=9 from oO),if_neg Cc,if_neg Ck,if_pos Cf]at h;split at h
   ·rename_i p q;simp only[uC,uD]at h;obtain⟨rfl,rfl,rfl⟩:=h;have Ar:=MV.fold q;refine A7 @Cf ?_;exact AI [(b,[A0 u1,A0 most,AK false])] @Ar
   ·cases h
  by_cases h9:t.kind=9;rotate_left
  ·rw[if_neg h9,if_neg Cc,if_neg Ck,if_neg Cf]at h;simp only[uC,uD]at h;obtain⟨rfl,rfl,rfl⟩:=h;refine A7 (j8 @h3 @h4 @h5 @h6 @h7 @h8 @h9 (j3 @Cc @Ck @Cf)) ?_;exact AI [(b,[A0 u1,A0 most,AK false])] @unit_dv
  rw[if_pos h9]at h;split at h
  ·rename_i b0 f L;simp only[MV.les]at b3;obtain⟨c1,c2,c3,-⟩:=b3;simp only[MV.le]at c3;obtain⟨c3,c4⟩:=c3;have Fk:=MV.listF_list L;have Km:=MV.cells_eq f;have Ar:=MV.fold f;generalize hnn:MV.list L=nn at *;have hL8:=c3;refine A7 (j2 @h9 @Fk) ?_;refine BK ?_;refine AC [] @Fk (CH (fun x:Nat × MV × Int × Bool=>x.1<=L.length/\u1<=x.2.2.1/\x.2.2.1<=most/\x.2.1.le (M2+(x.2.2.1 - u1))/\(x.2.2.2=false->EK (OB most d) f (L.take x.1).reverse (L.drop x.1) x.2.1 x.2.2.1=some (v,u',o))/\(x.2.2.2=true->v=x.2.1/\u' = x.2.2.1/\o=true)) (fun x:Nat × MV × Int × Bool=>[sV 0 (BC b),sP 6,sL 6 [.v (A0 0),.own 0 [],.own 0 [],.v (A0 0),.v (A0 0),.v (A0 0),.own 0 [],.own 0 [],.own 0 []],sV 7 (.sl [b0.cells,f.cells,nn.cells]),sP 13,sL 13 [.v (A0 x.2.1.numF),.v (.sl (AP x.2.1.listF)),.v (.sl (x.2.1.pairF.map MV.cells)),.v (A0 x.2.1.bodyF.kind),.v (A0 x.2.1.bodyF.index),.v (A0 x.2.1.bodyF.type.kind),.v (.sl (x.2.1.bodyF.type.args.map Ty.cells)),.v (.sl (x.2.1.bodyF.args.map Tm.cells)),.v (.sl (x.2.1.envF.map MV.cells))],sV 14 (A0 ((x.1:Int) - 1)),sB  b [.v (A0 x.2.2.1),.v (A0 most),.v (AK x.2.2.2)]]) (fun x:Nat × MV × Int × Bool=>x.1) (L.length,b0,u1,false) (⟨Nat.le_refl _,Int.le_refl u1,b2,MV.le_mono (by show M2<=M2+(u1 - u1);omega) c1,fun _=>by simpa using h,fun h=>(by cases h)⟩) ?_);rintro⟨j,r,uk,ok⟩ ⟨i1,i2,i3,i4,i5,i6⟩ ih
   simp only at i1 i2 i3 i4 i5 i6;have Do:=MV.fold r;cases ok with
   | true=>
    obtain⟨rfl,rfl,rfl⟩:=i6 rfl;cases j with
    | zero=>
     refine A4 ?_;exact AI [(b,[A0 u',A0 most,AK true])] tT
    | succ m=>
     have hk:(0:Int)<=m:=oO;refine A7 @hk ?_;exact AI [(b,[A0 u',A0 most,AK true])] tT
   | false=>
    have i5:=i5 rfl;cases j with
    | zero=>
     simp only[List.take_zero,List.reverse_nil,EK,uC,uD]at i5;obtain⟨rfl,rfl,rfl⟩:=i5;refine A4 ?_;exact AI [(b,[A0 uk,A0 most,AK false])] tT
    | succ m=>
     have hk:(0:Int)<=m:=oO;obtain⟨y,hy⟩:∃y,L[m]? = some y:=⟨_,uB oO⟩;have Nq:L.take (m+1)=L.take m++[y]:=by rw[List.take_add_one,hy];rfl
     have Pr:L.drop m=y::L.drop (m+1):=by
      obtain⟨q1,q2⟩:=uA hy;rw[List.drop_eq_getElem_cons q1,q2]
     rw[Nq,List.reverse_append,List.reverse_singleton,List.singleton_append]at i5;simp only[EK]at i5;rw[<- Pr]at i5;have hyM:(y:Int)<=M2:=c4 y (uE hy);have hgy:(AP (List.map Int.ofNat L))[m]? = some [A0 (y:Int)]:=by
      have:(List.map Int.ofNat L)[m]? = some (y:Int):=by rw[List.getElem?_map,hy];rfl
      exact IS this
     have Je:List.drop (m+1) (List.take L.length (AP (List.map Int.ofNat L)))=AP (List.drop (m+1) (List.map Int.ofNat L)):=by
      rw[List.take_of_length_le (by simp[AP])];simp only[AP,List.map_drop]
     have hm1:((m+1:Nat):Int) - 1=(m:Int):=oO;have hm2:((m+1:Nat):Int) - 1 - 1=(m:Int) - 1:=oO;have hyd:=num_dv y;have Hl:=list_dv (L.drop (m+1));have Rz:(MV.num y).le (M2+(uk - u1)):=by simp only[MV.le];omega
     have Ac:∀N:Int,M2<=N->(MV.list (L.drop (m+1))).le N:=by
      intro N hN;simp only[MV.le,List.length_drop];exact⟨oO,fun z hz=>by have:=c4 z (List.mem_of_mem_drop hz);omega⟩
     split at i5;· cases i5
     ·rename_i g u2 g1;have w1:=G9 (gl:=gl) hm H b (M2+(uk - u1)) g1 oO i3 oO oO (MV.le_mono oO c2) Rz;obtain⟨d1,d2,d3⟩:=C6 B g1 i3 (M:=M2+(uk - u1)) oO (MV.le_mono oO c2) Rz;simp only[uC,uD]at i5;obtain⟨rfl,rfl,rfl⟩:=i5;unfold KT at w1;refine A7 (j2 @hk @Fk) ?_;refine A3 (j4 @hyd @Ar @Fk @hgy) w1 ?_;refine CR (wr []) @Fk tT (ih (m,r,u2,true) ⟨by show m<=L.length;omega,by show u1<=u2;omega,d2,MV.le_mono (by show _<=M2+(u2 - u1);omega) i4,fun h=>(by cases h),fun _=>⟨rfl,rfl,rfl⟩⟩ (by show m<m+1;omega))
     ·rename_i g u2 g1;have w1:=G9 (gl:=gl) hm H b (M2+(uk - u1)) g1 oO i3 oO oO (MV.le_mono oO c2) Rz;obtain⟨d1,d2,d3⟩:=C6 B g1 i3 (M:=M2+(uk - u1)) oO (MV.le_mono oO c2) Rz;have Bx:=MV.fold g;have Nt:=Ac (M2+(u2 - u1)) oO;split at i5;· cases i5
      ·rename_i g' u3 g2;have w2:=G9 (gl:=gl) hm H b (M2+(u2 - u1)) g2 oO d2 oO oO (MV.le_mono oO d3) Nt;obtain⟨d4,d5,d6⟩:=C6 B g2 d2 (M:=M2+(u2 - u1)) oO (MV.le_mono oO d3) Nt;simp only[uC,uD]at i5;obtain⟨rfl,rfl,rfl⟩:=i5;unfold KT at w1 w2;refine A7 (j2 @hk @Fk) ?_;refine A3 (j4 @hyd @Ar @Fk @hgy) w1 ?_;refine A4 ?_;refine A3 (j4 @Bx @Fk @Je @Hl) w2 ?_;refine CR (wr []) @Fk tT (ih (m,r,u3,true) ⟨by show m<=L.length;omega,by show u1<=u3;omega,d5,MV.le_mono (by show _<=M2+(u3 - u1);omega) i4,fun h=>(by cases h),fun _=>⟨rfl,rfl,rfl⟩⟩ (by show m<m+1;omega))
      ·rename_i g' u3 g2;have w2:=G9 (gl:=gl) hm H b (M2+(u2 - u1)) g2 oO d2 oO oO (MV.le_mono oO d3) Nt;obtain⟨d4,d5,d6⟩:=C6 B g2 d2 (M:=M2+(u2 - u1)) oO (MV.le_mono oO d3) Nt;have Jf:=MV.fold g';split at i5;· cases i5
       ·rename_i r2 u4 g3;have w3:=G9 (gl:=gl) hm H b (M2+(u3 - u1)) g3 oO d5 oO oO (MV.le_mono oO d6) (MV.le_mono oO i4);obtain⟨d7,d8,d9⟩:=C6 B g3 d5 (M:=M2+(u3 - u1)) oO (MV.le_mono oO d6) (MV.le_mono oO i4);simp only[uC,uD]at i5;obtain⟨rfl,rfl,rfl⟩:=i5;have Fm:=MV.cells_eq r2;unfold KT at w1 w2 w3;refine A7 (j2 @hk @Fk) ?_;refine A3 (j4 @hyd @Ar @Fk @hgy) w1 ?_;refine A4 ?_;refine A3 (j4 @Bx @Fk @Je @Hl) w2 ?_;refine A4 ?_;refine A3 (j2 @Jf @Do) w3 ?_;refine CR (wr []) (j2 @Fm @Fk) tT (ih (m,r2,u4,true) ⟨by show m<=L.length;omega,by show u1<=u4;omega,d8,MV.le_mono (by show _<=M2+(u4 - u1);omega) d9,fun h=>(by cases h),fun _=>⟨rfl,rfl,rfl⟩⟩ (by show m<m+1;omega))
       ·rename_i r2 u4 g3;have w3:=G9 (gl:=gl) hm H b (M2+(u3 - u1)) g3 oO d5 oO oO (MV.le_mono oO d6) (MV.le_mono oO i4);obtain⟨d7,d8,d9⟩:=C6 B g3 d5 (M:=M2+(u3 - u1)) oO (MV.le_mono oO d6) (MV.le_mono oO i4);have Fm:=MV.cells_eq r2;unfold KT at w1 w2 w3;refine A7 (j2 @hk @Fk) ?_;refine A3 (j4 @hyd @Ar @Fk @hgy) w1 ?_;refine A4 ?_;refine A3 (j4 @Bx @Fk @Je @Hl) w2 ?_;refine A4 ?_;refine A3 (j2 @Jf @Do) w3 ?_;refine CR (wr []) (j2 @Fm @Fk) tT (ih (m,r2,u4,false) ⟨by show m<=L.length;omega,by show u1<=u4;omega,d8,MV.le_mono (by show _<=M2+(u4 - u1);omega) d9,fun _=>i5,fun h=>(by cases h)⟩ (by show m<m+1;omega))
  ·cases h
theorem nO {most:Int}(hm:most<=1073741824):∀d:Nat,yS Tryz.prog gl 146 most (OB most d)
 | 0=>fun t e u v u' o b M h=>by cases h
 | d+1=>vO hm (nO hm d)
theorem znm (t:Tm)(h:t.shape=true):t.tys:=by
 induction t using Tm.ind with
 | h t ih=>
 obtain⟨-,-,-,h4,h5⟩:=Tm.shape_node h;rw[Tm.tys_eq];refine⟨?_,fun a ha=>ih a ha (h5 a ha)⟩;split at h4;· have:=h4.2;omega
 ·unfold Ty.zero at h4;simp at h4;rw[Ty.count_eq,h4.2];decide
theorem znn {Γ:List T}{t:Tm}{a:T}{F:C3 Γ->a.V}(h:Dn Γ t a F):t.tys:=znm _ (G4 h)
theorem vP (t:Tm)(l:List T)(r:T)(F:C3 []->(RC l r).V)(Z:C3 l)(work M:Int)(h:Dn [] t (RC l r) F)(hc:t.count<=536870912)(hl:QH l)(Hc:l.length<=1000000)(hr:r.plain)(Il:r.ok)(Xi:0<=work)(hw:work<=65536)(hM:0<=M)(hMb:M+work<=1073741824)(hX:MV.les M (EP l Z)) :
  cT gl 107 [t.dv,.sl ((I2 l Z).map Val.cells),A0 work] [] (.tup [(GS t l (F ()) Z work).1.dv,A0 (GS t l (F ()) Z work).2.1,A0 (GS t l (F ()) Z work).2.2]) []:=by
 have Gb:=H2 (gl:=gl) t [] sS (znn h) oO;have hco:=nJ h Z work;have Xb:=UL l Z;have Rc:=XA l Z;have Av:=Tm.fold t;have Kc:(Ty.mk 0 []).cells=[A0 0,.sl []]:=rfl;refine A8 Tryz.func107 ?_;intro X hP u7 hf u9 hn hR u6 u5;unfold GS at hR;refine A4 ?_;refine A3 @Av Gb ?_;by_cases he:(t.typeE []).2=0;rotate_left
 ·rw[if_neg he]at hR;refine A7 @he ?_;exact AT @DA.eq_1
 rw[if_pos he]at hR;have Be:(t.typeE []).1=(RC l r).ty:=by
  rcases bY h with h1|h1;· rw[h1]
  ·rw[he]at h1;cases h1
 have Eh:=Ty.fold (RC l r).ty;refine A7 @he ?_;refine BK ?_;refine AC [] (j2 @Be @Xb) (FD (l.length) (fun i=>True) (fun i=>[sV 1 (.sl ((I2 l Z).map Val.cells)),sV 2 (A0 work),sP 3,sL 3 [.v (A0 t.kind),.v (A0 t.index),.v (A0 t.type.kind),.v (.sl (t.type.args.map Ty.cells)),.v (.sl (t.args.map Tm.cells))],sP 6,sL 6 [.v (A0 0),.v (A0 0),.own 0 [],.own 0 []],sP 9,sL 9 [.v (A0 (RC (l.drop i) r).ty.kind),.v (.sl ((RC (l.drop i) r).ty.args.map Ty.cells))],sV 30 (.sl ((I2 l Z).map Val.cells)),sV 31 (A0 l.length),sV 32 (A0 i)]) (trivial) ?_ ?_)
 ·intro i hi _ Aa;obtain⟨a,x,g1,g2,g3,g4,g5⟩:=ZE (r:=r) l Z i hi hl;have Uk:(List.map Val.cells (I2 l Z))[i]? = some (C5 a x).cells:=by rw[List.getElem?_map,g1];rfl
  have Kq:=Val.fold (C5 a x);have Et:=Val.cells_eq (C5 a x);have hvc:=(LQ a x g4).2;have Bb:a.size<=64:=g5;have w1:=z3o (gl:=gl) (C5 a x) oO;rw[YB x g4 g5]at w1;have w2:=BB (gl:=gl) a.ty a.ty;rw[show a.ty.same a.ty=true from (Ty.same_iff _ _).2 rfl]at w2;have hti:(RC (l.drop i) r).ty=Ty.mk 4 [a.ty,(RC (l.drop (i+1)) r).ty]:=by rw[g3,T.ty_fn]
  have Cy:=Ty.fold a.ty;generalize (RC (l.drop (i+1)) r).ty=ty' at *;generalize (RC (l.drop i) r).ty=ty0 at *;generalize a.ty=ta at *;subst hti;have Dg:=Ty.cells_eq ty';refine A2 ?_;refine AE ?_;refine A7 (j2 @Uk @Et) ?_;refine A3 @Kq w1 ?_;refine A4 ?_;refine A3 @Cy w2 ?_;refine A4 ?_;refine CR (wr []) @Dg tT (Aa tT)
 ·intro _;have Fc:RC (l.drop l.length) r=r:=by rw[List.drop_length];rfl
  rw[Fc];have wd:=ZD (gl:=gl) r Il;rw[show decide (r.level=0)=true from decide_eq_true ((T.level_plain r).2 hr)]at wd;have Eh:=Ty.fold r.ty;have hwn:¬(work<0):=oO;have hwm:¬(65536<work):=oO;have hH:=nO (gl:=gl) (most:=work) oO (work.toNat+1);have hB:=vJ work (work.toNat+1);obtain⟨v0,u0,o0,e1,l1,m1,q1⟩:=vH work (work.toNat+1) h .nil Xi oO;obtain⟨cr,Ih⟩:∃cr,cr=XB work t (EP l Z):=⟨_,rfl⟩;have Yq:=fZ Xi h Z hl;rw[<- Ih]at hR Yq;obtain⟨vf,uf,of,r1,r2,r3,r4⟩:=Yq;unfold XB at Ih;rw[e1]at Ih;obtain⟨k1,k2,k3⟩:=hB e1 Xi hM tT (by simp only[List.length_nil];omega);refine A2 ?_;refine B6 ?_;refine A4 ?_;refine A3 @Eh wd ?_;refine A7 (j2 @hwn @hwm) ?_;refine EC 80 (by simp[go_sem];rfl) ?_;intro b hb;simp[go_sem]at hb ⊢;have we:=hH b M e1 oO Xi hM oO tT (by simp only[List.length_nil];omega);unfold KT at we;have hv0:=MV.cells_eq v0;refine A3 @Av we ?_;refine A4 ?_;refine BK ?_
  refine AC [] (j2 @hv0 @Xb) (CH (fun x:Nat × MV × Int × Bool=>x.1<=l.length/\0<=x.2.2.1/\x.2.2.1<=work/\x.2.1.le (M+x.2.2.1)/\(x.2.2.2=false->LU (OB work (work.toNat+1)) x.2.1 ((EP l Z).drop x.1) x.2.2.1=cr)/\(x.2.2.2=true->of=true)) (fun x:Nat × MV × Int × Bool=>[sV 17 (BC b),sP 6,sL 6 [.v (A0 0),.v (A0 0),.own 0 [],.own 0 []],sP 9,sL 9 [.v (A0 r.ty.kind),.v (.sl (r.ty.args.map Ty.cells))],sP 18,sL 18 [.v (A0 x.2.1.numF),.v (.sl (AP x.2.1.listF)),.v (.sl (x.2.1.pairF.map MV.cells)),.v (A0 x.2.1.bodyF.kind),.v (A0 x.2.1.bodyF.index),.v (A0 x.2.1.bodyF.type.kind),.v (.sl (x.2.1.bodyF.type.args.map Ty.cells)),.v (.sl (x.2.1.bodyF.args.map Tm.cells)),.v (.sl (x.2.1.envF.map MV.cells))],sV 84 (.sl ((I2 l Z).map Val.cells)),sV 85 (A0 l.length),sV 86 (A0 x.1),sB  b [.v (A0 x.2.2.1),.v (A0 work),.v (AK x.2.2.2)]]) (fun x:Nat × MV × Int × Bool=>l.length - x.1) (0,v0,u0,o0) (⟨Nat.zero_le _,by show 0<=u0;omega,m1,MV.le_mono (by show M+(u0 - 0)<=M+u0;omega) k3,fun h=>?_,fun h=>?_⟩) ?_)
  ·have h:o0=false:=h;subst h;exact Ih.symm
  ·have h:o0=true:=h;subst h;have Ih:cr=some (v0,u0,true):=Ih;rw[Ih]at r1;cases r1;rfl
  rintro⟨i,m,u,ok⟩ ⟨i1,i2,i3,i4,i5,i6⟩ ih;simp only at i1 i2 i3 i4 i5 i6;by_cases hi:i<l.length
  ·obtain⟨a,x,g1,g2,-,g4,g5⟩:=ZE (r:=r) l Z i hi hl;have Uk:(List.map Val.cells (I2 l Z))[i]? = some (C5 a x).cells:=by rw[List.getElem?_map,g1];rfl
   have Kq:=Val.fold (C5 a x);have Et:=Val.cells_eq (C5 a x);cases ok with
   | true=>
    refine A2 ?_;refine AE ?_;refine A7 (j2 @Uk @Et) ?_;refine CR (wr []) tT tT (ih (i+1,m,u,true) ⟨by show i+1<=l.length;omega,i2,i3,i4,fun h=>(by cases h),fun _=>i6 rfl⟩ (by show l.length - (i+1)<l.length - i;omega))
   | false=>
    have i5:=i5 rfl;have Pr:(EP l Z).drop i=PR a x::(EP l Z).drop (i+1):=by
     obtain⟨p1,p2⟩:=uA g2;rw[List.drop_eq_getElem_cons p1,p2]
    rw[Pr]at i5;simp only[LU]at i5;have hxM:(PR a x).le (M+u):=MV.le_mono oO (MV.les_iff.1 hX _ (uE g2));have wo:=znk (gl:=gl) a x g4;have Rm:=MV.fold m;split at i5;· rw[<- i5]at r1;cases r1
    ·rename_i v1 u1 c1;have w:=G9 (gl:=gl) oO hH b (M+u) c1 i2 i3 oO oO i4 hxM;obtain⟨d1,d2,d3⟩:=C6 hB c1 i3 (M:=M+u) oO i4 hxM;have hof:of=true:=by rw[<- i5]at r1;cases r1;rfl
     have Dv:=MV.cells_eq v1;unfold KT at w;generalize C5 a x=vx at *;generalize PR a x=mx at *;refine A2 ?_;refine AE ?_;refine A7 (j2 @Uk @Et) ?_;refine EW (j2 @Kq @Rm) wo w ?_;refine CR (wr []) @Dv tT (ih (i+1,v1,u1,true) ⟨by show i+1<=l.length;omega,by show 0<=u1;omega,d2,MV.le_mono (by show _<=M+u1;omega) d3,fun h=>(by cases h),fun _=>hof⟩ (by show l.length - (i+1)<l.length - i;omega))
    ·rename_i v1 u1 c1;have w:=G9 (gl:=gl) oO hH b (M+u) c1 i2 i3 oO oO i4 hxM;obtain⟨d1,d2,d3⟩:=C6 hB c1 i3 (M:=M+u) oO i4 hxM;have Dv:=MV.cells_eq v1;unfold KT at w;generalize C5 a x=vx at *;generalize PR a x=mx at *;refine A2 ?_;refine AE ?_;refine A7 (j2 @Uk @Et) ?_;refine EW (j2 @Kq @Rm) wo w ?_;refine CR (wr []) @Dv tT (ih (i+1,v1,u1,false) ⟨by show i+1<=l.length;omega,by show 0<=u1;omega,d2,MV.le_mono (by show _<=M+u1;omega) d3,fun _=>i5,fun h=>(by cases h)⟩ (by show l.length - (i+1)<l.length - i;omega))
  ·have Ip:i=l.length:=oO;subst Ip;cases ok with
   | true=>
    have hof:=i6 rfl;subst hof;rw[r1]at hR;refine A2 ?_;refine B6 ?_;refine A4 ?_;exact AT @DA.eq_1
   | false=>
    have i5:=i5 rfl;have Pr:(EP l Z).drop l.length=[]:=by rw[<- Rc,List.drop_length]
    rw[Pr]at i5;simp only[LU]at i5;rw[<- i5]at r1 hR;have hq:m=vf/\of=false:=by cases r1;exact⟨rfl,rfl⟩
    have r4:=r4 hq.2;rw[<- hq.1]at r4;have wp:=z42 (gl:=gl) r4 hr;have Rm:=MV.fold m;generalize C5 r (nH l (F ()) Z)=vr at *;refine A2 ?_;refine B6 ?_;refine A4 ?_;refine A3 (j2 @Rm @Eh) wp ?_;exact B9
theorem zno (t:Tm)(r:T)(F:C3 []->r.V)(work:Int)(h:Dn [] t r F)(hc:t.count<=536870912)(hr:r.plain)(Il:r.ok)(Xi:0<=work)(hw:work<=65536) :
  cT gl 59 [t.dv,A0 work] [] (.tup [(GS t [] (r:=r) (F ()) () work).1.dv,A0 (GS t [] (r:=r) (F ()) () work).2.1,A0 (GS t [] (r:=r) (F ()) () work).2.2]) []:=by
 have w:=vP (gl:=gl) t [] r F () work 0 h hc tT dD hr Il Xi hw oO oO tT;have Av:=Tm.fold t;generalize GS t [] (r:=r) (F ()) () work=c at *;refine A8 Tryz.func59 ?_;intro X hP u7 hf u9 hn hR u6 u5;have e0:DV.sl (List.map Val.cells (I2 [] ())) = .sl []:=rfl;rw[e0]at w;have Jy:=Val.fold c.1;refine A4 ?_;refine A3 @Av w ?_;refine A4 ?_;exact B9
theorem cC:cT gl 113 [] [] (Ty.mk 1 []).dv []:=by
 refine A8 Tryz.func113 ?_;intro X hP u7 hf u9 hn hR u6 u5;refine A4 ?_;exact B9
theorem z44 (a b:Ty):cT gl 112 [a.dv,b.dv] [] (Ty.mk 3 [a,b]).dv []:=by
 refine A8 Tryz.func112 ?_;intro X hP u7 hf u9 hn hR u6 u5;refine A4 ?_;exact B9
theorem W3 (a b:Ty):cT gl 26 [a.dv,b.dv] [] (Ty.mk 4 [a,b]).dv []:=by
 refine A8 Tryz.func26 ?_;intro X hP u7 hf u9 hn hR u6 u5;refine A4 ?_;exact B9
theorem BQ (k:Int)(l:List Tm):cT gl 125 [A0 k,.sl (l.map Tm.cells)] [] (Tm.mk k 0 (Ty.mk 0 []) l).dv []:=by
 refine A8 Tryz.func125 ?_;intro X hP u7 hf u9 hn hR u6 u5;refine A4 ?_;exact B9
theorem cD (i:Int):cT gl 97 [A0 i] [] (Tm.mk 1 i (Ty.mk 0 []) []).dv []:=by
 refine A8 Tryz.func97 ?_;intro X hP u7 hf u9 hn hR u6 u5;refine A4 ?_;exact B9
abbrev bn (n:Int):List DV:=[.sl [],.sl [],A0 n]
theorem cE (b:Nat)(n:Int)(h0:0<=n)(h1:n<=1099511627776):cT gl 98 [BC b] [(b,bn n)] (A0 (n+1)) [(b,bn (n+1))]:=by
 refine A8 Tryz.func98 ?_;intro X hP u7 hf u9 hn hR u6 u5;refine A4 ?_;exact AI [(b,bn (n+1))] tT
theorem g7 (l:List Tm)(t:Tm)(hl:l.length<=1000000):cT gl 127 [.sl (l.map Tm.cells),t.dv] [] (.sl ((l++[t]).map Tm.cells)) []:=by
 refine A8 Tryz.func127 ?_;intro X hP u7 hf u9 hn hR u6 u5;have Dg:=Tm.cells_eq t;refine A7 @Dg ?_;exact BD @Dg
theorem NN (s:Ty)(n:Int)(t:Tm):cT gl 128 [s.dv,A0 n,t.dv] [] (Tm.mk 2 n s [t]).dv []:=by
 refine A8 Tryz.func128 ?_;intro X hP u7 hf u9 hn hR u6 u5;have Dg:=Tm.cells_eq t;refine A7 @Dg ?_;exact AT @Dg
theorem BF (t:Ty):cT gl 70 [t.dv] [] (Ty.mk 3 [CE,t]).dv []:=by
 have w:=z44 (gl:=gl) CE t;have Av:=Ty.fold t;have Fo:(Ty.mk 1 []).dv=DV.agg [A0 1,.sl []]:=rfl;have Qc:CE.dv=DV.agg [A0 1,.sl []]:=rfl;rw[Qc]at w;refine A8 Tryz.func70 ?_;intro X hP u7 hf u9 hn hR u6 u5;refine A4 ?_;refine EW (j2 @Av @Fo) cC w ?_;exact B9
theorem BW (t:Tm):cT gl 129 [t.dv] [] (nT 11 [t]).dv []:=by
 have w:=BQ (gl:=gl) 11 [t];have Av:=Tm.fold t;have Eh:=Tm.fold (nT 11 [t]);have e:Tm.mk 11 0 (Ty.mk 0 []) [t]=nT 11 [t]:=rfl;rw[e]at w;simp only[List.map_cons,List.map_nil,Tm.cells_eq t]at w;generalize nT 11 [t]=r at *;refine A8 Tryz.func129 ?_;intro X hP u7 hf u9 hn hR u6 u5;refine A4 ?_;refine A3 @Av w ?_;exact B9
theorem BJ (t:Tm):cT gl 130 [t.dv] [] (nT 12 [t]).dv []:=by
 have w:=BQ (gl:=gl) 12 [t];have Av:=Tm.fold t;have Eh:=Tm.fold (nT 12 [t]);have e:Tm.mk 12 0 (Ty.mk 0 []) [t]=nT 12 [t]:=rfl;rw[e]at w;simp only[List.map_cons,List.map_nil,Tm.cells_eq t]at w;generalize nT 12 [t]=r at *;refine A8 Tryz.func130 ?_;intro X hP u7 hf u9 hn hR u6 u5;refine A4 ?_;refine A3 @Av w ?_;exact B9
theorem DO (x y:Tm):cT gl 126 [x.dv,y.dv] [] (nT 10 [x,y]).dv []:=by
 have w:=BQ (gl:=gl) 10 [x,y];have Bi:=Tm.fold x;have Cs:=Tm.fold y;have Eh:=Tm.fold (nT 10 [x,y]);have e:Tm.mk 10 0 (Ty.mk 0 []) [x,y]=nT 10 [x,y]:=rfl;rw[e]at w;simp only[List.map_cons,List.map_nil,Tm.cells_eq x,Tm.cells_eq y]at w;generalize nT 10 [x,y]=r at *;refine A8 Tryz.func126 ?_;intro X hP u7 hf u9 hn hR u6 u5;refine A4 ?_;refine A3 (j2 @Bi @Cs) w ?_;exact B9
theorem ID (f a:Tm):cT gl 133 [f.dv,a.dv] [] (nT 3 [f,a]).dv []:=by
 have w:=BQ (gl:=gl) 3 [f,a];have Qx:=Tm.fold f;have Cy:=Tm.fold a;have Eh:=Tm.fold (nT 3 [f,a]);have e:Tm.mk 3 0 (Ty.mk 0 []) [f,a]=nT 3 [f,a]:=rfl;rw[e]at w;simp only[List.map_cons,List.map_nil,Tm.cells_eq f,Tm.cells_eq a]at w;generalize nT 3 [f,a]=r at *;refine A8 Tryz.func133 ?_;intro X hP u7 hf u9 hn hR u6 u5;refine A4 ?_;refine A3 (j2 @Qx @Cy) w ?_;exact B9
abbrev co (c b:Nat)(n:Int):BU:=[(c,[BC b]),(b,bn n)]
theorem vQ (c b:Nat)(hb:c≠b)(n:Int)(h0:0<=n)(h1:n<=1099511627776):cT gl 52 [BC c] (co c b n) (vT (n+1)).dv (co c b (n+1)):=by
 have w:=cE (gl:=gl) b n h0 h1;have w2:=cD (gl:=gl) (n+1);have hv:(vT (n+1)).dv=(Tm.mk 1 (n+1) (Ty.mk 0 []) []).dv:=rfl;refine A8 Tryz.func52 ?_;intro X hP u7 hf u9 hn hR u6 u5;have Ab:b≠c:=fun h=>hb h.symm;refine A7 (j2 @hb @Ab) ?_;refine mQ (j2 @hb @Ab) w w2 ?_;exact AI (co c b (n+1)) (j3 @hb @Ab @hv)
theorem CZ (s:Ty)(v:Int)(a body:Tm):cT gl 132 [s.dv,(vT v).dv,a.dv,body.dv] [] (nT 3 [Tm.mk 2 v s [body],a]).dv []:=by
 have w:=NN (gl:=gl) s v body;have w2:=ID (gl:=gl) (Tm.mk 2 v s [body]) a;have Lo:=Ty.fold s;have Cy:=Tm.fold a;have Ky:=Tm.fold body;have Ew:=Tm.fold (Tm.mk 2 v s [body]);have hv:(vT v).dv = .agg [A0 1,A0 v,A0 0,.sl [],.sl []]:=rfl;rw[hv];refine A8 Tryz.func132 ?_;intro X hP u7 hf u9 hn hR u6 u5;refine A4 ?_;refine EW (j4 @Lo @Cy @Ky @Ew) w w2 ?_;exact B9
theorem z45 (t:Tm)(hc:t.count<=1073741824):cT gl 135 [t.dv] [] (A0 t.count) []:=by
 induction t using Tm.ind with
 | h t ih=>
 refine A8 Tryz.func135 ?_;intro X hP u7 hf u9 hn hR u6 u5;have Fu:=Tm.fit_len (u5 t.dv sS);have Et:=Tm.count_eq t;refine A4 ?_;refine BK ?_;refine GH [] (by simp[go_sem]) (by simp[go_sem,Tm.count.counts] <;> omega) (by simp[go_sem]) (FE (t.args) (fun done rest=>[sP 1,sL 1 [.v (A0 t.kind),.v (A0 t.index),.v (A0 t.type.kind),.v (.sl (t.type.args.map Ty.cells)),.v (.sl (t.args.map Tm.cells))],sV 2 (A0 0),sV 3 (A0 (1+Tm.count.counts done:Nat)),sV 4 (A0 done.length)]) ?_ ?_)
 ·intro done x rest hL Aq Aa;have Ag:done.length<t.args.length:=by rw[hL];simp
  have Dd:=uE Aq;have Df:=Tm.counts_append done (x::rest);have Dp:=Tm.counts_append done [x];rw[<- hL]at Df;simp only[Tm.count.counts]at Df Dp;have w:=ih x Dd oO;have Bi:=Tm.fold x;refine A2 ?_;refine AE ?_;refine A7 @Aq ?_;refine A3 (j2 @Aq @Bi) w ?_;refine CR (wr []) @Dp tT Aa
 ·refine A2 ?_;refine B6 ?_;refine A4 ?_;exact BD @Et
end
section
section
variable {X:Ctx}{s s0:St}{k:List Item}
def zaz (a:Option Nat)(s:St):St:=match a with|none=>s|some b=>OU s (.heap b)
def z46 (d:Nat)(a:Option Nat)(y:SV)(b:Nat)(cs:List SV)(s:St):St:=CV (CV (zaz a s) (.slot d) (.one y)) (.heap b) (.row cs)
def zqs (b:Nat)(a:Option Nat)(s:St):Prop:=∀h,a≠some h->get s (.heap h)≠none->b≠h
def nP (X:Ctx)(o:Oper)(s1:St)(d:Nat)(a:Option Nat)(P:SV->Nat->List SV->Prop):Prop:=
 ∀s,pM s1 s->∀(G:Gh) (ac:Act) (w:World),Rel X G s ac w->∀(next:Act->World->Prop) (Q:Exit->Act->World->Prop),
  (∀y b cs,P y b cs->zqs b a s->∀G' a' w',Rel X G' (z46 d a y b cs s) a' w'->next a' w')->o.wpIn X.F 0 X.P ac w next Q
section
variable {ops ops':Array Oper}{m q:Nat}{T0:List Nat}{evs:List Ev}{K:St->Prop}{d:Nat}{a0:Option Nat}
end
end
end
section
section
variable {X:Ctx}{s s0:St}{k:List Item}
abbrev znp (q:Option Nat)(n cap:Nat):DV:=.prim (.slice (q.map fun b=>⟨b,0,none⟩) n cap)
def zsk (X:Ctx)(q:Option Nat)(E n:Nat)(old zs:List (List DV)):SV->Nat->List SV->Prop:=fun y b cs=>
 ∃cap full,y = .v (KK b (n+zs.length) cap)/\cs=AM full/\full.length=cap/\(∀e∈full,e.length=E)/\n+zs.length<=cap/\full.take (n+zs.length)=old.take n++zs/\(q=some b\/(X.w0.heap.size<=b/\∀b',q=some b'->b≠b'))
theorem TY {o:Oper}{x y:Operand}{T T2:TypeId}(ho:o.op = .call { callee:=.builtin .append,args:=#[x,y],argTypes:=#[T,T2] }){d:Nat}(hd:o.dst=some d)(hn:d<X.n)
  {E B:Nat} (he:DW X.P T=some (E,B)) (hB:0<B/\B<=1024) (h2:(DB X.P T2).isSome=true) {q:Option Nat} {n cap:Nat} {full zs:List (List DV)} {zd:List DV} (hy:(D4 X (get s) y).bind LJ=some zs)
  (Ak:∀b,q=some b->get s (.heap b)=some (.row (AM full))) (Vo:q=none->n=0) (Ew:full.length=cap) (Ic:n<=cap) (hnf:cap<n+zs.length) (Al:n+zs.length<=HL) (Ek:∀e∈full,e.length=E) (Dk:∀e∈zs,e.length=E) (hz:S6 X.P T=some zd) (Ln:HE zd=true)
  {G:Gh} {a:Act} {w:World} (R:Rel X G s a w) (hv:a.eval x = .slice (q.map fun b=>⟨b,0,none⟩) n cap) (next:Act->World->Prop) (Q:Exit->Act->World->Prop)
  (hK:∀b' Au,n+zs.length<=Au->newB b' s->X.w0.heap.size<=b'->zd.length=E->∀G' a' w',Rel X G' (CV (CV s (.slot d) (.one (.v (KK b' (n+zs.length) Au)))) (.heap b') (.row (AM (full.take n++zs++List.replicate (Au - (n+zs.length)) zd)))) a' w'->next a' w') :
  o.wpIn X.F 0 X.P a w next Q:=by
 obtain⟨qq,hqq,Ju⟩:=Option.bind_eq_some_iff.1 hy;obtain⟨yb,Up,Yz,Mu,-⟩:=HQ Ju (AD R hqq);obtain⟨c2,g,g1,g2,g3⟩:=V1 Mu Dk;have hnE:n * E<=full.length * E:=Nat.mul_le_mul_right _ oO
 have Pr:∀w':World,w'.heap=w.heap->(Builtin.firstCells E zs.length (a.eval y)).run X.P w' = .ok (WO g (zs.length * E)) w':=fun w' hw=>by
  refine EL (D:=G.D) ?_;rcases g3 with h|⟨b,o',cap,h,hc⟩;· exact .inl h
  ·exact .inr ⟨b,o',cap,h,fun k hk=>by rw[IA hw];exact hc k hk⟩
 obtain⟨g0,Kz,hold⟩:∃g0:Nat->Value,(∀w':World,w'.heap=w.heap->(Builtin.firstCells E n (.slice (q.map fun b=>⟨b,0,none⟩) n cap)).run X.P w' = .ok (WO g0 (n * E)) w') /\
   ∀i j e dd,i<n->full[i]? = some e->e[j]? = some dd->dd.isCell=true/\RV G.D w dd (g0 (i * E+j)):=by
  cases q with
  | none=>
   have h0:=Vo rfl;subst h0;refine⟨fun _=>undef,fun w' _=>?_,fun i j e dd hi=>absurd hi (Nat.not_lt_zero _)⟩;simp[Builtin.firstCells,WO]
  | some b=>
   obtain⟨c0,e0,k1,k2,k3⟩:KM G w b (AM full):=R.holds _ _ (Ak b rfl);rw[F6 Ek]at k2;refine⟨fun k=>(c0[k]?).getD undef,fun w' hw=>?_,fun i j e dd hi h1 h2=>?_⟩
   ·simp only[Builtin.firstCells,Option.map_some];refine M0 b 0 (n * E) _ (fun k hk=>?_);have Ag:k<c0.size:=oO;rw[IA hw,Nat.zero_add];simp[World.cell?,k1,Ag]
   ·obtain⟨q0,v,q1,q2⟩:=k3 (i * E+j) (.v dd) (by simp only[AM,List.getElem?_map,L0 Ek h1 h2,Option.map_some]);exact⟨q0,by show RV G.D w dd ((c0[i * E+j]?).getD undef);rw[q1];exact q2⟩
 obtain⟨Gk,c,e,nc,r1,r2,r3,r4,r5,r6⟩:=R4 (P:=X.P) (t:=T) (ty:=o.type) (t2:=T2) (w:=w) he hB h2 (base:=q.map fun b=>⟨b,0,none⟩) (len:=n) (cap:=cap) (fun w' _=>NA (P:=X.P) Mu w') Pr Kz oO Al (LK _ _) (LK _ _) hz;rw[<- hv]at r1;have Dr:(execOp a.eval o).run X.P w = .ok (.value (.slice (some ⟨w.heap.size,0,none⟩) (n+zs.length) nc)) (w.drew.alloc (.cells c e)):=by
  simp[execOp,ho,resolve,invoke,builtin,r1]
 refine PT (by intro c e;rw[ho]at e;cases e) ?_;rw[Dr,E8,hd];have hp:=IR a (some d) (.slice (some ⟨w.heap.size,0,none⟩) (n+zs.length) nc);have T':Trans X G a w G (a.put (some d) (.slice (some ⟨w.heap.size,0,none⟩) (n+zs.length) nc)) (w.drew.alloc (.cells c e)) (fun _=>False):=by
  refine⟨hp.1,fun h=>(h.heap fun b hb=>DL w.drew _ b hb).put hp.2,rfl,rfl,rfl,sS,fun b hb _=>DL w.drew _ b hb,fun _ h=>h.elim,fun b k hD=>⟨hD,World.cell?_alloc_lt w.drew _ _ (R.wf.lt hD)⟩,fun b k hD Ma=>absurd hD Ma,R.nil⟩
 refine hK w.heap.size nc r2 (SR R) R.ext.size Gk G _ _ (R.newArr hn (w1:=w.drew) rfl T' (E:=E) ?_ ?_ ?_ ?_)
 ·intro e he;rcases List.mem_append.1 he with he|he
  ·rcases List.mem_append.1 he with he|he;· exact Ek e (List.mem_of_mem_take he)
   ·exact Dk e he
  ·rw[(List.mem_replicate.1 he).2];exact Gk
 ·intro e he d hd;rcases List.mem_append.1 he with he|he
  ·rcases List.mem_append.1 he with he|he
   ·obtain⟨i,hi⟩:=List.mem_iff_getElem?.1 he;obtain⟨j,hj⟩:=List.mem_iff_getElem?.1 hd;have Ip:i<n:=by
     have:=(uA hi).1;rw[List.length_take]at this;omega
    rw[List.getElem?_take_of_lt Ip]at hi;exact (hold i j e d Ip hi hj).1
   ·exact c2 e he d hd
  ·rw[(List.mem_replicate.1 he).2]at hd;exact (MT zd).1 Ln d hd
 ·rw[r3];simp only[List.length_append,List.length_take,List.length_replicate];exact Nat.mul_le_mul_right _ oO
 ·intro i j e dd hi hj;have Fu:(full.take n).length=n:=by rw[List.length_take,Nat.min_eq_left oO]
  rw[List.append_assoc]at hi;rcases Nat.lt_or_ge i n with h|h
  ·rw[List.getElem?_append_left oO,List.getElem?_take_of_lt h]at hi;have No:j<E:=by rw[<- Ek e (uE hi)];exact (uA hj).1
   have Ag:=N9 h No;refine⟨_,?_,(hold i j e dd h hi hj).2⟩;rw[r4 _ Ag,O3 _ _ _ Ag]
  ·rw[List.getElem?_append_right oO,Fu]at hi;rcases Nat.lt_or_ge (i - n) zs.length with h' | h'
   ·rw[List.getElem?_append_left h']at hi;have No:j<E:=by rw[<- Dk e (uE hi)];exact (uA hj).1
    have Ag:=N9 h' No;refine⟨_,?_,g1 _ _ _ _ hi hj⟩;have e1:i * E+j=n * E+((i - n) * E+j):=by rw[<- Nat.add_assoc,<- Nat.add_mul];congr 2;omega
    rw[e1,r5 _ Ag,O3 _ _ _ Ag]
   ·rw[List.getElem?_append_right h']at hi
    obtain⟨Lt,Jt⟩:e=zd/\i - n - zs.length<nc - (n+zs.length):=by
     have hm:=uE hi;have Ag:=(uA hi).1;simp only[List.length_replicate]at Ag;exact⟨(List.mem_replicate.1 hm).2,Ag⟩
    subst Lt;obtain⟨v,q1,q2⟩:=r6 G w R.nil (i - n - zs.length) j dd Jt hj;refine⟨v,?_,q2⟩;rw[show n+zs.length+(i - n - zs.length)=i from oO]at q1;exact q1
theorem jH {o:Oper}{x y:Operand}{T T2:TypeId}(ho:o.op = .call { callee:=.builtin .append,args:=#[x,y],argTypes:=#[T,T2] }){d:Nat}(hd:o.dst=some d)(hn:d<X.n)
  {E B:Nat} (he:DW X.P T=some (E,B)) (hB:0<B/\B<=1024) (h2:(DB X.P T2).isSome=true) {q:Option Nat} {n cap:Nat} {full zs:List (List DV)} {zd:List DV} (hx:D4 X (get s) x=some (.v (znp q n cap))) (hy:(D4 X (get s) y).bind LJ=some zs)
  (Ak:∀b,q=some b->get s (.heap b)=some (.row (AM full))) (Vo:q=none->n=0) (Ew:full.length=cap) (Ic:n<=cap) (hnf:cap<n+zs.length) (Al:n+zs.length<=HL) (Ek:∀e∈full,e.length=E) (Dk:∀e∈zs,e.length=E) (hz:S6 X.P T=some zd) (Ln:HE zd=true)
  {G:Gh} {a:Act} {w:World} (R:Rel X G s a w) (next:Act->World->Prop) (Q:Exit->Act->World->Prop)
  (hK:∀b' Au,n+zs.length<=Au->newB b' s->X.w0.heap.size<=b'->zd.length=E->∀G' a' w',Rel X G' (CV (CV s (.slot d) (.one (.v (KK b' (n+zs.length) Au)))) (.heap b') (.row (AM (full.take n++zs++List.replicate (Au - (n+zs.length)) zd)))) a' w'->next a' w') :
  o.wpIn X.F 0 X.P a w next Q:=
 TY ho hd hn he hB h2 hy Ak Vo Ew Ic hnf Al Ek Dk hz Ln R (BT (AD R hx)).1 next Q hK
theorem YF {Ad:List Nat}{ops:Array Oper}{l:List Oper}{K:St->Prop}{d:Tmp}{x y:Operand}{T T2 ty:TypeId}{pos:String}{af:Array Edge}{q:Option (Prop × St)}
  {E B:Nat} {zs:List (List DV)} {zd:List DV} (hx:D4 X (get s) x=some (.own 0 [])) (hy:(D4 X (get s) y).bind LJ=some zs)
  (he:DW X.P T=some (E,B)) (hz:S6 X.P T=some zd) (Ln:HE zd=true) (hB:0<B/\B<=1024) (h2:(DB X.P T2).isSome=true) (hn:d<X.n)
  (Dw:0<zs.length) (Al:zs.length<=HL) (Dk:∀e∈zs,e.length=E) (hq:q=none)
  (h:∀b cap,zs.length<=cap->newB b s->X.w0.heap.size<=b->vc X Ad ops l (CV (CV s (.slot d) (.one (.v (KK b zs.length cap)))) (.heap b) (.row (AM (zs++List.replicate (cap - zs.length) zd)))) K) :
  eD X Ad ops l K ⟨some d,.call { callee:=.builtin .append,args:=#[x,y],argTypes:=#[T,T2] },ty,pos,af,none⟩ s q:=by
 subst hq;intro m hm G a w R0;obtain⟨p1,p3⟩:=FH hm;simp only[List.length_cons,List.range'_succ,wpOpsIn,p1,Region.wanted,if_true];have hv:a.eval x = .slice none 0 0:=by
  obtain⟨h1,-⟩:=(AD R0 hx:LX G w (.own 0 []) _);rw[R0.nil]at h1;exact h1
 refine TY (o:=⟨some d,.call { callee:=.builtin .append,args:=#[x,y],argTypes:=#[T,T2] },ty,pos,af,none⟩) (q:=none) (n:=0) (cap:=0) (full:=[]) rfl rfl hn he hB h2 hy (fun b hb=>by cases hb) (fun _=>rfl) rfl (Nat.le_refl 0) oO oO (fun e h=>by cases h) Dk hz Ln R0 hv _ _ fun b' Au hc hb hw Gk G' a' w' R'=>?_;simp only[Nat.zero_add,List.take_nil,List.nil_append]at R' hc;exact DM (h b' Au hc hb hw) (m+1) p3 G' a' w' R'
theorem SZ {b:Nat}:∀{s:St},newB b s->∀h v,get s (.heap h)=some v->h≠b
 | [],_,h,v,hg=>by cases hg
 | (.heap b',u)::r,hn,h,v,hg=>by
  simp only[get]at hg;split at hg
  ·rename_i e;cases e;exact hn.1
  ·exact SZ hn.2 h v hg
 | (.slot n,u)::r,hn,h,v,hg=>by
  simp only[get]at hg;rw[if_neg (by intro e;cases e)]at hg;exact SZ (s:=r) hn h v hg
 | (.loc n,u)::r,hn,h,v,hg=>by
  simp only[get]at hg;rw[if_neg (by intro e;cases e)]at hg;exact SZ (s:=r) hn h v hg
 | (.tok n,u)::r,hn,h,v,hg=>by
  simp only[get]at hg;rw[if_neg (by intro e;cases e)]at hg;exact SZ (s:=r) hn h v hg
theorem YG {o:Oper}{x y:Operand}{T T2:TypeId}(ho:o.op = .call { callee:=.builtin .append,args:=#[x,y],argTypes:=#[T,T2] }){d:Nat}(hd:o.dst=some d)(hn:d<X.n)
  {E B:Nat} (he:DW X.P T=some (E,B)) (hB:0<B/\B<=1024) (h2:(DB X.P T2).isSome=true) {q:Option Nat} {n cap:Nat} {full zs:List (List DV)} {zd:List DV} (hx:D4 X (get s) x=some (.v (znp q n cap))) (hy:(D4 X (get s) y).bind LJ=some zs)
  (Ak:∀b,q=some b->get s (.heap b)=some (.row (AM full))) (Vo:q=none->n=0/\cap=0) (Ew:full.length=cap) (Ic:n<=cap) (Dw:0<zs.length) (Al:n+zs.length<=HL) (Ek:∀e∈full,e.length=E) (Dk:∀e∈zs,e.length=E) (hz:S6 X.P T=some zd) (Ln:HE zd=true) :
  nP X o s d q (zsk X q E n full zs):=by
 intro s' hs G a w R next Q hK
 have Cp:=HT hs hx;have Dm:=WW hs hy;have Qa:∀b,q=some b->get s' (.heap b)=some (.row (AM full)):=fun b hb=>hs _ _ (Ak b hb);rcases Nat.lt_or_ge cap (n+zs.length) with h|h
 ·refine jH ho hd hn he hB h2 Cp Dm Qa (fun hq=>(Vo hq).1) Ew Ic h Al Ek Dk hz Ln R next Q fun b' Au hc hb hw Gk G' a' w' R'=>?_
  have hl:(full.take n).length=n:=by rw[List.length_take];omega
  have Np:newB b' s':=hb;refine hK _ b' _ ⟨Au,full.take n++zs++List.replicate (Au - (n+zs.length)) zd,rfl,rfl,?_,?_,hc,?_,.inr ⟨hw,fun b'' hq=>(SZ Np b'' _ (Qa b'' hq)).symm⟩⟩ ?_ G' a' w' ?_;· simp only[List.length_append,List.length_replicate,hl];omega
  ·intro e he;rcases List.mem_append.1 he with he|he
   ·rcases List.mem_append.1 he with he|he;· exact Ek e (List.mem_of_mem_take he)
    ·exact Dk e he
   ·rw[(List.mem_replicate.1 he).2];exact Gk
  ·rw[List.take_append_of_le_length (by rw[List.length_append,hl];exact Nat.le_refl _),List.take_of_length_le (by rw[List.length_append,hl];exact Nat.le_refl _)]
  ·intro h1 _ hg e;subst e;cases Hd:get s' (.heap b') with
   | none=>exact hg Hd
   | some v=>exact SZ Np b' v Hd rfl
  ·refine R'.weaken fun l v hl=>?_;unfold z46 at hl;rw[C1]at hl ⊢;by_cases h1:Loc.heap b' = l;· rw[if_pos h1]at hl ⊢;exact hl
   ·rw[if_neg h1]at hl ⊢;rw[C1]at hl ⊢;by_cases h3:Loc.slot d=l;· rw[if_pos h3]at hl ⊢;exact hl
    ·rw[if_neg h3]at hl ⊢;cases q with
     | none=>exact hl
     | some b0=>
      simp only[zaz]at hl;rw[LH]at hl;split at hl;· cases hl
      ·exact hl
 ·cases q with
  | none=>have:=(Vo rfl);omega
  | some b=>
   have Ec:=VM (s:=s') ho hd hn he h2 (b:=b) Cp Dm (Qa b rfl) Ew h Ek Dk;refine Ec G a w R next Q fun G' a' w' R'=>?_
   have hl:(full.take n).length=n:=by rw[List.length_take];omega
   refine hK _ b _ ⟨cap,full.take n++zs++full.drop (n+zs.length),rfl,rfl,?_,?_,h,?_,.inl rfl⟩ (fun h' Ba hg e=>Ba (by rw[e])) G' a' w' (R'.congr fun l=>?_);· simp only[List.length_append,List.length_drop,hl];omega
   ·intro e he;rcases List.mem_append.1 he with he|he
    ·rcases List.mem_append.1 he with he|he;· exact Ek e (List.mem_of_mem_take he)
     ·exact Dk e he
    ·exact Ek e (List.mem_of_mem_drop he)
   ·rw[List.take_append_of_le_length (by rw[List.length_append,hl];exact Nat.le_refl _),List.take_of_length_le (by rw[List.length_append,hl];exact Nat.le_refl _)]
   ·unfold z46 zaz;rw[C1,C1,C1,C1,LH];by_cases h1:Loc.slot d=l
    ·subst h1;rw[if_neg (by intro e;cases e),if_pos rfl,if_pos rfl]
    ·by_cases h3:Loc.heap b=l;· rw[if_pos h3,if_neg h1,if_pos h3]
     ·rw[if_neg h3,if_neg h1,if_neg h1,if_neg h3,if_neg h3]
theorem nQ {Ad:List Nat}{ops:Array Oper}{l:List Oper}{K:St->Prop}{o:Oper}{q:Option (Prop × St)}{d:Nat}{a0:Option Nat}{P:SV->Nat->List SV->Prop}(hg:o.guard=none)(hf:nP X o s d a0 P)(hq:q=none)
  (h:∀y b cs,P y b cs->zqs b a0 s->vc X Ad ops l (z46 d a0 y b cs s) K):eD X Ad ops l K o s q:=by
 subst hq;intro m hm G a w R0;obtain⟨p1,p3⟩:=FH hm;have hw:∀y,Region.wanted o y=true:=fun y=>by simp[Region.wanted,hg]
 simp only[List.length_cons,List.range'_succ,wpOpsIn,p1,hw,if_true];exact hf s (fun _ _ h=>h) G a w R0 _ _ fun y b cs hp hn G' a' w' R'=>DM (h y b cs hp hn) (m+1) p3 G' a' w' R'
theorem zb0 (σ:Nat->Nat)(l:List DV):KN σ (l.map SV.v) (l.map SV.v):=by
 induction l with
 | nil=>simp[KN]
 | cons x r ih=>simp[KN,R9,ih]
structure RS where
 q:Option Nat
 n:Nat
 cap:Nat
 full:List (List DV)
abbrev RS.v (x:RS):DV:=znp x.q x.n x.cap
theorem nR (d:Nat)(ys:List (List DV)):ED d (AM ys)=false:=fQ d _
theorem cF (σ:Nat->Nat)(ys:List (List DV)):KN σ (AM ys) (AM ys):=zb0 σ _
attribute [go_sem] nR
theorem g8 {E:Nat}{full:List (List DV)}(hE:∀e∈full,e.length=E){i:Nat}{e:List DV}(h:full[i]? = some e):GZ (((AM full).drop (i * E)).take E)=some e:=by
 have he:=hE e (uE h);have h1:((AM full).drop (i * E)).take E=e.map SV.v:=by
  apply List.ext_getElem?;intro j;by_cases hj:j<E
  ·rw[List.getElem?_take_of_lt hj,List.getElem?_drop];have Yv:e[j]? = some (e[j]'oO):=uB oO;simp only[AM,List.getElem?_map,L0 hE h Yv,Yv]
  ·rw[List.getElem?_eq_none (by simp;omega),List.getElem?_eq_none (by simp;omega)]
 rw[h1];exact kR e
end
end
section
variable {gl:AF}
def H3 (t:Ty):List DV:=[A0 t.kind,.sl (t.args.map Ty.cells),A0 (t.count:Int)]
theorem C2 (t:Ty):H3 t=[A0 t.kind,.sl (t.args.map Ty.cells),A0 (t.count:Int)]:=rfl
theorem OD (a b:Ty):cT gl 140 [a.dv,b.dv] [] (AK (a.same b)) []:=by
 induction a using Ty.ind generalizing b with
 | h a ih=>
 refine A8 Tryz.func140 ?_;intro X hP u7 hf u9 hn hR u6 u5;have Og:=Ty.fit_len (u5 a.dv sS);have Bc:=Ty.fit_len (u5 b.dv sS);by_cases hk:a.kind=b.kind
 ·by_cases hl:a.args.length=b.args.length
  ·refine A7 (j2 @hk @hl) ?_;refine BK ?_;refine AC [] (j2 @hk @hl) (FD (a.args.length) (fun i=>∀(j:Nat) (x y:Ty),j<i->a.args[j]? = some x->b.args[j]? = some y->x.same y=true) (fun i=>[sV 24 (A0 i),sV 23 (A0 a.args.length),sV 22 (.sl (a.args.map Ty.cells)),sP 3,sL 3 [.v (A0 b.kind),.v (.sl (b.args.map Ty.cells))]]) (by intro j x y h;omega) ?_ ?_)
   ·intro i Ag hI Aa;obtain⟨x,hx⟩:∃x,a.args[i]? = some x:=⟨_,uB Ag⟩;obtain⟨y,hy⟩:∃y,b.args[i]? = some y:=⟨_,uB oO⟩;refine A2 ?_;refine AE ?_;refine A7 (j2 @hx @hy) ?_;refine A3 (j2 @hx @hy) (ih x (uE hx) y) ?_;by_cases hs:x.same y=true
    ·refine CR (wr []) tT @hs (Aa ?_);intro j x' y' hj Cp Dm;by_cases Ng:j=i;· subst Ng;rw[hx]at Cp;rw[hy]at Dm;cases Cp;cases Dm;exact hs
     ·exact hI j x' y' oO Cp Dm
    ·refine A7 @hs ?_;refine IL ?_;simp[go_sem,hP,u7,hn] <;> (try omega);refine Bool.eq_false_iff.2 ?_;intro h;rw[Ty.same_eq,uH,Ty.sames_iff]at h;exact hs (h.2.2 i x y hx hy)
   ·intro hI;refine A2 ?_;refine B6 ?_;refine A4 ?_;refine IL ?_;simp[go_sem,hP,u7,hn] <;> (try omega);rw[Ty.same_eq,uH,Ty.sames_iff];exact⟨by simp[hk],hl,fun i x y hx hy=>hI i x y (uA hx).1 hx hy⟩
  ·refine A7 (j2 @hk @hl) ?_;refine IL ?_;simp[go_sem,hP,u7,hn] <;> (try omega);refine Bool.eq_false_iff.2 ?_;intro h;rw[Ty.same_eq,uH,Ty.sames_iff]at h;exact hl h.2.1
 ·refine A7 @hk ?_;refine IL ?_;simp[go_sem,hP,u7,hn] <;> (try omega);simp[Ty.same_eq,hk]
theorem cG (t:Ty):cT gl 80 [t.dv] [] t.dv []:=by
 induction t using Ty.ind with
 | h t ih=>
 refine A8 Tryz.func80 ?_;intro X hP u7 hf u9 hn hR u6 u5;have hlen:=Ty.fit_len (u5 t.dv sS);refine A4 ?_;refine BK ?_;refine AC [(1003,0)] tT (FE (t.args) (fun done rest=>[sV 12 (A0 done.length),sV 11 (A0 t.args.length),sV 10 (.sl (t.args.map Ty.cells)),(.slot 3,.one (.loc 3 0)),sL 3 [.v (A0 t.kind),.own 1003 (done.map Ty.cells)],(.tok 1003,.tk 2 done.length),sP 2,sL 2 [.v (A0 0),.own 0 []]]) ?_ ?_)
 ·intro done x rest hL hg Aa;have Ag:done.length<t.args.length:=by rw[hL];simp
  have Nl:=Ty.fold x;refine A2 ?_;refine AE ?_;refine AX @hg ?_;refine BK ?_;first|refine AQ [] fun K hK=>?_|refine AL (by rw[hP];exact AZ) [] fun K hK=>?_
  refine KI ?_;refine FF tT (ih x (uE hg)) ?_;refine F1 ?_;clear hK K;refine A2 ?_;refine K0 ?_;refine AC [(1003,21)] tT Aa
 ·refine A2 ?_;refine B6 ?_;refine A4 ?_;exact B9
theorem I3 (t:Ty)(ht:t.ok):cT gl 116 [t.dv] [] (.agg (H3 t)) []:=by
 refine A8 Tryz.func116 ?_;intro X hP u7 hf u9 hn hR u6 u5;have hc:=ht.2;have h0:=(Ty.checkN_iff t).2 ht;have Nl:=Ty.fold t;refine A4 ?_;refine A3 (j2 @Nl @h0) (K9 t oO) ?_;refine A7 @h0 ?_;exact BD (C2 t)
theorem NO (t x:Ty)(i:Nat)(hx:t.args[i]? = some x)(ho:x.ok):cT gl 154 [.agg (H3 t),A0 (i:Int)] [] (.agg (H3 x)) []:=by
 refine A8 Tryz.func154 ?_;intro X hP u7 hf u9 hn hR u6 u5;have Bb:=C2 t;have Nl:=Ty.fold x;refine AX @Bb ?_;refine A3 (j3 @hx @Nl (C2 x)) (I3 x ho) ?_;exact BD (C2 x)
theorem EQ (t:Ty)(k:Int):cT gl 153 [.agg (H3 t),A0 k] [] (AK (decide (t.kind=k))) []:=by
 refine A8 Tryz.func153 ?_;intro X hP u7 hf u9 hn hR u6 u5;have Bb:=C2 t;refine A7 @Bb ?_;exact BR
theorem QJ (a b:Ty):cT gl 155 [.agg (H3 a),.agg (H3 b)] [] (AK (a.same b)) []:=by
 refine A8 Tryz.func155 ?_;intro X hP u7 hf u9 hn hR u6 u5;have ha:=C2 a;have hb:=C2 b;have fa:=Ty.fold a;have fb:=Ty.fold b;by_cases h:a.count=b.count
 ·refine AX (j2 @ha @hb) ?_;refine A3 (j5 @ha @hb @h @fa @fb) (OD a b) ?_;exact BR
 ·have hs:a.same b=false:=by
   refine Bool.eq_false_iff.2 fun e=>h ?_;rw[(Ty.same_iff a b).1 e]
  have hi:¬(a.count:Int)=(b.count:Int):=oO;refine A7 (j3 @ha @hb @hi) ?_;exact BD @hs
theorem cH (k:Int)(a b:Ty)(hc:1+a.count+b.count<=64):cT gl 117 [A0 k,.agg (H3 a),.agg (H3 b)] [] (.tup [.agg (H3 (Ty.mk k [a,b])),A0 0]) []:=by
 refine A8 Tryz.func117 ?_;intro X hP u7 hf u9 hn hR u6 u5;have ha:=C2 a;have hb:=C2 b;have Km:(1:Int)+a.count+b.count<=64:=oO;have hr:H3 (Ty.mk k [a,b])=[A0 k,.sl [a.cells,b.cells],A0 (1+(a.count:Int)+(b.count:Int))]:=by
  rw[C2,P8];simp[Ty.kind,Ty.args];omega
 refine A7 (j3 @ha @hb @Km) ?_;exact BD (j3 @hr (Ty.cells_eq a) (Ty.cells_eq b))
theorem CF (k:Int):cT gl 152 [A0 k] [] (.sl (AP (if k=4 then [1] else if k=5 then [1,1] else if k=7 then [2] else if k=8 then [2,1,2] else if k=13 then [5] else []))) []:=by
 refine A8 Tryz.func152 ?_;intro X hP u7 hf u9 hn hR u6 u5;by_cases Cb:k=4
 ·refine A7 @Cb ?_;refine IL ?_;simp[go_sem,hP,u7,hn,AP,Cb] <;> (try omega)
 by_cases Bg:k=5
 ·refine A7 @Bg ?_;refine IL ?_;simp[go_sem,hP,u7,hn,AP,Bg] <;> (try omega)
 by_cases By:k=7
 ·refine A7 @By ?_;refine IL ?_;simp[go_sem,hP,u7,hn,AP,By] <;> (try omega)
 by_cases Fa:k=8
 ·refine A7 @Fa ?_;refine IL ?_;simp[go_sem,hP,u7,hn,AP,Fa] <;> (try omega)
 by_cases Oi:k=13
 ·refine A7 @Oi ?_;refine IL ?_;simp[go_sem,hP,u7,hn,AP,Oi] <;> (try omega)
 refine A7 (j5 @Cb @Bg @By @Fa @Oi) ?_;refine IL ?_;simp[go_sem,hP,u7,hn,AP,Cb,Bg,By,Fa,Oi] <;> (try omega)
theorem nS:cT gl 178 [] [] (Ty.mk 1 []).dv []:=by
 refine A8 Tryz.func178 ?_;intro X hP u7 hf u9 hn hR u6 u5;refine A4 ?_;exact B9
theorem z47:cT gl 179 [] [] (Ty.mk 2 []).dv []:=by
 refine A8 Tryz.func179 ?_;intro X hP u7 hf u9 hn hR u6 u5;refine A4 ?_;exact B9
def W4 (r:Ty)(l:List Ty):Ty:=l.foldr (fun a r=>Ty.mk 4 [a,r]) r
theorem nU (r:Ty)(l:List Ty):cT gl 177 [r.dv,.sl (l.map Ty.cells)] [] (W4 r l).dv []:=by
 refine A8 Tryz.func177 ?_;intro X hP u7 hf u9 hn hR u6 u5;have Hc:=K7 (u5 (.sl (l.map Ty.cells)) sS);simp at Hc;have h0:l.drop l.length=[]:=List.drop_length;refine A4 ?_;refine BK ?_;refine GH [] (by simp[go_sem]) (by simp[go_sem,h0,W4,List.foldr_nil] <;> omega) (by simp[go_sem]) (CH (fun k:Nat=>k<=l.length) (fun k:Nat=>[sV 1 (.sl (l.map Ty.cells)),sP 2,sL 2 [.v (A0 (W4 r (l.drop k)).kind),.v (.sl ((W4 r (l.drop k)).args.map Ty.cells))],sP 4,sL 4 [.v (A0 0),.own 0 []],sV 5 (A0 ((k:Int) - 1))]) (fun k:Nat=>k) l.length (Nat.le_refl _) ?_);intro k hk ih;cases k with
 | zero=>
  refine A2 ?_;refine B6 ?_;refine A4 ?_;exact BD @Ty.cells_eq
 | succ k=>
  have Ag:k<l.length:=oO;obtain⟨a,ha⟩:∃a,l[k]? = some a:=⟨_,uB Ag⟩;have hd:l.drop k=a::l.drop (k+1):=by
   rw[List.drop_eq_getElem_cons Ag];rw[uB Ag,uC]at ha;rw[ha]
  have Nw:W4 r (l.drop k)=Ty.mk 4 [a,W4 r (l.drop (k+1))]:=by rw[hd];rfl
  have Dx:((k+1:Nat):Int) - 1=(k:Int):=oO;have hle:(k:Int)<=2147483648:=oO;have Ci:=Ty.cells_eq (W4 r (l.drop (k+1)));have Ux:=ih k oO oO;rw[Nw]at Ux;simp only[Ty.kind,Ty.args]at Ux;rw[Dx];refine A2 ?_;refine AE ?_;refine AX @ha ?_;refine A2 ?_;refine K0 ?_;refine AC [] (Ty.cells_eq (W4 r (l.drop (k+1)))) Ux
def szZ:List DV:=[A0 0,.sl [],A0 0]
def szO:Option Ty->List DV
 | some t=>H3 t
 | none=>szZ
def XC (l:List Ty):List DV:=szO l[0]?++(szO l[1]?++szO l[2]?)
theorem nV:XC []=[A0 0,.sl [],A0 0,A0 0,.sl [],A0 0,A0 0,.sl [],A0 0]:=rfl
theorem cI (a:Ty):XC [a]=[A0 a.kind,.sl (a.args.map Ty.cells),A0 (a.count:Int),A0 0,.sl [],A0 0,A0 0,.sl [],A0 0]:=rfl
theorem TZ (a b:Ty):XC [a,b]=[A0 a.kind,.sl (a.args.map Ty.cells),A0 (a.count:Int),A0 b.kind,.sl (b.args.map Ty.cells),A0 (b.count:Int),A0 0,.sl [],A0 0]:=rfl
theorem yU (a b c:Ty):XC [a,b,c]=[A0 a.kind,.sl (a.args.map Ty.cells),A0 (a.count:Int),A0 b.kind,.sl (b.args.map Ty.cells),A0 (b.count:Int),A0 c.kind,.sl (c.args.map Ty.cells),A0 (c.count:Int)]:=rfl
theorem cJ (t:Tm):cT gl 156 [t.dv] [] (W4 t.type (if t.kind=9 then [Ty.mk 1 [],Ty.mk 2 [],t.type] else [Ty.mk 1 [],t.type])).dv []:=by
 refine A8 Tryz.func156 ?_;intro X hP u7 hf u9 hn hR u6 u5;have Nl:=Ty.fold t.type;have hc:=Ty.cells_eq t.type;by_cases h:t.kind=9
 ·have w:=nU (gl:=gl) t.type [Ty.mk 1 [],Ty.mk 2 [],t.type];refine A7 @h ?_;refine OL (j5 @h @Nl @hc @MF @OQ) nS z47 w ?_;exact AT @h
 ·have w:=nU (gl:=gl) t.type [Ty.mk 1 [],t.type];refine A7 @h ?_;refine EW (j4 @h @Nl @hc @MF) nS w ?_;exact AT @h
theorem nW (k:Int):(Ty.mk k []).dv = .agg [A0 k,.sl []]:=rfl
theorem U0 (k:Int):H3 (Ty.mk k [])=[A0 k,.sl [],A0 1]:=rfl
theorem zh9 (t:Tm)(h:t.kind=4):cT gl 118 [t.dv,.agg (XC [])] [] (.tup [.agg (H3 (Ty.mk 1 [])),A0 0]) []:=by
 rw[nV];have wp:=CF (gl:=gl) 4;rw[if_pos rfl]at wp;have wo:=I3 (gl:=gl) (Ty.mk 1 []) iS;rw[nW,U0]at wo;rw[U0];refine A8 Tryz.func118 ?_;intro X hP u7 hf u9 hn hR u6 u5;have hi:AP [1]=[[A0 1]]:=rfl;rw[hi]at wp;refine A7 @h ?_;refine A3 @h wp ?_;refine A4 ?_;refine B4 ?_;refine A4 ?_;refine A3 tT wo ?_;exact BR
theorem zha (t:Tm)(h:t.kind=7):cT gl 118 [t.dv,.agg (XC [])] [] (.tup [.agg (H3 (Ty.mk 2 [])),A0 0]) []:=by
 rw[nV];have wp:=CF (gl:=gl) 7;rw[if_neg dD,if_neg dD,if_pos rfl]at wp;have wo:=I3 (gl:=gl) (Ty.mk 2 []) Z9;rw[nW,U0]at wo;rw[U0];refine A8 Tryz.func118 ?_;intro X hP u7 hf u9 hn hR u6 u5;have hi:AP [2]=[[A0 2]]:=rfl;rw[hi]at wp;refine A7 @h ?_;refine A3 @h wp ?_;refine A4 ?_;refine B4 ?_;refine A4 ?_;refine A3 tT wo ?_;exact BR
theorem zb1 (t:Tm)(h:t.kind=13):cT gl 118 [t.dv,.agg (XC [])] [] (.tup [.agg (H3 (Ty.mk 5 [])),A0 0]) []:=by
 rw[nV];have wp:=CF (gl:=gl) 13;rw[if_neg dD,if_neg dD,if_neg dD,if_neg dD,if_pos rfl]at wp;have wo:=I3 (gl:=gl) (Ty.mk 5 []) yA;rw[nW,U0]at wo;rw[U0];refine A8 Tryz.func118 ?_;intro X hP u7 hf u9 hn hR u6 u5;have hi:AP [5]=[[A0 5]]:=rfl;rw[hi]at wp;refine A7 @h ?_;refine A3 @h wp ?_;refine A4 ?_;refine B4 ?_;refine A4 ?_;refine A3 tT wo ?_;exact BR
theorem zhb (t:Tm)(h:t.kind=5):cT gl 118 [t.dv,.agg (XC [Ty.mk 1 []])] [] (.tup [.agg (H3 (Ty.mk 1 [])),A0 0]) []:=by
 rw[cI];have wp:=CF (gl:=gl) 5;rw[if_neg dD,if_pos rfl]at wp;have wo:=I3 (gl:=gl) (Ty.mk 1 []) iS;have wi:=EQ (gl:=gl) (Ty.mk 1 []) 1;rw[nW,U0]at wo;rw[U0]at wi ⊢;have hi:AP [1,1]=[[A0 1],[A0 1]]:=rfl;have hd:decide ((Ty.mk 1 []).kind=1)=true:=rfl;have hk:(Ty.mk 1 []).kind=1:=rfl;have ha:(Ty.mk 1 []).args=[]:=rfl;have hc:(Ty.mk 1 []).count=1:=rfl;rw[hi]at wp;rw[hd]at wi;rw[hk,ha,hc];refine A8 Tryz.func118 ?_;intro X hP u7 hf u9 hn hR u6 u5;refine A7 @h ?_;refine A3 @h wp ?_;refine A4 ?_;refine B4 ?_;refine A4 ?_;refine A3 tT wi ?_;refine A4 ?_;refine AB ?_;refine A4 ?_;refine A3 tT wo ?_;exact BR
theorem zhc (t:Tm)(h:t.kind=8):cT gl 118 [t.dv,.agg (XC [Ty.mk 1 [],Ty.mk 2 []])] [] (.tup [.agg (H3 (Ty.mk 2 [])),A0 0]) []:=by
 rw[TZ];have wp:=CF (gl:=gl) 8;rw[if_neg dD,if_neg dD,if_neg dD,if_pos rfl]at wp;have wo:=I3 (gl:=gl) (Ty.mk 2 []) Z9;have wi:=EQ (gl:=gl) (Ty.mk 1 []) 1;have wj:=EQ (gl:=gl) (Ty.mk 2 []) 2;rw[nW,U0]at wo;rw[U0]at wi wj ⊢;have hi:AP [2,1,2]=[[A0 2],[A0 1],[A0 2]]:=rfl;have hd:decide ((Ty.mk 1 []).kind=1)=true:=rfl;have hk:(Ty.mk 1 []).kind=1:=rfl;have ha:(Ty.mk 1 []).args=[]:=rfl;have hc:(Ty.mk 1 []).count=1:=rfl;have In:decide ((Ty.mk 2 []).kind=2)=true:=rfl;have Ay:(Ty.mk 2 []).kind=2:=rfl;have ha2:(Ty.mk 2 []).args=[]:=rfl;have Jn:(Ty.mk 2 []).count=1:=rfl;rw[hi]at wp;rw[hd]at wi;rw[In]at wj;rw[hk,ha,hc,Ay,ha2,Jn];refine A8 Tryz.func118 ?_;intro X hP u7 hf u9 hn hR u6 u5;refine A7 @h ?_;refine A3 @h wp ?_;refine A4 ?_;refine B4 ?_;refine A4 ?_;refine A3 tT wi ?_;refine A4 ?_;refine AB ?_;refine A4 ?_;refine A3 tT wj ?_;refine A4 ?_;refine AB ?_;refine A4 ?_;refine A3 tT wo ?_;exact BR
theorem zhd (t:Tm)(h:t.kind=3)(x y a r:Ty)(hk:x.kind=4)(hx:x.args=[a,r])(ha:a.ok)(hr:r.ok)(hs:a.same y=true) :
  cT gl 118 [t.dv,.agg (XC [x,y])] [] (.tup [.agg (H3 r),A0 0]) []:=by
 rw[TZ];have wp:=CF (gl:=gl) 3;rw[if_neg dD,if_neg dD,if_neg dD,if_neg dD,if_neg dD]at wp;have wi:=EQ (gl:=gl) x 4;have w0:=NO (gl:=gl) x a 0 (by rw[hx];rfl) ha;have w1:=NO (gl:=gl) x r 1 (by rw[hx];rfl) hr;have ws:=QJ (gl:=gl) a y;have hi:AP []=[]:=rfl;have hd:decide (x.kind=4)=true:=decide_eq_true hk;rw[hi]at wp;rw[hd]at wi;rw[hs]at ws;simp only[C2]at wi w0 w1 ws ⊢;refine A8 Tryz.func118 ?_;intro X hP u7 hf u9 hn hR u6 u5;refine A7 @h ?_;refine A3 @h wp ?_;refine A7 @h ?_;refine OL tT wi w0 ws ?_;refine A4 ?_;refine A3 tT w1 ?_;exact BR
theorem nX (t:Tm)(h:t.kind=6\/t.kind=9)(ht:t.type.ok)(x y z:Ty)(hx:x.same t.type=true)(hy:y.same (W4 t.type (if t.kind=9 then [Ty.mk 1 [],Ty.mk 2 [],t.type] else [Ty.mk 1 [],t.type]))=true)(hz:z.kind=if t.kind=9 then 2 else 1) :
  cT gl 118 [t.dv,.agg (XC [x,y,z])] [] (.tup [.agg (H3 t.type),A0 0]) []:=by
 rw[yU];have wo:=I3 (gl:=gl) t.type ht;have ws:=QJ (gl:=gl) x t.type;have wt:=cJ (gl:=gl) t;have wy:=OD (gl:=gl) y (W4 t.type (if t.kind=9 then [Ty.mk 1 [],Ty.mk 2 [],t.type] else [Ty.mk 1 [],t.type]));have Mw:=Ty.fold t.type;have fy:=Ty.fold y;have Bk:=Tm.fold t;rw[hx]at ws;rw[hy]at wy;generalize W4 t.type (if t.kind=9 then [Ty.mk 1 [],Ty.mk 2 [],t.type] else [Ty.mk 1 [],t.type])=st at *;have fst:=Ty.fold st;have cst:=Ty.cells_eq st;simp only[C2]at wo ws ⊢;rcases h with h|h
 ·have wp:=CF (gl:=gl) 6;rw[if_neg dD,if_neg dD,if_neg dD,if_neg dD,if_neg dD]at wp;have hi:AP []=[]:=rfl;rw[hi]at wp;rw[if_neg oO]at hz;have wi:=EQ (gl:=gl) z 1;rw[decide_eq_true hz]at wi;simp only[C2]at wi;rw[h]at Bk;refine A8 Tryz.func118 ?_;intro X hP u7 hf u9 hn hR u6 u5;refine A7 @h ?_;refine A3 @h wp ?_;refine A7 @h ?_;refine A3 (j2 @h @Mw) wo ?_;refine A7 @h ?_;refine TI (j4 @h @fy @Bk @fst) ws wt wy wi ?_;refine A4 ?_;exact BR
 ·have wp:=CF (gl:=gl) 9;rw[if_neg dD,if_neg dD,if_neg dD,if_neg dD,if_neg dD]at wp;have hi:AP []=[]:=rfl;rw[hi]at wp;rw[if_pos h]at hz;have wi:=EQ (gl:=gl) z 2;rw[decide_eq_true hz]at wi;simp only[C2]at wi;rw[h]at Bk;refine A8 Tryz.func118 ?_;intro X hP u7 hf u9 hn hR u6 u5;refine A7 @h ?_;refine A3 @h wp ?_;refine A7 @h ?_;refine A3 (j2 @h @Mw) wo ?_;refine A7 @h ?_;refine TI (j4 @h @fy @Bk @fst) ws wt wy wi ?_;refine A4 ?_;exact BR
theorem zb2 (t:Tm)(h:t.kind=10)(x y:Ty)(hc:1+x.count+y.count<=64) :
  cT gl 118 [t.dv,.agg (XC [x,y])] [] (.tup [.agg (H3 (Ty.mk 3 [x,y])),A0 0]) []:=by
 rw[TZ];have wp:=CF (gl:=gl) 10;rw[if_neg dD,if_neg dD,if_neg dD,if_neg dD,if_neg dD]at wp;have hi:AP []=[]:=rfl;rw[hi]at wp;have wj:=cH (gl:=gl) 3 x y hc;generalize Ty.mk 3 [x,y]=r at *;simp only[C2]at wj ⊢;refine A8 Tryz.func118 ?_;intro X hP u7 hf u9 hn hR u6 u5;refine A7 @h ?_;refine A3 @h wp ?_;refine A7 @h ?_;refine A3 tT wj ?_;exact BR
theorem zb3 (t:Tm)(h:t.kind=11)(x a b:Ty)(hk:x.kind=3)(hx:x.args=[a,b])(ha:a.ok) :
  cT gl 118 [t.dv,.agg (XC [x])] [] (.tup [.agg (H3 a),A0 0]) []:=by
 rw[cI];have wp:=CF (gl:=gl) 11;rw[if_neg dD,if_neg dD,if_neg dD,if_neg dD,if_neg dD]at wp;have hi:AP []=[]:=rfl;rw[hi]at wp;have wi:=EQ (gl:=gl) x 3;have w0:=NO (gl:=gl) x a 0 (by rw[hx];rfl) ha;rw[decide_eq_true hk]at wi;simp only[C2]at wi w0 ⊢;refine A8 Tryz.func118 ?_;intro X hP u7 hf u9 hn hR u6 u5;refine A7 @h ?_;refine A3 @h wp ?_;refine A7 @h ?_;refine A3 tT wi ?_;refine A7 @h ?_;refine A3 tT w0 ?_;exact BR
theorem zb4 (t:Tm)(h:t.kind=12)(x a b:Ty)(hk:x.kind=3)(hx:x.args=[a,b])(hb:b.ok) :
  cT gl 118 [t.dv,.agg (XC [x])] [] (.tup [.agg (H3 b),A0 0]) []:=by
 rw[cI];have wp:=CF (gl:=gl) 12;rw[if_neg dD,if_neg dD,if_neg dD,if_neg dD,if_neg dD]at wp;have hi:AP []=[]:=rfl;rw[hi]at wp;have wi:=EQ (gl:=gl) x 3;have w0:=NO (gl:=gl) x b 1 (by rw[hx];rfl) hb;rw[decide_eq_true hk]at wi;simp only[C2]at wi w0 ⊢;refine A8 Tryz.func118 ?_;intro X hP u7 hf u9 hn hR u6 u5;refine A7 @h ?_;refine A3 @h wp ?_;refine A7 @h ?_;refine A3 tT wi ?_;refine A7 @h ?_;refine A3 tT w0 ?_;exact BR
theorem yV (t:Ty):(H3 t).length=3:=rfl
theorem zb5 {t:Tm}(ht:t.shape=true)(Dx:¬t.kind=1)(Ay:¬t.kind=2){ds:List Ty}(hl:ds.length=t.args.length)(hd:∀d∈ds,d.ok){r:Ty}(hr:CD t.kind t.type ds=(r,0)) :
  cT gl 118 [t.dv,.agg (XC ds)] [] (.tup [.agg (H3 r),A0 0]) []:=by
 obtain⟨ha,hi,hv,Be,hs⟩:=Tm.shape_node ht;rw[<- hl]at ha;unfold CD at hr;rw[if_neg Ay]at hr;by_cases h3:t.kind=3
 ·rw[if_pos h3]at hr;rw[h3]at ha
  match ds,ha with
  | [x,y],_=>
   split at hr
   ·rename_i hx;obtain⟨Ri,hx2⟩:=hx;have Ri:x.kind=4:=Ri;obtain⟨p,q,hp,op,oq,e0,e1⟩:=Ty.ok_args (hd x sS) (.inr Ri);have hx2:(x.arg 0).same y=true:=hx2;rw[e0]at hx2;have e2:([x,y].getD 0 A9).arg 1=q:=e1;rw[e2]at hr;cases hr;exact zhd t h3 x y p _ Ri hp op oq hx2
   ·cases hr
 rw[if_neg h3]at hr;by_cases h4:t.kind=4
 ·rw[if_pos h4]at hr;rw[h4]at ha
  match ds,ha with
  | [],_=>cases hr;exact zh9 t h4
 rw[if_neg h4]at hr;by_cases h5:t.kind=5
 ·rw[if_pos h5]at hr;rw[h5]at ha
  match ds,ha with
  | [x],_=>
   split at hr
   ·rename_i hx;have hx:x.same (Ty.mk 1 [])=true:=hx;obtain rfl:=(Ty.same_iff _ _).1 hx;cases hr;exact zhb t h5
   ·cases hr
 rw[if_neg h5]at hr;by_cases h6:t.kind=6
 ·rw[if_pos h6]at hr;rw[h6]at ha;rw[if_pos (.inr (.inl h6))]at Be
  match ds,ha with
  | [x,y,z],_=>
   split at hr
   ·rename_i hx;obtain⟨hx,hy,hz⟩:=hx;have hz:z.same (Ty.mk 1 [])=true:=hz;obtain rfl:=(Ty.same_iff _ _).1 hz;cases hr;refine nX t (.inl h6) Be x y _ hx ?_ ?_;· rw[if_neg oO];exact hy
    ·rw[if_neg oO];rfl
   ·cases hr
 rw[if_neg h6]at hr;by_cases h7:t.kind=7
 ·rw[if_pos h7]at hr;rw[h7]at ha
  match ds,ha with
  | [],_=>cases hr;exact zha t h7
 rw[if_neg h7]at hr;by_cases h8:t.kind=8
 ·rw[if_pos h8]at hr;rw[h8]at ha
  match ds,ha with
  | [x,y],_=>
   split at hr
   ·rename_i hx;obtain⟨hx,hy⟩:=hx;have hx:x.same (Ty.mk 1 [])=true:=hx;have hy:y.same (Ty.mk 2 [])=true:=hy;obtain rfl:=(Ty.same_iff _ _).1 hx;obtain rfl:=(Ty.same_iff _ _).1 hy;cases hr;exact zhc t h8
   ·cases hr
 rw[if_neg h8]at hr;by_cases h9:t.kind=9
 ·rw[if_pos h9]at hr;rw[h9]at ha;rw[if_pos (.inr (.inr h9))]at Be
  match ds,ha with
  | [x,y,z],_=>
   split at hr
   ·rename_i hx;obtain⟨hx,hy,hz⟩:=hx;have hz:z.same (Ty.mk 2 [])=true:=hz;obtain rfl:=(Ty.same_iff _ _).1 hz;cases hr;refine nX t (.inr h9) Be x y _ hx ?_ ?_;· rw[if_pos h9];exact hy
    ·rw[if_pos h9];rfl
   ·cases hr
 rw[if_neg h9]at hr;by_cases Cc:t.kind=10
 ·rw[if_pos Cc]at hr;rw[Cc]at ha
  match ds,ha with
  | [x,y],_=>
   have hr:X2 (Ty.mk 3 [x,y])=(r,0):=hr;obtain⟨o1,o2⟩:=X3 (Ty.mk 3 [x,y]) (by rw[hr]);rw[o2]at hr;rw[o2]at o1;cases hr;have:=o1.2;rw[P8]at this;exact zb2 t Cc x y oO
 rw[if_neg Cc]at hr;by_cases Ck:t.kind=11
 ·rw[if_pos Ck]at hr;rw[Ck]at ha
  match ds,ha with
  | [x],_=>
   split at hr
   ·rename_i hx;have hx:x.kind=3:=hx;obtain⟨p,q,hp,op,oq,e0,e1⟩:=Ty.ok_args (hd x sS) (.inl hx);have e2:([x].getD 0 A9).arg 0=p:=e0;rw[e2]at hr;cases hr;exact zb3 t Ck x _ q hx hp op
   ·cases hr
 rw[if_neg Ck]at hr;by_cases Cf:t.kind=12
 ·rw[if_pos Cf]at hr;rw[Cf]at ha
  match ds,ha with
  | [x],_=>
   split at hr
   ·rename_i hx;have hx:x.kind=3:=hx;obtain⟨p,q,hp,op,oq,e0,e1⟩:=Ty.ok_args (hd x sS) (.inl hx);have e2:([x].getD 0 A9).arg 1=q:=e1;rw[e2]at hr;cases hr;exact zb4 t Cf x p _ hx hp oq
   ·cases hr
 rw[if_neg Cf]at hr;have hkn:GI t.kind=true:=by rw[VI];simp;omega
 have Jv:t.kind=13:=by
  simp[GI]at hkn;omega
 rw[Jv]at ha
 match ds,ha with
 | [],_=>cases hr;exact zb1 t Jv
theorem OE (t:Tm)(g:List Ty)(Xq:g.length+t.count<=2147483648)(ht:t.shape=true)(hg:∀x∈g,x.ok)(h:(t.inferN g).2=0) :
  cT gl 79 [.sl (g.map H3),t.dv] [] (.tup [.agg (H3 (t.inferN g).1),A0 0]) []:=by
 induction t using Tm.ind generalizing g with
 | h t ih=>
 obtain⟨ha,hi,hv,Be,hs⟩:=Tm.shape_node ht;refine A8 Tryz.func79 ?_;intro X hP u7 hf u9 hn hR u6 u5;have Jx:=K7 (u5 (.sl (g.map H3)) sS);simp at Jx;rw[Tm.inferN_eq t]at h hR;by_cases h1:t.kind=1
 ·rw[if_pos h1]at h hR;by_cases h2:(g.length:Int)<=t.index;· rw[if_pos h2]at h;cases h
  rw[if_neg h2]at hR;have Ag:g.length - 1 - t.index.toNat<g.length:=oO;have hx:=uB Ag;rw[List.getD_eq_getElem?_getD]at hR;generalize Un:g[g.length - 1 - t.index.toNat]=x at hx;have Cp:g[(g.length - 1 - t.index:Int).toNat]? = some x:=by rw[<- hx];congr 1;omega
  rw[hx,Option.getD_some]at hR;refine A7 (j4 @h1 @h2 @Cp (C2 x)) ?_;exact BD (C2 x)
 rw[if_neg h1]at h hR;by_cases Ay:t.kind=2
 ·rw[if_pos Ay]at h hR;rw[Ay]at ha
  obtain⟨b,hb⟩:∃b,t.args=[b]:=by
   match hh:t.args,ha with
   | [b],_=>exact⟨b,rfl⟩
  have Od:b∈t.args:=by rw[hb];simp
  rw[if_pos (.inl Ay)]at Be;have Hd:∀x∈g++[t.type],x.ok:=by
   intro x hx;rcases List.mem_append.1 hx with hx|hx;· exact hg x hx
   ·rw[List.mem_singleton.1 hx];exact Be
  have Yp:t.count=1+(b.count+0):=by rw[Tm.count_eq,hb];rfl
  have Yc:=Tm.count_pos b;have Ks:g.length<=2147483647:=oO;rw[hb]at h hR;simp only[Tm.inferN.infers]at h hR;have Da:(b.inferN (g++[t.type])).2=0:=by
   by_cases e:(b.inferN (g++[t.type])).2=0;· exact e
   ·rw[if_neg e]at h;simp only at h;rw[if_neg e]at h;exact absurd h e
  rw[if_pos Da]at h hR;simp only[if_true]at h hR;have hbo:=Tm.inferN_ok b (g++[t.type]) (hs b Od) Hd Da;have w1:=ih b Od (g++[t.type]) (by simp;omega) (hs b Od) Hd Da;generalize (b.inferN (g++[t.type])).1=rb at *;have Pq:CD t.kind t.type [rb]=X2 (Ty.mk 4 [t.type,rb]):=by rw[Ay];rfl
  rw[Pq]at h hR;obtain⟨o1,o2⟩:=X3 (Ty.mk 4 [t.type,rb]) h;rw[o2]at o1 hR;have Cw:=o1.2;rw[P8]at Cw;have wo:=I3 (gl:=gl) t.type Be;have wj:=cH (gl:=gl) 4 t.type rb oO;have Mw:=Ty.fold t.type;have fb:=Tm.fold b;have Rs:List.map H3 (g++[t.type])=List.map H3 g++[H3 t.type]:=sS;have Qz:(List.map H3 g).length=g.length:=sS;generalize Ty.mk 4 [t.type,rb]=r4 at *;rw[Rs]at w1;simp only[C2 t.type,C2 rb,C2 r4]at w1 wo wj hR;have Iq:∀e:List DV,e∈List.map H3 g->e.length=3:=by intro e he;simp only[List.mem_map]at he;obtain⟨x,-,rfl⟩:=he;rfl
  generalize List.map H3 g=G at *;have Kg:List.take g.length G=G:=by rw[List.take_of_length_le];omega
  refine A7 @Ay ?_;refine A3 (j2 @Ay @Mw) wo ?_;refine A3 (j6 @Ay @hb @Kg @Qz @Iq @Ks) w1 ?_;refine A4 ?_;refine A3 tT wj ?_;exact BR
 rw[if_neg Ay]at h hR;have hlen:=Tm.fit_len (u5 t.dv sS);have hI:(Tm.inferN.infers t.args g).2=0:=by
  by_cases e:(Tm.inferN.infers t.args g).2=0;· exact e
  ·rw[if_neg e]at h;exact absurd h e
 rw[if_pos hI]at h hR;obtain⟨Fc,Ah⟩:=Tm.infers_all t.args g hI;have Kz:∀a∈(Tm.inferN.infers t.args g).1,a.ok:=by
  intro a ha;obtain⟨i,hi,rfl⟩:=List.mem_iff_getElem.1 ha;obtain⟨x1,x2⟩:=Ah i t.args[i] (uB oO);rw[uB hi]at x2;rw[Option.some.inj x2];exact Tm.inferN_ok _ g (hs _ (List.getElem_mem _)) hg x1
 have wn:=zb5 (gl:=gl) (t:=t) ht h1 Ay Fc Kz (r:=(CD t.kind t.type (Tm.inferN.infers t.args g).1).1) (by rw[<- h]);generalize (CD t.kind t.type (Tm.inferN.infers t.args g).1).1=r at *;generalize (Tm.inferN.infers t.args g).1=ds at *;have h3:t.args.length<=3:=by
  have:B5 t.kind<=3:=by unfold B5;(repeat' split) <;> omega
  omega
 have Bk:=Tm.fold t;simp only[C2 r]at wn hR;have step:∀(i:Nat) (x:Tm),t.args[i]? = some x->∃d,ds[i]? = some d/\cT gl 79 [.sl (g.map H3),x.dv] [] (.tup [.agg (H3 d),A0 0]) []:=by
  intro i x hx;obtain⟨x1,x2⟩:=Ah i x hx;have hm:=uE hx;have An:=Tm.count_mem hm;have Dg:=Tm.count_eq t;exact⟨_,x2,ih x hm g oO (hs x hm) hg x1⟩
 clear ih;have hgm:List.map H3 g=List.map H3 g:=rfl;generalize List.map H3 g=G at *;have done0:∀(p:List Ty),t.args.length=p.length->ds=p->XC ds=XC p:=by intro p _ e;rw[e]
 match u8:t.args,h3 with
 | [],_=>
  rw[u8]at Fc;obtain rfl:ds=[]:=List.length_eq_zero_iff.1 Fc;rw[nV]at wn;rw[u8]at Bk;simp only[List.map_nil]at Bk;refine A7 (j3 @h1 @Ay @u8) ?_;refine B4 ?_;refine A7 @u8 ?_;refine A3 (j2 @u8 @Bk) wn ?_;exact BR
 | [x],_=>
  obtain⟨d,hd,w⟩:=step 0 x (by rw[u8];rfl);rw[u8]at Fc
  obtain rfl:ds=[d]:=by
   match ds,Fc,hd with
   | [_],_,hd=>simp at hd;rw[hd]
  rw[cI]at wn;simp only[C2]at w;rw[u8]at Bk;simp only[List.map_cons,List.map_nil]at Bk;rw[Tm.cells_eq x]at Bk;refine A7 (j3 @h1 @Ay @u8) ?_;refine B4 ?_;refine A7 @u8 ?_;refine A3 tT w ?_;refine A4 ?_;refine AC (s':=[sV 0 (.sl G),sV 67 (A0 1),sV 66 (A0 1),sV 65 (.sl [x.cells]),sP 3,sL 3 [.v (A0 t.kind),.v (A0 t.index),.v (A0 t.type.kind),.v (.sl (t.type.args.map Ty.cells)),.v (.sl [x.cells])],sP 4,sL 4 [.v (A0 0),.own 0 [],.v (A0 0)],sP 9,sL 9 [.v (A0 d.kind),.v (.sl (d.args.map Ty.cells)),.v (A0 (d.count:Int)),.v (A0 0),.own 0 [],.v (A0 0),.v (A0 0),.own 0 [],.v (A0 0)]]) [] @u8 ?_;refine AB ?_;refine A4 ?_;refine A3 @Bk wn ?_;exact BR
 | [x,y],_=>
  obtain⟨d,hd,w⟩:=step 0 x (by rw[u8];rfl);obtain⟨e,he,v⟩:=step 1 y (by rw[u8];rfl);rw[u8]at Fc
  obtain rfl:ds=[d,e]:=by
   match ds,Fc,hd,he with
   | [_,_],_,hd,he=>simp at hd he;rw[hd,he]
  rw[TZ]at wn;simp only[C2]at w v;rw[u8]at Bk;simp only[List.map_cons,List.map_nil]at Bk;rw[Tm.cells_eq x,Tm.cells_eq y]at Bk;refine A7 (j3 @h1 @Ay @u8) ?_;refine B4 ?_;refine A7 @u8 ?_;refine A3 tT w ?_;refine A4 ?_;refine AC (s':=[sV 0 (.sl G),sV 67 (A0 1),sV 66 (A0 2),sV 65 (.sl [x.cells,y.cells]),sP 3,sL 3 [.v (A0 t.kind),.v (A0 t.index),.v (A0 t.type.kind),.v (.sl (t.type.args.map Ty.cells)),.v (.sl [x.cells,y.cells])],sP 4,sL 4 [.v (A0 0),.own 0 [],.v (A0 0)],sP 9,sL 9 [.v (A0 d.kind),.v (.sl (d.args.map Ty.cells)),.v (A0 (d.count:Int)),.v (A0 0),.own 0 [],.v (A0 0),.v (A0 0),.own 0 [],.v (A0 0)]]) [] @u8 ?_;refine AB ?_;refine A7 @u8 ?_;refine A3 tT v ?_;refine A4 ?_;refine AC (s':=[sV 0 (.sl G),sV 67 (A0 2),sV 66 (A0 2),sV 65 (.sl [x.cells,y.cells]),sP 3,sL 3 [.v (A0 t.kind),.v (A0 t.index),.v (A0 t.type.kind),.v (.sl (t.type.args.map Ty.cells)),.v (.sl [x.cells,y.cells])],sP 4,sL 4 [.v (A0 0),.own 0 [],.v (A0 0)],sP 9,sL 9 [.v (A0 d.kind),.v (.sl (d.args.map Ty.cells)),.v (A0 (d.count:Int)),.v (A0 e.kind),.v (.sl (e.args.map Ty.cells)),.v (A0 (e.count:Int)),.v (A0 0),.own 0 [],.v (A0 0)]]) [] @u8 ?_;refine AB ?_;refine A4 ?_;refine A3 @Bk wn ?_;exact BR
 | [x,y,z],_=>
  obtain⟨d,hd,w⟩:=step 0 x (by rw[u8];rfl);obtain⟨e,he,v⟩:=step 1 y (by rw[u8];rfl);obtain⟨k,Fv,u⟩:=step 2 z (by rw[u8];rfl);rw[u8]at Fc
  obtain rfl:ds=[d,e,k]:=by
   match ds,Fc,hd,he,Fv with
   | [_,_,_],_,hd,he,Fv=>simp at hd he Fv;rw[hd,he,Fv]
  rw[yU]at wn;simp only[C2]at w v u;rw[u8]at Bk;simp only[List.map_cons,List.map_nil]at Bk;rw[Tm.cells_eq x,Tm.cells_eq y,Tm.cells_eq z]at Bk;refine A7 (j3 @h1 @Ay @u8) ?_;refine B4 ?_;refine A7 @u8 ?_;refine A3 tT w ?_;refine A4 ?_;refine AC (s':=[sV 0 (.sl G),sV 67 (A0 1),sV 66 (A0 3),sV 65 (.sl [x.cells,y.cells,z.cells]),sP 3,sL 3 [.v (A0 t.kind),.v (A0 t.index),.v (A0 t.type.kind),.v (.sl (t.type.args.map Ty.cells)),.v (.sl [x.cells,y.cells,z.cells])],sP 4,sL 4 [.v (A0 0),.own 0 [],.v (A0 0)],sP 9,sL 9 [.v (A0 d.kind),.v (.sl (d.args.map Ty.cells)),.v (A0 (d.count:Int)),.v (A0 0),.own 0 [],.v (A0 0),.v (A0 0),.own 0 [],.v (A0 0)]]) [] @u8 ?_;refine AB ?_;refine A7 @u8 ?_;refine A3 tT v ?_;refine A4 ?_;refine AC (s':=[sV 0 (.sl G),sV 67 (A0 2),sV 66 (A0 3),sV 65 (.sl [x.cells,y.cells,z.cells]),sP 3,sL 3 [.v (A0 t.kind),.v (A0 t.index),.v (A0 t.type.kind),.v (.sl (t.type.args.map Ty.cells)),.v (.sl [x.cells,y.cells,z.cells])],sP 4,sL 4 [.v (A0 0),.own 0 [],.v (A0 0)],sP 9,sL 9 [.v (A0 d.kind),.v (.sl (d.args.map Ty.cells)),.v (A0 (d.count:Int)),.v (A0 e.kind),.v (.sl (e.args.map Ty.cells)),.v (A0 (e.count:Int)),.v (A0 0),.own 0 [],.v (A0 0)]]) [] @u8 ?_;refine AB ?_;refine A7 @u8 ?_;refine A3 tT u ?_;refine A4 ?_
  refine AC (s':=[sV 0 (.sl G),sV 67 (A0 3),sV 66 (A0 3),sV 65 (.sl [x.cells,y.cells,z.cells]),sP 3,sL 3 [.v (A0 t.kind),.v (A0 t.index),.v (A0 t.type.kind),.v (.sl (t.type.args.map Ty.cells)),.v (.sl [x.cells,y.cells,z.cells])],sP 4,sL 4 [.v (A0 0),.own 0 [],.v (A0 0)],sP 9,sL 9 [.v (A0 d.kind),.v (.sl (d.args.map Ty.cells)),.v (A0 (d.count:Int)),.v (A0 e.kind),.v (.sl (e.args.map Ty.cells)),.v (A0 (e.count:Int)),.v (A0 k.kind),.v (.sl (k.args.map Ty.cells)),.v (A0 (k.count:Int))]]) [] @u8 ?_;refine AB ?_;refine A4 ?_;refine A3 @Bk wn ?_;exact BR
theorem W5:cT gl 76 [.sl []] [] (A0 0) []:=by
 refine A8 Tryz.func76 ?_;intro X hP u7 hf u9 hn hR u6 u5;refine A4 ?_;refine B4 ?_;refine A4 ?_;exact BR
theorem Z0:cT gl 78 [.sl []] [] (.sl []) []:=by
 refine A8 Tryz.func78 ?_;intro X hP u7 hf u9 hn hR u6 u5;refine A4 ?_;refine B4 ?_;refine A4 ?_;exact BR
theorem R5 (Bl:ET gl 0=some H1)(t:Tm)(r:Ty)(hc:t.checkN=0)(h:t.inferN []=(r,0)) :
  cT gl 49 [.sl [],t.dv] [] (.tup [r.dv,A0 0]) []:=by
 obtain⟨hs,Cw⟩:=(Tm.checkN_iff t).1 hc;have w2:=ON Bl t (JW t hs) oO;rw[hc]at w2;have w3:=OE (gl:=gl) t [] (by simp;omega) hs sS (by rw[h]);rw[h]at w3;have w4:=cG (gl:=gl) r;have Bk:=Tm.fold t;have fr:=Ty.fold r;simp only[C2,List.map_nil]at w3;refine A8 Tryz.func49 ?_;intro X hP u7 hf u9 hn hR u6 u5;refine A4 ?_;refine A3 tT W5 ?_;refine A4 ?_;refine A3 @Bk w2 ?_;refine A4 ?_;refine EW @Bk Z0 w3 ?_;refine A4 ?_;refine A3 @fr w4 ?_;exact B9
theorem XD (g:List Ty)(hg:∀x∈g,x.ok)(hl:g.length<=16):cT gl 76 [.sl (g.map Ty.cells)] [] (A0 0) []:=by
 refine A8 Tryz.func76 ?_;intro X hP u7 hf u9 hn hR u6 u5;have Gf:¬(16<(g.length:Int)):=oO;refine A7 @Gf ?_;refine BK ?_;refine AC [] tT (FE (g) (fun done rest=>[sV 11 (A0 done.length),sV 10 (A0 g.length),sV 9 (.sl (g.map Ty.cells)),sV 2 (A0 0)]) ?_ ?_)
 ·intro done x rest hL Aq Aa;have Ag:done.length<g.length:=by rw[hL];simp
  have hxo:=hg x (uE Aq);have w:=E1 (gl:=gl) x (by have:=hxo.2;omega);rw[(Ty.checkN_iff x).2 hxo]at w;have Bi:=Ty.fold x;refine A2 ?_;refine AE ?_;refine A7 @Aq ?_;refine A3 (j2 @Aq @Bi) w ?_;refine CR (wr []) tT tT Aa
 ·refine A2 ?_;refine B6 ?_;refine A4 ?_;exact BR
theorem SC (g:List Ty)(hg:∀x∈g,x.ok)(hl:g.length<=16):cT gl 78 [.sl (g.map Ty.cells)] [] (.sl (g.map H3)) []:=by
 refine A8 Tryz.func78 ?_;intro X hP u7 hf u9 hn hR u6 u5;refine A4 ?_;refine BK ?_;refine AC [(1003,0)] tT (FE (g) (fun done rest=>[sV 8 (A0 done.length),sV 7 (A0 g.length),sV 6 (.sl (g.map Ty.cells)),(.slot 2,.one (.own 0 [])),(.slot 3,.one (.own 1003 (done.map H3))),(.tok 1003,.tk 3 done.length)]) ?_ ?_)
 ·intro done x rest hL Aq Aa;have Ag:done.length<g.length:=by rw[hL];simp
  have hxo:=hg x (uE Aq);have w:=I3 (gl:=gl) x hxo;have Bi:=Ty.fold x;have Bb:=C2 x;refine A2 ?_;refine AE ?_;refine A7 @Aq ?_;refine A3 (j4 @Aq @Bi @Bb @yV) w ?_;refine CR (wr [(1003,16)]) (j2 @Bb @yV) tT Aa
 ·refine A2 ?_;refine B6 ?_;refine A4 ?_;exact BR
theorem PI (Bl:ET gl 0=some H1)(g:List Ty)(hg:∀x∈g,x.ok)(hl:g.length<=16)(t:Tm)(r:Ty)(hc:t.checkN=0)(h:t.inferN g=(r,0)) :
  cT gl 49 [.sl (g.map Ty.cells),t.dv] [] (.tup [r.dv,A0 0]) []:=by
 obtain⟨hs,Cw⟩:=(Tm.checkN_iff t).1 hc;have w2:=ON Bl t (JW t hs) oO;rw[hc]at w2;have w3:=OE (gl:=gl) t g oO hs hg (by rw[h]);rw[h]at w3;have w4:=cG (gl:=gl) r;have w5:=SC (gl:=gl) g hg hl;have w6:=XD (gl:=gl) g hg hl;have Bk:=Tm.fold t;have fr:=Ty.fold r;simp only[C2]at w3 w5;refine A8 Tryz.func49 ?_;intro X hP u7 hf u9 hn hR u6 u5;refine A4 ?_;refine A3 tT w6 ?_;refine A4 ?_;refine A3 @Bk w2 ?_;refine A4 ?_;refine EW @Bk w5 w3 ?_;refine A4 ?_;refine A3 @fr w4 ?_;exact B9
end
section
section
variable {X:Ctx}{s:St}
theorem g9 {o:Oper}{t:TypeId}{x:Operand}(ho:o.op = .box t x){d:Nat}(hd:o.dst=some d)(hn:d<X.n){y:SV}(hy:D4 X (get s) x=some y){cs:List DV}(hc:GZ (BV y)=some cs)(hb:HE cs=true) :
  EU X s o (CV s (.slot d) (.one (.v (.ref cs)))):=by
 intro G a w R next Q hK
 have Ak:H0 G w (BV y) (a.eval x).cells:=I8 R.nil (AD R hy);obtain⟨t1,t2⟩:=OV hc;have Bb:(a.eval x).cells.size=cs.length:=by rw[Ak.1,t1]
 refine PT (by intro c e;rw[ho]at e;cases e) ?_;simp only[execOp,ho,Instr.box,newVar,newRow,run_newObj,Sem.run_bind,Sem.run_pure,Result.andThen_ok,E8,hd];have T:Trans X G a w { G with D:=EB G.D w.heap.size 0 cs.length } a (w.alloc (.cells (a.eval x).cells t)) (fun _=>False):=U7 R (hi:=cs.length) oO rfl R.nil;refine hK { G with D:=EB G.D w.heap.size 0 cs.length } _ _ (R.setSlot T rfl rfl (fun _ h=>h) hn ?_);show RV (EB G.D w.heap.size 0 cs.length) _ _ _;refine .ref cs w.heap.size 0 (fun j=>((a.eval x).cells[j]?).getD undef) ((MT _).1 hb) (fun j hj=>?_) (fun j hj=>.inr ⟨rfl,Nat.zero_le _,oO⟩) (fun j c hjc=>?_)
 ·have Ag:j<(a.eval x).cells.size:=oO;simp[World.cell?_alloc_new,Ag]
 ·obtain⟨z,hz,hzd⟩:=t2 j c hjc;have Ag:j<(a.eval x).cells.size:=by rw[Bb];exact (uA hjc).1
  have hr:=JM hzd (Ak.2 j z _ hz (uG Ag));simp only[uG Ag,Option.getD_some];exact hr.mono (fun b o hd=>⟨.inl hd,World.cell?_alloc_lt _ _ _ (R.wf.lt hd)⟩)
theorem KF {Ad:List Nat}{ops:Array Oper}{l:List Oper}{K:St->Prop}{d:Tmp}{t:TypeId}{x:Operand}{ty:TypeId}{pos:String}{af:Array Edge}{q:Option (Prop × St)}{y:SV}{cs:List DV}
  (hy:D4 X (get s) x=some y) (hc:GZ (BV y)=some cs) (hb:HE cs=true) (hn:d<X.n) (hq:q=none)
  (k:vc X Ad ops l (CV s (.slot d) (.one (.v (.ref cs)))) K) :
  eD X Ad ops l K ⟨some d,.box t x,ty,pos,af,none⟩ s q:=by
 subst hq;exact V6 rfl (g9 (o:=⟨some d,.box t x,ty,pos,af,none⟩) rfl rfl hn hy hc hb) (DM k)
theorem IE {ops:Array Oper}{s0:St}{K:St->Prop}{l:List Oper}{k:St->List Ev->Prop}{ev:List Ev}{fp wr:List Loc}{d:Tmp}{t:TypeId}{x:Operand}{ty:TypeId}{pos:String}{af:Array Edge}{q:Option (Prop × St)}{y:SV}{cs:List DV}
  (hk:∀s ev,k s ev->VD X ops s0 l s ev K) (hy:D4 X (get (HS s fp)) x=some y) (hc:GZ (BV y)=some cs) (hb:HE cs=true) (hn:d<X.n) (hq:q=none)
  (g:YV k ev s fp [d] [(.slot d,some (.one (.v (.ref cs))))]) :
  mB X ops s0 l K k ⟨some d,.box t x,ty,pos,af,none⟩ ev s fp wr q:=by
 subst hq;show VD X ops s0 _ s ev K;refine Q3 ⟨fp,_,[d]⟩ (fun s' hs Eh=>Q4 (.inl rfl) ?_) (hk _ _ g);exact g9 (o:=⟨some d,.box t x,ty,pos,af,none⟩) rfl rfl hn (HT hs hy) hc hb
end
end
section
variable {gl:AF}
abbrev AV:DV:=.prim (.pointer none)
abbrev GT:DV:=.prim .nilIface
def C8:List Nat->DV
 | []=>AV
 | n::l=>.ref [A0 (n:Int),C8 l]
mutual
def MV.thing:MV->DV
 | .num n=>.iface 3 (A0 (n:Int))
 | .list l=>.iface 199 (C8 l)
 | .both a b=>.iface 205 (.ref [MV.thing a,MV.thing b])
 | .unit=>.iface 209 (.agg [])
 | .clo b e=>.iface 212 (.ref (b.cells++[MV.envM e]))
def MV.envM:List MV->DV
 | []=>AV
 | v::e=>.ref [MV.thing v,MV.envM e]
end
theorem cK:∀l,(C8 l).isCell=true
 | []=>rfl
 | _::_=>rfl
theorem QK (v:MV):v.thing.isCell=true:=by cases v <;> (simp only[MV.thing];rfl)
theorem z48 (e:List MV):(MV.envM e).isCell=true:=by cases e <;> (simp only[MV.envM];rfl)
theorem QL (v:MV):D6 v.thing=[v.thing]:=by cases v <;> (simp only[MV.thing];rfl)
theorem nY (e:List MV):D6 (MV.envM e)=[MV.envM e]:=by cases e <;> (simp only[MV.envM];rfl)
theorem W6 (l:List Nat):D6 (C8 l)=[C8 l]:=by cases l <;> rfl
attribute [go_sem] cK QK z48 QL nY W6
theorem z49 (e:List MV)(i:Nat)(hi:i<e.length):cT gl 168 [MV.envM e,A0 (i:Int)] [] (e.getD i .unit).thing []:=by
 refine A8 Tryz.func168 ?_;intro X hP u7 hf u9 hn hR u6 u5;have h0:e.drop (i - i)=e:=sS;have Lt:CM .i64 i:=u5 (A0 i) sS;rw[MS]at Lt;refine A4 ?_;refine BK ?_;refine AC [] @h0 (CH (fun k:Nat=>k<=i) (fun k:Nat=>[sV 0 (MV.envM (e.drop (i - k))),sV 1 (A0 (k:Int)),sV 4 GT]) (fun k:Nat=>k) i (Nat.le_refl i) ?_);intro k hk ih
 obtain⟨v,r,hr⟩:∃v r,e.drop (i - k)=v::r:=by
  cases hq:e.drop (i - k) with
  | nil=>have:=List.drop_eq_nil_iff.1 hq;omega
  | cons v r=>exact⟨v,r,rfl⟩
 have hE:MV.envM (e.drop (i - k)) = .ref [v.thing,MV.envM r]:=by rw[hr,MV.envM]
 cases k with
 | zero=>
  have hv:(e[i]?.getD MV.unit)=v:=by
   have:=congrArg (fun l=>l.head?) hr;simp only[Nat.sub_zero,List.head?_drop,List.head?_cons]at this;simp[this]
  rw[Nat.sub_zero]at hE;refine A2 ?_;refine B6 ?_;refine A7 @hE ?_;exact BD @hv
 | succ k=>
  have hd:e.drop (i - k)=r:=by
   have h1:i - k=(i - (k+1))+1:=oO;rw[h1,<- List.drop_drop,hr,List.drop_one,List.tail_cons]
  have Jq:(0:Int)<(k:Int)+1:=oO;refine A2 ?_;refine AE ?_;refine AX @hE ?_;refine A2 ?_;refine K0 ?_;refine AC [] @hd (ih k oO oO)
def U1 (ev:LT)(k:Int)(l:List MV):Option (MV × Nat):=if 3<=k/\k<=13 then VZ ev k l else none
def NY:Nat->LT
 | 0,_,_=>none
 | d+1,t,e=>
  if t.kind=1 then if 0<=t.index/\t.index.toNat<e.length then some (e.getD t.index.toNat .unit,1) else none
  else if t.kind=2 then if t.args.length=0 then none else some (.clo (t.argN 0) e,1)
  else if 3<t.args.length then none
  else match G6 (NY d) t.args e with
   | none=>none
   | some (l,c)=>match U1 (NY d) t.kind l with
    | none=>none
    | some (v,c')=>some (v,1+c+c')
mutual
def MV.nle (M:Nat):MV->Prop
 | .num n=>n<=M
 | .list l=>l.length<=M/\∀n∈l,n<=M
 | .both a b=>MV.nle M a/\MV.nle M b
 | .unit=>True
 | .clo _ e=>MV.nles M e
def MV.nles (M:Nat):List MV->Prop
 | []=>True
 | v::e=>MV.nle M v/\MV.nles M e
end
def FV (most n:Nat)(v:DV):DV:=if n<=most then .tup [v,AK true] else .tup [GT,AK false]
def CI (most n:Nat):List DV:=[A0 (if n<=most then (n:Int) else (most:Int)),A0 (most:Int)]
def JX (P:Program)(gl:AF)(fe:FuncId)(most:Nat)(ev:LT):Prop:=
 ∀ ⦃t:Tm⦄ ⦃e:List MV⦄ ⦃u:Nat⦄ ⦃v:MV⦄ ⦃c:Nat⦄ (b:Nat) (M:Nat),ev t e=some (v,c)->u<=most->M+(most - u)<=1073741824->MV.nles M e ->
  U8 P gl fe [BC b,t.dv,MV.envM e] [(b,CI most u)] (FV most (u+c) v.thing) [(b,CI most (u+c))]
def NP (most:Nat)(ev:LT):Prop:=
 ∀ ⦃t:Tm⦄ ⦃e:List MV⦄ ⦃v:MV⦄ ⦃c:Nat⦄ (M:Nat),ev t e=some (v,c)->MV.nles M e->v.nle (M+c)
theorem gA (b:Tm)(e:List MV):(MV.clo b e).thing = .iface 212 (.ref [A0 b.kind,A0 b.index,A0 b.type.kind,.sl (b.type.args.map Ty.cells),.sl (b.args.map Tm.cells),MV.envM e]):=by
 rw[MV.thing,Tm.cells_eq];rfl
theorem z4a (v:MV)(e:List MV):MV.envM (v::e) = .ref [v.thing,MV.envM e]:=by rw[MV.envM]
mutual
theorem MV.nle_mono {M N:Nat}(h:M<=N):∀v:MV,v.nle M->v.nle N
 | .num n,k=>by simp only[MV.nle]at k ⊢;omega
 | .list l,k=>by simp only[MV.nle]at k ⊢;exact⟨Nat.le_trans k.1 h,fun n hn=>Nat.le_trans (k.2 n hn) h⟩
 | .both a b,k=>by simp only[MV.nle]at k ⊢;exact⟨MV.nle_mono h a k.1,MV.nle_mono h b k.2⟩
 | .unit,_=>by simp only[MV.nle]
 | .clo b e,k=>by simp only[MV.nle]at k ⊢;exact MV.nles_mono h e k
theorem MV.nles_mono {M N:Nat}(h:M<=N):∀e:List MV,MV.nles M e->MV.nles N e
 | [],_=>by simp only[MV.nles]
 | v::e,k=>by simp only[MV.nles]at k ⊢;exact⟨MV.nle_mono h v k.1,MV.nles_mono h e k.2⟩
end
theorem cM {M:Nat}:∀{l:List MV} {i:Nat} {a:MV},MV.nles M l->l[i]? = some a->a.nle M
 | x::l,0,a,h,k=>by simp only[MV.nles]at h;simp at k;rw[<- k];exact h.1
 | x::l,i+1,a,h,k=>by simp only[MV.nles]at h;exact cM h.2 (by simpa using k)
theorem W7 {most:Nat}(hm:most<=1073741824){ev:LT}(H:JX Tryz.prog gl 142 most ev)(hN:NP most ev){f v:MV}{l:List MV}{u c:Nat}(b M:Nat)
  (h:EG ev f l=some (v,c)) (hu:u<=most) (hM:M+(most - u)<=1073741824) (hF:f.nle M) (hL:MV.nles M l) :
  cT gl 143 [BC b,f.thing,.sl (l.map fun x=>[x.thing])] [(b,CI most u)] (FV most (u+c) v.thing) [(b,CI most (u+c))]:=by
 refine A8 Tryz.func143 ?_;intro X hP u7 hf u9 hn hR u6 u5;have Fu:(l.length:Int)<=2147483648:=by have:=u5 (.sl (l.map fun x=>[x.thing])) sS;simp[DV.fit]at this;have:=this.1;simp[HL]at this;omega
 have Sm:CI most u=[A0 (u:Int),A0 (most:Int)]:=by unfold CI;rw[if_pos hu]
 rw[Sm];refine A4 ?_;refine BK ?_;refine AC [] tT (CH (fun x:MV × Nat × Nat=>x.2.1<=l.length/\x.2.2<=most/\u<=x.2.2/\x.1.nle (M+(x.2.2 - u))/\∃c',EG ev x.1 (l.drop x.2.1)=some (v,c')/\x.2.2+c' = u+c) (fun x:MV × Nat × Nat=>[sV 15 (A0 (x.2.1:Int)),sV 14 (A0 (l.length:Int)),sV 13 (.sl (l.map fun x=>[x.thing])),sV 0 (BC b),sV 1 x.1.thing,sV 6 GT,sV 7 (AK false),sB  b [.v (A0 (x.2.2:Int)),.v (A0 (most:Int))]]) (fun x:MV × Nat × Nat=>l.length - x.2.1) (f,0,u) (⟨Nat.zero_le _,hu,Nat.le_refl u,by simpa using hF,c,by simpa using h,rfl⟩) ?_);rintro⟨g,i,u'⟩ ⟨hi,Qd,huu,hg,c',hc,Cw⟩ ih;simp only at hi Qd huu hg hc Cw;by_cases Bz:i<l.length
 ·obtain⟨a,ha⟩:∃a,l[i]? = some a:=⟨l[i],uB Bz⟩;have hd:l.drop i=a::l.drop (i+1):=by
   rw[List.drop_eq_getElem_cons Bz];rw[uB Bz,uC]at ha;rw[ha]
  rw[hd]at hc;have Em:a.nle M:=cM hL ha;cases g with
  | num n=>cases hc
  | list q=>cases hc
  | both p q=>cases hc
  | unit=>cases hc
  | clo body e=>
   simp only[EG]at hc;split at hc;· cases hc
   ·rename_i v1 c1 Dv;split at hc;· cases hc
    ·rename_i w c2 hw;simp only[uC,uD]at hc;obtain⟨rfl,rfl⟩:=hc;simp only[MV.nle]at hg;have Yf:MV.nles (M+(u' - u)) (a::e):=by simp only[MV.nles];exact⟨MV.nle_mono oO _ Em,hg⟩
     have W1:=H b (M+(u' - u)) Dv Qd oO Yf;have hN1:=hN (M+(u' - u)) Dv Yf;have Xj:=gA body e;have hT:=Tm.fold body;have Vl:CI most u' = [A0 (u':Int),A0 (most:Int)]:=by unfold CI;rw[if_pos Qd]
     rw[Vl,z4a]at W1;have Hi:(l.map fun x=>[x.thing])[i]? = some [a.thing]:=by rw[List.getElem?_map,ha];rfl
     rw[Xj];generalize l.map (fun x=>[x.thing])=L at *;refine A2 ?_;refine AE ?_;refine AX @Hi ?_;refine A2 ?_;refine BK ?_;refine AL (by rw[hP];exact AZ) [33] fun K hK=>?_;simp[go_sem,hP,u7,hn,hT];refine IE (cs:=[a.thing,MV.envM e]) (y:=.ag [a.thing,MV.envM e] []) (fun _ _=>D8) (by simp[go_sem,hP,u7,hn]) (by simp[go_sem]) (by simp[go_sem]) (by rw[hn];exact uF rfl) (by rfl) ?_;simp[go_sem,hP,u7,hn];by_cases Ap:u'+c1<=most
     ·have o1:FV most (u'+c1) v1.thing = .tup [v1.thing,AK true]:=by unfold FV;rw[if_pos Ap]
      have o2:CI most (u'+c1)=[A0 ((u'+c1:Nat):Int),A0 (most:Int)]:=by unfold CI;rw[if_pos Ap]
      rw[o1,o2]at W1;refine FF tT (W1) ?_;refine F1 ?_;clear hK K;refine A2 ?_;refine B6 ?_;refine A2 ?_;refine A2 ?_;have a1:i+1<=l.length:=oO;have a2:u<=u'+c1:=oO;have a3:M+(u' - u)+c1<=M+(u'+c1 - u):=oO;have a4:u'+c1+c2=u+c:=oO;have a5:l.length - (i+1)<l.length - i:=oO;refine K0 ?_;refine AC [] tT (ih (v1,i+1,u'+c1) ⟨a1,Ap,a2,MV.nle_mono a3 _ hN1,c2,hw,a4⟩ a5)
     ·have o1:FV most (u'+c1) v1.thing = .tup [GT,AK false]:=by unfold FV;rw[if_neg Ap]
      have o2:CI most (u'+c1)=[A0 (most:Int),A0 (most:Int)]:=by unfold CI;rw[if_neg Ap]
      have Al:¬u+c<=most:=oO;have o3:FV most (u+c) w.thing = .tup [GT,AK false]:=by unfold FV;rw[if_neg Al]
      have o4:CI most (u+c)=[A0 (most:Int),A0 (most:Int)]:=by unfold CI;rw[if_neg Al]
      rw[o3,o4]at hR;rw[o1,o2]at W1;refine FF tT (W1) ?_;refine F1 ?_;clear hK K;refine A2 ?_;refine AE ?_;refine A2 ?_;exact AI [(b,[A0 (most:Int),A0 (most:Int)])] tT
 ·have hd:l.drop i=[]:=List.drop_eq_nil_iff.2 oO;have Uv:i=l.length:=oO;subst Uv;rw[hd]at hc;have Gr:EG ev g []=some (g,0):=by cases g <;> rfl
  rw[Gr]at hc;simp only[uC,uD]at hc;obtain⟨rfl,rfl⟩:=hc;have Oc:u+c<=most:=oO;have o3:FV most (u+c) g.thing = .tup [g.thing,AK true]:=by unfold FV;rw[if_pos Oc]
  have o4:CI most (u+c)=[A0 (u':Int),A0 (most:Int)]:=by unfold CI;rw[if_pos Oc];rw[<- Cw];simp
  rw[o3,o4]at hR;refine A2 ?_;refine B6 ?_;refine A2 ?_;exact AI [(b,[A0 (u':Int),A0 (most:Int)])] tT
end
section
theorem NQ {most:Nat}{ev:LT}(hN:NP most ev):∀{l:List MV} {f v:MV} {c M:Nat},EG ev f l=some (v,c)->f.nle M->MV.nles M l->v.nle (M+c)
 | [],f,v,c,M,h,hf,hl=>by
  have:EG ev f []=some (f,0):=by cases f <;> rfl
  rw[this]at h;simp only[uC,uD]at h;obtain⟨rfl,rfl⟩:=h;exact hf
 | a::l,f,v,c,M,h,hf,hl=>by
  cases f with
  | num n=>cases h
  | list q=>cases h
  | both p q=>cases h
  | unit=>cases h
  | clo body e=>
   simp only[EG]at h;split at h;· cases h
   rename_i v1 c1 Dv;split at h;· cases h
   rename_i w c2 hw;simp only[uC,uD]at h;obtain⟨rfl,rfl⟩:=h;simp only[MV.nle]at hf;simp only[MV.nles]at hl;have k:=hN M Dv (by simp only[MV.nles];exact⟨hl.1,hf⟩);have:=NQ hN hw k (MV.nles_mono oO _ hl.2);rw[Nat.add_assoc]at this;exact this
theorem yW {most:Nat}{ev:LT}(hN:NP most ev){f:MV}:∀{n k:Nat} {r v:MV} {c M:Nat},QF ev f n k r=some (v,c)->f.nle M->r.nle M->k+n<=M->v.nle (M+c)
 | 0,k,r,v,c,M,h,hf,hr,hk=>by
  simp only[QF,uC,uD]at h;obtain⟨rfl,rfl⟩:=h;exact hr
 | n+1,k,r,v,c,M,h,hf,hr,hk=>by
  simp only[QF]at h;split at h;· cases h
  rename_i v1 c1 Dv;split at h;· cases h
  rename_i w c2 hw;simp only[uC,uD]at h;obtain⟨rfl,rfl⟩:=h;have k1:=NQ hN Dv hf (by simp only[MV.nles,MV.nle];exact⟨oO,hr,trivial⟩);have:=yW hN hw (MV.nle_mono oO _ hf) k1 oO;rw[Nat.add_assoc]at this;exact this
theorem cN {most:Nat}{ev:LT}(hN:NP most ev){f r:MV}:∀{l:List Nat} {v:MV} {c M:Nat},G7 ev f r l=some (v,c)->f.nle M->r.nle M->(l.length<=M/\∀n∈l,n<=M)->v.nle (M+c)
 | [],v,c,M,h,hf,hr,hl=>by
  simp only[G7,uC,uD]at h;obtain⟨rfl,rfl⟩:=h;exact hr
 | x::l,v,c,M,h,hf,hr,hl=>by
  simp only[G7]at h;split at h;· cases h
  rename_i v1 c1 Dv;split at h;· cases h
  rename_i w c2 hw;simp only[uC,uD]at h;obtain⟨rfl,rfl⟩:=h;have Fu:l.length+1<=M:=by simpa using hl.1
  have k1:=cN hN Dv hf hr ⟨oO,fun n hn=>hl.2 n (List.mem_cons_of_mem _ hn)⟩;have hx:x<=M:=hl.2 x sS
  have k2:=NQ hN hw (MV.nle_mono (show M<=M+c1 from oO) _ hf) (by
   simp only[MV.nles,MV.nle];exact⟨oO,⟨oO,fun n hn=>Nat.le_trans (hl.2 n (List.mem_cons_of_mem _ hn)) oO⟩,k1,trivial⟩)
  rw[Nat.add_assoc]at k2;exact k2
theorem HK {most:Nat}{ev:LT}(hN:NP most ev){e:List MV}:∀{l:List Tm} {vs:List MV} {c M:Nat},G6 ev l e=some (vs,c)->MV.nles M e->MV.nles (M+c) vs
 | [],vs,c,M,h,he=>by
  simp only[G6,uC,uD]at h;obtain⟨rfl,rfl⟩:=h;simp only[MV.nles]
 | t::l,vs,c,M,h,he=>by
  simp only[G6]at h;split at h;· cases h
  rename_i v1 c1 Dv;split at h;· cases h
  rename_i w c2 hw;simp only[uC,uD]at h;obtain⟨rfl,rfl⟩:=h;simp only[MV.nles];exact⟨MV.nle_mono oO _ (hN M Dv he),MV.nles_mono oO _ (HK hN hw he)⟩
theorem zb6 {most:Nat}{ev:LT}(hN:NP most ev){k:Int}{l:List MV}{v:MV}{c M:Nat}(h:VZ ev k l=some (v,c))(hl:MV.nles M l):v.nle (M+1+c):=by
 unfold VZ at h;repeat' split at h
 all_goals first
  | (cases h;done)
  | skip
 all_goals try simp only[MV.nles,MV.nle]at hl
 ·exact NQ hN h (MV.nle_mono oO _ hl.1) (by simp only[MV.nles];exact⟨MV.nle_mono oO _ hl.2.1,trivial⟩)
 ·simp only[uC,uD]at h;obtain⟨rfl,rfl⟩:=h;simp only[MV.nle];omega
 ·simp only[uC,uD]at h;obtain⟨rfl,rfl⟩:=h;simp only[MV.nle];omega
 ·exact yW hN h (MV.nle_mono oO _ hl.2.1) (MV.nle_mono oO _ hl.1) oO
 ·simp only[uC,uD]at h;obtain⟨rfl,rfl⟩:=h;simp only[MV.nle];simp
 ·simp only[uC,uD]at h;obtain⟨rfl,rfl⟩:=h;simp only[MV.nle,List.mem_cons,List.length_cons];refine⟨oO,?_⟩;rintro n (rfl|hn);· omega
  ·exact Nat.le_trans (hl.2.1.2 n hn) oO
 ·exact cN hN h (MV.nle_mono oO _ hl.2.1) (MV.nle_mono oO _ hl.1) ⟨oO,fun n hn=>Nat.le_trans (hl.2.2.1.2 n hn) oO⟩
 ·simp only[uC,uD]at h;obtain⟨rfl,rfl⟩:=h;simp only[MV.nle];exact⟨MV.nle_mono oO _ hl.1,MV.nle_mono oO _ hl.2.1⟩
 ·simp only[uC,uD]at h;obtain⟨rfl,rfl⟩:=h;exact MV.nle_mono oO _ hl.1.1
 ·simp only[uC,uD]at h;obtain⟨rfl,rfl⟩:=h;exact MV.nle_mono oO _ hl.1.2
 ·simp only[uC,uD]at h;obtain⟨rfl,rfl⟩:=h;simp only[MV.nle]
theorem T3 (most:Nat):∀d,NP most (NY d)
 | 0,t,e,v,c,M,h,he=>by cases h
 | d+1,t,e,v,c,M,h,he=>by
  have hN:=T3 most d;rw[NY]at h;split at h
  ·split at h
   ·rename_i hi;simp only[uC,uD]at h;obtain⟨rfl,rfl⟩:=h;have hg:e[t.index.toNat]? = some (e.getD t.index.toNat .unit):=by simp[List.getD,uB hi.2]
    exact MV.nle_mono oO _ (cM he hg)
   ·cases h
  split at h
  ·split at h;· cases h
   ·simp only[uC,uD]at h;obtain⟨rfl,rfl⟩:=h;simp only[MV.nle];exact MV.nles_mono oO _ he
  split at h;· cases h
  split at h;· cases h
  rename_i l c1 hl;split at h;· cases h
  rename_i w c2 hw;simp only[uC,uD]at h;obtain⟨rfl,rfl⟩:=h;unfold U1 at hw;split at hw
  ·have:=zb6 hN hw (HK hN hl he);exact MV.nle_mono oO _ this
  ·cases hw
end
end Go.Proofs.YtoniciijokeidaaGreatDoor.Lift
