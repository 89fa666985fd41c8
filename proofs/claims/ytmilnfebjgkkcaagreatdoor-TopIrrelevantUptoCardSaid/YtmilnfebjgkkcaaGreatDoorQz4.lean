import Derived.Test.YtmilnfebjgkkcaaGreatDoorQz3
set_option maxHeartbeats 8000000
set_option maxRecDepth 100000
set_option linter.all false
namespace Go.Proofs.YtmilnfebjgkkcaaGreatDoor.Lift
open Bool renaming false_or->PD,not_eq_true'->Ig,or_eq_true->Ci
open Builtin renaming firstCells->kV
open DV renaming agg->eM,fit->J6,ref->Lu
open Fm renaming B0->lP,E0->L3,chk->wK,A0->D7,count_eq->sI,count_mem->oZ,counts_append->AZ,fit_len->yX,good_eq->Lr,ind->aU,o0->cM,leastN->PJ,leastN_eq->PI,length_cells->cX,M1->mN,R2->wJ,timesN_eq->Uy,timess_append->jy0,typedN->Cp,upN_eq->tY
open Int renaming add_assoc->DW,add_mul->jt0,add_zero->sE,le_refl->Iu,le_trans->jO0,mul_le_mul->a30,mul_nonneg->jD0,natCast_add->PG,ofNat->gS,toNat_of_nonneg->If
open List renaming all_append->PM,all_eq_true->yR,append_assoc->yQ,append_nil->KX,cons_append->R6,drop_eq_getElem_cons->Ln,drop_eq_nil_iff->jV0,foldl_cons->Uk,getD_eq_getElem?_getD->jO,getElem?_append->PV,getElem?_append_left->cJ,getElem?_append_right->cK,getElem?_map->cI,getElem_mem->vY,length_cons->B4,length_nil->fC,length_replicate->Jj1,lookup->jT0,map->Y3,map_append->FV,map_congr_left->kW,map_cons->G4,map_id->yW,map_map->wI,map_nil->O5,mem_append->t6,mem_cons->u5,mem_cons_of_mem->iJ,mem_cons_self->jU0,mem_map->F9,mem_of_mem_drop->FB,mem_range->DP,mem_replicate->AY,mem_singleton->bM,nil_append->aT,nodup_cons->Ck,not_mem_nil->mL,range->oT,replicate->wG,reverse_append->jI0,take->FE,take_of_length_le->DS
open Nat renaming add_assoc->Ie,add_zero->qI,le_add_right->aT0,le_refl->I5,le_trans->cH,lt_or_ge->yP,not_lt_zero->aU0,pred->jH0,sub_zero->aq0,zero_add->G8,zero_le->aH
open Ne renaming symm->f8
open Option renaming isNone_none->bd0
open Option.some renaming inj->Iq
open Pf renaming E0->lN
open Region renaming wanted->fD
open T renaming of_shape->PF,ok_ty->M9,pair->PE,ty->t7,ty_inj->eN
open Tm renaming argN->X3,B0->J5,args_mk->M8,E0->E3,cells_eq->O3,L4->AV,checkN_iff->lO,A0->D3,count_eq->V6,count_mem->L9,count_pos->Uu,counts_append->gR,eta->Cn,fit_len->kM,fold->P5,growthN->kN,idx_eq->oX,idx_mono->Lm,idx_of->sF,inN_eq->nR,ind->m7,index_mk->fE,V1->f7,inferN_eq->oW,inferN_ok->Ll,infers_all->PB,kind_mk->Z9,leastN->qN,leasts_append->aS0,len_counts->Lt,length_cells->mM,loopN->aV,loopN_end->jr0,mk->U0,natE->PL,natEs->kX,T3->Lq,nextN_args->PH,nexts_found->jq0,nf_eq->jQ0,nfs_iff->jR0,parts1->qO,parts2->sD,parts3->AX,reducedN->oY,rootN->n6,runOK_head->aX0,shape_node->j9,R2->t8,timesN_eq->DU,timesN_le->FR,timess_append->Is,type_mk->kL,upN_eq->cL
open Tryz renaming func114->jJ0,func146->PN,func237->iK,func246->jz0,func254->yY,func273->Uz,func317->jW0,func347->jS0,func393->PT,func394->PR,func403->a90,func404->ba0,func410->a80,func48->UA,func53->mO,prog->W0
open Ty renaming E0->P1,checkN_iff->wE,count_eq->sA,mk->L0,ok_args->yV,same_iff->y9
open Val renaming mk->dH,tyN_eq->Ip
open _root_.Array renaming getD_eq_getD_getElem?->KZ,getElem?_replicate->Ij,getElem?_toList->DN
open Go
variable{a s0:T}{b x:Tm}{c i most n u:Nat}{f:Fm}{g:List Ty}{k:Int}{l:List Tm}{s:Ty}{Γ:List T}
section
def Dh(g:List Ty)(t:Ty)(i:Nat):Bool:=decide ((gZ g i).o0=4)&&((gZ g i).arg 1).same t
theorem dS0{Q:Nat->Prop}(h:∀j,j<i->Q j)(hi:Q i):∀j,j<i+1->Q j:=by
 intro j hj;by_cases e:j=i;· rw[e];exact hi
 ·exact h j oO
theorem ot0{t:Ty}(hi:i<g.length)(h:∀j,j<i->Dh g t j=false)(hp:Dh g t i=true):Hc g t=some i:=by
 unfold Hc;rw[List.find?_range_eq_some];exact⟨hp,DP.2 hi,fun j hj=>by show (!Dh g t j)=true;rw[h j hj];rfl⟩
theorem rk0{t:Ty}(h:∀j,j<g.length->Dh g t j=false):Hc g t=none:=by
 unfold Hc;rw[List.find?_eq_none];intro j hj;show ¬Dh g t j=true;rw[h j (DP.1 hj)];decide
theorem zd0{X:Ctx}{k kk:List Item}{s:St}(E:Prop)(S:St)(h1:(E->W X kk S)->W X k s)(h2:E->W X kk S):W X k s:=h1 h2
theorem QA(b:Nat)(l:List Int)(hl:l.length<=500)(n:Nat)(hn9:n<=9):∀(t:Ty) (g:List Ty) (p:Nat),t.small->(∀x∈g,x.small)->g.length+3 * n+15<=1000000->p<=l.length ->
  cT 88 [M3 b,.sl (g.map P1),t.dv,j0 n] [(b,R5 l p)] (l8 l n t g p).1.dv [(b,R5 l (l8 l n t g p).2)]:=by
 induction n with
 | zero=>
  intro t g p ht hg DB hp;exact ln0 b l hl t 0 g p oO (by have:=ht.2;omega) ht hg (by have:=ht.2;omega) hp
 | succ n FE0=>
 intro t g p ht hg DB hp;have F8:=FE0 oO;have hD:=Ef (l:=l) Vd n;have fT:∀a:List Ty,(∀x∈a,x.small)->∀x∈g++a,x.small:=by
  intro a ha x hx;rcases t6.1 hx with hx|hx;· exact hg x hx
  ·exact ha x hx
 have Q7:(0:Int)<((n+1:Nat):Int):=oO;have rV:((n+1:Nat):Int) - 1=(n:Int):=oO;refine H2 Tryz.func88 ?_;intro X hP G0 hf X0 hn hR K1 G1;rw[l8]at hR;have NU:(bC g t).length<=g.length:=WP g t g.length;have Oh:=fH (n:=3) hp;have BZ:=lA (l:=l) (p:=p) (n:=3) dD;rcases AO:rG l t g p with⟨_|x,q⟩
 ·rw[AO]at hR;simp only at hR;have hq:q<=l.length:=by have:=Mq (t:=t) (g:=g) hp;rw[AO]at this;exact this
  apply vF [sV 0 (M3 b),sV 1 (.sl (g.map P1)),sV 3 (j0 ((n+1:Nat):Int)),sP 6,sL 6 (tM t),sP 8,sL 8 [.v (j0 0),.v (j0 0),.v (j0 0),.own 0 [],.own 0 []],sB  b [.v (.sl (P2 l)),.v (j0 q)]]
  ·intro Q3;refine N1 H0 (M0 (Qz g t oO)) ?_;rcases c70 AO with⟨h0,rfl⟩|⟨h0,h1,rfl⟩
   ·refine U1 (j2 @El @h0) ?_;refine m5 ?_;refine G2 [] tT Q3
   ·have gM:0<(bC g t).length:=oO;refine V3 (j3 @El @gM @h1) (M0 (fX b l p 3 dD oO)) ?_;refine m5 ?_;refine G2 [] tT Q3
  ·have hq8:=fH (n:=8) hq;have NW:=lA (l:=l) (p:=q) (n:=8) dD;refine N1 @Q7 (M0 (fX b l q 8 dD oO)) ?_;generalize hd:Y2 l q 8=d at *;obtain⟨k,r⟩:=d;simp only at hR NW hq8;have hr:r<=l.length:=hq8;by_cases h0:k=0
   ·rw[stepD,if_pos h0]at hR;have cs:=VM 0 b l r hl hr dD;obtain⟨fs,ss⟩:=LF l (n:=0) hr dD;generalize Oo:H9 l 0 r=rs at cs fs ss hR;obtain⟨s,qs⟩:=rs;simp only at cs fs ss hR;have cx:=F8 (t) (g++[s]) qs ht (fT [s] (by simpa using ss)) (by simp;omega) fs;have fx:=(hD (t) (g++[s]) qs ht (fT [s] (by simpa using ss)) fs).1;generalize hex:l8 l n (t) (g++[s]) qs=rx at cx fx hR;obtain⟨x,qx⟩:=rx;simp only at cx fx hR;have cy:=F8 (s) (g) qx ss hg oO fx;have fy:=(hD (s) (g) qx ss hg fx).1;generalize Fk:l8 l n (s) (g) qx=ry at cy fy hR;obtain⟨y,qy⟩:=ry;simp only at cy fy hR;exact v8 [(b,R5 l qy)] (j3 @h0 @rV @nT.eq_1) (nD cs (LB g [s] (by simp;omega)) cx (sJ 2 s [x]) cy (dI 3 [U0 2 0 s [x],y]))
   by_cases h1:k=1
   ·rw[stepD,if_neg h0,if_pos h1]at hR;have cs:=VM 0 b l r hl hr dD;obtain⟨fs,ss⟩:=LF l (n:=0) hr dD;generalize Oo:H9 l 0 r=rs at cs fs ss hR;obtain⟨s,qs⟩:=rs;simp only at cs fs ss hR;have cx:=F8 (t) (g) qs ht hg oO fs;have fx:=(hD (t) (g) qs ht hg fs).1;generalize hex:l8 l n (t) (g) qs=rx at cx fx hR;obtain⟨x,qx⟩:=rx;simp only at cx fx hR;have cy:=F8 (s) (g) qx ss hg oO fx;have fy:=(hD (s) (g) qx ss hg fx).1;generalize Fk:l8 l n (s) (g) qx=ry at cy fy hR;obtain⟨y,qy⟩:=ry;simp only at cy fy hR;exact v8 [(b,R5 l qy)] (j3 @h1 @rV @nT.eq_1) (T9 cs cx cy (dI 10 [x,y]) (dI 11 [U0 10 0 (L0 0 []) [x,y]]))
   by_cases h2:k=2
   ·rw[stepD,if_neg h0,if_neg h1,if_pos h2]at hR;have cx:=F8 (t) (g++[L0 1 [],t]) r ht (fT [L0 1 [],t] (by intro x hx;simp at hx;rcases hx with rfl|rfl;exact aJ;exact ht)) (by simp;omega) hr;have fx:=(hD (t) (g++[L0 1 [],t]) r ht (fT [L0 1 [],t] (by intro x hx;simp at hx;rcases hx with rfl|rfl;exact aJ;exact ht)) hr).1;generalize hex:l8 l n (t) (g++[L0 1 [],t]) r=rx at cx fx hR;obtain⟨x,qx⟩:=rx;simp only at cx fx hR;have cy:=F8 (t) (g) qx ht hg oO fx;have fy:=(hD (t) (g) qx ht hg fx).1;generalize Fk:l8 l n (t) (g) qx=ry at cy fy hR;obtain⟨y,qy⟩:=ry;simp only at cy fy hR;have hqy:=fH (n:=3) fy;have OU:=lA (l:=l) (p:=qy) (n:=3) dD;obtain⟨m,hm⟩:∃m:Nat,(Y2 l qy 3).1=m:=⟨_,(If OU.1).symm⟩;rw[hm]at OU
    exact v8 [(b,R5 l (Y2 l qy 3).2)] (j5 @h2 @rV @tB @hm @Ah.eq_1) (cC iM iM (LB g [L0 1 [],t] (by simp;omega)) cx (sJ 2 t [x]) (sJ 2 (L0 1 []) [U0 2 0 t [x]]) cy (fX b l qy 3 dD oO) (P3 ((Gl m oO)) ((sJ 6 t [y,U0 2 0 (L0 1 []) [U0 2 0 t [x]],g8 m]))))
   by_cases h3:k=3
   ·rw[stepD,if_neg h0,if_neg h1,if_neg h2,if_pos h3]at hR;have cx:=F8 (t) (g++[L0 1 [],L0 2 [],t]) r ht (fT [L0 1 [],L0 2 [],t] (by intro x hx;simp at hx;rcases hx with rfl|rfl|rfl;exact aJ;exact Bj;exact ht)) (by simp;omega) hr;have fx:=(hD (t) (g++[L0 1 [],L0 2 [],t]) r ht (fT [L0 1 [],L0 2 [],t] (by intro x hx;simp at hx;rcases hx with rfl|rfl|rfl;exact aJ;exact Bj;exact ht)) hr).1;generalize hex:l8 l n (t) (g++[L0 1 [],L0 2 [],t]) r=rx at cx fx hR;obtain⟨x,qx⟩:=rx;simp only at cx fx hR;have cy:=F8 (t) (g) qx ht hg oO fx;have fy:=(hD (t) (g) qx ht hg fx).1;generalize Fk:l8 l n (t) (g) qx=ry at cy fy hR;obtain⟨y,qy⟩:=ry;simp only at cy fy hR;have cz:=F8 (L0 2 []) (g) qy Bj hg oO fy;have fz:=(hD (L0 2 []) (g) qy Bj hg fy).1;generalize hez:l8 l n (L0 2 []) (g) qy=rz at cz fz hR;obtain⟨z,qz⟩:=rz;simp only at cz fz hR;exact v8 [(b,R5 l qz)] (j4 @h3 @rV @tB @CR) (cC iM Eb iM Eb (LB g [L0 1 [],L0 2 [],t] (by simp;omega)) cx (sJ 2 t [x]) (sJ 2 (L0 2 []) [U0 2 0 t [x]]) (T9 ((sJ 2 (L0 1 []) [U0 2 0 (L0 2 []) [U0 2 0 t [x]]])) cy Eb cz ((sJ 9 t [y,U0 2 0 (L0 1 []) [U0 2 0 (L0 2 []) [U0 2 0 t [x]]],z]))))
   by_cases h4:k=4
   ·rw[stepD,if_neg h0,if_neg h1,if_neg h2,if_neg h3,if_pos h4]at hR;have cs:=VM 0 b l r hl hr dD;obtain⟨fs,ss⟩:=LF l (n:=0) hr dD;generalize Oo:H9 l 0 r=rs at cs fs ss hR;obtain⟨s,qs⟩:=rs;simp only at cs fs ss hR;have cx:=F8 (s) (g) qs ss hg oO fs;have fx:=(hD (s) (g) qs ss hg fs).1;generalize hex:l8 l n (s) (g) qs=rx at cx fx hR;obtain⟨x,qx⟩:=rx;simp only at cx fx hR;have cy:=F8 (t) (g) qx ht hg oO fx;have fy:=(hD (t) (g) qx ht hg fx).1;generalize Fk:l8 l n (t) (g) qx=ry at cy fy hR;obtain⟨y,qy⟩:=ry;simp only at cy fy hR;exact v8 [(b,R5 l qy)] (j3 @h4 @rV @nT.eq_1) (T9 cs cx cy (dI 10 [x,y]) (dI 12 [U0 10 0 (L0 0 []) [x,y]]))
   apply zd0 (stepD l (l8 l n) t g k r=Df l (l8 l n) t g r) [sV 215 (O2 (decide (t.o0=1))),sV 214 (j0 t.o0),sV 0 (M3 b),sV 1 (.sl (g.map P1)),sV 3 (j0 ((n+1:Nat):Int)),sP 6,sL 6 (tM t),sP 8,sL 8 [.v (j0 0),.v (j0 0),.v (j0 0),.own 0 [],.own 0 []],sB  b [.v (.sl (P2 l)),.v (j0 r)]]
   ·intro Q3;by_cases h5:k=5
    ·refine U1 @h5 ?_;refine Q1 ?_;refine G2 [] tT (xF (g.length) (fun i=>∀j,j<i->Dh g t j=false) (fun i=>[sV 177 (j0 i),sV 176 (j0 g.length),sV 0 (M3 b),sV 1 (.sl (g.map P1)),sV 3 (j0 ((n+1:Nat):Int)),sP 6,sL 6 (tM t),sP 8,sL 8 [.v (j0 0),.v (j0 0),.v (j0 0),.own 0 [],.own 0 []],sB  b [.v (.sl (P2 l)),.v (j0 r)]]) (by intro j hj;omega) ?_ ?_)
     ·intro i hi hI Z1;have Tx:=(Mb hi).2;have aQ:(g.length:Int) - 1 - i=((g.length - 1 - i:Nat):Int):=oO;refine K5 ?_;refine U1 (j2 @aQ @Tx) ?_;by_cases DC:(gZ g i).o0=4
      ·have iH:=hg _ (Mb hi).1;obtain⟨c0,c1,-⟩:=iH.arg (.inr DC);obtain⟨a0,a1,ha,-,-,e0,e1⟩:=yV iH.ok (.inr DC);rw[e0]at c0;refine N1 (j4 @aQ @Tx @DC @ha) (M0 (gU a1 t)) ?_;by_cases hs:a1.same t=true
       ·have hfi:Hc g t=some i:=ot0 hi hI (by simp[Dh,DC,e1,hs]);rw[stepD,if_neg h0,if_neg h1,if_neg h2,if_neg h3,if_neg h4,if_pos h5,hfi]at hR;simp only at hR;rw[e0]at hR;have cx:=F8 (a0) (g) r c0 hg oO hr;have fx:=(hD (a0) (g) r c0 hg hr).1;generalize hex:l8 l n (a0) (g) r=rx at cx fx hR;obtain⟨x,qx⟩:=rx;simp only at cx fx hR;exact v8 [(b,R5 l qx)] (j5 @hs @rV @ha @vT.eq_1 @nT.eq_1) (E8 (Ed i) cx (dI 3 [vT i,x]))
       ·refine W3 (wr []) tT @hs (Z1 (dS0 hI (by simp[Dh,DC,e1,hs])))
      ·refine W3 (wr []) tT @DC (Z1 (dS0 hI (by simp[Dh,DC])))
     ·intro hI;refine T7 ?_;refine N2 ?_;refine m5 ?_;refine G2 [] tT (Q3 (by rw[stepD,if_neg h0,if_neg h1,if_neg h2,if_neg h3,if_neg h4,if_pos h5,rk0 hI]))
    ·have hE:stepD l (l8 l n) t g k r=Df l (l8 l n) t g r:=by rw[stepD,if_neg h0,if_neg h1,if_neg h2,if_neg h3,if_neg h4,if_neg h5]
     by_cases h6:k=6
     ·refine U1 @h6 ?_;refine m5 ?_;refine G2 [] tT (Q3 hE)
     ·have h7:k=7:=oO;refine U1 @h7 ?_;refine m5 ?_;refine G2 [] tT (Q3 hE)
   ·intro hE;rw[hE,Df]at hR;have HM:=fH (n:=5) hr;have h2q:=fH (n:=2) hr;have mE:=Ty.fold t;rcases IK ht with⟨h,e⟩|⟨h,e⟩|⟨h,e⟩|⟨h,e⟩|⟨h,e⟩
    ·rw[if_pos h]at hR;rw[h]at mE;have hb5:=lA (l:=l) (p:=r) (n:=5) dD;refine N1 (j2 @h @Q7) (M0 (fX b l r 5 dD oO)) ?_;generalize hd5:Y2 l r 5=d at *;obtain⟨c,q5⟩:=d;simp only at hR hb5 HM;by_cases c0:c=0
     ·rw[if_pos c0]at hR;have cx:=F8 (t) (g) q5 ht hg oO HM;have fx:=(hD (t) (g) q5 ht hg HM).1;generalize hex:l8 l n (t) (g) q5=rx at cx fx hR;obtain⟨x,qx⟩:=rx;simp only at cx fx hR;exact v8 [(b,R5 l qx)] (j4 @c0 @rV @mE @nT.eq_1) (P3 cx (dI 5 [x]))
     rw[if_neg c0]at hR;by_cases c1:c=1
     ·rw[if_pos c1]at hR;have cx:=F8 (t) (g) q5 ht hg oO HM;have fx:=(hD (t) (g) q5 ht hg HM).1;generalize hex:l8 l n (t) (g) q5=rx at cx fx hR;obtain⟨x,qx⟩:=rx;simp only at cx fx hR;have cy:=F8 (t) (g) qx ht hg oO fx;have fy:=(hD (t) (g) qx ht hg fx).1;generalize Fk:l8 l n (t) (g) qx=ry at cy fy hR;obtain⟨y,qy⟩:=ry;simp only at cy fy hR;exact v8 [(b,R5 l qy)] (j3 @c1 @rV @mE) (cQ Qe cx cy (Gk Y6 [x,y]))
     rw[if_neg c1]at hR;by_cases c2:c=2
     ·rw[if_pos c2]at hR;have cx:=F8 (t) (g) q5 ht hg oO HM;have fx:=(hD (t) (g) q5 ht hg HM).1;generalize hex:l8 l n (t) (g) q5=rx at cx fx hR;obtain⟨x,qx⟩:=rx;simp only at cx fx hR;have cy:=F8 (t) (g) qx ht hg oO fx;have fy:=(hD (t) (g) qx ht hg fx).1;generalize Fk:l8 l n (t) (g) qx=ry at cy fy hR;obtain⟨y,qy⟩:=ry;simp only at cy fy hR;exact v8 [(b,R5 l qy)] (j3 @c2 @rV @mE) (cQ Qj cx cy (Gk Q8 [x,y]))
     rw[if_neg c2]at hR;have BZ:=lA (l:=l) (p:=q5) (n:=3) dD;obtain⟨m,hm⟩:∃m:Nat,(Y2 l q5 3).1=m:=⟨_,(If BZ.1).symm⟩;rw[hm]at BZ;by_cases c3:c=3;· exact v8 [(b,R5 l (Y2 l q5 3).2)] (j3 @c3 @hm @Ah.eq_1) (P3 (fX b l q5 3 dD oO) (Gl m oO))
     ·have c4:c=4:=oO;exact v8 [(b,R5 l (Y2 l q5 3).2)] (j3 @c4 @hm @Ah.eq_1) (P3 (fX b l q5 3 dD oO) (Gl m oO))
    ·rw[if_neg oO,if_pos h]at hR;rw[h]at mE;have Z8:=lA (l:=l) (p:=r) (n:=2) dD;refine U1 @h ?_;generalize AM:Y2 l r 2=d at *;obtain⟨c,q2⟩:=d;have cn:=fX b l r 2 dD oO;rw[AM]at cn;simp only at hR Z8 h2q cn;by_cases c0:c=0
     ·rw[if_pos c0]at hR;have cx:=F8 (L0 1 []) (g) q2 aJ hg oO h2q;have fx:=(hD (L0 1 []) (g) q2 aJ hg h2q).1;generalize hex:l8 l n (L0 1 []) (g) q2=rx at cx fx hR;obtain⟨x,qx⟩:=rx;simp only at cx fx hR;have cy:=F8 (t) (g) qx ht hg oO fx;have fy:=(hD (t) (g) qx ht hg fx).1;generalize Fk:l8 l n (t) (g) qx=ry at cy fy hR;obtain⟨y,qy⟩:=ry;simp only at cy fy hR;exact v8 [(b,R5 l qy)] (j6 @Q7 @c0 @rV @tB @mE @nT.eq_1) (T9 cn iM cx cy (dI 8 [x,y]))
     ·rw[if_neg c0]at hR;exact v8 [(b,R5 l q2)] (j3 @Q7 @c0 @nT.eq_1) (P3 cn (dI 7 []))
    ·rw[if_neg oO,if_neg oO,if_neg oO,if_neg oO]at hR;exact v8 [(b,R5 l r)] (j2 @h @nT.eq_1) (M0 (dI 13 []))
    ·rw[if_neg oO,if_neg oO,if_pos h]at hR;obtain⟨s0,s1,hc⟩:=ht.arg (.inl h);have ha:t.B0=[t.arg 0,t.arg 1]:=by rw[e];rfl
     have cx:=F8 (t.arg 0) (g) r s0 hg oO hr;have fx:=(hD (t.arg 0) (g) r s0 hg hr).1;generalize hex:l8 l n (t.arg 0) (g) r=rx at cx fx hR;obtain⟨x,qx⟩:=rx;simp only at cx fx hR;have cy:=F8 (t.arg 1) (g) qx s1 hg oO fx;have fy:=(hD (t.arg 1) (g) qx s1 hg fx).1;generalize Fk:l8 l n (t.arg 1) (g) qx=ry at cy fy hR;obtain⟨y,qy⟩:=ry;simp only at cy fy hR;exact v8 [(b,R5 l qy)] (j4 @h @rV @ha @nT.eq_1) (E8 cx cy (dI 10 [x,y]))
    ·rw[if_neg oO,if_neg oO,if_neg oO,if_pos h]at hR;obtain⟨s0,s1,hc⟩:=ht.arg (.inr h);have ha:t.B0=[t.arg 0,t.arg 1]:=by rw[e];rfl
     have cx:=F8 (t.arg 1) (g++[t.arg 0]) r s1 (fT [t.arg 0] (by simpa using s0)) (by simp;omega) hr;have fx:=(hD (t.arg 1) (g++[t.arg 0]) r s1 (fT [t.arg 0] (by simpa using s0)) hr).1;generalize hex:l8 l n (t.arg 1) (g++[t.arg 0]) r=rx at cx fx hR;obtain⟨x,qx⟩:=rx;simp only at cx fx hR;exact v8 [(b,R5 l qx)] (j3 @h @rV @ha) (E8 (LB g [t.arg 0] (by simp;omega)) cx (sJ 2 (t.arg 0) [x]))
 ·rw[AO]at hR;simp only at hR;obtain⟨h0,h1,k,i,hk,hi,rfl,rfl⟩:=cq0 AO;have gM:0<(bC g t).length:=oO;have Zt:0<(Y2 l p 3).1:=oO;have vR:=zL (l:=xR (bC g t)) (i:=k) (n:=i) (by simp[xR,hi]);have hkl:=(uA hi).1;exact v8 [(b,R5 l (Y2 l (Y2 l p 3).2 (bC g t).length).2)] (j6 @El @gM @Zt @hk @vR @vT.eq_1) (cQ (Qz g t oO) (fX b l p 3 dD oO) (fX b l (Y2 l p 3).2 (bC g t).length oO oO) (Ed i))
theorem gV(t:Tm)(h:t.shape=true):t.tys:=by
 induction t using m7 with
 | h t ih=>
 obtain⟨-,-,-,h4,h5⟩:=j9 h;rw[Tm.tys_eq];refine⟨?_,fun a ha=>ih a ha (h5 a ha)⟩;split at h4;· have:=h4.2;omega
 ·unfold Ty.zero at h4;simp at h4;rw[sA,h4.2];decide
theorem cr0{l:List Int}{t:Ty}{p q:Nat}(h:rG l t g p=(some x,q)):x.A0=1:=by
 obtain⟨i,rfl,-⟩:=VJ h;rfl
theorem VN(l:List Int)(p:Nat):(Ah l p).1.A0<=3:=by
 have:=lA (l:=l) (p:=p) (n:=3) dD;show (g8 _).A0<=3;rw[Qn];omega
theorem ms0(l:List Int)(t:Ty):t.small->∀(g:List Ty) (p:Nat),(dC l t g p).1.A0<=3 * t.A0:=by
 generalize hn:t.A0=n
 induction n using Nat.strongRecOn generalizing t with
 | _ n ih=>
 intro ht g p;have h1:1<=t.A0:=by rw[sA];omega
 rw[WN l t g p ht.ok];split
 ·rename_i x q hx;have:=cr0 hx;simp only;omega
 ·rename_i q hx;have hN:=VN l q;rcases IK ht with⟨h,e⟩|⟨h,e⟩|⟨h,e⟩|⟨h,e⟩|⟨h,e⟩;· rw[if_pos h];omega
  ·rw[if_neg oO,if_pos h];show 1+0<=_;omega
  ·rw[if_neg oO,if_neg oO,if_neg oO,if_neg oO];show 1+0<=_;omega
  ·rw[if_neg oO,if_neg oO,if_pos h];obtain⟨s0,s1,hc⟩:=ht.arg (.inl h);have a:=ih _ oO (t.arg 0) rfl s0 g q;have b:=ih _ oO (t.arg 1) rfl s1 g (dC l (t.arg 0) g q).2;show 1+(_+(_+0))<=_;omega
  ·rw[if_neg oO,if_neg oO,if_neg oO,if_pos h];obtain⟨s0,s1,hc⟩:=ht.arg (.inr h);have b:=ih _ oO (t.arg 1) rfl s1 (g++[t.arg 0]) q;show 1+(_+0)<=_;omega
def Ni(l:List Int)(F:Ty->List Ty->Nat->Tm × Nat)(B:Nat):Prop:=∀t g p,t.small->(∀x∈g,x.small)->p<=l.length->(F t g p).1.A0<=B
theorem mt0:Y6.A0=9:=dD
theorem ou0:Q8.A0<=16:=dD
theorem c80(f x y:Tm):(m9 f [x,y]).A0=2+f.A0+x.A0+y.A0:=by
 show 1+((1+(f.A0+(x.A0+0)))+(y.A0+0))=_;omega
theorem ov0{l:List Int}{F:Ty->List Ty->Nat->Tm × Nat}{B:Nat}(hD:EL l F (fun _ _ x=>x.shape=true))(hF:Ni l F B):Ni l (Df l F) (2 * B+20):=by
 intro t g q ht hg hq;have h5:=fH (n:=5) hq;have h2:=fH (n:=2) hq;have c1:=hF t g (Y2 l q 5).2 ht hg h5;have d1:=(hD t g (Y2 l q 5).2 ht hg h5).1;have c2:=hF t g _ ht hg d1;have e1:=hF (L0 1 []) g (Y2 l q 2).2 aJ hg h2;have f1:=(hD (L0 1 []) g (Y2 l q 2).2 aJ hg h2).1;have e2:=hF t g _ ht hg f1;have hN:=VN l (Y2 l q 5).2;have hp:=mt0;have hs:=ou0;unfold Df;split
 ·split;· show 1+(_+0)<=_;omega
  split;· simp only[c80];omega
  split;· simp only[c80];omega
  ·omega
 split
 ·split;· show 1+(_+(_+0))<=_;omega
  ·show 1+0<=_;omega
 split
 ·rename_i h;obtain⟨s0,s1,-⟩:=ht.arg (.inl h);have a1:=hF (t.arg 0) g q s0 hg hq;have a2:=hF (t.arg 1) g _ s1 hg (hD (t.arg 0) g q s0 hg hq).1;show 1+(_+(_+0))<=_;omega
 split
 ·rename_i h;obtain⟨s0,s1,-⟩:=ht.arg (.inr h);have a2:=hF (t.arg 1) (g++[t.arg 0]) q s1 (by intro x hx;rcases t6.1 hx with hx|hx;exact hg x hx;rw[bM.1 hx];exact s0) hq;show 1+(_+0)<=_;omega
 ·show 1+0<=_;omega
theorem mu0{l:List Int}{F:Ty->List Ty->Nat->Tm × Nat}{B:Nat}(hD:EL l F (fun _ _ x=>x.shape=true))(hF:Ni l F B)(k:Int):Ni l (fun t g p=>stepD l F t g k p) (3 * B+20):=by
 intro t g p ht hg hp;have fT:∀a:List Ty,(∀x∈a,x.small)->∀x∈g++a,x.small:=by
  intro a ha x hx;rcases t6.1 hx with hx|hx;· exact hg x hx
  ·exact ha x hx
 have hE:=ov0 hD hF t g p ht hg hp;obtain⟨s1,s2⟩:=LF l (n:=0) hp dD;show (stepD l F t g k p).1.A0<=_;unfold stepD;split
 ·have gs:=fT [(H9 l 0 p).1] (by simpa using s2);have a:=hF t _ _ ht gs s1;have b:=hF _ g _ s2 hg (hD t _ _ ht gs s1).1;show 1+((1+(_+0))+(_+0))<=_;omega
 split
 ·have a:=hF t g _ ht hg s1;have b:=hF _ g _ s2 hg (hD t g _ ht hg s1).1;show 1+((1+(_+(_+0)))+0)<=_;omega
 split
 ·have gs:=fT [L0 1 [],t] (by intro x hx;simp at hx;rcases hx with rfl|rfl;exact aJ;exact ht);have d:=(hD t _ _ ht gs hp).1;have a:=hF t _ _ ht gs hp;have b:=hF t g _ ht hg d;have c:=VN l (F t g (F t (g++[L0 1 [],t]) p).2).2;show 1+(_+((1+((1+(_+0))+0))+(_+0)))<=_;omega
 split
 ·have gs:=fT [L0 1 [],L0 2 [],t] (by intro x hx;simp at hx;rcases hx with rfl|rfl|rfl;exact aJ;exact Bj;exact ht);have d:=(hD t _ _ ht gs hp).1;have a:=hF t _ _ ht gs hp;have b:=hF t g _ ht hg d;have c:=hF (L0 2 []) g _ Bj hg (hD t g _ ht hg d).1;show 1+(_+((1+((1+((1+(_+0))+0))+0))+(_+0)))<=_;omega
 split
 ·have a:=hF _ g _ s2 hg s1;have b:=hF t g _ ht hg (hD _ g _ s2 hg s1).1;show 1+((1+(_+(_+0)))+0)<=_;omega
 split
 ·split
  ·rename_i i hi;obtain⟨f1,f2,f3⟩:=dQ0 hi;obtain⟨c0,c1,-⟩:=(hg _ (Mb f1).1).arg (.inr f2);have a:=hF _ g _ c0 hg hp;show 1+((1+0)+(_+0))<=_;omega
  ·omega
 ·omega
def GT:Nat->Nat
 | 0=>45
 | n+1=>3 * GT n+20
theorem LG(l:List Int):∀n,Ni l (l8 l n) (GT n)
 | 0=>by intro t g p ht hg hp;have:=ms0 l t ht g p;have:=ht.2;show _<=45;simp only[l8];omega
 | n+1=>by
  intro t g p ht hg hp;have hq:=Mq (t:=t) (g:=g) hp;have ih:=mu0 (Ef Vd n) (LG l n);unfold l8;split
  ·rename_i x q hx;have:=cr0 hx;simp only[GT];omega
  ·rename_i q hx;rw[hx]at hq;exact ih _ t g _ ht hg (fH hq)
theorem CS0(t:Tm)(p:Int)(hc:t.A0<=1073741824)(lL:0<=p)(hp:p+t.A0<=2147483648):cU 370 [t.dv,j0 p] (O2 (decide (0<t.R2 p))):=by
 induction t using m7 generalizing p with
 | h t ih=>
 have N4:=V6 t;have kE:=lT t.o0;have qE:=DU t p;refine H2 Tryz.func370 ?_;intro X hP G0 hf X0 hn hR K1 G1;have hlen:=kM (G1 t.dv sS);by_cases h:t.o0=1/\t.O0=p
 ·refine U1 @h ?_;rw[if_pos h]at qE;exact rF
 ·rw[if_neg h]at qE;refine N2 ?_;apply vF [sV 1 (j0 p),sP 2,sL 2 (gG t),sV 19 (j0 0),sV 18 (j0 t.B0.length),sV 17 (.sl (t.B0.map E3))]
  ·intro Q3;by_cases h1:t.o0=1
   ·have h2:¬t.O0=p:=fun e=>h ⟨h1,e⟩;refine U1 (j2 @h1 @h2) ?_;refine m5 ?_;refine G2 [] (j2 @h1 @h2) Q3
   ·refine U1 @h1 ?_;refine m5 ?_;refine G2 [] @h1 Q3
  ·refine Q1 ?_;refine G2 [] tT (dB (t.B0) (fun done=>t8.B5 done (p+W2 t.o0)=0) (fun done rest=>[sV 1 (j0 p),sP 2,sL 2 (gG t),sV 17 (.sl (t.B0.map E3)),sV 18 (j0 t.B0.length),sV 19 (j0 done.length)]) (rfl) ?_ ?_)
   ·intro done x rest hL B3 hI Z1;have I1:=E5 hL;have U2:=uE B3;have I8:=L9 U2;refine K5 ?_;refine N1 @B3 (P3 (Mo t) (ih x U2 (p+W2 t.o0) oO oO oO)) ?_;by_cases hx:0<x.R2 (p+W2 t.o0)
    ·refine U1 @hx ?_;have:0<t.R2 p:=by rw[qE,hL,Is];simp only[t8.B5];omega
     exact aN @this
    ·refine W3 (wr []) tT @hx (Z1 (by rw[Is,hI];simp only[t8.B5];omega))
   ·intro hI;rw[hI]at qE;refine T7 ?_;exact O1 @qE H0
theorem ze0(t:Fm)(p:Int)(hc:t.A0<=1073741824)(lL:0<=p)(hp:p+t.A0<=2147483648):cU 335 [t.dv,j0 p] (O2 (decide (0<t.R2 p))):=by
 induction t using aU generalizing p with
 | h t ih=>
 have N4:=sI t;have kE:=rA t.o0;have qE:=Uy t p;refine H2 Tryz.func335 ?_;intro X hP G0 hf X0 hn hR K1 G1;have hlen:=yX (G1 t.dv sS);refine N2 ?_;refine Q1 ?_;refine G2 [] tT (dB (t.M1) (fun done=>t8.B5 done p=0) (fun done rest=>[sV 1 (j0 p),sP 2,sL 2 (mB t),sV 10 (.sl (t.M1.map E3)),sV 11 (j0 t.M1.length),sV 12 (j0 done.length)]) (rfl) ?_ ?_)
 ·intro done x rest hL B3 hI Z1;have I1:=E5 hL;have U2:=uE B3;have I8:=L9 U2;refine K5 ?_;refine N1 @B3 (M0 (CS0 x p oO lL oO)) ?_;by_cases hx:0<x.R2 p
  ·refine U1 @hx ?_;have:0<t.R2 p:=by rw[qE,hL,Is];simp only[t8.B5];omega
   exact aN @this
  ·refine W3 (wr []) tT @hx (Z1 (by rw[Is,hI];simp only[t8.B5];omega))
 ·intro hI;rw[hI]at qE;refine T7 ?_;refine N2 ?_;refine Q1 ?_;refine G2 [] tT (dB (t.B0) (fun done=>wJ.B5 done (p+H3 t.o0)=0) (fun done rest=>[sV 1 (j0 p),sP 2,sL 2 (mB t),sV 21 (.sl (t.B0.map L3)),sV 22 (j0 t.B0.length),sV 23 (j0 done.length)]) (rfl) ?_ ?_)
  ·intro done x rest hL B3 pW Z1;have I1:=E5 hL;have U2:=uE B3;have I8:=oZ U2;refine K5 ?_;refine N1 @B3 (P3 (QT t) (ih x U2 (p+H3 t.o0) oO oO oO)) ?_;by_cases hx:0<x.R2 (p+H3 t.o0)
   ·refine U1 @hx ?_;have:0<t.R2 p:=by rw[qE,hL,jy0];simp only[wJ.B5];omega
    exact aN @this
   ·refine W3 (wr []) tT @hx (Z1 (by rw[jy0,pW];simp only[wJ.B5];omega))
  ·intro pW;rw[pW]at qE;refine T7 ?_;exact O1 @qE H0
theorem rl0(t:Fm)(m:Int):cU 389 [t.dv,j0 m] (O2 (t.leastN m)):=by
 induction t using aU with
 | h t ih=>
 refine H2 Tryz.func389 ?_;intro X hP G0 hf X0 hn hR K1 G1;have hlen:=yX (G1 t.dv sS);refine N2 ?_;refine Q1 ?_;refine G2 [] tT (dB (t.M1) (fun done=>qN.leasts done m=true) (fun done rest=>[sV 1 (j0 m),sP 2,sL 2 (mB t),sV 10 (.sl (t.M1.map E3)),sV 11 (j0 t.M1.length),sV 12 (j0 done.length)]) (rfl) ?_ ?_)
 ·intro done x rest hL B3 hI Z1;have I1:=E5 hL;refine K5 ?_;refine N1 @B3 (M0 (WJ x m)) ?_;by_cases hx:x.leastN m=true;· refine W3 (wr []) tT @hx (Z1 (by rw[aS0,hI];simp[qN.leasts,hx]))
  ·refine U1 @hx ?_;refine N3 ?_;simp[go_sem,hP,G0,hn] <;> (try omega);rw[PI t,hL,aS0];simp[qN.leasts,hx]
 ·intro hI;refine T7 ?_;refine N2 ?_;refine Q1 ?_;refine G2 [] tT (dB (t.B0) (fun done=>PJ.leasts done m=true) (fun done rest=>[sV 1 (j0 m),sV 22 (.sl (t.B0.map L3)),sV 23 (j0 t.B0.length),sV 24 (j0 done.length)]) (rfl) ?_ ?_)
  ·intro done x rest hL B3 pW Z1;have I1:=E5 hL;have U2:=uE B3;refine K5 ?_;refine N1 @B3 (M0 (ih x U2)) ?_;by_cases hx:x.leastN m=true;· refine W3 (wr []) tT @hx (Z1 (by rw[Fm.leasts_append,pW];simp[PJ.leasts,hx]))
   ·refine U1 @hx ?_;refine N3 ?_;simp[go_sem,hP,G0,hn] <;> (try omega);rw[PI t,hL,Fm.leasts_append];simp[PJ.leasts,hx]
  ·intro pW;refine T7 ?_;exact O1 (j3 (PI t) @hI @pW) H0
theorem rm0(t:Fm)(g:List Ty)(hi:t.good 1073741824)(G0:g.length+t.A0<=1048576)(hg:∀x∈g,x.ok):cU 323 [.sl (g.map P1),t.dv] (j0 (t.typedN g)):=by
 induction t using aU generalizing g with
 | h t ih=>
 have N4:=sI t;have aQ:=(Lr t _).1 hi;have NO:=Fm.typedN_eq t g;refine H2 Tryz.func323 ?_;intro X hP G0 hf X0 hn hR K1 G1;have hlen:=yX (G1 t.dv sS);refine N2 ?_;refine Q1 ?_;refine G2 [] tT (dB (t.M1) (fun done=>kX done g=0) (fun done rest=>[sV 0 (.sl (g.map P1)),sP 3,sL 3 (mB t),sV 13 (.sl (t.M1.map E3)),sV 14 (j0 t.M1.length),sV 15 (j0 done.length)]) (rfl) ?_ ?_)
 ·intro done x rest hL B3 hI Z1;have I1:=E5 hL;have U2:=uE B3;have I8:=L9 U2;have X1:x.natE g≠0->t.typedN g=x.natE g:=by
   intro hx;have e1:kX t.M1 g=x.natE g:=by rw[hL,Tm.natEs_append,if_pos hI];simp[kX,hx]
   rw[NO,e1,if_neg hx]
  refine K5 ?_;refine N1 @B3 (M0 (bF0 x g oO (gV x (aQ.1 x U2).1) oO hg)) ?_;by_cases h1:(x.typedE g).2=0
  ·by_cases h2:(x.typedE g).1.o0=1;· refine W3 (wr []) tT (j2 @h1 @h2) (Z1 (by rw[Tm.natEs_append,if_pos hI];simp[kX,PL,h1,h2]))
   ·have e:x.natE g=7:=by unfold PL;rw[if_pos h1,if_neg h2]
    have e2:=X1 (by rw[e];decide);exact O1 (j4 @h1 @h2 @e2 @e) H0
  ·have e:x.natE g=(x.typedE g).2:=by unfold PL;rw[if_neg h1]
   have e2:=X1 (by rw[e];exact h1);exact O1 (j3 @h1 @e2 @e) H0
 ·intro hI;rw[if_pos hI]at NO;refine T7 ?_;refine N2 ?_;apply vF [sV 0 (.sl ((if H3 t.o0=1 then g++[t.I0] else g).map P1)),sP 3,sL 3 (mB t),sV 48 (j0 0),sV 47 (j0 t.B0.length),sV 46 (.sl (t.B0.map L3))]
  ·intro Q3;by_cases h1:H3 t.o0=1
   ·refine N1 @h1 (M0 (Lz t.o0)) ?_;have DB:g.length<=2147483647:=oO;refine U1 (j3 @h1 @CB @Ty.length_cells) ?_;refine m5 ?_;refine G2 [] @h1 Q3
   ·refine V3 @h1 (M0 (Lz t.o0)) ?_;refine m5 ?_;refine G2 [] @h1 Q3
  ·have HB:(if H3 t.o0=1 then g++[t.I0] else g).length<=g.length+1:=by split <;> simp
   have vQ:∀x∈(if H3 t.o0=1 then g++[t.I0] else g),x.ok:=by
    intro x hx;split at hx
    ·rename_i h1;rcases t6.1 hx with hx|hx;· exact hg x hx
     ·simp at hx;subst hx;exact aQ.2.1 h1
    ·exact hg x hx
   generalize (if H3 t.o0=1 then g++[t.I0] else g)=g2 at *;refine Q1 ?_;refine G2 [] tT (dB (t.B0) (fun done=>Cp.typeds done g2=0) (fun done rest=>[sV 0 (.sl (g2.map P1)),sV 46 (.sl (t.B0.map L3)),sV 47 (j0 t.B0.length),sV 48 (j0 done.length)]) (rfl) ?_ ?_)
   ·intro done x rest hL B3 pW Z1;have I1:=E5 hL;have U2:=uE B3;have I8:=oZ U2;refine K5 ?_;refine N1 @B3 (M0 (ih x U2 g2 (aQ.2.2.2 x U2) oO vQ)) ?_;by_cases hx:x.typedN g2=0;· refine W3 (wr []) tT @hx (Z1 (by rw[Fm.typeds_append,if_pos pW];simp[Cp.typeds,hx]))
    ·have e:t.typedN g=x.typedN g2:=by rw[NO,hL,Fm.typeds_append,if_pos pW];simp[Cp.typeds,hx]
     exact O1 (j2 @hx @e) H0
   ·intro pW;rw[pW]at NO;refine T7 ?_;exact O1 @NO H0
theorem VO:cU 255 [.agg [j0 0,.sl []]] (O2 true):=Qc (L0 0 [])
theorem sW(s t:Tm):(I3 s t).dv = .agg [j0 1,j0 0,.sl [],.sl [s.E0,t.E0],.sl []]:=rfl
theorem wU(k:Int)(a b:Fm):(U5 k a b).dv = .agg [j0 k,j0 0,.sl [],.sl [],.sl [a.E0,b.E0]]:=rfl
theorem dL(k:Int)(y:Ty)(a:Fm):(qF k y a).dv = .agg [j0 k,j0 y.o0,.sl (y.B0.map P1),.sl [],.sl [a.E0]]:=by
 show eM _=_;rw[Fm.cells_eq];rfl
theorem dT0(h:FDn Γ f):cU 246 [f.dv] (O2 true):=by
 induction h with
 | @eq Γ s t F G h1 h2=>
  have w1:=Qa s (gV s (Z5 h1));have w2:=Qa t (gV t (Z5 h2));rw[Z5 h1]at w1;rw[Z5 h2]at w2;have l1:=mM s;have l2:=mM t;rw[sW];exact B2 jz0 H0 (E8 VO w1 w2)
 | @two Γ k a b hk h1 h2 E9 T8=>
  have l1:=cX a;have l2:=cX b;rw[wU];refine A3 jz0 fun X zX=>?_;rcases hk with rfl|rfl;· exact O1 H0 (E8 VO E9 T8)
  ·exact O1 H0 (E8 VO E9 T8)
 | @q Γ k a f hk ha h ih=>
  have l1:=cX f;have wc:=Ea a.ty (by have:=(M9 ha).2;omega);rw[(wE _).2 (M9 ha)]at wc;have hq:H3 k=1:=by unfold H3;rw[if_pos hk]
  have wq:=Lz k;rw[hq]at wq;have h1:¬k=1:=oO;have h2:¬k=2:=oO;have h3:¬k=3:=oO;rw[dL];exact B2 jz0 (j3 @h1 @h2 @h3) (E8 wq wc ih)
theorem Gm(h:FDn Γ f)(hc:f.A0<=1073741824):cU 166 [f.dv] (j0 f.chk):=by
 refine H2 Tryz.func166 ?_;intro X hP G0 hf X0 hn hR K1 G1;refine N1 H0 (P3 (dT0 h) (QU f hc)) ?_;unfold wK at hR;by_cases h2:4096<f.A0;· exact O1 @h2 H0
 ·exact O1 @h2 H0
theorem rn0(h:FDn Γ f):∀m:Int,(Γ.length:Int)+f.A0<=m->f.leastN m=true:=by
 induction h with
 | @eq Γ s t F G h1 h2=>
  intro m hm;have hc:(I3 s t).A0=1+(s.A0+(t.A0+0))+0:=rfl;rw[PI];simp[I3,mN,lP,qN.leasts,PJ.leasts,gW h1 m oO,gW h2 m oO]
 | @two Γ k a b hk h1 h2 E9 T8=>
  intro m hm;have hc:(U5 k a b).A0=1+0+(a.A0+(b.A0+0)):=rfl;rw[PI];simp[U5,mN,lP,qN.leasts,PJ.leasts,E9 m oO,T8 m oO]
 | @q Γ k a f hk ha h ih=>
  intro m hm;have hc:(qF k a.ty f).A0=1+0+(f.A0+0):=rfl;rw[PI];simp[qF,mN,lP,qN.leasts,PJ.leasts,ih m (by simp only[B4];omega)]
def m4:Fm:=.mk 0 (L0 0 []) [] []
end
section
theorem ro0{a:Tm}{s:T}{F G:Q0 Γ->s.V}(ha:Dn Γ a s F)(hb:Dn Γ b s G)(N5:Γ.length<=1000000)(ca:a.A0<=1000000)(cb:b.A0<=1000000):cU 322 [a.dv,b.dv,j0 1000] (j0 (a.matchE b 1000)):=by
 have wa:=IB a (gV a (Z5 ha)) oO;have wb:=IB b (gV b (Z5 hb)) oO;have ws:=bM0 a b;have Dt:=bM0 (aV 1000 a 0).1 (aV 1000 b 0).1
 have na:a.L4=0->cU 367 [a.dv,j0 1000] (.H1 [(aV 1000 a 0).1.dv,j0 (aV 1000 a 0).2.1,j0 (aV 1000 a 0).2.2]):=fun h=>
  dP0 a 1000 (gV a (Z5 ha)) (gW ha _ oO) dD (MN N5 1000 ha ((lO a).1 h).2)
 have nb:b.L4=0->cU 367 [b.dv,j0 1000] (.H1 [(aV 1000 b 0).1.dv,j0 (aV 1000 b 0).2.1,j0 (aV 1000 b 0).2.2]):=fun h=>
  dP0 b 1000 (gV b (Z5 hb)) (gW hb _ oO) dD (MN N5 1000 hb ((lO b).1 h).2)
 have hm:=Tm.matchE.eq_1 a b 1000;generalize a.matchE b 1000=m at *;generalize aV 1000 a 0=la at *;generalize aV 1000 b 0=lb at *;obtain⟨ua,va,ea⟩:=la;obtain⟨ub,vb,eb⟩:=lb;simp only at Dt na nb hm;refine A3 Tryz.func322 fun X zX=>?_;refine N1 H0 (M0 wa) ?_;by_cases h1:a.L4=0;rotate_left
 ·rw[if_neg h1]at hm;exact O1 (j2 @h1 @hm) H0
 rw[if_pos h1]at hm;refine N1 @h1 (M0 wb) ?_;by_cases h2:b.L4=0;rotate_left
 ·rw[if_neg h2]at hm;exact O1 (j2 @h2 @hm) H0
 rw[if_pos h2]at hm;refine U1 @h2 ?_;by_cases h3:a.same b=true
 ·rw[if_pos h3]at hm;exact O1 (j2 @h3 @hm) (M0 ws)
 rw[if_neg h3]at hm;have h3:a.same b=false:=by simpa using h3
 refine N1 @h3 (P3 ws (na h1)) ?_;by_cases h4:ea=0;rotate_left
 ·rw[if_neg h4]at hm;exact O1 (j2 @h4 @hm) H0
 rw[if_pos h4]at hm;refine N1 @h4 (M0 (nb h2)) ?_;by_cases h5:eb=0;rotate_left
 ·rw[if_neg h5]at hm;exact O1 (j2 @h5 @hm) H0
 rw[if_pos h5]at hm;refine U1 @h5 ?_;by_cases h6:ua.same ub=true
 ·rw[if_pos h6]at hm;exact O1 (j2 @h6 @hm) (M0 Dt)
 ·rw[if_neg h6]at hm;have h6:ua.same ub=false:=by simpa using h6
  exact O1 (j2 @h6 @hm) (M0 Dt)
theorem mv0(a:Tm)(n:Nat)(h:a.shape=true):a.matchE a n=0\/a.matchE a n=4:=by
 unfold Tm.matchE;by_cases h1:a.L4=0;· rw[if_pos h1,if_pos h1,if_pos ((Tm.same_iff a a).2 rfl)];exact .inl rfl
 ·rw[if_neg h1]
  right
  unfold AV at h1 ⊢;rw[if_pos h]at h1 ⊢;split at h1;· rename_i h2;rw[if_pos h2]
  ·exact absurd rfl h1
def S5(a b:Int):Int:=if a=0 then b else a
theorem aW{a b:Int}(h:S5 a b=0):a=0/\b=0:=by
 unfold S5 at h;split at h;· rename_i h1;exact⟨h1,h⟩
 ·rename_i h1;exact absurd h h1
theorem tD{p:Int->Prop}{a b:Int}(ha:p a)(hb:p b):p (S5 a b):=by unfold S5;split <;> assumption
def s6(e:Int):Prop:=e=0\/e=3\/e=4\/e=5
theorem Bw(f:Fm):s6 f.chk:=by unfold wK s6;split <;> simp
def Fm.cs(t:Fm):List DV:=[j0 t.o0,j0 t.I0.o0,.sl (t.I0.B0.map P1),.sl (t.M1.map E3),.sl (t.B0.map L3)]
@[go_sem] theorem Fm.cs_eq (t:Fm):t.cs=[j0 t.o0,j0 t.I0.o0,.sl (t.I0.B0.map P1),.sl (t.M1.map E3),.sl (t.B0.map L3)]:=rfl
def zE{α:Type}(f:α->α->Int):List α->List α->Int
 | a::r,b::s=>S5 (f a b) (zE f r s)
 | _,_=>0
theorem Nj{α:Type}{f:α->α->Int}{x y:α}:∀{done bs:List α},zE f done bs=0->bs[done.length]? = some y->f x y=0->zE f (done++[x]) bs=0
 | [],b::s,_,hy,h=>by simp at hy;subst hy;simp[zE,S5,h]
 | [],[],_,hy,_=>by simp at hy
 | a::r,[],_,hy,_=>by simp at hy
 | a::r,b::s,h0,hy,h=>by
  obtain⟨h1,h2⟩:=aW h0;simp only[R6,zE,S5,h1,if_true];exact Nj h2 (by simpa using hy) h
theorem MT{α:Type}{f:α->α->Int}{x y:α}{rest:List α}:∀{done bs:List α},zE f done bs=0->bs[done.length]? = some y->f x y≠0->zE f (done++x::rest) bs=f x y
 | [],b::s,_,hy,h=>by simp at hy;subst hy;simp[zE,S5,h]
 | [],[],_,hy,_=>by simp at hy
 | a::r,[],_,hy,_=>by simp at hy
 | a::r,b::s,h0,hy,h=>by
  obtain⟨h1,h2⟩:=aW h0;simp only[R6,zE,S5,h1,if_true];exact MT h2 (by simpa using hy) h
theorem fq0{α:Type}{f:α->α->Int}{l:List α}(h:∀a∈l,s6 (f a a)):s6 (zE f l l):=by
 induction l with
 | nil=>exact .inl rfl
 | cons a r ih=>exact tD (h a sS) (ih fun x hx=>h x (by simp[hx]))
abbrev Ko(s t:Tm):Int:=s.matchE t 1000
namespace Fm
def matE:Fm->Fm->Int
 | .mk k y ts az,.mk k' y' ts' bs=>if k=k'/\y.same y' = true then S5 (zE Ko ts ts') (go az bs) else 11
where go:List Fm->List Fm->Int
 | a::r,b::s=>S5 (a.matE b) (go r s)
 | _,_=>0
theorem matE_eq(a b:Fm):a.matE b=if a.o0=b.o0/\a.I0.same b.I0=true then S5 (zE Ko a.M1 b.M1) (zE matE a.B0 b.B0) else 11:=by
 have key:∀l m:List Fm,matE.go l m=zE matE l m:=by
  intro l
  induction l with
  | nil=>intro m;cases m <;> rfl
  | cons a r ih=>
   intro m;cases m with
   | nil=>rfl
   | cons b s=>simp only[matE.go,zE,ih]
 cases a;cases b;simp only[matE,key];rfl
theorem len_counts(l:List Fm):l.length<=A0.Z0 l:=by
 induction l with
 | nil=>exact I5 0
 | cons a r ih=>have:=a.count_eq;simp only[B4,A0.Z0];omega
end Fm
theorem vS0{a:Fm}(h:FDn Γ a):s6 (a.matE a):=by
 have key:∀f:Fm,(∀t∈f.M1,t.shape=true)->(∀x∈f.B0,s6 (x.matE x))->s6 (f.matE f):=fun f h1 h2=>by
  rw[Fm.matE_eq,if_pos ⟨rfl,(y9 _ _).2 rfl⟩];exact tD (fq0 fun t ht=>(mv0 t 1000 (h1 t ht)).elim .inl fun h=>.inr (.inr (.inl h))) (fq0 h2)
 induction h with
 | eq h1 h2=>exact key _ (by simp[I3,mN,Z5 h1,Z5 h2]) (by simp[I3,lP])
 | two hk h1 h2 i1 i2=>exact key _ (by simp[U5,mN]) (by simp[U5,lP,i1,i2])
 | q hk hs h i=>exact key _ (by simp[qF,mN]) (by simp[qF,lP,i])
theorem dU0{a b:Fm}(ha:FDn Γ a)(hb:FDn Γ b)(hk:a.o0=b.o0)(ht:a.I0=b.I0):a.M1.length=b.M1.length/\(∀(i:Nat) s t,a.M1[i]? = some s->b.M1[i]? = some t->∃q F G,Dn Γ s q F/\Dn Γ t q G)/\a.B0.length=b.B0.length /\
  ∃Δ:List T,Δ.length<=Γ.length+1/\∀(i:Nat) x y,a.B0[i]? = some x->b.B0[i]? = some y->FDn Δ x/\FDn Δ y:=by
 cases ha with
 | eq h1 h2=>
  cases hb with
  | eq g1 g2=>
   refine⟨rfl,fun i s t h h'=>?_,rfl,Γ,oO,fun i x y h=>by simp[I3,lP]at h⟩;simp only[I3,mN]at h h'
   match i with
   | 0=>simp at h h';subst h h';exact⟨_,_,_,h1,g1⟩
   | 1=>simp at h h';subst h h';exact⟨_,_,_,h2,g2⟩
   | n+2=>simp at h
  | two Y5 _ _=>exfalso;simp[I3,U5,cM]at hk;omega
  | q Y5 _ _=>exfalso;simp[I3,qF,cM]at hk;omega
 | two Y5 h1 h2=>
  cases hb with
  | eq g1 g2=>exfalso;simp[I3,U5,cM]at hk;omega
  | q HH _ _=>exfalso;simp[U5,qF,cM]at hk;omega
  | two HH g1 g2=>
   refine⟨rfl,fun i x y h=>by simp[U5,mN]at h,rfl,Γ,oO,fun i s t h h'=>?_⟩;simp only[U5,lP]at h h'
   match i with
   | 0=>simp at h h';subst h h';exact⟨h1,g1⟩
   | 1=>simp at h h';subst h h';exact⟨h2,g2⟩
   | n+2=>simp at h
 | @q _ k r z Y5 hs h=>
  cases hb with
  | eq g1 g2=>exfalso;simp[I3,qF,cM]at hk;omega
  | two HH _ _=>exfalso;simp[U5,qF,cM]at hk;omega
  | @q _ k' r' z' HH W9 g=>
   have o9:=eN (show _=_ from ht);subst o9;refine⟨rfl,fun i x y h=>by simp[qF,mN]at h,rfl,r::Γ,I5 _,fun i s t h1 h2=>?_⟩;simp only[qF,lP]at h1 h2
   match i with
   | 0=>simp at h1 h2;subst h1 h2;exact⟨h,g⟩
   | n+1=>simp at h1
theorem rp0(a:Fm):∀{Γ:List T},FDn Γ a->Γ.length+a.A0<=1000000->∀b,FDn Γ b->Γ.length+b.A0<=1000000->cU 251 [a.dv,b.dv] (j0 (a.matE b)):=by
 induction a using aU with
 | h a ih=>
 intro Γ ha ca b hb cb;have wt:=gU a.I0 b.I0;have e:=a.matE_eq b;refine A3 Tryz.func251 fun X zX=>?_;refine E4 (bx [1000002,1000003]) tT ?_;by_cases hk:a.o0=b.o0;rotate_left;· exact O1 (j2 @hk @e) H0
 by_cases ht:a.I0.same b.I0=true;rotate_left
 ·have ht:a.I0.same b.I0=false:=by simpa using ht
  rw[if_neg (by simp[ht])]at e;exact O1 (j3 @hk @ht @e) (M0 wt)
 obtain⟨p1,p2,p3,Δ,p4,p5⟩:=dU0 ha hb hk ((y9 _ _).1 ht);rw[if_pos ⟨hk,ht⟩]at e;have ea:=a.count_eq;have eb:=b.count_eq;have h1:=Lt a.M1;have h2:=Fm.len_counts a.B0;refine V3 (j2 @hk @ht) (M0 wt) ?_;refine Q1 ?_;refine G2 [] tT (dB (a.M1) (fun done=>zE Ko done b.M1=0) (fun done rest=>[sV 2 (.ref a.cs),sV 3 (.ref b.cs),sV 24 (j0 a.M1.length),sV 25 (j0 done.length)]) (rfl) ?_ ?_)
 ·intro done x rest hL hg hI Z1;have I1:=E5 hL;obtain⟨y,hy⟩:∃y,b.M1[done.length]? = some y:=⟨_,uB oO⟩;obtain⟨q,F,G,g1,g2⟩:=p2 _ x y hg hy;have c1:=L9 (uE hg);have c2:=L9 (uE hy);have w:=ro0 g1 g2 oO oO oO;refine N1 (j2 @hg @hy) (M0 w) ?_;by_cases hz:x.matchE y 1000=0;· refine W3 (wr []) tT @hz (Z1 (Nj hI hy hz))
  ·rw[hL,MT hI hy hz,S5,if_neg (show Ko x y≠0 from hz)]at e;exact O1 (j2 @hz @e) H0
 ·intro hI;rw[hI,S5,if_pos rfl]at e;refine N2 ?_;refine Q1 ?_;refine G2 [] tT (dB (a.B0) (fun done=>zE Fm.matE done b.B0=0) (fun done rest=>[sV 2 (.ref a.cs),sV 3 (.ref b.cs),sV 45 (j0 a.B0.length),sV 46 (j0 done.length)]) (rfl) ?_ ?_)
  ·intro done x rest hL hg hI Z1;have I1:=E5 hL;obtain⟨y,hy⟩:∃y,b.B0[done.length]? = some y:=⟨_,uB oO⟩;obtain⟨g1,g2⟩:=p5 _ x y hg hy;have U2:=uE hg;have c1:=oZ U2;have c2:=oZ (uE hy);have w:=ih x U2 g1 oO y g2 oO;refine N1 (j2 @hg @hy) (M0 w) ?_;by_cases hz:x.matE y=0;· refine W3 (wr []) tT @hz (Z1 (Nj hI hy hz))
   ·rw[hL,MT hI hy hz]at e;exact O1 (j2 @hz @e) H0
  ·intro hI;rw[hI]at e;exact O1 @e H0
def Fm.MatE(a b:Fm):Int:=S5 a.chk (S5 b.chk (a.matE b))
theorem eI0{a b:Fm}(h:FDn Γ a)(e:a=b):s6 (a.MatE b):=by subst e;exact tD (Bw a) (tD (Bw a) (vS0 h))
theorem dV0{a b:Fm}(ha:FDn Γ a)(hb:FDn Γ b)(ca:Γ.length+a.A0<=1000000)(cb:Γ.length+b.A0<=1000000):cU 181 [a.dv,b.dv] (j0 (a.MatE b)):=by
 have w:=rp0 a ha ca b hb cb;unfold Fm.MatE;have w1:=Gm ha oO;have w2:=Gm hb oO;unfold S5;generalize a.chk=e1 at *;generalize b.chk=e2 at *;generalize a.matE b=e at *;refine H2 Tryz.func181 ?_;intro X hP G0 hf X0 hn hR K1 G1;by_cases q1:e1=0;rotate_left
 ·rw[if_neg q1]at hR;exact O1 @q1 (M0 w1)
 rw[if_pos q1]at hR;by_cases q2:e2=0;rotate_left
 ·rw[if_neg q2]at hR;exact O1 (j2 @q1 @q2) (P3 w1 w2)
 rw[if_pos q2]at hR;exact O1 (j2 @q1 @q2) (E8 w1 w2 w)
end
section
theorem vT0(n:Nat)(i d:Int)(h:i<=536870912):cT 276 [j0 i,j0 d,M3 n] [(n,[O2 true])] (.H1 []) [(n,[O2 true])]:=by
 refine A3 Tryz.func276 fun X zX=>?_;refine U1 @h ?_;exact s7 [(n,[O2 true])] tT
theorem Wp(t:Tm)(ht:Gd t)(hc:t.A0<=1000000)(hl:t.leastN 536870912=true):cU 193 [t.dv] (O2 true):=by
 have w:=fun n=>Xu (n:=n) (f:=276) (cs:=[M3 n]) (enc:=fun _:Unit=>O2 true) (S0:=fun _ _ x=>x) (P:=fun t _ _=>t.idx 536870912) (fun _ _ _ _=>rfl) (fun t d x h l a r e=>((oX t _).1 h).2 a (by rw[e];simp)) (fun t d x h1 hd h=>vT0 n t.O0 d ((oX t _).1 h).1.2) t () hc (sF t _ ht.1 hl);refine H2 Tryz.func193 ?_;intro X hP G0 hf X0 hn hR K1 G1;refine E4 (bx [1000001]) tT ?_;refine K2 ?_;refine fG 3 (by simp[go_sem];rfl) ?_;intro b hb;simp[go_sem]at hb ⊢;refine Q1 ?_;refine O9 [5] fun K hK=>?_;simp[go_sem,hP,G0,hn];refine Ju (by simp[go_sem];rfl) nN rfl ?_;simp[go_sem];refine Z7 tT (w b) ?_;refine K4 ?_;clear hK K;exact O1 H0 H0
def tI(p:Int)(t:Tm)(d:Int)(n:Nat):Nat:=if t.o0=1/\t.O0=p+d then n+1 else n
theorem dW0(p:Int)(t:Tm):∀(d:Int) (n:Nat),tC (tI p) t d n=n+t.R2 (p+d):=by
 induction t using m7 with
 | h t ih=>
 intro d n;have key:∀l:List Tm,(∀a∈l,a∈t.B0)->∀n,pF (tI p) l (d+W2 t.o0) n=n+t8.B5 l (p+d+W2 t.o0):=by
  intro l
  induction l with
  | nil=>intro _ n;rfl
  | cons a r l6=>
   intro h n;show pF (tI p) r _ (tC (tI p) a _ n)=_;rw[l6 (fun b hb=>h b (by simp[hb])),ih a (h a sS),t8.B5,DW];omega
 rw[WO,key _ fun _ h=>h,DU];unfold tI;split <;> omega
theorem rq0(n:Nat)(i d p:Int)(c:Nat)(hc:c<=1000000000)(hi:0<=i/\i<=1099511627776)(hd:0<=d/\d<=1099511627776):cT 373 [j0 i,j0 d,.ref [j0 p],M3 n] [(n,[j0 (c:Nat)])] (.H1 []) [(n,[j0 ((if i=p+d then c+1 else c:Nat):Int)])]:=by
 refine A3 Tryz.func373 fun X zX=>?_;by_cases h:i=p+d
 ·have h':i - d=p:=oO;exact v8 [(n,[j0 ((c+1:Nat):Int)])] (j2 @h' @h) H0
 ·have h':¬i - d=p:=oO;exact v8 [(n,[j0 (c:Int)])] (j2 @h' @h) H0
theorem ow0(t:Tm)(p:Int)(ht:Gd t)(hc:t.A0<=1000000):cU 343 [t.dv,j0 p] (j0 (t.R2 p)):=by
 have w:=fun n=>Xu (n:=n) (f:=373) (cs:=[.ref [j0 p],M3 n]) (enc:=fun c:Nat=>j0 c) (S0:=tI p) (P:=fun t d c=>Gd t/\d<=1000000/\d+t.A0<=1000000/\c+t.A0<=1000000) (fun t d x h=>if_neg fun q=>h q.1) (fun t d x h l a r e=>by
   have h1:=V6 t;have h2:=lT t.o0;have h3:D3.Z0 t.B0=D3.Z0 l+(a.A0+D3.Z0 r):=by rw[e,gR];rfl
   have key:∀(l:List Tm) (n:Nat),pF (tI p) l (d+W2 t.o0) n<=n+D3.Z0 l:=by
    intro l
    induction l with
    | nil=>intro n;exact I5 _
    | cons a r l6=>
     intro n;have q1:=l6 (tC (tI p) a (d+W2 t.o0) n);have q2:=dW0 p a (d+W2 t.o0) n;have q3:=FR a (p+(d+W2 t.o0));show pF (tI p) r _ (tC (tI p) a _ n)<=_;simp only[D3.Z0];omega
   have h4:=key l (tI p t d x);have h5:tI p t d x<=x+1:=by unfold tI;split <;> omega
   exact⟨h.1.arg a (by rw[e];simp),oO,oO,oO⟩) (fun t d x h1 hd h=>by
   have w:=rq0 n t.O0 d p x oO (h.1.var h1).2 oO;unfold tI;simp only[h1,true_and];exact w) t 0 hc ⟨ht,dD,oO,oO⟩
 simp only[dW0,sE,G8]at w;refine A3 Tryz.func343 fun X zX=>?_;refine E4 (bx [1000002,1000003]) tT ?_;refine K2 ?_;refine fG 5 (by simp[go_sem];rfl) ?_;intro b hb;simp[go_sem]at hb ⊢;exact O1 H0 (M0 (w b))
theorem c90(k:Int):cU 223 [j0 k] (O2 (decide (H3 k=1))):=by
 have e:decide (H3 k=1)=(decide (4<=k)&&decide (k<=7)):=by unfold H3;by_cases h1:4<=k <;> by_cases h2:k<=7 <;> simp[h1,h2] <;> omega
 refine A3 Tryz.func223 fun X zX=>?_;by_cases h:4<=k;· exact O1 (j2 @h @e) H0
 ·exact O1 (j2 @h @e) H0
def Fm.rb(R:Tm->Int->Tm):Fm->Int->Fm
 | .mk k y ts us,d=>.mk k y (ts.map fun t=>R t d) (go us (d+H3 k))
where
 go:List Fm->Int->List Fm
  | [],_=>[]
  | a::r,d=>rb R a d::go r d
theorem Fm.rb_go(R:Tm->Int->Tm)(l:List Fm)(d:Int):Fm.rb.go R l d=l.map fun a=>a.rb R d:=by
 induction l with
 | nil=>rfl
 | cons a r ih=>simp[Fm.rb.go,ih]
theorem Fm.rb_eq(R:Tm->Int->Tm)(f:Fm)(d:Int):f.rb R d = .mk f.o0 f.I0 (f.M1.map fun t=>R t d) (f.B0.map fun a=>a.rb R (d+H3 f.o0)):=by cases f;rw[Fm.rb,Fm.rb_go];rfl
inductive AllT (P:Tm->Int->Prop):Fm->Int->Prop
 | mk {f:Fm} {d:Int} (h1:∀t∈f.M1,P t d) (h2:∀a∈f.B0,AllT P a (d+H3 f.o0)):AllT P f d
theorem AllT.t{P:Tm->Int->Prop}{f:Fm}{d:Int}(h:AllT P f d):(∀t∈f.M1,P t d)/\∀a∈f.B0,AllT P a (d+H3 f.o0):=by cases h with|mk h1 h2=>exact⟨h1,h2⟩
def zF:List SV:=[.v (j0 0),.v (j0 0),.own 0 [],.own 0 [],.own 0 []]
@[go_sem] theorem GD0:zF=[.v (j0 0),.v (j0 0),.own 0 [],.own 0 [],.own 0 []]:=rfl
theorem XS{f:FuncId}{cs:List DV}{R:Tm->Int->Tm}{P:Tm->Int->Prop}(hv:∀t d,0<=d->P t d->cT f ([t.dv,j0 d]++cs) [] (R t d).dv [])(t:Fm)(d:Int)(hd:0<=d)(hc:d+t.A0<=1099511627776)(ht:AllT P t d) :
  cU 133 [t.dv,j0 d,.m6 f cs] (t.rb R d).dv:=by
 induction t using aU generalizing d with
 | h t ih=>
 have N4:=sI t;have kE:=rA t.o0;have e:=Fm.rb_eq R t d;have wq:=c90 t.o0;rw[e];refine H2 Tryz.func133 ?_;intro X hP G0 hf X0 hn hR K1 G1;obtain⟨gQ,fU⟩:=yX (G1 t.dv sS);refine E4 (bx [1000003]) tT ?_;refine V3 H0 (M0 (IN t.I0)) ?_;refine Q1 ?_;refine G2 [(1007,0)] tT (y7 (t.M1) (fun done rest=>[sV 21 (j0 done.length),sV 20 (j0 t.M1.length),sV 19 (.sl (t.M1.map E3)),sV 1 (j0 d),sV 2 (.m6 f cs),sV 3 (.ref t.cs),sP 7,sL 7 [.v (j0 t.o0),.v (j0 t.I0.o0),.v (.sl (t.I0.B0.map P1)),.own 1007 (done.map fun a=>(R a d).E0),.own 0 []],(.tok 1007,.tk 5 done.length),sP 6,sL 6 (zF)]) ?_ ?_)
 ·intro done x rest hL hg Z1;have I1:=E5 hL;have w:=hv x d hd (ht.t.1 x (uE hg));refine N1 @hg (M0 w) ?_;refine W3 (wr [(1007,32)]) tT tT Z1
 refine N1 H0 (M0 wq) ?_;by_cases h2:H3 t.o0=1
 all_goals
  have h3:H3 t.o0=1\/H3 t.o0=0:=oO;have h4:¬H3 t.o0=1->H3 t.o0=0:=fun h=>h3.resolve_left h;simp only[h2,not_true_eq_false,not_false_eq_true,true_implies,false_implies]at h4;refine U1 @h2 ?_;refine Q1 ?_;refine G2 [(1017,0)] (j2 @h2 @h4) (y7 (t.B0) (fun done rest=>[sV 43 (j0 done.length),sV 42 (j0 t.B0.length),sV 41 (.sl (t.B0.map L3)),sV 1 (j0 (d+H3 t.o0)),sV 2 (.m6 f cs),sP 7,sL 7 [.v (j0 t.o0),.v (j0 t.I0.o0),.v (.sl (t.I0.B0.map P1)),.v (.sl (t.M1.map fun a=>(R a d).E0)),.own 1017 (done.map fun a=>(a.rb R (d+H3 t.o0)).E0)],(.tok 1017,.tk 5 done.length),sP 6,sL 6 (zF)]) ?_ ?_)
  ·intro done x rest hL hg Z1;have I1:=E5 hL;have U2:=uE hg;have gJ:=oZ U2;have w:=ih x U2 (d+H3 t.o0) oO oO (ht.t.2 x U2);refine N1 @hg (M0 w) ?_;refine W3 (wr [(1017,54)]) tT tT Z1
  ·refine N2 ?_;refine N3 ?_;simp[go_sem,hP,G0,hn] <;> (try omega);all_goals exact f9
theorem zg0{P:Program}{f g:FuncId}{pre post:List DV}{φ I2:G3}{r:DV}(h:P8 P gl f (pre++.m6 g []::post) φ r I2):P8 P gl f (pre++.K0 (.func (.func g) #[] #[])::post) φ r I2:=by
 refine⟨h.1,fun D w vs dX hs hv hh=>h.2 D w vs dX (by simpa using hs) (fun i x v hx hvi=>?_) hh⟩;by_cases h1:i<pre.length
 ·rw[cJ h1]at hx;exact hv i x v (by rw[cJ h1];exact hx) hvi
 ·have h1:pre.length<=i:=oO;rw[cK h1]at hx;have hv:=fun y hy=>hv i y v (by rw[cK h1];exact hy) hvi;cases hj:i - pre.length with
  | zero=>
   rw[hj]at hx hv;cases hx;have:=(X6 (hv _ rfl)).1;subst this;exact .m6 g [] #[] rfl fun i c v hc=>by simp at hc
  | succ j=>rw[hj]at hx hv;exact hv x hx
theorem IX{P:Tm->Int->Prop}(f:Fm):∀d:Int,f.good 1073741824->(∀t d',d<=d'->d'+t.A0<=d+f.A0->Gd t->P t d')->AllT P f d:=by
 induction f using aU with
 | h f ih=>
 intro d hf hp;have hc:=sI f;have hb:=rA f.o0;have hg:=(Lr f _).1 hf;refine .mk (fun t ht=>hp t d (Iu _) ?_ ⟨(hg.1 t ht).1,Lm dD (hg.1 t ht).2⟩) fun a ha=>ih a ha _ (hg.2.2.2 a ha) fun t d' h1 h2 h3=>hp t d' oO ?_ h3;· have:=L9 ht;omega
 ·have:=oZ ha;omega
theorem ER0(f:Fm)(p k:Int):∀d:Int,f.rb (fun t d=>t.V0 (p+d) k) d=f.V0 (p+d) k:=by
 induction f using aU with
 | h f ih=>
 intro d;rw[Fm.rb_eq,tY]
 congr 1
 exact kW fun a ha=>by rw[ih a ha,DW]
theorem ES0(f:Fm)(p:Int)(s:Tm):∀d:Int,f.rb (fun t d=>t.Y1 0 (p+d) s) d=f.Y1 0 (p+d) s:=by
 induction f using aU with
 | h f ih=>
 intro d;rw[Fm.rb_eq,Fm.inN_eq]
 congr 1
 exact kW fun a ha=>by rw[ih a ha,DW]
theorem zh0(t s:Tm):∀p d:Int,t.Y1 p d s=t.Y1 0 (p+d) s:=by
 induction t using m7 with
 | h t ih=>
 intro p d;rw[nR,nR t,Int.zero_add]
 congr 2
 exact kW fun a ha=>by rw[ih a ha p,DW]
theorem ET0(f:Fm):∀d:Int,f.rb (fun t _=>t) d=f:=by
 induction f using aU with
 | h f ih=>
 intro d;rw[Fm.rb_eq];have:(f.B0.map fun a=>a.rb (fun t _=>t) (d+H3 f.o0))=f.B0:=by
  conv=>rhs;rw[<- yW f.B0]
  exact kW fun a ha=>ih a ha _
 rw[this,List.map_id'];exact Fm.eta f
theorem Rz(f:Fm)(p k:Int)(hf:f.good 1073741824)(hc:f.A0<=900000)(hp:0<=p/\p<=1000000)(hk:0<=k/\k<=1000000):cU 111 [f.dv,j0 p,j0 k] (f.V0 p k).dv:=by
 have wc:∀(t:Tm) (d:Int),0<=d->(Gd t/\d+t.A0<=1000000)->cU 194 ([t.dv,j0 d]++[.ref [j0 p],.ref [j0 k]]) (t.V0 (p+d) k).dv:=by
  intro t d hd h;have w:=dR0 t (p+d) k h.1 oO oO oO;generalize t.V0 (p+d) k=u at *;refine H2 Tryz.func194 ?_;intro X hP G0 hf X0 hn hR K1 G1;refine E4 (bx [1000004]) tT ?_;exact O1 H0 (M0 w)
 have w:=XS wc f 0 (Iu 0) oO (IX f 0 hf fun t d h1 h2 h3=>⟨h3,oO⟩);rw[ER0,sE]at w;generalize f.V0 p k=u at *;refine H2 Tryz.func111 ?_;intro X hP G0 hf X0 hn hR K1 G1;refine E4 (bx [1000003,1000004,1000005]) tT ?_;exact O1 H0 (M0 w)
theorem RT(f:Fm)(p:Int)(s:Tm)(hf:f.good 1073741824)(hc:f.A0<=400000)(hp:0<=p/\p<=400000)(hs:(Gd s/\s.A0<=1000000)\/f.R2 p=0):cU 286 [f.dv,j0 p,s.dv] (f.Y1 0 p s).dv:=by
 have u4:∀(f:Fm) (d:Int),f.R2 (p+d)=0->AllT (fun t d=>t.R2 (p+d)=0) f d:=by
  intro f
  induction f using aU with
  | h f ih=>
  intro d h;rw[Uy]at h;have k1:∀l:List Tm,t8.B5 l (p+d)=0->∀a∈l,a.R2 (p+d)=0:=by
   intro l
   induction l with
   | nil=>intro _ a ha;cases ha
   | cons x r l6=>
    intro h a ha;simp only[t8.B5]at h;rcases u5.1 ha with rfl|ha;· omega
    ·exact l6 oO a ha
  have k2:∀l:List Fm,wJ.B5 l (p+d+H3 f.o0)=0->∀a∈l,a.R2 (p+d+H3 f.o0)=0:=by
   intro l
   induction l with
   | nil=>intro _ a ha;cases ha
   | cons x r l6=>
    intro h a ha;simp only[wJ.B5]at h;rcases u5.1 ha with rfl|ha;· omega
    ·exact l6 oO a ha
  refine .mk (k1 _ oO) fun a ha=>ih a ha _ ?_;rw[<- DW];exact k2 _ oO a ha
 have hboth:AllT (fun t d=>(Gd t/\d+t.A0<=400000/\0<=d)/\((Gd s/\s.A0<=1000000)\/t.R2 (p+d)=0)) f 0:=by
  have h1:=IX (P:=fun t d=>Gd t/\d+t.A0<=400000/\0<=d) f 0 hf fun t d h1 h2 h3=>⟨h3,oO,h1⟩;rcases hs with hs|hs;· exact IX f 0 hf fun t d h1 h2 h3=>⟨⟨h3,oO,h1⟩,.inl hs⟩
  ·have h2:=u4 f 0 (by simpa using hs);have key:∀(f:Fm) (d:Int),AllT (fun t d=>Gd t/\d+t.A0<=400000/\0<=d) f d->AllT (fun t d=>t.R2 (p+d)=0) f d->AllT (fun t d=>(Gd t/\d+t.A0<=400000/\0<=d)/\((Gd s/\s.A0<=1000000)\/t.R2 (p+d)=0)) f d:=by
    intro f
    induction f using aU with
    | h f ih=>
    intro d a b;exact .mk (fun t ht=>⟨a.t.1 t ht,.inr (b.t.1 t ht)⟩) fun x hx=>ih x hx _ (a.t.2 x hx) (b.t.2 x hx)
   exact key f 0 h1 h2
 have wc:∀(t:Tm) (d:Int),0<=d->((Gd t/\d+t.A0<=400000/\0<=d)/\((Gd s/\s.A0<=1000000)\/t.R2 (p+d)=0))->cU 344 ([t.dv,j0 d]++[.ref [j0 p],.ref s.cs]) (t.Y1 0 (p+d) s).dv:=by
  intro t d hd h;have w:=vQ0 t s (p+d) h.1.1 oO oO h.2;rw[zh0,sE]at w;generalize t.Y1 0 (p+d) s=u at *;refine H2 Tryz.func344 ?_;intro X hP G0 hf X0 hn hR K1 G1;refine E4 (bx [1000004]) tT ?_;exact O1 H0 (M0 w)
 have w:=XS wc f 0 (Iu 0) oO hboth;rw[ES0,sE]at w;rw[Tm.cs_eq]at w;generalize f.Y1 0 p s=u at *;refine H2 Tryz.func286 ?_;intro X hP G0 hf X0 hn hR K1 G1;refine E4 (bx [1000003,1000004,1000005]) tT ?_;exact O1 H0 (M0 w)
theorem zi0(f:Fm)(hf:f.good 1073741824)(hc:f.A0<=400000):cU 42 [f.dv] f.dv:=by
 have wc:∀(t:Tm) (d:Int),0<=d->True->cU 134 ([t.dv,j0 d]++[]) t.dv:=by
  intro t d hd _;have w:=vN0 t;show P8 _ _ _ [t.dv,j0 d] _ _ _;refine H2 Tryz.func134 ?_;intro X hP G0 hf X0 hn hR K1 G1;refine E4 (bx [1000002]) tT ?_;exact O1 H0 (M0 w)
 have w:=XS (R:=fun t _=>t) (P:=fun _ _=>True) wc f 0 (Iu 0) oO (IX f 0 hf fun _ _ _ _ _=>trivial);rw[ET0]at w;have w:=zg0 (pre:=[f.dv,j0 0]) (post:=[]) w;simp only[R6,aT]at w;refine H2 Tryz.func42 ?_;intro X hP G0 hf X0 hn hR K1 G1;refine E4 (bx [1000001]) tT ?_;exact O1 H0 (M0 w)
def kP(S0:Tm->Int->Nat->Nat):Fm->Int->Nat->Nat
 | .mk k _ ts us,d,x=>go us (d+H3 k) (ts.foldl (fun x t=>S0 t d x) x)
where
 go:List Fm->Int->Nat->Nat
  | [],_,x=>x
  | a::r,d,x=>go r d (kP S0 a d x)
theorem WQ(S0:Tm->Int->Nat->Nat)(f:Fm)(d:Int)(x:Nat):kP S0 f d x=kP.go S0 f.B0 (d+H3 f.o0) (f.M1.foldl (fun x t=>S0 t d x) x):=by cases f;rfl
@[go_sem] theorem Gs0 (S0:Tm->Int->Nat->Nat) (d:Int) (x:Nat):kP.go S0 [] d x=x:=rfl
theorem ox0(S0:Tm->Int->Nat->Nat)(l:List Fm)(a:Fm)(d:Int):∀x,kP.go S0 (l++[a]) d x=kP S0 a d (kP.go S0 l d x):=by
 induction l with
 | nil=>intro x;rfl
 | cons b r ih=>intro x;exact ih _
theorem WR{S0:Tm->Int->Nat->Nat}(hS:∀t d n,S0 t d n<=n+t.A0)(d:Int)(l:List Tm):∀n,l.foldl (fun x t=>S0 t d x) n<=n+D3.Z0 l:=by
 induction l with
 | nil=>intro n;exact I5 _
 | cons a r ih=>intro n;have:=ih (S0 a d n);have:=hS a d n;simp only[Uk,D3.Z0];omega
theorem vU0{S0:Tm->Int->Nat->Nat}(hS:∀t d n,S0 t d n<=n+t.A0)(f:Fm):∀d n,kP S0 f d n<=n+f.A0:=by
 induction f using aU with
 | h f ih=>
 intro d n;have key:∀l:List Fm,(∀a∈l,a∈f.B0)->∀n,kP.go S0 l (d+H3 f.o0) n<=n+D7.Z0 l:=by
  intro l
  induction l with
  | nil=>intro _ n;exact I5 _
  | cons a r l6=>
   intro h n;have h1:=ih a (h a sS) (d+H3 f.o0) n;have h2:=l6 (fun b hb=>h b (by simp[hb])) (kP S0 a (d+H3 f.o0) n);simp only[kP.go,D7.Z0];omega
 have h1:=key _ (fun _ h=>h) (f.M1.foldl (fun x t=>S0 t d x) n);have h2:=WR hS d f.M1 n;have h3:=sI f;rw[WQ];omega
theorem eJ0{f:FuncId}{cs:List DV}{enc:Nat->DV}{S0:Tm->Int->Nat->Nat}{P:Tm->Int->Prop}(hS:∀t d n,S0 t d n<=n+t.A0)(hv:∀t d x,0<=d->P t d->x+t.A0<=1000000->cT f ([t.dv,j0 d]++cs) [(n,[enc x])] (.H1 []) [(n,[enc (S0 t d x)])])(t:Fm)(d:Int)(x:Nat)(hd:0<=d)(hc:d+t.A0<=1099511627776)(hx:x+t.A0<=1000000)(ht:AllT P t d):
  cT 191 [t.dv,j0 d,.m6 f cs] [(n,[enc x])] (.H1 []) [(n,[enc (kP S0 t d x)])]:=by
 induction t using aU generalizing d x with
 | h t ih=>
 have N4:=sI t;have kE:=rA t.o0;have e:=WQ S0 t d x;have wq:=c90 t.o0;refine H2 Tryz.func191 ?_;intro X hP G0 hf X0 hn hR K1 G1;obtain⟨gQ,fU⟩:=yX (G1 t.dv sS);refine E4 (bx [1000003]) tT ?_;refine N2 ?_;refine Q1 ?_;refine G2 [] tT (y7 (t.M1) (fun done rest=>[sV 13 (j0 done.length),sV 12 (j0 t.M1.length),sV 11 (.sl (t.M1.map E3)),sV 1 (j0 d),sV 2 (.m6 f cs),sV 3 (.ref t.cs),sB  n [.v (enc (done.foldl (fun x t=>S0 t d x) x))]]) ?_ ?_)
 ·intro done y rest hL hg Z1;have I1:=E5 hL;have h1:=WR hS d done x;have h2:D3.Z0 t.M1=D3.Z0 done+(y.A0+D3.Z0 rest):=by rw[hL,gR];rfl
  have w:=hv y d (done.foldl (fun x t=>S0 t d x) x) hd (ht.t.1 y (uE hg)) oO;refine N1 @hg (M0 w) ?_;refine W3 (wr []) tT tT Z1
 refine N1 H0 (M0 wq) ?_;have h0:=WR hS d t.M1 x;by_cases h2:H3 t.o0=1
 all_goals
  have h3:H3 t.o0=1\/H3 t.o0=0:=oO;have h4:¬H3 t.o0=1->H3 t.o0=0:=fun h=>h3.resolve_left h;simp only[h2,not_true_eq_false,not_false_eq_true,true_implies,false_implies]at h4;refine U1 @h2 ?_;refine Q1 ?_;refine G2 [] (j2 @h2 @h4) (y7 (t.B0) (fun done rest=>[sV 30 (j0 done.length),sV 29 (j0 t.B0.length),sV 28 (.sl (t.B0.map L3)),sV 1 (j0 (d+H3 t.o0)),sV 2 (.m6 f cs),sB  n [.v (enc (kP.go S0 done (d+H3 t.o0) (t.M1.foldl (fun x t=>S0 t d x) x)))]]) ?_ ?_)
  ·intro done y rest hL hg Z1;have I1:=E5 hL;have U2:=uE hg;have gJ:=oZ U2;have h5:D7.Z0 t.B0=D7.Z0 done+(y.A0+D7.Z0 rest):=by rw[hL,AZ];rfl
   have h6:∀(l:List Fm) n,kP.go S0 l (d+H3 t.o0) n<=n+D7.Z0 l:=by
    intro l
    induction l with
    | nil=>intro n;exact I5 _
    | cons a r l6=>intro n;have:=vU0 hS a (d+H3 t.o0) n;have:=l6 (kP S0 a (d+H3 t.o0) n);simp only[kP.go,D7.Z0];omega
   have h7:=h6 done (t.M1.foldl (fun x t=>S0 t d x) x);have w:=ih y U2 (d+H3 t.o0) (kP.go S0 done (d+H3 t.o0) (t.M1.foldl (fun x t=>S0 t d x) x)) oO oO oO (ht.t.2 y U2);have hq:=ox0 S0 done y (d+H3 t.o0) (t.M1.foldl (fun x t=>S0 t d x) x);refine N1 @hg (M0 w) ?_;refine W3 (wr []) @hq tT Z1
  ·exact v8 [(n,[enc (kP S0 t d x)])] @e H0
theorem eK0(f:Fm)(hf:f.good 1073741824)(hc:f.A0<=400000)(hl:AllT (fun t _=>t.leastN 536870912=true) f 0):cU 110 [f.dv] (O2 true):=by
 have key:∀(f:Fm) (d:Int),AllT (fun t d=>Gd t/\t.A0<=400000) f d->AllT (fun t _=>t.leastN 536870912=true) f d->AllT (fun t d=>Gd t/\t.A0<=400000/\t.leastN 536870912=true) f d:=by
  intro f
  induction f using aU with
  | h f ih=>
  intro d a b;exact .mk (fun t ht=>⟨(a.t.1 t ht).1,(a.t.1 t ht).2,b.t.1 t ht⟩) fun x hx=>ih x hx _ (a.t.2 x hx) (b.t.2 x hx)
 have wc:∀n (t:Tm) (d:Int) (x:Nat),0<=d->(Gd t/\t.A0<=400000/\t.leastN 536870912=true)->x+t.A0<=1000000->cT 192 ([t.dv,j0 d]++[M3 n]) [(n,[O2 true])] (.H1 []) [(n,[O2 true])]:=by
  intro n t d x _ h _;have w:=Wp t h.1 oO h.2.2;show P8 _ _ _ [t.dv,j0 d,M3 n] _ _ _;refine H2 Tryz.func192 ?_;intro X hP G0 hf X0 hn hR K1 G1;refine E4 (bx [1000003]) tT ?_;exact v8 [(n,[O2 true])] H0 (M0 w)
 have w:=fun n=>eJ0 (enc:=fun _=>O2 true) (S0:=fun _ _ x=>x) (fun _ _ _=>aT0 _ _) (wc n) f 0 0 (Iu 0) oO oO (key f 0 (IX f 0 hf fun t d h1 h2 h3=>⟨h3,oO⟩) hl);refine H2 Tryz.func110 ?_;intro X hP G0 hf X0 hn hR K1 G1;refine E4 (bx [1000001]) tT ?_;refine K2 ?_;refine fG 3 (by simp[go_sem];rfl) ?_;intro b hb;simp[go_sem]at hb ⊢;refine Q1 ?_;refine O9 [5] fun K hK=>?_;simp[go_sem,hP,G0,hn];refine Ju (by simp[go_sem];rfl) nN rfl ?_;simp[go_sem];refine Z7 tT (w b) ?_;refine K4 ?_;clear hK K;exact O1 H0 H0
theorem rr0(p:Int)(f:Fm):∀(d:Int) (n:Nat),kP (fun t d n=>n+t.R2 (p+d)) f d n=n+f.R2 (p+d):=by
 induction f using aU with
 | h f ih=>
 intro d n;have k1:∀(l:List Tm) (n:Nat),l.foldl (fun n t=>n+t.R2 (p+d)) n=n+t8.B5 l (p+d):=by
  intro l
  induction l with
  | nil=>intro n;rfl
  | cons a r l6=>intro n;simp only[Uk,l6,t8.B5];omega
 have k2:∀l:List Fm,(∀a∈l,a∈f.B0)->∀n,kP.go (fun t d n=>n+t.R2 (p+d)) l (d+H3 f.o0) n=n+wJ.B5 l (p+d+H3 f.o0):=by
  intro l
  induction l with
  | nil=>intro _ n;rfl
  | cons a r l6=>
   intro h n;rw[kP.go,l6 (fun b hb=>h b (by simp[hb])),ih a (h a sS),wJ.B5,DW];omega
 rw[WQ,k2 _ fun _ h=>h,k1,Uy];omega
theorem QV(f:Fm)(p:Int)(hf:f.good 1073741824)(hc:f.A0<=400000)(hp:0<=p/\p<=400000):cU 285 [f.dv,j0 p] (j0 (f.R2 p)):=by
 have wc:∀n (t:Tm) (d:Int) (x:Nat),0<=d->(Gd t/\d+t.A0<=400000)->x+t.A0<=1000000->cT 342 ([t.dv,j0 d]++[M3 n,.ref [j0 p]]) [(n,[j0 (x:Nat)])] (.H1 []) [(n,[j0 ((x+t.R2 (p+d):Nat):Int)])]:=by
  intro n t d x _ h hx;have w:=ow0 t (p+d) h.1 oO;have hle:=FR t (p+d);show P8 _ _ _ [t.dv,j0 d,M3 n,.ref [j0 p]] _ _ _;refine H2 Tryz.func342 ?_;intro X hP G0 hf X0 hn hR K1 G1;refine E4 (bx [1000004]) tT ?_;exact v8 [(n,[j0 ((x+t.R2 (p+d):Nat):Int)])] H0 (M0 w)
 have w:=fun n=>eJ0 (enc:=fun x:Nat=>j0 x) (S0:=fun t d n=>n+t.R2 (p+d)) (fun t d n=>by have:=FR t (p+d);omega) (wc n) f 0 0 (Iu 0) oO oO (IX f 0 hf fun t d h1 h2 h3=>⟨h3,oO⟩);simp only[rr0,sE,G8]at w;refine H2 Tryz.func285 ?_;intro X hP G0 hf X0 hn hR K1 G1;refine E4 (bx [1000002,1000003]) tT ?_;refine K2 ?_;refine fG 5 (by simp[go_sem];rfl) ?_;intro b hb;simp[go_sem]at hb ⊢;exact O1 H0 (M0 (w b))
theorem Bm(t:Fm)(f b:Int):(t.V0 f b).A0=t.A0:=by
 induction t using aU generalizing f with
 | h t ih=>
 have k1:∀l:List Tm,D3.Z0 (l.map fun x=>x.V0 f b)=D3.Z0 l:=by
  intro l
  induction l with
  | nil=>rfl
  | cons a r l6=>simp[D3.Z0,l6,iO]
 have k2:∀l:List Fm,(∀a∈l,a∈t.B0)->D7.Z0 (l.map fun x=>x.V0 (f+H3 t.o0) b)=D7.Z0 l:=by
  intro l
  induction l with
  | nil=>intro _;rfl
  | cons a r l6=>intro h;simp[D7.Z0,l6 (fun b hb=>h b (by simp[hb])),ih a (h a sS)]
 rw[tY,sI,Fm.terms_mk,Fm.args_mk,k1,k2 _ fun _ h=>h,<- sI]
theorem rt0(h:FDn Γ f)(x:Tm):∀p d:Int,((f.Y1 p d x).A0:Int)=f.A0+f.R2 (p+d) * ((x.A0:Int) - 1):=by
 induction h with
 | @eq Γ s t F G h1 h2=>
  intro p d;have e1:=Ry s p d x (Z5 h1);have e2:=Ry t p d x (Z5 h2);have c1:((I3 s t).Y1 p d x).A0=1+((s.Y1 p d x).A0+((t.Y1 p d x).A0+0))+0:=rfl;have c2:(I3 s t).A0=1+(s.A0+(t.A0+0))+0:=rfl;have c3:(I3 s t).R2 (p+d)=(s.R2 (p+d)+(t.R2 (p+d)+0))+0:=rfl;rw[c1,c2,c3];simp only[PG,jt0,qI];omega
 | @two Γ k a b hk h1 h2 E9 T8=>
  intro p d;have e0:H3 k=0:=by rcases hk with rfl|rfl <;> rfl
  have e1:=E9 p d;have e2:=T8 p d;have c1:((U5 k a b).Y1 p d x).A0=1+0+((a.Y1 p d x).A0+((b.Y1 p d x).A0+0)):=by
   show 1+0+((a.Y1 p (d+H3 k) x).A0+((b.Y1 p (d+H3 k) x).A0+0))=_;rw[e0,sE]
  have c2:(U5 k a b).A0=1+0+(a.A0+(b.A0+0)):=rfl;have c3:(U5 k a b).R2 (p+d)=0+(a.R2 (p+d)+(b.R2 (p+d)+0)):=by
   show 0+(a.R2 (p+d+H3 k)+(b.R2 (p+d+H3 k)+0))=_;rw[e0,sE]
  rw[c1,c2,c3];simp only[PG,jt0,qI,G8];omega
 | @q Γ k a f hk ha h ih=>
  intro p d;have e0:H3 k=1:=if_pos hk;have e1:=ih p (d+1);have c1:((qF k a.ty f).Y1 p d x).A0=1+0+((f.Y1 p (d+1) x).A0+0):=by
   show 1+0+((f.Y1 p (d+H3 k) x).A0+0)=_;rw[e0]
  have c2:(qF k a.ty f).A0=1+0+(f.A0+0):=rfl;have c3:(qF k a.ty f).R2 (p+d)=0+(f.R2 (p+(d+1))+0):=by
   show 0+(f.R2 (p+d+H3 k)+0)=_;rw[e0,DW]
  rw[c1,c2,c3];simp only[qI,G8];omega
def I6(f:Fm)(s:Tm):Int:=S5 f.chk (S5 s.L4 (if 4096<(f.A0:Int)+f.R2 0 * ((s.A0:Int) - 1) then 4 else 0))
theorem da0{s:Tm}(h:s.shape=true):s6 s.L4:=by
 unfold AV s6;rw[if_pos h];split <;> simp
theorem Ms{s:Tm}{X:Q0 Γ->s0.V}(hs:Dn Γ s s0 X):s6 (I6 f s):=tD (Bw f) (tD (da0 (Z5 hs)) (by unfold s6;split <;> simp))
theorem IY(hf:FDn (s0::Γ) f){s:Tm}(h:I6 f s=0):(f.Y1 0 0 s).A0<=4096/\f.A0<=4096/\s.A0<=4096:=by
 obtain⟨h1,h2⟩:=aW h;obtain⟨h2,h3⟩:=aW h2;have e:=rt0 hf s 0 0;have h1:f.A0<=4096:=by unfold wK at h1;split at h1 <;> omega
 have h2:=((lO s).1 h2).2;rw[sE]at e;split at h3;· cases h3
 ·exact⟨oO,h1,h2⟩
theorem zj0(hf:FDn (s0::Γ) f){s:Tm}{X:Q0 Γ->s0.V}(hs:Dn Γ s s0 X)(N5:Γ.length<=1000000)(cf:f.A0<=1000000)(cs:s.A0<=1000000):
  cU 369 [f.dv,j0 0,s.dv] (.H1 [(if I6 f s=0 then f.Y1 0 0 s else m4).dv,j0 (I6 f s)]):=by
 have Ud:f.good 1073741824:=lU hf _ (by simp only[B4];omega);have wl:=rl0 f 536870912;rw[rn0 hf 536870912 (by simp only[B4];omega)]at wl;have gO:=WJ s 536870912;rw[gW hs 536870912 oO]at gO;have w1:=Gm hf oO;have w2:=IB s (gV s (Z5 hs)) oO;have w3:=QU f oO;have w4:=ri0 f 0 oO dD oO;have w5:=lR s oO;have w6:=CQ0 f 0 0 s Ud (sF s _ (Z5 hs) (gW hs _ oO)) dD dD oO;have w7:=Mr (f.Y1 0 0 s);have ht:=Fm.timesN_le f 0;have hz:I6 f s=S5 f.chk (S5 s.L4 (if 4096<(f.A0:Int)+f.R2 0 * ((s.A0:Int) - 1) then 4 else 0)):=rfl;have hmul:(0:Int)<=(f.R2 0:Int) * ((s.A0:Int) - 1)/\(f.R2 0:Int) * ((s.A0:Int) - 1)<=1000000 * 1000000:=by
  have:=Uu s;exact⟨jD0 oO oO,a30 oO oO oO oO⟩
 generalize f.Y1 0 0 s=u at *;generalize I6 f s=z at *;generalize iB0:(f.R2 0:Int) * ((s.A0:Int) - 1)=pr at *;unfold S5 at hz;refine H2 Tryz.func369 ?_;intro X hP G0 hf X0 hn hR K1 G1;by_cases q1:f.chk=0;rotate_left
 ·rw[if_neg q1]at hz;have hz0:¬z=0:=by rw[hz];exact q1
  rw[if_neg hz0]at hR;refine V3 @q1 (M0 w1) ?_;refine N3 ?_;simp[go_sem,hP,G0,hn,hz,m4] <;> (try omega);all_goals exact f9
 rw[if_pos q1]at hz;by_cases q2:s.L4=0;rotate_left
 ·rw[if_neg q2]at hz;have hz0:¬z=0:=by rw[hz];exact q2
  rw[if_neg hz0]at hR;refine V3 (j2 @q1 @q2) (P3 w1 w2) ?_;refine N3 ?_;simp[go_sem,hP,G0,hn,hz,m4] <;> (try omega);all_goals exact f9
 rw[if_pos q2]at hz;by_cases q3:4096<(f.A0:Int)+pr
 ·rw[if_pos q3]at hz;subst hz;rw[if_neg dD]at hR;refine V3 (j4 @q1 @q2 @iB0 @q3) (vM w1 w2 wl gO w3 w4 w5) ?_;refine N3 ?_;simp[go_sem,hP,G0,hn,m4] <;> (try omega);all_goals exact f9
 ·rw[if_neg q3]at hz;subst hz;rw[if_pos rfl]at hR;exact P4 (j4 @q1 @q2 @iB0 @q3) (cC w1 w2 wl gO w3 w4 w5 w6 (M0 w7))
theorem QW(h:FDn Γ f)(g:List Ty)(hg:∀x∈g,x.ok)(G0:g.length+f.A0<=1000000)(N5:Γ.length+f.A0<=1000000):cU 252 [.sl (g.map P1),f.dv] (j0 (S5 f.chk (f.typedN g))):=by
 have w1:=Gm h oO;have w2:=rm0 f g (lU h _ oO) oO hg;unfold S5;refine H2 Tryz.func252 ?_;intro X hP G0 hf X0 hn hR K1 G1;by_cases q1:f.chk=0
 ·rw[if_pos q1]at hR;exact O1 @q1 (P3 w1 w2)
 ·rw[if_neg q1]at hR;exact O1 @q1 (M0 w1)
theorem dX0(h:FDn Γ f)(g:List Ty)(hg:∀x∈g,x.ok)(G0:g.length+f.A0<=1000000)(N5:Γ.length+f.A0<=1000000):cU 182 [.sl (g.map P1),f.dv] (j0 (S5 (gD g) (S5 f.chk (f.typedN g)))):=by
 have w1:=UI g (fun x hx=>by have:=(hg x hx).2;omega);have w2:=QW h g hg G0 N5;generalize S5 f.chk (f.typedN g)=e at *;unfold S5;refine H2 Tryz.func182 ?_;intro X hP G0 hf X0 hn hR K1 G1;by_cases q1:gD g=0
 ·rw[if_pos q1]at hR;exact O1 @q1 (P3 w1 w2)
 ·rw[if_neg q1]at hR;exact O1 @q1 (M0 w1)
theorem CT0(s t:Tm):cU 269 [s.dv,t.dv] (I3 s t).dv:=by
 rw[sW];exact B2 Tryz.func269 H0 (P3 (Lx s) (Lx t))
theorem zk0(k:Int)(a b:Fm):cU 259 [j0 k,a.dv,b.dv] (U5 k a b).dv:=by
 rw[wU];exact B2 Tryz.func259 H0 (P3 (Mr a) (Mr b))
theorem EU0(k:Int)(y:Ty)(a:Fm):cU 329 [j0 k,y.dv,a.dv] (qF k y a).dv:=by
 rw[dL];exact B2 Tryz.func329 H0 (P3 (yZ y) (Mr a))
def Fm.v6:Fm->Bool
 | .mk k _ _ a=>if k=1 then false else if k=2 then any a else if k=5 then true else last a
where
 any:List Fm->Bool
  | []=>false
  | a::r=>a.v6||any r
 last:List Fm->Bool
  | []=>false
  | a::r=>match r with
   | []=>a.v6
   | _=>last r
theorem oy0(s t:Tm):(I3 s t).v6=false:=rfl
theorem Vu(a b:Fm):(U5 2 a b).v6=(a.v6||b.v6):=by
 show (a.v6||(b.v6||false))=_;rw[Bool.or_false]
theorem cs0(a b:Fm):(U5 3 a b).v6=b.v6:=rfl
theorem db0(y:Ty)(f:Fm):(qF 5 y f).v6=true:=rfl
theorem zD(y:Ty)(f:Fm)(h:k=4\/k=6\/k=7):(qF k y f).v6=f.v6:=by rcases h with rfl|rfl|rfl <;> rfl
theorem mw0(h:FDn Γ f):cU 273 [f.dv] (O2 f.v6):=by
 induction h with
 | @eq Γ s t F G h1 h2=>
  rw[sW,oy0];exact B2 Uz H0 H0
 | @two Γ k a b hk h1 h2 E9 T8=>
  have l1:=cX a;have l2:=cX b;rw[wU];rcases hk with rfl|rfl
  ·rw[Vu];refine H2 Uz ?_;intro X hP G0 hf X0 hn hR K1 G1;by_cases q:a.v6=true
   ·rw[q]at E9 hR;exact O1 H0 (M0 E9)
   ·have q:a.v6=false:=by simpa using q
    rw[q]at E9 hR;exact O1 H0 (P3 E9 T8)
  ·rw[cs0];exact B2 Uz H0 (M0 T8)
 | @q Γ k a f hk ha h ih=>
  have l1:=cX f;rw[dL];by_cases h5:k=5
  ·subst h5;rw[db0];exact B2 Uz H0 H0
  ·rw[zD _ _ oO];have q1:¬k=1:=oO;have q2:¬k=2:=oO;exact B2 Uz (j3 @q1 @q2 @h5) (M0 ih)
theorem mx0(h:FDn Γ f)(hc:f.A0<=1073741824):cU 187 [f.dv] (.H1 [O2 (decide (f.chk=0)&&f.v6),j0 f.chk]):=by
 have w1:=Gm h hc;have w2:=mw0 h;refine A3 Tryz.func187 fun X zX=>?_;by_cases q1:f.chk=0;· exact O1 @q1 (P3 w1 w2)
 ·exact O1 @q1 (M0 w1)
end
section
def dM(k:Int)(a b c:Nat)(ix ty:Bool):Prop:=((k=1)/\a=0/\b=0/\c=0/\ix=true/\ty=false)\/((k=3)/\a=0/\b=0/\c=2/\ix=false/\ty=false)\/((k=4\/k=5)/\a=0/\b=0/\c=1/\ix=false/\ty=false)\/((k=8\/k=12)/\a=0/\b=0/\c=1/\ix=false/\ty=true)\/((k=9)/\a=1/\b=0/\c=1/\ix=false/\ty=false)\/((k=10)/\a=1/\b=1/\c=1/\ix=false/\ty=false)\/((k=11)/\a=0/\b=0/\c=2/\ix=false/\ty=false)\/((k=16\/k=17)/\a=1/\b=1/\c=2/\ix=false/\ty=false)\/((k=18)/\a=1/\b=0/\c=0/\ix=false/\ty=false)\/((k=19)/\a=0/\b=1/\c=2/\ix=false/\ty=false)
inductive PS:Pf->Prop
 | mk {t:Pf} {ix ty:Bool} (hk:dM t.o0 t.M1.length t.V4.length t.B0.length ix ty) (hi:0<=t.O0) (hx:ix=false->t.O0=0) (hy:ty=true->t.I0.ok) (hz:ty=false->t.I0.zero=true)
   (ht:∀x∈t.M1,x.shape=true/\x.A0<=16384) (hf:∀f∈t.V4,∃Γ:List T,Γ.length<=1000/\FDn Γ f/\f.A0<=1000000) (ha:∀a∈t.B0,PS a):PS t
namespace Pf
def A0:Pf->Nat
 | .mk _ _ _ ts fs a=>1+D3.Z0 ts+D7.Z0 fs+Z0 a
where
 Z0:List Pf->Nat
  | []=>0
  | a::r=>a.A0+Z0 r
theorem count_eq(t:Pf):t.A0=1+D3.Z0 t.M1+D7.Z0 t.V4+A0.Z0 t.B0:=by cases t;rfl
theorem counts_append(l m:List Pf):A0.Z0 (l++m)=A0.Z0 l+A0.Z0 m:=by
 induction l with
 | nil=>simp[A0.Z0]
 | cons a r ih=>simp[A0.Z0,ih];omega
theorem count_mem{l:List Pf}{a:Pf}(h:a∈l):a.A0<=A0.Z0 l:=by
 induction l with
 | nil=>cases h
 | cons b r ih=>
  simp only[A0.Z0];rcases u5.1 h with rfl|h;· omega
  ·have:=ih h;omega
def small:Pf->Bool
 | .mk _ _ _ ts fs a=>ts.all (fun t=>decide (t.A0<=4096))&&(fs.all (fun f=>decide (f.A0<=4096))&&smalls a)
where
 smalls:List Pf->Bool
  | []=>true
  | a::r=>a.small&&smalls r
theorem small_eq(t:Pf):t.small=(t.M1.all (fun t=>decide (t.A0<=4096))&&(t.V4.all (fun f=>decide (f.A0<=4096))&&small.smalls t.B0)):=by cases t;rfl
theorem smalls_append(l m:List Pf):small.smalls (l++m)=(small.smalls l&&small.smalls m):=by
 induction l with
 | nil=>simp[small.smalls]
 | cons a r ih=>simp[small.smalls,ih,Bool.and_assoc]
theorem oz0(l:List Pf):small.smalls l=true↔∀a∈l,a.small=true:=by
 induction l with
 | nil=>simp[small.smalls]
 | cons a r ih=>simp[small.smalls,ih]
def chk(p:Pf):Int:=if p.small=true/\p.A0<=16384 then 0 else 4
theorem chk_arg{p a:Pf}(h:p.chk=0)(ha:a∈p.B0):a.chk=0:=by
 unfold chk at h ⊢;split at h
 ·rename_i hh;have h1:=hh.1;rw[small_eq,uH,uH,oz0]at h1;have:=count_mem ha;have:=count_eq p;rw[if_pos ⟨h1.2.2 a ha,oO⟩]
 ·cases h
theorem fit_len{t:Pf}(h:t.dv.fit):t.M1.length<=2147483648/\t.V4.length<=2147483648/\t.B0.length<=2147483648:=by
 have:=(Pf.fit_eq t).1 ((Pf.dv_fit t).1 h);exact⟨this.2.2.2.1.1,this.2.2.2.2.1.1,this.2.2.2.2.2.1⟩
end Pf
theorem ru0{a b:Nat}{ix ty:Bool}(h:dM k a b c ix ty):cU 254 [j0 k] (.H1 [.agg [j0 a,j0 b,j0 c,O2 ix,O2 ty],O2 true]):=by
 unfold dM at h;rcases h with⟨rfl,rfl,rfl,rfl,rfl,rfl⟩|⟨rfl,rfl,rfl,rfl,rfl,rfl⟩|⟨(rfl|rfl),rfl,rfl,rfl,rfl,rfl⟩|⟨(rfl|rfl),rfl,rfl,rfl,rfl,rfl⟩|⟨rfl,rfl,rfl,rfl,rfl,rfl⟩|⟨rfl,rfl,rfl,rfl,rfl,rfl⟩|⟨rfl,rfl,rfl,rfl,rfl,rfl⟩|⟨(rfl|rfl),rfl,rfl,rfl,rfl,rfl⟩|⟨rfl,rfl,rfl,rfl,rfl,rfl⟩|⟨rfl,rfl,rfl,rfl,rfl,rfl⟩;· exact B2 yY H0 H0
 ·exact B2 yY H0 H0
 ·exact B2 yY H0 H0
 ·exact B2 yY H0 H0
 ·exact B2 yY H0 H0
 ·exact B2 yY H0 H0
 ·exact B2 yY H0 H0
 ·exact B2 yY H0 H0
 ·exact B2 yY H0 H0
 ·exact B2 yY H0 H0
 ·exact B2 yY H0 H0
 ·exact B2 yY H0 H0
 ·exact B2 yY H0 H0
theorem dY0{t:Pf}(h:PS t):cU 184 [t.dv] (O2 true):=by
 induction h with
 | @mk t ix ty hk hi hx hy hz ht hF ha ih=>
 have wn:=ru0 hk;have cR:=Ty.fold t.I0;refine H2 Tryz.func184 ?_;intro X hP G0 hf X0 hn hR K1 G1;have hlen:=Pf.fit_len (G1 t.dv sS);have s9:¬t.O0<0:=oO;apply vF [sP 1,sL 1 [.v (j0 t.o0),.v (j0 t.O0),.v (j0 t.I0.o0),.v (.sl (t.I0.B0.map P1)),.v (.sl (t.M1.map E3)),.v (.sl (t.V4.map L3)),.v (.sl (t.B0.map lN))],sV 78 (.sl (t.M1.map E3)),sV 79 (j0 t.M1.length),sV 80 (j0 0)]
 ·intro Q3;cases ix with
  | true=>
   cases ty with
   | true=>
    have wc:=Ea t.I0 (by have:=(hy rfl).2;omega);rw[(wE _).2 (hy rfl)]at wc;refine N2 ?_;refine N1 H0 (M0 wn) ?_;refine U1 @s9 ?_;refine N1 @cR (M0 wc) ?_;refine N2 ?_;refine m5 ?_;refine G2 [] tT Q3
   | false=>
    have wz:=Qc t.I0;rw[hz rfl]at wz;refine N2 ?_;refine N1 H0 (M0 wn) ?_;refine U1 @s9 ?_;refine N1 @cR (M0 wz) ?_;refine N2 ?_;refine m5 ?_;refine G2 [] tT Q3
  | false=>
   have h0:=hx rfl;cases ty with
   | true=>
    have wc:=Ea t.I0 (by have:=(hy rfl).2;omega);rw[(wE _).2 (hy rfl)]at wc;refine N2 ?_;refine N1 H0 (M0 wn) ?_;refine U1 @h0 ?_;refine N1 @cR (M0 wc) ?_;refine N2 ?_;refine m5 ?_;refine G2 [] tT Q3
   | false=>
    have wz:=Qc t.I0;rw[hz rfl]at wz;refine N2 ?_;refine N1 H0 (M0 wn) ?_;refine U1 @h0 ?_;refine N1 @cR (M0 wz) ?_;refine N2 ?_;refine m5 ?_;refine G2 [] tT Q3
 ·refine Q1 ?_;refine G2 [] tT (y7 (t.M1) (fun done rest=>[sP 1,sL 1 [.v (j0 t.o0),.v (j0 t.O0),.v (j0 t.I0.o0),.v (.sl (t.I0.B0.map P1)),.v (.sl (t.M1.map E3)),.v (.sl (t.V4.map L3)),.v (.sl (t.B0.map lN))],sV 78 (.sl (t.M1.map E3)),sV 79 (j0 t.M1.length),sV 80 (j0 done.length)]) ?_ ?_)
  ·intro done x rest hL B3 Z1;have I1:=E5 hL;have U2:=uE B3;have ws:=Qa x (gV x (ht x U2).1);rw[(ht x U2).1]at ws;refine K5 ?_;refine U1 @B3 ?_;refine N1 @B3 (M0 ws) ?_;refine W3 (wr []) tT tT Z1
  ·refine K2 ?_;refine Z6 ?_;refine N2 ?_;refine Q1 ?_;refine G2 [] tT (y7 (t.V4) (fun done rest=>[sP 1,sL 1 [.v (j0 t.o0),.v (j0 t.O0),.v (j0 t.I0.o0),.v (.sl (t.I0.B0.map P1)),.v (.sl (t.M1.map E3)),.v (.sl (t.V4.map L3)),.v (.sl (t.B0.map lN))],sV 89 (.sl (t.V4.map L3)),sV 90 (j0 t.V4.length),sV 91 (j0 done.length)]) ?_ ?_)
   ·intro done x rest hL B3 Z1;have I1:=E5 hL;have U2:=uE B3;obtain⟨Γ,-,hd,-⟩:=hF x U2;refine K5 ?_;refine U1 @B3 ?_;refine N1 @B3 (M0 (dT0 hd)) ?_;refine W3 (wr []) tT tT Z1
   ·refine K2 ?_;refine Z6 ?_;refine N2 ?_;refine Q1 ?_;refine G2 [] tT (y7 (t.B0) (fun done rest=>[sV 100 (.sl (t.B0.map lN)),sV 101 (j0 t.B0.length),sV 102 (j0 done.length)]) ?_ ?_)
    ·intro done x rest hL B3 Z1;have I1:=E5 hL;have U2:=uE B3;refine K5 ?_;refine U1 @B3 ?_;refine N1 @B3 (M0 (ih x U2)) ?_;refine W3 (wr []) tT tT Z1
    ·refine K2 ?_;refine Z6 ?_;refine N2 ?_;exact rF
theorem rv0(t:Pf)(hc:t.A0<=1073741824):cU 258 [t.dv] (j0 t.A0):=by
 induction t using Pf.ind with
 | h t ih=>
 have N4:=Pf.count_eq t;refine H2 Tryz.func258 ?_;intro X hP G0 hf X0 hn hR K1 G1;have hlen:=Pf.fit_len (G1 t.dv sS);refine N2 ?_;refine Q1 ?_;refine G2 [] (j2 @D3.Z0.eq_1 @D3.Z0.eq_2) (y7 (t.M1) (fun done rest=>[sV 3 (j0 (1+D3.Z0 done:Nat)),sP 1,sL 1 (nF t),sV 2 (j0 0),sV 11 (.sl (t.M1.map E3)),sV 12 (j0 t.M1.length),sV 13 (j0 done.length)]) ?_ ?_)
 ·intro done x rest hL B3 Z1;have I1:=E5 hL;have I8:=L9 (uE B3);have aF:D3.Z0 t.M1=D3.Z0 done+(x.A0+D3.Z0 rest):=by rw[hL,gR];rfl
  refine K5 ?_;refine N1 @B3 (M0 (lR x oO)) ?_;refine W3 (wr []) (j3 @gR @D3.Z0.eq_1 @D3.Z0.eq_2) tT Z1
 ·refine K2 ?_;refine Z6 ?_;refine N2 ?_;refine Q1 ?_;refine G2 [] (j2 @D7.Z0.eq_1 @D7.Z0.eq_2) (y7 (t.V4) (fun done rest=>[sV 3 (j0 (1+D3.Z0 t.M1+D7.Z0 done:Nat)),sP 1,sL 1 (nF t),sV 2 (j0 0),sV 23 (.sl (t.V4.map L3)),sV 24 (j0 t.V4.length),sV 25 (j0 done.length)]) ?_ ?_)
  ·intro done x rest hL B3 Z1;have I1:=E5 hL;have I8:=oZ (uE B3);have aF:D7.Z0 t.V4=D7.Z0 done+(x.A0+D7.Z0 rest):=by rw[hL,AZ];rfl
   refine K5 ?_;refine N1 @B3 (M0 (QU x oO)) ?_;refine W3 (wr []) (j3 @AZ @D7.Z0.eq_1 @D7.Z0.eq_2) tT Z1
  ·refine K2 ?_;refine Z6 ?_;refine N2 ?_;refine Q1 ?_;refine G2 [] (j2 @Pf.A0.Z0.eq_1 @Pf.A0.Z0.eq_2) (y7 (t.B0) (fun done rest=>[sV 3 (j0 (1+D3.Z0 t.M1+D7.Z0 t.V4+Pf.A0.Z0 done:Nat)),sV 2 (j0 0),sV 35 (.sl (t.B0.map lN)),sV 36 (j0 t.B0.length),sV 37 (j0 done.length)]) ?_ ?_)
   ·intro done x rest hL B3 Z1;have I1:=E5 hL;have U2:=uE B3;have I8:=Pf.count_mem U2;have aF:Pf.A0.Z0 t.B0=Pf.A0.Z0 done+(x.A0+Pf.A0.Z0 rest):=by rw[hL,Pf.counts_append];rfl
    refine K5 ?_;refine N1 @B3 (M0 (ih x U2 oO)) ?_;refine W3 (wr []) (j3 @Pf.counts_append @Pf.A0.Z0.eq_1 @Pf.A0.Z0.eq_2) tT Z1
   ·refine K2 ?_;refine Z6 ?_;exact O1 @N4 H0
theorem rw0(t:Pf)(hc:t.A0<=1073741824):cU 257 [t.dv] (O2 t.small):=by
 induction t using Pf.ind with
 | h t ih=>
 have N4:=Pf.count_eq t;have qC:=Pf.small_eq t;refine H2 Tryz.func257 ?_;intro X hP G0 hf X0 hn hR K1 G1;have hlen:=Pf.fit_len (G1 t.dv sS);refine N2 ?_;refine Q1 ?_;refine G2 [] tT (dB (t.M1) (fun done=>done.all (fun t=>decide (t.A0<=4096))=true) (fun done rest=>[sP 1,sL 1 (nF t),sV 10 (.sl (t.M1.map E3)),sV 11 (j0 t.M1.length),sV 12 (j0 done.length)]) (rfl) ?_ ?_)
 ·intro done x rest hL B3 hI Z1;have I1:=E5 hL;have I8:=L9 (uE B3);refine K5 ?_;refine N1 @B3 (M0 (lR x oO)) ?_;by_cases hx:4096<x.A0
  ·have hs:t.small=false:=by
    rw[qC,hL,PM];simp[show ¬x.A0<=4096 from oO]
   exact O1 (j2 @hx @hs) H0
  ·refine W3 (wr []) tT @hx (Z1 (by rw[PM,hI];simp;omega))
 ·intro hI;rw[hI]at qC;refine T7 ?_;refine N2 ?_;refine Q1 ?_;refine G2 [] tT (dB (t.V4) (fun done=>done.all (fun t=>decide (t.A0<=4096))=true) (fun done rest=>[sP 1,sL 1 (nF t),sV 21 (.sl (t.V4.map L3)),sV 22 (j0 t.V4.length),sV 23 (j0 done.length)]) (rfl) ?_ ?_)
  ·intro done x rest hL B3 hI Z1;have I1:=E5 hL;have I8:=oZ (uE B3);refine K5 ?_;refine N1 @B3 (M0 (QU x oO)) ?_;by_cases hx:4096<x.A0
   ·have hs:t.small=false:=by
     rw[qC,hL,PM];simp[show ¬x.A0<=4096 from oO]
    exact O1 (j2 @hx @hs) H0
   ·refine W3 (wr []) tT @hx (Z1 (by rw[PM,hI];simp;omega))
  ·intro hI;rw[hI]at qC;refine T7 ?_;refine N2 ?_;refine Q1 ?_;refine G2 [] tT (dB (t.B0) (fun done=>Pf.small.smalls done=true) (fun done rest=>[sV 32 (.sl (t.B0.map lN)),sV 33 (j0 t.B0.length),sV 34 (j0 done.length)]) (rfl) ?_ ?_)
   ·intro done x rest hL B3 hI Z1;have I1:=E5 hL;have U2:=uE B3;have I8:=Pf.count_mem U2;refine K5 ?_;refine N1 @B3 (M0 (ih x U2 oO)) ?_;by_cases hx:x.small=true;· refine W3 (wr []) tT @hx (Z1 (by rw[Pf.smalls_append,hI];simp[Pf.small.smalls,hx]))
    ·have hx:x.small=false:=by simpa using hx
     have hs:t.small=false:=by
      rw[qC,hL,Pf.smalls_append];simp[Pf.small.smalls,hx]
     exact O1 (j2 @hx @hs) H0
   ·intro hI;rw[hI]at qC;have hs:t.small=true:=by rw[qC];rfl
    refine T7 ?_;exact O1 @hs H0
theorem dZ0{t:Pf}(h:PS t)(hc:t.A0<=1073741824):cU 105 [t.dv] (j0 t.chk):=by
 have w1:=rw0 t hc;have w2:=rv0 t hc;have wf:cU 185 [t.dv] (O2 (decide (t.chk=0))):=by
  unfold Pf.chk;refine H2 Tryz.func185 ?_;intro X hP G0 hf X0 hn hR K1 G1;by_cases q1:t.small=true
  ·rw[q1]at w1;by_cases q2:t.A0<=16384
   ·have q3:¬(16384:Int)<t.A0:=oO;rw[if_pos ⟨q1,q2⟩]at hR;exact O1 @q2 (P3 w1 w2)
   ·rw[if_neg fun h=>q2 h.2]at hR;exact O1 H0 (P3 w1 w2)
  ·rw[if_neg fun h=>q1 h.1]at hR;have q1:t.small=false:=by simpa using q1
   rw[q1]at w1;exact O1 H0 (M0 w1)
 refine H2 Tryz.func105 ?_;intro X hP G0 hf X0 hn hR K1 G1;by_cases q:t.chk=0;· exact O1 @q (P3 (dY0 h) wf)
 ·have q4:t.chk=4:=by
   unfold Pf.chk at q ⊢;split at q;· exact absurd rfl q
   ·rename_i h;rw[if_neg h]
  exact O1 (j2 @q @q4) (P3 (dY0 h) wf)
end
section
section
variable{X:Ctx}{s s0:St}{k:List Item}
theorem lo0{o:Oper}{x y:Operand}{T T2:TypeId}(ho:o.op = .call { callee:=.builtin .append,args:=#[x,y],argTypes:=#[T,T2] }){d:Nat}(hd:o.dst=some d)(hn:d<X.n)
  {E B:Nat} (he:l9 X.P T=some (E,B)) (hB:0<B/\B<=1024) (h2:(X7 X.P T2).isSome=true) {zs:List (List DV)} {zd:List DV} (hx:M2 X (get s) x=some (.own 0 [])) (hy:(M2 X (get s) y).bind dN=some zs)
  (gM:0<zs.length) (d7:zs.length<=M5) (S7:∀e∈zs,e.length=E) (hz:Da X.P T=some zd) (qD:fI zd=true)
  {G:Gh} {a:Act} {w:World} (R:Rel X G s a w) (next:Act->World->Prop) (Q:Exit->Act->World->Prop)
  (hK:∀b' s8,zs.length<=s8->newB b' s->X.w0.heap.size<=b'->∀G' a' w',Rel X G' (L2 (L2 s (.P0 d) (.one (.v (iV b' zs.length s8)))) (.heap b') (.row (C4 (zs++wG (s8 - zs.length) zd)))) a' w'->next a' w') :
  o.wpIn X.F 0 X.P a w next Q:=by
 obtain⟨hv,hr⟩:=Xm R hx;rw[R.nil]at hv;obtain⟨q,hq,eX⟩:=Option.bind_eq_some_iff.1 hy;obtain⟨yb,Of,rQ,lK,-⟩:=Bi eX (O4 R hq);obtain⟨c2,g,g1,g2,g3⟩:=Gv lK S7
 have DG:∀w':World,w'.heap=w.heap->(kV E zs.length (a.eval y)).run X.P w' = .ok (dS g (zs.length * E)) w':=fun w' hw=>by
  refine Bg (D:=G.D) ?_;rcases g3 with h|⟨b,o',cap,h,hc⟩;· exact .inl h
  ·exact .inr ⟨b,o',cap,h,fun k hk=>by rw[Ec hw];exact hc k hk⟩
 obtain⟨pX,c,e,nc,r1,r2,r3,r4,r5,r6⟩:=UN (P:=X.P) (t:=T) (ty:=o.type) (t2:=T2) (w:=w) he hB h2 (base:=none) (len:=0) (cap:=0) (old:=#[]) (fun w' _=>CA (P:=X.P) lK w') DG (fun w' _=>by simp[kV]) oO oO sS (Bp _ _) hz;rw[G8]at r1 r2;have C9:(execOp a.eval o).run X.P w = .ok (.value (.slice (some ⟨w.heap.size,0,none⟩) zs.length nc)) (w.drew.alloc (.cells c e)):=by
  have u6:(Builtin.append_ #[T,T2] o.type #[a.eval x,a.eval y]).run X.P w = .ok (.slice (some ⟨w.heap.size,0,none⟩) zs.length nc) (w.drew.alloc (.cells c e)):=by rw[hv];exact r1
  simp[execOp,ho,resolve,invoke,builtin,u6]
 refine bP (by intro c e;rw[ho]at e;cases e) ?_;rw[C9,fF,hd];have hp:=qT a (some d) (.slice (some ⟨w.heap.size,0,none⟩) zs.length nc);have T':Trans X G a w G (a.put (some d) (.slice (some ⟨w.heap.size,0,none⟩) zs.length nc)) (w.drew.alloc (.cells c e)) (fun _=>False):=by
  refine⟨hp.1,fun h=>(h.heap fun b hb=>aI w.drew _ b hb).put hp.2,rfl,rfl,rfl,sS,fun b hb _=>aI w.drew _ b hb,fun _ h=>h.elim,fun b k hD=>⟨hD,.of (aI w.drew _ _ (R.wf.lt hD))⟩,fun b k hD dV=>absurd hD dV,R.nil⟩
 refine hK w.heap.size nc r2 (IW R) R.ext.size G _ _ (R.newArr hn (w1:=w.drew) rfl T' (E:=E) ?_ ?_ ?_ ?_)
 ·intro e he;rcases t6.1 he with he|he;· exact S7 e he
  ·rw[(AY.1 he).2];exact pX
 ·intro e he d hd;rcases t6.1 he with he|he;· exact c2 e he d hd
  ·rw[(AY.1 he).2]at hd;exact (IU zd).1 qD d hd
 ·rw[r3];simp only[List.length_append,Jj1];exact Nat.mul_le_mul_right _ oO
 ·intro i j e dd hi hj;rcases yP i zs.length with h' | h'
  ·rw[cJ h']at hi;have yD:j<E:=by rw[<- S7 e (uE hi)];exact (uA hj).1
   have I1:=vD h' yD;refine⟨_,?_,g1 _ _ _ _ hi hj⟩;have:=r5 _ I1;rw[Nat.zero_mul,G8]at this;rw[this,Bu _ _ _ I1]
  ·rw[cK h']at hi
   obtain⟨AE,kA⟩:e=zd/\i - zs.length<nc - (0+zs.length):=by
    have hm:=uE hi;have I1:=(uA hi).1;simp only[Jj1]at I1;exact⟨(AY.1 hm).2,oO⟩
   subst AE;obtain⟨v,q1,q2⟩:=r6 G w R.nil (i - zs.length) j dd kA hj;refine⟨v,?_,q2⟩;rw[show 0+zs.length+(i - zs.length)=i from oO]at q1;exact q1
theorem my0{L1:List Nat}{ops:Array Oper}{l:List Oper}{K:St->Prop}{d:Tmp}{x y:Operand}{T T2 ty:TypeId}{pos:String}{af:Array Edge}{q:Option (Prop × St)}
  {E B:Nat} {zs:List (List DV)} {zd:List DV} (hx:M2 X (get s) x=some (.own 0 [])) (hy:(M2 X (get s) y).bind dN=some zs)
  (he:l9 X.P T=some (E,B)) (hz:Da X.P T=some zd) (qD:fI zd=true) (hB:0<B/\B<=1024) (h2:(X7 X.P T2).isSome=true) (hn:d<X.n)
  (gM:0<zs.length) (d7:zs.length<=M5) (S7:∀e∈zs,e.length=E) (hq:q=none)
  (h3:∀b' s8,zs.length<=s8->newB b' s->X.w0.heap.size<=b'->vc X L1 ops l (L2 (L2 s (.P0 d) (.one (.v (iV b' zs.length s8)))) (.heap b') (.row (C4 (zs++wG (s8 - zs.length) zd)))) K) :
  cB X L1 ops l K ⟨some d,.call { callee:=.builtin .append,args:=#[x,y],argTypes:=#[T,T2] },ty,pos,af,none⟩ s q:=by
 subst hq;intro m hm G a w R0;obtain⟨p1,p3⟩:=pA hm;simp only[B4,List.range'_succ,wpOpsIn,p1,fD,if_true];refine lo0 (o:=⟨some d,.call { callee:=.builtin .append,args:=#[x,y],argTypes:=#[T,T2] },ty,pos,af,none⟩) rfl rfl hn he hB h2 hx hy gM d7 S7 hz qD R0 _ _ fun b' s8 hc hb hw G' a' w' R'=>?_;exact bW (h3 b' s8 hc hb hw) (m+1) p3 G' a' w' R'
end
end
section
def T.bare:T->Prop
 | .C0=>True
 | .list=>False
 | .Z4=>True
 | .pair a b=>a.bare/\b.bare
 | .fn a b=>a.bare/\b.bare
theorem pD:T.C0.ok:=by unfold T.ok;decide
theorem zl0(Γ:List T):Dn Γ xL (.fn .C0 .C0) (fun _ (n:Nat)=>jH0 n):=by
 have h:Dn Γ xL (.fn .C0 .C0) _:=.lam pD (.rc (a:=.C0) pD .zero (.lam pD (.lam pD (.var (.succ .zero)))) (.var .zero));refine h.eq fun ρ=>funext fun n=>?_;have key:∀n:Nat,xI (0:Nat) (fun k _=>k) n=jH0 n:=by intro n;cases n <;> rfl
 exact key n
theorem Xw(Γ:List T):Dn Γ Y6 (.fn .C0 (.fn .C0 .C0)) (fun _ (m n:Nat)=>Nat.add m n):=by
 have h:Dn Γ Y6 (.fn .C0 (.fn .C0 .C0)) _:=.lam pD (.lam pD (.rc (a:=.C0) pD (.var (.succ .zero)) (.lam pD (.lam pD (.succ (.var .zero)))) (.var .zero)));refine h.eq fun ρ=>funext fun m=>funext fun n=>?_;have key:∀n:Nat,xI (α:=Nat) m (fun _ r=>Nat.succ r) n=Nat.add m n:=by
  intro n
  induction n with
  | zero=>rfl
  | succ n ih=>simp only[xI,ih];rfl
 exact key n
theorem f90(Γ:List T):Dn Γ Q8 (.fn .C0 (.fn .C0 .C0)) (fun _ (m n:Nat)=>Nat.sub m n):=by
 have h:Dn Γ Q8 (.fn .C0 (.fn .C0 .C0)) _:=.lam pD (.lam pD (.rc (a:=.C0) pD (.var (.succ .zero)) (.lam pD (.lam pD (.app (zl0 _) (.var .zero)))) (.var .zero)));refine h.eq fun ρ=>funext fun m=>funext fun n=>?_;have key:∀n:Nat,xI (α:=Nat) m (fun _ r=>jH0 r) n=Nat.sub m n:=by
  intro n
  induction n with
  | zero=>rfl
  | succ n ih=>simp only[xI,ih];rfl
 exact key n
def ga0:Tm:=N6 .C0 (N6 .C0 (m9 Y6 [vT 1,m9 Q8 [vT 0,vT 1]]))
abbrev B8:Ty:=L0 1 []
def nX(k:Int)(s:Ty)(l:List Tm):Tm × Int:=if 4096<(U0 k 0 s l).A0 then (M6,4) else (U0 k 0 s l,0)
theorem Mc(i:Int):cU 144 [j0 i] (vT i).dv:=by
 exact G7 Tryz.func144 @vT.eq_1 H0
theorem Me:cU 65 [] B8.dv:=by
 exact G7 Tryz.func65 @B8.eq_1 H0
theorem US(t:Ty)(hc:t.A0<=2147483648):cU 151 [t.dv] (j0 t.L4):=by
 exact B2 Tryz.func151 H0 (M0 (FY t hc))
theorem ct0(t:Tm)(hc:t.A0<=1073741824):cU 299 [t.dv] (j0 t.A0):=by
 induction t using m7 with
 | h t ih=>
 refine H2 Tryz.func299 ?_;intro X hP G0 hf X0 hn hR K1 G1;have gQ:=kM (G1 t.dv sS);have OD:=V6 t;refine N2 ?_;refine Q1 ?_;refine G2 [] (j2 @D3.Z0.eq_1 @D3.Z0.eq_2) (y7 (t.B0) (fun done rest=>[sV 9 (j0 done.length),sV 8 (j0 t.B0.length),sV 7 (.sl (t.B0.map E3)),sV 3 (j0 (1+D3.Z0 done:Nat)),sV 2 (j0 0)]) ?_ ?_)
 ·intro done x rest hL B3 Z1;have I1:=E5 hL;have U2:=uE B3;have O6:=gR done (x::rest);have aF:=gR done [x];rw[<- hL]at O6;simp only[D3.Z0]at O6 aF;refine K5 ?_;refine N1 @B3 (M0 (ih x U2 oO)) ?_;refine W3 (wr []) @aF tT Z1
 ·refine K2 ?_;refine Z6 ?_;exact O1 @OD H0
theorem Qq(k:Int)(s:Ty)(l:List Tm)(hc:(U0 k 0 s l).A0<=1073741824):cU 231 [j0 k,s.dv,.sl (l.map E3)] (.H1 [(nX k s l).1.dv,j0 (nX k s l).2]):=by
 refine A3 Tryz.func231 fun X zX=>?_;have hfm:=Tm.fold_mk k 0 s l;refine N1 @hfm (M0 (ct0 (U0 k 0 s l) hc)) ?_;by_cases h:4096<(U0 k 0 s l).A0;· exact P4 (j3 @h @nX.eq_1 @M6.eq_1) H0
 ·exact P4 (j2 @h @nX.eq_1) H0
theorem VP(t:Tm)(f b:Int)(hs:t.shape=true)(hi:t.idx 549755813888)(V8:0<=b)(Z8:b<=1048576)(B6:0<=f)(gL:f+t.A0<=549755813888):cU 160 [t.dv,j0 f,j0 b] (t.V0 f b).dv:=by
 induction t using m7 generalizing f with
 | h t ih=>
 have N4:=V6 t;have kE:=lT t.o0;have aQ:=(oX t _).1 hi;obtain⟨HP,-,-,-,V9⟩:=j9 hs;refine H2 Tryz.func160 ?_;intro X hP G0 hf X0 hn hR K1 G1;have hlen:=kM (G1 t.dv sS);by_cases h0:b=0
 ·rw[h0,Jx]at hR;exact P4 @h0 H0
 by_cases h1:t.o0=1
 ·have ha:t.B0=[]:=by rw[h1]at HP;simp[C5]at HP;exact HP
  rw[cL,ha]at hR;by_cases h2:f<=t.O0
  ·refine U1 (j3 @h0 @h1 @h2) ?_;refine N3 ?_;simp[go_sem,hP,G0,hn,h1,h2,ha] <;> (try omega);all_goals exact f9
  ·refine U1 (j3 @h0 @h1 @h2) ?_;refine N3 ?_;simp[go_sem,hP,G0,hn,h1,h2,ha] <;> (try omega);all_goals exact f9
 rw[cL,if_neg (fun h=>h1 h.1)]at hR;apply vF [sV 36 (j0 0),sV 35 (j0 t.B0.length),sV 34 (.sl (t.B0.map E3)),sL 7 [.v (j0 t.o0),.v (j0 t.O0),.v (j0 t.I0.o0),.v (.sl (t.I0.B0.map P1)),.own 0 []],sP 7,sV 1 (j0 (f+W2 t.o0)),sV 2 (j0 b),sL 6 [.v (j0 0),.v (j0 0),.v (j0 0),.own 0 [],.own 0 []],sP 6]
 ·intro Q3;by_cases h2:t.o0=2
  ·have Cf:W2 2=1:=rfl;refine U1 (j3 @h0 @h1 @h2) ?_;refine m5 ?_;refine G2 [] (j2 @Cf @h2) Q3
  ·have Cf:W2 t.o0=0:=by simp[W2,h2]
   refine U1 (j3 @h0 @h1 @h2) ?_;refine m5 ?_;refine G2 [] (j2 @Cf @h2) Q3
 ·refine Q1 ?_;refine G2 [(1007,0)] tT (y7 (t.B0) (fun done rest=>[sV 36 (j0 done.length),sV 35 (j0 t.B0.length),sV 34 (.sl (t.B0.map E3)),sL 7 [.v (j0 t.o0),.v (j0 t.O0),.v (j0 t.I0.o0),.v (.sl (t.I0.B0.map P1)),.own 1007 (done.map fun x=>(x.V0 (f+W2 t.o0) b).E0)],sP 7,(.tok 1007,.tk 5 done.length),sV 1 (j0 (f+W2 t.o0)),sV 2 (j0 b),sL 6 [.v (j0 0),.v (j0 0),.v (j0 0),.own 0 [],.own 0 []],sP 6]) ?_ ?_)
  ·intro done x rest hL B3 Z1;have I1:=E5 hL;have U2:=uE B3;have aF:=L9 U2;refine K5 ?_;refine N1 @B3 (M0 (ih x U2 (f+W2 t.o0) (V9 x U2) (aQ.2 x U2) oO oO)) ?_;refine W3 (wr [(1007,47)]) (O3 (x.V0 (f+W2 t.o0) b)) tT Z1
  ·refine K2 ?_;refine Z6 ?_;refine N2 ?_;refine N3 ?_;simp[go_sem,hP,G0,hn] <;> (try omega);simp[Tm.dv,O3,Z9,fE,kL,M8]
def TyQ(t:Ty)(g:List Ty)(x:Tm):Prop:=∀(G:List T) (a:T),g=G.map t7->t=a.ty->∃F:Q0 G.reverse->a.V,Dn G.reverse x a F
theorem Jl{t:Ty}(h:L0 4 [s,t]=a.ty):∃S b,a = .fn S b/\s=S.ty/\t=b.ty:=by
 cases a with
 | fn S b=>simp[t7]at h;exact⟨S,b,rfl,h.1,h.2⟩
 | pair S b=>simp[t7]at h
 | C0=>simp[t7]at h
 | list=>simp[t7]at h
 | Z4=>simp[t7]at h
theorem oA0{t:Ty}(h:L0 3 [s,t]=a.ty):∃S b,a = .pair S b/\s=S.ty/\t=b.ty:=by
 cases a with
 | pair S b=>simp[t7]at h;exact⟨S,b,rfl,h.1,h.2⟩
 | fn S b=>simp[t7]at h
 | C0=>simp[t7]at h
 | list=>simp[t7]at h
 | Z4=>simp[t7]at h
theorem QX(h:L0 1 []=a.ty):a = .C0:=by cases a <;> simp[t7]at h ⊢
theorem dc0(h:L0 2 []=a.ty):a = .list:=by cases a <;> simp[t7]at h ⊢
theorem oB0(h:L0 5 []=a.ty):a = .Z4:=by cases a <;> simp[t7]at h ⊢
theorem zS(h:s.small):∃S:T,s=S.ty/\S.ok/\S.size<=15:=by
 obtain⟨S,rfl⟩:=PF s h.1;have:=h.2;rw[T.ty_count]at this;exact⟨S,rfl,by unfold T.ok;omega,this⟩
theorem Ss(Γ:List T):∀n:Nat,∃F:Q0 Γ->T.C0.V,Dn Γ (g8 n) .C0 F
 | 0=>⟨_,.zero⟩
 | n+1=>by
  obtain⟨F,h⟩:=Ss Γ n;exact⟨_,.succ h⟩
theorem dd0:DrawOK TyQ where
 var g i hi G a hg ht:=by
  subst hg;have hl:i<G.length:=by simpa using hi
  obtain⟨b,hb⟩:∃b,G[G.length - 1 - i]? = some b:=⟨_,uB oO⟩;have hv:gZ (G.map t7) i=b.ty:=by
   unfold gZ;rw[jO,List.length_map,cI,hb];rfl
  have hab:a=b:=eN (by rw[<- ht,hv]);subst hab;have hr:G.reverse[i]? = some a:=by rw[List.getElem?_reverse hl,hb]
  obtain⟨p,hp⟩:=At.of hr;exact⟨p,.var hp⟩
 Z3 g n _ G a hg ht:=by
  obtain rfl:=QX ht;exact Ss _ n
 app g s t f x hs ht hf hx G a hg dZ:=by
  obtain⟨S,rfl,-⟩:=zS hs;obtain⟨F,h1⟩:=hf G (.fn S a) hg (by rw[dZ];rfl);obtain⟨X,h2⟩:=hx G S hg rfl;exact⟨_,.app h1 h2⟩
 lam g s t x hs ht hx G a hg dZ:=by
  obtain⟨S,b,rfl,rfl,rfl⟩:=Jl dZ;obtain⟨S',e,ho,-⟩:=zS hs;obtain rfl:=eN e;have:=hx (G++[S]) b (by rw[hg,FV];rfl) rfl;rw[jI0]at this;obtain⟨F,h1⟩:=this;exact⟨_,.lam ho h1⟩
 lam2 g s t r x hs ht hr hx G a hg dZ:=by
  obtain⟨S,b1,rfl,rfl,V8⟩:=Jl dZ;obtain⟨S2,b,rfl,rfl,rfl⟩:=Jl V8;obtain⟨_,e,ho,-⟩:=zS hs;obtain rfl:=eN e;obtain⟨_,e,ZK,-⟩:=zS ht;obtain rfl:=eN e;have:=hx (G++[S,S2]) b (by rw[hg,FV];rfl) rfl;rw[jI0]at this;obtain⟨F,h1⟩:=this;exact⟨_,.lam ho (.lam ZK h1)⟩
 lam3 g s t u r x hs ht hu hr hx G a hg dZ:=by
  obtain⟨S,b1,rfl,rfl,V8⟩:=Jl dZ;obtain⟨S2,b2,rfl,rfl,Z8⟩:=Jl V8;obtain⟨S3,b,rfl,rfl,rfl⟩:=Jl Z8;obtain⟨_,e,ho,-⟩:=zS hs;obtain rfl:=eN e;obtain⟨_,e,ZK,-⟩:=zS ht;obtain rfl:=eN e;obtain⟨_,e,ho3,-⟩:=zS hu;obtain rfl:=eN e;have:=hx (G++[S,S2,S3]) b (by rw[hg,FV];rfl) rfl;rw[jI0]at this;obtain⟨F,h1⟩:=this;exact⟨_,.lam ho (.lam ZK (.lam ho3 h1))⟩
 pair g s t x y hs ht hx hy G a hg dZ:=by
  obtain⟨S,b,rfl,rfl,rfl⟩:=oA0 dZ;obtain⟨F,h1⟩:=hx G S hg rfl;obtain⟨X,h2⟩:=hy G b hg rfl;exact⟨_,.pair h1 h2⟩
 fst g s t x hs ht hx G a hg dZ:=by
  obtain⟨S,rfl,-⟩:=zS ht;obtain⟨F,h1⟩:=hx G (.pair a S) hg (by rw[dZ];rfl);exact⟨_,.fst h1⟩
 snd g s t x hs ht hx G a hg dZ:=by
  obtain⟨S,rfl,-⟩:=zS hs;obtain⟨F,h1⟩:=hx G (.pair S a) hg (by rw[dZ];rfl);exact⟨_,.snd h1⟩
 rc g t x f n ht hx hf hn G a hg dZ:=by
  subst dZ;obtain⟨_,e,ho,-⟩:=zS ht;obtain rfl:=eN e;obtain⟨B,h1⟩:=hx G a hg rfl;obtain⟨F,h2⟩:=hf G (.fn .C0 (.fn a a)) hg rfl;obtain⟨N,h3⟩:=hn G .C0 hg rfl;exact⟨_,.rc ho h1 h2 h3⟩
 fold g t x f n ht hx hf hn G a hg dZ:=by
  subst dZ;obtain⟨_,e,ho,-⟩:=zS ht;obtain rfl:=eN e;obtain⟨B,h1⟩:=hx G a hg rfl;obtain⟨F,h2⟩:=hf G (.fn .C0 (.fn .list (.fn a a))) hg rfl;obtain⟨N,h3⟩:=hn G .list hg rfl;exact⟨_,.fold ho h1 h2 h3⟩
 succ g x hx G a hg dZ:=by
  obtain rfl:=QX dZ;obtain⟨F,h1⟩:=hx G .C0 hg rfl;exact⟨_,.succ h1⟩
 plus g x y hx hy G a hg dZ:=by
  obtain rfl:=QX dZ;obtain⟨F,h1⟩:=hx G .C0 hg rfl;obtain⟨X,h2⟩:=hy G .C0 hg rfl;exact⟨_,.app (.app (Xw _) h1) h2⟩
 sub g x y hx hy G a hg dZ:=by
  obtain rfl:=QX dZ;obtain⟨F,h1⟩:=hx G .C0 hg rfl;obtain⟨X,h2⟩:=hy G .C0 hg rfl;exact⟨_,.app (.app (f90 _) h1) h2⟩
 nil g G a hg dZ:=by
  obtain rfl:=dc0 dZ;exact⟨_,.nil⟩
 cons g x y hx hy G a hg dZ:=by
  obtain rfl:=dc0 dZ;obtain⟨F,h1⟩:=hx G .C0 hg rfl;obtain⟨X,h2⟩:=hy G .list hg rfl;exact⟨_,.cons h1 h2⟩
 Z4 g G a hg dZ:=by
  obtain rfl:=oB0 dZ;exact⟨_,.Z4⟩
theorem RA(l:List Int)(n:Nat){t:Ty}{p:Nat}(ht:t.small)(hg:∀x∈g,x.small)(hp:p<=l.length){G:List T}(eg:g=G.map t7)(et:t=a.ty):
  ∃F:Q0 G.reverse->a.V,Dn G.reverse (l8 l n t g p).1 a F:=(Ef dd0 n t g p ht hg hp).2 G a eg et
theorem gb0{G:List T}(hl:G.length<=16)(h:∀a∈G,a.ok):gD (G.map t7)=0:=by
 unfold gD;rw[if_neg (by simp;omega)]
 induction G with
 | nil=>rfl
 | cons a G ih=>
  have:=ih (by simp at hl;omega) fun x hx=>h x (by simp[hx]);simp only[G4,mW];rw[(wE _).2 (M9 (h a sS))]
  simpa using this
def Yv:Nat->Nat
 | 0=>45
 | n+1=>3 * Yv n+4
theorem rx0:∀n,16<=Yv n
 | 0=>dD
 | n+1=>by have:=rx0 n;simp only[Yv];omega
def Tm.closedN:Tm->Nat->Bool
 | .mk k i _ a,n=>if k=1 then decide (0<=i)&&decide (i.toNat<n) else closeds a (if k=2 then n+1 else n)
where
 closeds:List Tm->Nat->Bool
  | [],_=>true
  | a::r,n=>a.closedN n&&closeds r n
theorem Tm.closedN_eq(t:Tm)(n:Nat):t.closedN n=if t.o0=1 then decide (0<=t.O0)&&decide (t.O0.toNat<n) else closedN.closeds t.B0 (if t.o0=2 then n+1 else n):=by cases t;rw[closedN];rfl
theorem Tm.closeds_iff(l:List Tm)(n:Nat):closedN.closeds l n=true↔∀a∈l,a.closedN n=true:=by
 induction l with
 | nil=>simp[closedN.closeds]
 | cons a r ih=>simp[closedN.closeds,ih]
theorem bZ0{h:List Ty}(e:∀a∈l,a.V1 g=a.V1 h):f7.Y4 l g=f7.Y4 l h:=by
 induction l with
 | nil=>rfl
 | cons a r ih=>simp only[f7.Y4,e a sS,ih fun x hx=>e x (by simp[hx])]
theorem oC0(t:Tm):∀(l g:List Ty),t.closedN l.length=true->t.V1 (g++l)=t.V1 l:=by
 induction t using m7 with
 | h t ih=>
 intro l g hc;rw[Tm.closedN_eq]at hc;rw[oW t (g++l),oW t l];by_cases h1:t.o0=1
 ·rw[if_pos h1]at hc ⊢;rw[if_pos h1];simp only[uH,decide_eq_true_eq]at hc;have h2:¬((g++l).length:Int)<=t.O0:=by simp;omega
  have h3:¬(l.length:Int)<=t.O0:=oO;rw[if_neg h2,if_neg h3];have e:(g++l).length - 1 - t.O0.toNat=g.length+(l.length - 1 - t.O0.toNat):=by simp;omega
  rw[e,jO,cK oO,Nat.add_sub_cancel_left,jO]
 ·rw[if_neg h1]at hc ⊢;rw[if_neg h1];rw[Tm.closeds_iff]at hc;have e:f7.Y4 t.B0 (if t.o0=2 then g++l++[t.I0] else g++l)=f7.Y4 t.B0 (if t.o0=2 then l++[t.I0] else l):=by
   by_cases h2:t.o0=2
   ·rw[if_pos h2,if_pos h2];rw[if_pos h2]at hc;refine bZ0 fun a ha=>?_;rw[yQ];exact ih a ha (l++[t.I0]) g (by simpa using hc a ha)
   ·rw[if_neg h2,if_neg h2];rw[if_neg h2]at hc;exact bZ0 fun a ha=>ih a ha l g (hc a ha)
  rw[e]
theorem Ve{t:Tm}(h:t.closedN 0=true)(g:List Ty):t.V1 g=t.V1 []:=by
 have:=oC0 t [] g (by simpa using h)
 simpa using this
theorem wM{y:Ty}{ts:List Ty}(hk:¬k=1)(h:f7.Y4 l (if k=2 then g++[y] else g)=(ts,0)):(U0 k 0 y l).V1 g=g7 k y ts:=by
 rw[oW];show (if k=1 then _ else if (f7.Y4 l (if k=2 then g++[y] else g)).2=0 then g7 k y (f7.Y4 l (if k=2 then g++[y] else g)).1 else _)=_;rw[if_neg hk,h,if_pos rfl]
theorem RU{a:Tm}(h:a.V1 g=(s,0)):f7.Y4 [a] g=([s],0):=by simp[f7.Y4,h]
theorem Xx{a:Tm}{t:Ty}(h:a.V1 g=(s,0))(h':b.V1 g=(t,0)):f7.Y4 [a,b] g=([s,t],0):=by simp[f7.Y4,h,h']
theorem fr0{a c:Tm}{t u:Ty}(h:a.V1 g=(s,0))(h':b.V1 g=(t,0))(h'':c.V1 g=(u,0)):f7.Y4 [a,b,c] g=([s,t,u],0):=by simp[f7.Y4,h,h',h'']
theorem XT{y:Ty}(h:y.ok):eT y=(y,0):=by unfold eT;rw[if_pos ((wE y).2 h)]
theorem IZ(a:Ty):a.same a=true:=(y9 a a).2 rfl
theorem Et{t:Ty}(hk:k=3\/k=4)(hs:s.shape=true)(ht:t.shape=true)(hc:1+s.A0+t.A0<=64):(L0 k [s,t]).ok:=⟨GI hk hs ht,by rw[show (L0 k [s,t]).A0=1+(s.A0+(t.A0+0)) from rfl];omega⟩
theorem qR{t:Ty}{f:Tm}(hf:f.V1 g=(L0 4 [s,t],0))(hx:x.V1 g=(s,0)):(nT 3 [f,x]).V1 g=(t,0):=by
 unfold nT;rw[wM dD (Xx hf hx)];unfold g7;rw[if_neg dD,if_pos rfl,if_pos ⟨rfl,IZ s⟩];rfl
theorem zG{t:Ty}(hx:x.V1 (g++[s])=(t,0))(ho:(L0 4 [s,t]).ok):(U0 2 0 s [x]).V1 g=(L0 4 [s,t],0):=by
 rw[wM dD (by rw[if_pos rfl];exact RU hx)];unfold g7;rw[if_pos rfl];exact XT ho
theorem oD0{t:Ty}{y:Tm}(hx:x.V1 g=(s,0))(hy:y.V1 g=(t,0))(ho:(L0 3 [s,t]).ok):(nT 10 [x,y]).V1 g=(L0 3 [s,t],0):=by
 unfold nT;rw[wM dD (Xx hx hy)];exact XT ho
theorem ry0{t:Ty}(hx:x.V1 g=(L0 3 [s,t],0)):(nT 11 [x]).V1 g=(s,0):=by
 unfold nT;rw[wM dD (RU hx)];rfl
theorem rz0{t:Ty}(hx:x.V1 g=(L0 3 [s,t],0)):(nT 12 [x]).V1 g=(t,0):=by
 unfold nT;rw[wM dD (RU hx)];rfl
theorem vV0{t:Ty}{f n:Tm}(hx:x.V1 g=(t,0))(hf:f.V1 g=(L0 4 [L0 1 [],L0 4 [t,t]],0))(hn:n.V1 g=(L0 1 [],0)):(U0 6 0 t [x,f,n]).V1 g=(t,0):=by
 rw[wM dD (fr0 hx hf hn)];unfold g7;rw[if_neg dD,if_neg dD,if_neg dD,if_neg dD,if_pos rfl,if_pos ⟨IZ t,IZ _,rfl⟩]
theorem oE0{t:Ty}{f n:Tm}(hx:x.V1 g=(t,0))(hf:f.V1 g=(L0 4 [L0 1 [],L0 4 [L0 2 [],L0 4 [t,t]]],0))(hn:n.V1 g=(L0 2 [],0)):(U0 9 0 t [x,f,n]).V1 g=(t,0):=by
 rw[wM dD (fr0 hx hf hn)];unfold g7;rw[if_neg dD,if_neg dD,if_neg dD,if_neg dD,if_neg dD,if_neg dD,if_neg dD,if_pos rfl,if_pos ⟨IZ t,IZ _,rfl⟩]
theorem IP(hx:x.V1 g=(L0 1 [],0)):(nT 5 [x]).V1 g=(L0 1 [],0):=by
 unfold nT;rw[wM dD (RU hx)];rfl
theorem oF0{y:Tm}(hx:x.V1 g=(L0 1 [],0))(hy:y.V1 g=(L0 2 [],0)):(nT 8 [x,y]).V1 g=(L0 2 [],0):=by
 unfold nT;rw[wM dD (Xx hx hy)];rfl
theorem oG0(g:List Ty):(nT 4 []).V1 g=(L0 1 [],0):=by unfold nT;rw[wM dD rfl];rfl
theorem rA0(g:List Ty):(nT 7 []).V1 g=(L0 2 [],0):=by unfold nT;rw[wM dD rfl];rfl
theorem oH0(g:List Ty):(nT 13 []).V1 g=(L0 5 [],0):=by unfold nT;rw[wM dD rfl];rfl
theorem QY(g:List Ty):∀n:Nat,(g8 n).V1 g=(L0 1 [],0)
 | 0=>oG0 g
 | n+1=>IP (QY g n)
theorem vA(hi:i<g.length):(vT (i:Nat)).V1 g=(gZ g i,0):=by
 rw[oW];show (if (1:Int)=1 then if (g.length:Int)<=(i:Int) then _ else (g.getD (g.length - 1 - (i:Int).toNat) I4,0) else _)=_;rw[if_pos rfl,if_neg oO];rfl
theorem Vv(g:List Ty):Y6.V1 g=(L0 4 [L0 1 [],L0 4 [L0 1 [],L0 1 []]],0):=by
 rw[Ve dD g];rfl
theorem VQ(g:List Ty):Q8.V1 g=(L0 4 [L0 1 [],L0 4 [L0 1 [],L0 1 []]],0):=by
 rw[Ve dD g];rfl
theorem VR:DrawOK (fun t g x=>x.V1 g=(t,0)) where
 var g i hi:=vA hi
 Z3 g n _:=QY g n
 app g s t f x hs ht hf hx:=qR hf hx
 lam g s t x hs ht hx:=zG hx (Et (.inr rfl) hs.1 ht.1 (by have:=hs.2;have:=ht.2;omega))
 lam2 g s t r x hs ht hr hx:=by
  have c1:=hs.2;have c2:=ht.2;have c3:=hr.2;have h1:=zG (g:=g++[s]) (s:=t) (t:=r) (x:=x) (by rw[yQ];exact hx) (Et (.inr rfl) ht.1 hr.1 oO);exact zG h1 (Et (.inr rfl) hs.1 (GI (.inr rfl) ht.1 hr.1) (by rw[show (L0 4 [t,r]).A0=1+(t.A0+(r.A0+0)) from rfl];omega))
 lam3 g s t u r x hs ht hu hr hx:=by
  have c1:=hs.2;have c2:=ht.2;have c3:=hr.2;have c4:=hu.2;have h1:=zG (g:=g++[s]++[t]) (s:=u) (t:=r) (x:=x) (by simp only[yQ];exact hx) (Et (.inr rfl) hu.1 hr.1 oO);have e1:(L0 4 [u,r]).A0=1+(u.A0+(r.A0+0)):=rfl;have h2:=zG h1 (Et (.inr rfl) ht.1 (GI (.inr rfl) hu.1 hr.1) (by rw[e1];omega));have e2:(L0 4 [t,L0 4 [u,r]]).A0=1+(t.A0+((L0 4 [u,r]).A0+0)):=rfl;exact zG h2 (Et (.inr rfl) hs.1 (GI (.inr rfl) ht.1 (GI (.inr rfl) hu.1 hr.1)) (by rw[e2,e1];omega))
 pair g s t x y hs ht hx hy:=oD0 hx hy (Et (.inl rfl) hs.1 ht.1 (by have:=hs.2;have:=ht.2;omega))
 fst g s t x hs ht hx:=ry0 hx
 snd g s t x hs ht hx:=rz0 hx
 rc g t x f n ht hx hf hn:=vV0 hx hf hn
 fold g t x f n ht hx hf hn:=oE0 hx hf hn
 succ g x hx:=IP hx
 plus g x y hx hy:=qR (qR (Vv g) hx) hy
 sub g x y hx hy:=qR (qR (VQ g) hx) hy
 nil g:=rA0 g
 cons g x y hx hy:=oF0 hx hy
 Z4 g:=oH0 g
theorem QZ{t:Tm}{F:Q0 Γ->a.V}(h:Dn Γ t a F):t.closedN Γ.length=true:=by
 induction h with
 | @var Γ i a p h=>
  rw[Tm.closedN_eq,if_pos (show (vT i).o0=1 from rfl),uH];have:=h.lt;refine⟨decide_eq_true (show (0:Int)<=((i:Nat):Int) from oO),decide_eq_true (show ((i:Nat):Int).toNat<_ from oO)⟩
 | lam ha h ih=>rw[Tm.closedN_eq];exact (Tm.closeds_iff _ _).2 (by intro x hx;simp only[N6,J5,bM]at hx;subst hx;exact ih)
 | app hf hx E9 T8=>rw[Tm.closedN_eq];exact (Tm.closeds_iff _ _).2 (by intro x hx;simp only[nT,J5,u5,mL,or_false]at hx;rcases hx with rfl|rfl;exact E9;exact T8)
 | zero=>rfl
 | succ hx ih=>rw[Tm.closedN_eq];exact (Tm.closeds_iff _ _).2 (by intro x hx;simp only[nT,J5,bM]at hx;subst hx;exact ih)
 | rc ha hb hf hn E9 T8 Hq=>rw[Tm.closedN_eq];exact (Tm.closeds_iff _ _).2 (by intro x hx;simp only[J5,u5,mL,or_false]at hx;rcases hx with rfl|rfl|rfl;exact E9;exact T8;exact Hq)
 | nil=>rfl
 | cons hx hl E9 T8=>rw[Tm.closedN_eq];exact (Tm.closeds_iff _ _).2 (by intro x hx;simp only[nT,J5,u5,mL,or_false]at hx;rcases hx with rfl|rfl;exact E9;exact T8)
 | fold ha hb hf hn E9 T8 Hq=>rw[Tm.closedN_eq];exact (Tm.closeds_iff _ _).2 (by intro x hx;simp only[J5,u5,mL,or_false]at hx;rcases hx with rfl|rfl|rfl;exact E9;exact T8;exact Hq)
 | pair hx hy E9 T8=>rw[Tm.closedN_eq];exact (Tm.closeds_iff _ _).2 (by intro x hx;simp only[nT,J5,u5,mL,or_false]at hx;rcases hx with rfl|rfl;exact E9;exact T8)
 | fst hx ih=>rw[Tm.closedN_eq];exact (Tm.closeds_iff _ _).2 (by intro x hx;simp only[nT,J5,bM]at hx;subst hx;exact ih)
 | snd hx ih=>rw[Tm.closedN_eq];exact (Tm.closeds_iff _ _).2 (by intro x hx;simp only[nT,J5,bM]at hx;subst hx;exact ih)
 | Z4=>rfl
theorem Wq(t:Tm)(b:Int):∀n:Nat,t.shape=true->t.closedN n=true->t.V0 (n:Int) b=t:=by
 induction t using m7 with
 | h t ih=>
 intro n hs hc;obtain⟨hlen,-,-,-,V9⟩:=j9 hs;rw[Tm.closedN_eq]at hc;rw[cL];by_cases h1:t.o0=1
 ·rw[if_pos h1,uH]at hc;have c1:=of_decide_eq_true hc.1;have c2:=of_decide_eq_true hc.2;rw[if_neg oO];have ha:t.B0=[]:=by rw[h1]at hlen;simp[C5]at hlen;exact hlen
  rw[ha,O5,<- ha];exact Cn t
 ·rw[if_neg h1]at hc;rw[if_neg (fun h=>h1 h.1)];have hm:(t.B0.map fun x=>x.V0 ((n:Int)+W2 t.o0) b)=t.B0:=by
   conv=>rhs;rw[<- yW t.B0]
   refine kW fun x hx=>?_;have I8:=(Tm.closeds_iff _ _).1 hc x hx;by_cases h2:t.o0=2
   ·rw[if_pos h2]at I8;have:=ih x hx (n+1) (V9 x hx) I8;have hb:W2 t.o0=1:=by simp[W2,h2]
    rw[hb]
    simpa using this
   ·rw[if_neg h2]at I8;have:=ih x hx n (V9 x hx) I8;have hb:W2 t.o0=0:=by simp[W2,h2]
    rw[hb,sE];exact this
  rw[hm];exact Cn t
theorem CU0{t:Tm}{F:Q0 []->a.V}(h:Dn [] t a F)(b:Int):t.V0 0 b=t:=Wq t b 0 (Z5 h) (QZ h)
theorem F7{t:Tm}{F:Q0 []->a.V}(h:Dn [] t a F)(Γ:List T):Dn Γ t a (fun _=>F ()):=by
 have h1:=xN h Γ;rw[CU0 h]at h1;have h2:Dn (Γ++[]) t a (fun _=>F ()):=h1.eq fun ρ=>rfl;have h3:∀L,L=Γ++[]->Dn L t a (fun _=>F ()):=by rintro _ rfl;exact h2
 exact h3 Γ (KX Γ).symm
def szZ:List DV:=[j0 0,.sl [],j0 0]
def Zj:Option Ty->List DV
 | some t=>Q4 t
 | none=>szZ
def eW(l:List Ty):List DV:=Zj l[0]?++(Zj l[1]?++Zj l[2]?)
theorem Nk:eW []=[j0 0,.sl [],j0 0,j0 0,.sl [],j0 0,j0 0,.sl [],j0 0]:=rfl
theorem GU(a:Ty):eW [a]=[j0 a.o0,.sl (a.B0.map P1),j0 (a.A0:Int),j0 0,.sl [],j0 0,j0 0,.sl [],j0 0]:=rfl
theorem BF(a b:Ty):eW [a,b]=[j0 a.o0,.sl (a.B0.map P1),j0 (a.A0:Int),j0 b.o0,.sl (b.B0.map P1),j0 (b.A0:Int),j0 0,.sl [],j0 0]:=rfl
theorem SH(a b c:Ty):eW [a,b,c]=[j0 a.o0,.sl (a.B0.map P1),j0 (a.A0:Int),j0 b.o0,.sl (b.B0.map P1),j0 (b.A0:Int),j0 c.o0,.sl (c.B0.map P1),j0 (c.A0:Int)]:=rfl
theorem de0(t:Tm):cU 313 [t.dv] (tH t.I0 (if t.o0=9 then [L0 1 [],L0 2 [],t.I0] else [L0 1 [],t.I0])).dv:=by
 refine A3 Tryz.func313 fun X zX=>?_;by_cases h:t.o0=9
 ·have w:=eF0 t.I0 [L0 1 [],L0 2 [],t.I0];exact P4 (j3 @h @tB @CR) (E8 Mp dN0 w)
 ·have w:=eF0 t.I0 [L0 1 [],t.I0];exact P4 (j2 @h @tB) (P3 Mp w)
theorem Nl(k:Int):(L0 k []).dv = .agg [j0 k,.sl []]:=rfl
theorem BG(k:Int):Q4 (L0 k [])=[j0 k,.sl [],j0 1]:=rfl
theorem zm0(t:Tm)(h:t.o0=4):cU 237 [t.dv,.agg (eW [])] (.H1 [.agg (Q4 (L0 1 [])),j0 0]):=by
 rw[Nk];have wp:=lS 4;rw[if_pos rfl]at wp;have wo:=wP (L0 1 []) Sq;rw[Nl,BG]at wo;rw[BG];refine A3 iK fun X zX=>?_;have hi:P2 [1]=[[j0 1]]:=rfl;rw[hi]at wp;refine V3 @h (M0 wp) ?_;refine W8 ?_;exact O1 H0 (M0 wo)
theorem zn0(t:Tm)(h:t.o0=7):cU 237 [t.dv,.agg (eW [])] (.H1 [.agg (Q4 (L0 2 [])),j0 0]):=by
 rw[Nk];have wp:=lS 7;rw[if_neg dD,if_neg dD,if_pos rfl]at wp;have wo:=wP (L0 2 []) RR;rw[Nl,BG]at wo;rw[BG];refine A3 iK fun X zX=>?_;have hi:P2 [2]=[[j0 2]]:=rfl;rw[hi]at wp;refine V3 @h (M0 wp) ?_;refine W8 ?_;exact O1 H0 (M0 wo)
theorem vW0(t:Tm)(h:t.o0=13):cU 237 [t.dv,.agg (eW [])] (.H1 [.agg (Q4 (L0 5 [])),j0 0]):=by
 rw[Nk];have wp:=lS 13;rw[if_neg dD,if_neg dD,if_neg dD,if_neg dD,if_pos rfl]at wp;have wo:=wP (L0 5 []) fn0;rw[Nl,BG]at wo;rw[BG];refine A3 iK fun X zX=>?_;have hi:P2 [5]=[[j0 5]]:=rfl;rw[hi]at wp;refine V3 @h (M0 wp) ?_;refine W8 ?_;exact O1 H0 (M0 wo)
theorem zo0(t:Tm)(h:t.o0=5):cU 237 [t.dv,.agg (eW [L0 1 []])] (.H1 [.agg (Q4 (L0 1 [])),j0 0]):=by
 rw[GU];have wp:=lS 5;rw[if_neg dD,if_pos rfl]at wp;have wo:=wP (L0 1 []) Sq;have wi:=mR (L0 1 []) 1;rw[Nl,BG]at wo;rw[BG]at wi ⊢;have hi:P2 [1,1]=[[j0 1],[j0 1]]:=rfl;have hd:decide ((L0 1 []).o0=1)=true:=rfl;have hk:(L0 1 []).o0=1:=rfl;have ha:(L0 1 []).B0=[]:=rfl;have hc:(L0 1 []).A0=1:=rfl;rw[hi]at wp;rw[hd]at wi;rw[hk,ha,hc];refine A3 iK fun X zX=>?_;refine V3 @h (M0 wp) ?_;refine W8 ?_;refine V3 H0 (M0 wi) ?_;refine bV ?_;exact O1 H0 (M0 wo)
theorem zp0(t:Tm)(h:t.o0=8):cU 237 [t.dv,.agg (eW [L0 1 [],L0 2 []])] (.H1 [.agg (Q4 (L0 2 [])),j0 0]):=by
 rw[BF];have wp:=lS 8;rw[if_neg dD,if_neg dD,if_neg dD,if_pos rfl]at wp;have wo:=wP (L0 2 []) RR;have wi:=mR (L0 1 []) 1;have wj:=mR (L0 2 []) 2;rw[Nl,BG]at wo;rw[BG]at wi wj ⊢;have hi:P2 [2,1,2]=[[j0 2],[j0 1],[j0 2]]:=rfl;have hd:decide ((L0 1 []).o0=1)=true:=rfl;have hk:(L0 1 []).o0=1:=rfl;have ha:(L0 1 []).B0=[]:=rfl;have hc:(L0 1 []).A0=1:=rfl;have AM:decide ((L0 2 []).o0=2)=true:=rfl;have Y5:(L0 2 []).o0=2:=rfl;have ha2:(L0 2 []).B0=[]:=rfl;have bS:(L0 2 []).A0=1:=rfl;rw[hi]at wp;rw[hd]at wi;rw[AM]at wj;rw[hk,ha,hc,Y5,ha2,bS];refine A3 iK fun X zX=>?_;refine V3 @h (M0 wp) ?_;refine W8 ?_;refine V3 H0 (M0 wi) ?_;refine bV ?_;refine V3 H0 (M0 wj) ?_;refine bV ?_;exact O1 H0 (M0 wo)
theorem zq0(t:Tm)(h:t.o0=3)(x y a r:Ty)(hk:x.o0=4)(hx:x.B0=[a,r])(ha:a.ok)(hr:r.ok)(hs:a.same y=true) :
  cU 237 [t.dv,.agg (eW [x,y])] (.H1 [.agg (Q4 r),j0 0]):=by
 rw[BF];have wp:=lS 3;rw[if_neg dD,if_neg dD,if_neg dD,if_neg dD,if_neg dD]at wp;have wi:=mR x 4;have w0:=LM x a 0 (by rw[hx];rfl) ha;have w1:=LM x r 1 (by rw[hx];rfl) hr;have ws:=LN a y;have hi:P2 []=[]:=rfl;have hd:decide (x.o0=4)=true:=decide_eq_true hk;rw[hi]at wp;rw[hd]at wi;rw[hs]at ws;simp only[W7]at wi w0 w1 ws ⊢;exact B2 iK @h (T9 wp wi w0 ws w1)
theorem eL0(t:Tm)(h:t.o0=6\/t.o0=9)(ht:t.I0.ok)(x y z:Ty)(hx:x.same t.I0=true)(hy:y.same (tH t.I0 (if t.o0=9 then [L0 1 [],L0 2 [],t.I0] else [L0 1 [],t.I0]))=true)(hz:z.o0=if t.o0=9 then 2 else 1) :
  cU 237 [t.dv,.agg (eW [x,y,z])] (.H1 [.agg (Q4 t.I0),j0 0]):=by
 rw[SH];have wo:=wP t.I0 ht;have ws:=LN x t.I0;have wt:=de0 t;have wy:=Cw y (tH t.I0 (if t.o0=9 then [L0 1 [],L0 2 [],t.I0] else [L0 1 [],t.I0]));have l7:=P5 t;rw[hx]at ws;rw[hy]at wy;generalize tH t.I0 (if t.o0=9 then [L0 1 [],L0 2 [],t.I0] else [L0 1 [],t.I0])=st at *;simp only[W7]at wo ws ⊢;rcases h with h|h
 ·have wp:=lS 6;rw[if_neg dD,if_neg dD,if_neg dD,if_neg dD,if_neg dD]at wp;have hi:P2 []=[]:=rfl;rw[hi]at wp;rw[if_neg oO]at hz;have wi:=mR z 1;rw[decide_eq_true hz]at wi;simp only[W7]at wi;rw[h]at l7;exact B2 iK (j2 @h @l7) (nD wp wo ws wt wy wi)
 ·have wp:=lS 9;rw[if_neg dD,if_neg dD,if_neg dD,if_neg dD,if_neg dD]at wp;have hi:P2 []=[]:=rfl;rw[hi]at wp;rw[if_pos h]at hz;have wi:=mR z 2;rw[decide_eq_true hz]at wi;simp only[W7]at wi;rw[h]at l7;exact B2 iK (j2 @h @l7) (nD wp wo ws wt wy wi)
theorem vX0(t:Tm)(h:t.o0=10)(x y:Ty)(hc:1+x.A0+y.A0<=64) :
  cU 237 [t.dv,.agg (eW [x,y])] (.H1 [.agg (Q4 (L0 3 [x,y])),j0 0]):=by
 rw[BF];have wp:=lS 10;rw[if_neg dD,if_neg dD,if_neg dD,if_neg dD,if_neg dD]at wp;have hi:P2 []=[]:=rfl;rw[hi]at wp;have wj:=cW0 3 x y hc;generalize L0 3 [x,y]=r at *;simp only[W7]at wj ⊢;exact B2 iK @h (P3 wp wj)
theorem vY0(t:Tm)(h:t.o0=11)(x a b:Ty)(hk:x.o0=3)(hx:x.B0=[a,b])(ha:a.ok) :
  cU 237 [t.dv,.agg (eW [x])] (.H1 [.agg (Q4 a),j0 0]):=by
 rw[GU];have wp:=lS 11;rw[if_neg dD,if_neg dD,if_neg dD,if_neg dD,if_neg dD]at wp;have hi:P2 []=[]:=rfl;rw[hi]at wp;have wi:=mR x 3;have w0:=LM x a 0 (by rw[hx];rfl) ha;rw[decide_eq_true hk]at wi;simp only[W7]at wi w0 ⊢;exact B2 iK @h (E8 wp wi w0)
theorem vZ0(t:Tm)(h:t.o0=12)(x a b:Ty)(hk:x.o0=3)(hx:x.B0=[a,b])(hb:b.ok) :
  cU 237 [t.dv,.agg (eW [x])] (.H1 [.agg (Q4 b),j0 0]):=by
 rw[GU];have wp:=lS 12;rw[if_neg dD,if_neg dD,if_neg dD,if_neg dD,if_neg dD]at wp;have hi:P2 []=[]:=rfl;rw[hi]at wp;have wi:=mR x 3;have w0:=LM x b 1 (by rw[hx];rfl) hb;rw[decide_eq_true hk]at wi;simp only[W7]at wi w0 ⊢;exact B2 iK @h (E8 wp wi w0)
theorem Xy(t:Ty):(Q4 t).length=3:=rfl
theorem v00{t:Tm}(ht:t.shape=true)(gN:¬t.o0=1)(Y5:¬t.o0=2){ds:List Ty}(hl:ds.length=t.B0.length)(hd:∀d∈ds,d.ok){r:Ty}(hr:g7 t.o0 t.I0 ds=(r,0)) :
  cU 237 [t.dv,.agg (eW ds)] (.H1 [.agg (Q4 r),j0 0]):=by
 obtain⟨ha,hi,hv,C6,hs⟩:=j9 ht;rw[<- hl]at ha;unfold g7 at hr;rw[if_neg Y5]at hr;by_cases h3:t.o0=3
 ·rw[if_pos h3]at hr;rw[h3]at ha
  match ds,ha with
  | [x,y],_=>
   split at hr
   ·rename_i hx;obtain⟨BV,OO⟩:=hx;have BV:x.o0=4:=BV;obtain⟨p,q,hp,op,oq,e0,e1⟩:=yV (hd x sS) (.inr BV);have OO:(x.arg 0).same y=true:=OO;rw[e0]at OO;have e2:([x,y].getD 0 I4).arg 1=q:=e1;rw[e2]at hr;cases hr;exact zq0 t h3 x y p _ BV hp op oq OO
   ·cases hr
 rw[if_neg h3]at hr;by_cases h4:t.o0=4
 ·rw[if_pos h4]at hr;rw[h4]at ha
  match ds,ha with
  | [],_=>cases hr;exact zm0 t h4
 rw[if_neg h4]at hr;by_cases h5:t.o0=5
 ·rw[if_pos h5]at hr;rw[h5]at ha
  match ds,ha with
  | [x],_=>
   split at hr
   ·rename_i hx;have hx:x.same (L0 1 [])=true:=hx;obtain rfl:=(y9 _ _).1 hx;cases hr;exact zo0 t h5
   ·cases hr
 rw[if_neg h5]at hr;by_cases h6:t.o0=6
 ·rw[if_pos h6]at hr;rw[h6]at ha;rw[if_pos (.inr (.inl h6))]at C6
  match ds,ha with
  | [x,y,z],_=>
   split at hr
   ·rename_i hx;obtain⟨hx,hy,hz⟩:=hx;have hz:z.same (L0 1 [])=true:=hz;obtain rfl:=(y9 _ _).1 hz;cases hr;refine eL0 t (.inl h6) C6 x y _ hx ?_ ?_;· rw[if_neg oO];exact hy
    ·rw[if_neg oO];rfl
   ·cases hr
 rw[if_neg h6]at hr;by_cases h7:t.o0=7
 ·rw[if_pos h7]at hr;rw[h7]at ha
  match ds,ha with
  | [],_=>cases hr;exact zn0 t h7
 rw[if_neg h7]at hr;by_cases h8:t.o0=8
 ·rw[if_pos h8]at hr;rw[h8]at ha
  match ds,ha with
  | [x,y],_=>
   split at hr
   ·rename_i hx;obtain⟨hx,hy⟩:=hx;have hx:x.same (L0 1 [])=true:=hx;have hy:y.same (L0 2 [])=true:=hy;obtain rfl:=(y9 _ _).1 hx;obtain rfl:=(y9 _ _).1 hy;cases hr;exact zp0 t h8
   ·cases hr
 rw[if_neg h8]at hr;by_cases h9:t.o0=9
 ·rw[if_pos h9]at hr;rw[h9]at ha;rw[if_pos (.inr (.inr h9))]at C6
  match ds,ha with
  | [x,y,z],_=>
   split at hr
   ·rename_i hx;obtain⟨hx,hy,hz⟩:=hx;have hz:z.same (L0 2 [])=true:=hz;obtain rfl:=(y9 _ _).1 hz;cases hr;refine eL0 t (.inr h9) C6 x y _ hx ?_ ?_;· rw[if_pos h9];exact hy
    ·rw[if_pos h9];rfl
   ·cases hr
 rw[if_neg h9]at hr;by_cases jN:t.o0=10
 ·rw[if_pos jN]at hr;rw[jN]at ha
  match ds,ha with
  | [x,y],_=>
   have hr:eT (L0 3 [x,y])=(r,0):=hr;obtain⟨o1,o2⟩:=JL (L0 3 [x,y]) (by rw[hr]);rw[o2]at hr;rw[o2]at o1;cases hr;have:=o1.2;rw[Ma]at this;exact vX0 t jN x y oO
 rw[if_neg jN]at hr;by_cases I7:t.o0=11
 ·rw[if_pos I7]at hr;rw[I7]at ha
  match ds,ha with
  | [x],_=>
   split at hr
   ·rename_i hx;have hx:x.o0=3:=hx;obtain⟨p,q,hp,op,oq,e0,e1⟩:=yV (hd x sS) (.inl hx);have e2:([x].getD 0 I4).arg 0=p:=e0;rw[e2]at hr;cases hr;exact vY0 t I7 x _ q hx hp op
   ·cases hr
 rw[if_neg I7]at hr;by_cases U8:t.o0=12
 ·rw[if_pos U8]at hr;rw[U8]at ha
  match ds,ha with
  | [x],_=>
   split at hr
   ·rename_i hx;have hx:x.o0=3:=hx;obtain⟨p,q,hp,op,oq,e0,e1⟩:=yV (hd x sS) (.inl hx);have e2:([x].getD 0 I4).arg 1=q:=e1;rw[e2]at hr;cases hr;exact vZ0 t U8 x p _ hx hp oq
   ·cases hr
 rw[if_neg U8]at hr;have Dx:fJ t.o0=true:=by rw[bW0];simp;omega
 have DE:t.o0=13:=by
  simp[fJ]at Dx;omega
 rw[DE]at ha
 match ds,ha with
 | [],_=>cases hr;exact vW0 t DE
theorem LH(t:Tm)(g:List Ty)(NP:g.length+t.A0<=2147483648)(ht:t.shape=true)(hg:∀x∈g,x.ok)(h:(t.V1 g).2=0) :
  cU 146 [.sl (g.map Q4),t.dv] (.H1 [.agg (Q4 (t.V1 g).1),j0 0]):=by
 induction t using m7 generalizing g with
 | h t ih=>
 obtain⟨ha,hi,hv,C6,hs⟩:=j9 ht;refine H2 PN ?_;intro X hP G0 hf X0 hn hR K1 G1;have nK:=sQ (G1 (.sl (g.map Q4)) sS);simp at nK;rw[oW t]at h hR;by_cases h1:t.o0=1
 ·rw[if_pos h1]at h hR;by_cases h2:(g.length:Int)<=t.O0;· rw[if_pos h2]at h;cases h
  rw[if_neg h2]at hR;have I1:g.length - 1 - t.O0.toNat<g.length:=oO;have hx:=uB I1;rw[jO]at hR;generalize Fv:g[g.length - 1 - t.O0.toNat]=x at hx;have R7:g[(g.length - 1 - t.O0:Int).toNat]? = some x:=by rw[<- hx];congr 1;omega
  rw[hx,Option.getD_some]at hR;exact O1 (j4 @h1 @h2 @R7 (W7 x)) H0
 rw[if_neg h1]at h hR;by_cases Y5:t.o0=2
 ·rw[if_pos Y5]at h hR;rw[Y5]at ha
  obtain⟨b,hb⟩:∃b,t.B0=[b]:=by
   match hh:t.B0,ha with
   | [b],_=>exact⟨b,rfl⟩
  have yF:b∈t.B0:=by rw[hb];simp
  rw[if_pos (.inl Y5)]at C6;have dY:∀x∈g++[t.I0],x.ok:=by
   intro x hx;rcases t6.1 hx with hx|hx;· exact hg x hx
   ·rw[bM.1 hx];exact C6
  have h80:t.A0=1+(b.A0+0):=by rw[V6,hb];rfl
  have hV0:=Uu b;have DB:g.length<=2147483647:=oO;rw[hb]at h hR;simp only[f7.Y4]at h hR;have dF:(b.V1 (g++[t.I0])).2=0:=by
   by_cases e:(b.V1 (g++[t.I0])).2=0;· exact e
   ·rw[if_neg e]at h;simp only at h;rw[if_neg e]at h;exact absurd h e
  rw[if_pos dF]at h hR;simp only[if_true]at h hR;have hbo:=Ll b (g++[t.I0]) (hs b yF) dY dF;have w1:=ih b yF (g++[t.I0]) (by simp;omega) (hs b yF) dY dF;generalize (b.V1 (g++[t.I0])).1=rb at *;have ZR:g7 t.o0 t.I0 [rb]=eT (L0 4 [t.I0,rb]):=by rw[Y5];rfl
  rw[ZR]at h hR;obtain⟨o1,o2⟩:=JL (L0 4 [t.I0,rb]) h;rw[o2]at o1 hR;have gK:=o1.2;rw[Ma]at gK;have wo:=wP t.I0 C6;have wj:=cW0 4 t.I0 rb oO;have Tz:Y3 Q4 (g++[t.I0])=Y3 Q4 g++[Q4 t.I0]:=sS;have KL:(Y3 Q4 g).length=g.length:=sS;generalize L0 4 [t.I0,rb]=r4 at *;rw[Tz]at w1;simp only[W7 t.I0,W7 rb,W7 r4]at w1 wo wj hR;have Fd:∀e:List DV,e∈Y3 Q4 g->e.length=3:=by intro e he;simp only[F9]at he;obtain⟨x,-,rfl⟩:=he;rfl
  generalize Y3 Q4 g=G at *;have Pa:FE g.length G=G:=by rw[DS];omega
  exact O1 (j6 @Y5 @hb @Pa @KL @Fd @DB) (E8 wo w1 wj)
 rw[if_neg Y5]at h hR;have hlen:=kM (G1 t.dv sS);have hI:(f7.Y4 t.B0 g).2=0:=by
  by_cases e:(f7.Y4 t.B0 g).2=0;· exact e
  ·rw[if_neg e]at h;exact absurd h e
 rw[if_pos hI]at h hR;obtain⟨cV,u4⟩:=PB t.B0 g hI;have oL:∀a∈(f7.Y4 t.B0 g).1,a.ok:=by
  intro a ha;obtain⟨i,hi,rfl⟩:=List.mem_iff_getElem.1 ha;obtain⟨x1,x2⟩:=u4 i t.B0[i] (uB oO);rw[uB hi]at x2;rw[Iq x2];exact Ll _ g (hs _ (vY _)) hg x1
 have wn:=v00 (t:=t) ht h1 Y5 cV oL (r:=(g7 t.o0 t.I0 (f7.Y4 t.B0 g).1).1) (by rw[<- h]);generalize (g7 t.o0 t.I0 (f7.Y4 t.B0 g).1).1=r at *;generalize (f7.Y4 t.B0 g).1=ds at *;have h3:t.B0.length<=3:=by
  have:C5 t.o0<=3:=by unfold C5;(repeat' split) <;> omega
  omega
 have l7:=P5 t;simp only[W7 r]at wn hR;have step:∀(i:Nat) (x:Tm),t.B0[i]? = some x->∃d,ds[i]? = some d/\cU 146 [.sl (g.map Q4),x.dv] (.H1 [.agg (Q4 d),j0 0]):=by
  intro i x hx;obtain⟨x1,x2⟩:=u4 i x hx;have hm:=uE hx;have I8:=L9 hm;have N4:=V6 t;exact⟨_,x2,ih x hm g oO (hs x hm) hg x1⟩
 clear ih;have hgm:Y3 Q4 g=Y3 Q4 g:=rfl;generalize Y3 Q4 g=G at *;have GY0:∀(p:List Ty),t.B0.length=p.length->ds=p->eW ds=eW p:=by intro p _ e;rw[e]
 match V2:t.B0,h3 with
 | [],_=>
  rw[V2]at cV;obtain rfl:ds=[]:=List.length_eq_zero_iff.1 cV;rw[Nk]at wn;rw[V2]at l7;simp only[O5]at l7;refine U1 (j3 @h1 @Y5 @V2) ?_;refine W8 ?_;exact O1 (j2 @V2 @l7) (M0 wn)
 | [x],_=>
  obtain⟨d,hd,w⟩:=step 0 x (by rw[V2];rfl);rw[V2]at cV
  obtain rfl:ds=[d]:=by
   match ds,cV,hd with
   | [_],_,hd=>simp at hd;rw[hd]
  rw[GU]at wn;simp only[W7]at w;rw[V2]at l7;simp only[G4,O5]at l7;rw[O3 x]at l7;refine U1 (j3 @h1 @Y5 @V2) ?_;refine W8 ?_;refine V3 @V2 (M0 w) ?_;refine G2 (s':=[sV 0 (.sl G),sV 67 (j0 1),sV 66 (j0 1),sV 65 (.sl [x.E0]),sP 3,sL 3 [.v (j0 t.o0),.v (j0 t.O0),.v (j0 t.I0.o0),.v (.sl (t.I0.B0.map P1)),.v (.sl [x.E0])],sP 4,sL 4 [.v (j0 0),.own 0 [],.v (j0 0)],sP 9,sL 9 [.v (j0 d.o0),.v (.sl (d.B0.map P1)),.v (j0 (d.A0:Int)),.v (j0 0),.own 0 [],.v (j0 0),.v (j0 0),.own 0 [],.v (j0 0)]]) [] @V2 ?_;refine bV ?_;exact O1 @l7 (M0 wn)
 | [x,y],_=>
  obtain⟨d,hd,w⟩:=step 0 x (by rw[V2];rfl);obtain⟨e,he,v⟩:=step 1 y (by rw[V2];rfl);rw[V2]at cV
  obtain rfl:ds=[d,e]:=by
   match ds,cV,hd,he with
   | [_,_],_,hd,he=>simp at hd he;rw[hd,he]
  rw[BF]at wn;simp only[W7]at w v;rw[V2]at l7;simp only[G4,O5]at l7;rw[O3 x,O3 y]at l7;refine U1 (j3 @h1 @Y5 @V2) ?_;refine W8 ?_;refine V3 @V2 (M0 w) ?_;refine G2 (s':=[sV 0 (.sl G),sV 67 (j0 1),sV 66 (j0 2),sV 65 (.sl [x.E0,y.E0]),sP 3,sL 3 [.v (j0 t.o0),.v (j0 t.O0),.v (j0 t.I0.o0),.v (.sl (t.I0.B0.map P1)),.v (.sl [x.E0,y.E0])],sP 4,sL 4 [.v (j0 0),.own 0 [],.v (j0 0)],sP 9,sL 9 [.v (j0 d.o0),.v (.sl (d.B0.map P1)),.v (j0 (d.A0:Int)),.v (j0 0),.own 0 [],.v (j0 0),.v (j0 0),.own 0 [],.v (j0 0)]]) [] @V2 ?_;refine bV ?_;refine V3 @V2 (M0 v) ?_;refine G2 (s':=[sV 0 (.sl G),sV 67 (j0 2),sV 66 (j0 2),sV 65 (.sl [x.E0,y.E0]),sP 3,sL 3 [.v (j0 t.o0),.v (j0 t.O0),.v (j0 t.I0.o0),.v (.sl (t.I0.B0.map P1)),.v (.sl [x.E0,y.E0])],sP 4,sL 4 [.v (j0 0),.own 0 [],.v (j0 0)],sP 9,sL 9 [.v (j0 d.o0),.v (.sl (d.B0.map P1)),.v (j0 (d.A0:Int)),.v (j0 e.o0),.v (.sl (e.B0.map P1)),.v (j0 (e.A0:Int)),.v (j0 0),.own 0 [],.v (j0 0)]]) [] @V2 ?_;refine bV ?_;exact O1 @l7 (M0 wn)
 | [x,y,z],_=>
  obtain⟨d,hd,w⟩:=step 0 x (by rw[V2];rfl);obtain⟨e,he,v⟩:=step 1 y (by rw[V2];rfl);obtain⟨k,X9,u⟩:=step 2 z (by rw[V2];rfl);rw[V2]at cV
  obtain rfl:ds=[d,e,k]:=by
   match ds,cV,hd,he,X9 with
   | [_,_,_],_,hd,he,X9=>simp at hd he X9;rw[hd,he,X9]
  rw[SH]at wn;simp only[W7]at w v u;rw[V2]at l7;simp only[G4,O5]at l7;rw[O3 x,O3 y,O3 z]at l7;refine U1 (j3 @h1 @Y5 @V2) ?_;refine W8 ?_;refine V3 @V2 (M0 w) ?_;refine G2 (s':=[sV 0 (.sl G),sV 67 (j0 1),sV 66 (j0 3),sV 65 (.sl [x.E0,y.E0,z.E0]),sP 3,sL 3 [.v (j0 t.o0),.v (j0 t.O0),.v (j0 t.I0.o0),.v (.sl (t.I0.B0.map P1)),.v (.sl [x.E0,y.E0,z.E0])],sP 4,sL 4 [.v (j0 0),.own 0 [],.v (j0 0)],sP 9,sL 9 [.v (j0 d.o0),.v (.sl (d.B0.map P1)),.v (j0 (d.A0:Int)),.v (j0 0),.own 0 [],.v (j0 0),.v (j0 0),.own 0 [],.v (j0 0)]]) [] @V2 ?_;refine bV ?_;refine V3 @V2 (M0 v) ?_;refine G2 (s':=[sV 0 (.sl G),sV 67 (j0 2),sV 66 (j0 3),sV 65 (.sl [x.E0,y.E0,z.E0]),sP 3,sL 3 [.v (j0 t.o0),.v (j0 t.O0),.v (j0 t.I0.o0),.v (.sl (t.I0.B0.map P1)),.v (.sl [x.E0,y.E0,z.E0])],sP 4,sL 4 [.v (j0 0),.own 0 [],.v (j0 0)],sP 9,sL 9 [.v (j0 d.o0),.v (.sl (d.B0.map P1)),.v (j0 (d.A0:Int)),.v (j0 e.o0),.v (.sl (e.B0.map P1)),.v (j0 (e.A0:Int)),.v (j0 0),.own 0 [],.v (j0 0)]]) [] @V2 ?_;refine bV ?_;refine V3 @V2 (M0 u) ?_
  refine G2 (s':=[sV 0 (.sl G),sV 67 (j0 3),sV 66 (j0 3),sV 65 (.sl [x.E0,y.E0,z.E0]),sP 3,sL 3 [.v (j0 t.o0),.v (j0 t.O0),.v (j0 t.I0.o0),.v (.sl (t.I0.B0.map P1)),.v (.sl [x.E0,y.E0,z.E0])],sP 4,sL 4 [.v (j0 0),.own 0 [],.v (j0 0)],sP 9,sL 9 [.v (j0 d.o0),.v (.sl (d.B0.map P1)),.v (j0 (d.A0:Int)),.v (j0 e.o0),.v (.sl (e.B0.map P1)),.v (j0 (e.A0:Int)),.v (j0 k.o0),.v (.sl (k.B0.map P1)),.v (j0 (k.A0:Int))]]) [] @V2 ?_;refine bV ?_;exact O1 @l7 (M0 wn)
theorem kr0:cU 114 [.sl []] (j0 0):=by
 refine A3 jJ0 fun X zX=>?_;refine N2 ?_;refine W8 ?_;exact O1 H0 H0
theorem kA0:cU 131 [.sl []] (.sl []):=by
 refine A3 Tryz.func131 fun X zX=>?_;refine N2 ?_;refine W8 ?_;exact O1 H0 H0
theorem kB0(K3:D6 gl 2=some A7)(t:Tm)(r:Ty)(hc:t.L4=0)(h:t.V1 []=(r,0)) :
  cU 48 [.sl [],t.dv] (.H1 [r.dv,j0 0]):=by
 obtain⟨hs,gK⟩:=(lO t).1 hc;have w2:=ID K3 t (gV t hs) oO;rw[hc]at w2;have w3:=LH t [] (by simp;omega) hs sS (by rw[h]);rw[h]at w3;have w4:=IN r;simp only[W7,O5]at w3;exact G7 UA H0 (T9 kr0 w2 kA0 w3 w4)
inductive MV where
 | Z3 (n:Nat)
 | list (l:List Nat)
 | both (a b:MV)
 | Z4
 | m6 (b:Tm) (e:List MV)
abbrev U9:=Tm->List MV->Option (MV × Nat)
def bF(ev:U9):List Tm->List MV->Option (List MV × Nat)
 | [],_=>some ([],0)
 | t::r,e=>match ev t e with
  | none=>none
  | some (v,c)=>match bF ev r e with
   | none=>none
   | some (l,c')=>some (v::l,c+c')
def iR(ev:U9):MV->List MV->Option (MV × Nat)
 | f,[]=>some (f,0)
 | .m6 b e,a::r=>match ev b (a::e) with
  | none=>none
  | some (v,c)=>match iR ev v r with
   | none=>none
   | some (w,c')=>some (w,c+c')
 | _,_=>none
def xS(ev:U9)(f:MV):Nat->Nat->MV->Option (MV × Nat)
 | 0,_,r=>some (r,0)
 | n+1,k,r=>match iR ev f [.Z3 k,r] with
  | none=>none
  | some (r',c)=>match xS ev f n (k+1) r' with
   | none=>none
   | some (w,c')=>some (w,c+c')
def oD(ev:U9)(f:MV)(r:MV):List Nat->Option (MV × Nat)
 | []=>some (r,0)
 | x::l=>match oD ev f r l with
  | none=>none
  | some (r',c)=>match iR ev f [.Z3 x,.list l,r'] with
   | none=>none
   | some (w,c')=>some (w,c+c')
def JW(ev:U9)(k:Int)(l:List MV):Option (MV × Nat):=
 if k=3 then match l with
  | [f,x]=>iR ev f [x]
  | _=>none
 else if k=4 then some (.Z3 0,0)
 else if k=5 then match l with
  | [.Z3 n]=>some (.Z3 (n+1),0)
  | _=>none
 else if k=6 then match l with
  | [b,f,.Z3 n]=>xS ev f n 0 b
  | _=>none
 else if k=7 then some (.list [],0)
 else if k=8 then match l with
  | [.Z3 n,.list m]=>some (.list (n::m),0)
  | _=>none
 else if k=9 then match l with
  | [b,f,.list m]=>oD ev f b m
  | _=>none
 else if k=10 then match l with
  | [x,y]=>some (.both x y,0)
  | _=>none
 else if k=11 then match l with
  | [.both x _]=>some (x,0)
  | _=>none
 else if k=12 then match l with
  | [.both _ y]=>some (y,0)
  | _=>none
 else some (.Z4,0)
theorem b00{α:Type}(b:α)(f:Nat->α->α):∀n:Nat,xI b f n=(List.range' 0 n).foldl (fun r i=>f i r) b
 | 0=>rfl
 | n+1=>by
  rw[List.range'_1_concat,List.foldl_append,<- b00 b f n];simp[xI]
abbrev Rn:=Option (MV × Int × Bool)
mutual
inductive MVT:(a:T)->MV->a.V->Prop
 | Z3 (n:Nat):MVT .C0 (.Z3 n) n
 | list (l:List Nat):MVT .list (.list l) l
 | Z4:MVT .Z4 .Z4 ()
 | both {a b:T} {x y:MV} {X:a.V} {Y:b.V} (hx:MVT a x X) (hy:MVT b y Y):MVT (.pair a b) (.both x y) (X,Y)
 | m6 {Γ:List T} {a r:T} {b:Tm} {f:Q0 (a::Γ)->r.V} {e:List MV} {ρ:Q0 Γ} (he:MVE Γ e ρ) (hb:Dn (a::Γ) b r f):MVT (.fn a r) (.m6 b e) (fun x=>f (x,ρ))
inductive MVE:(Γ:List T)->List MV->Q0 Γ->Prop
 | nil:MVE [] [] ()
 | cons {Γ:List T} {a:T} {x:MV} {X:a.V} {e:List MV} {ρ:Q0 Γ} (h:MVT a x X) (k:MVE Γ e ρ):MVE (a::Γ) (x::e) (X,ρ)
end
variable{e:List MV}{v:MV}
theorem MVE.get{p:Q0 Γ->a.V}(h:At Γ i a p):∀{e:List MV} {ρ:Q0 Γ},MVE Γ e ρ->∃x,e[i]? = some x/\MVT a x (p ρ):=by
 induction h with
 | zero=>intro e ρ he;cases he with|cons h k=>exact⟨_,rfl,h⟩
 | succ h ih=>intro e ρ he;cases he with|cons h k=>obtain⟨x,e1,e2⟩:=ih k;exact⟨x,by simpa using e1,e2⟩
def Zk(most:Int)(P:MV->Prop)(u:Int)(r:Rn):Prop:=∃v u' o,r=some (v,u',o)/\u<=u'/\u'<=most/\(o=false->P v)
theorem Zk.mono{most u u0:Int}{P Q:MV->Prop}{r:Rn}(h:Zk most P u r)(hu:u0<=u)(hq:∀v,P v->Q v):Zk most Q u0 r:=by
 obtain⟨v,u',o,h1,h2,h3,h4⟩:=h;exact⟨v,u',o,h1,oO,h3,fun h=>hq v (h4 h)⟩
mutual
def MV.le(n:Int):MV->Prop
 | .Z3 k=>(k:Int)<=n
 | .list l=>(l.length:Int)<=n/\∀x∈l,(x:Int)<=n
 | .both a b=>MV.le n a/\MV.le n b
 | .Z4=>True
 | .m6 _ e=>(e.length:Int)<=n/\MV.les n e
def MV.les(n:Int):List MV->Prop
 | []=>True
 | x::r=>MV.le n x/\MV.les n r
end
mutual
theorem MV.le_mono{n m:Int}(h:n<=m):∀{v:MV},v.le n->v.le m
 | .Z3 k,hv=>by simp only[MV.le]at hv ⊢;omega
 | .list l,hv=>by
  simp only[MV.le]at hv ⊢;exact⟨oO,fun x hx=>by have:=hv.2 x hx;omega⟩
 | .both a b,hv=>by
  simp only[MV.le]at hv ⊢;exact⟨MV.le_mono h hv.1,MV.le_mono h hv.2⟩
 | .Z4,_=>by simp only[MV.le]
 | .m6 b e,hv=>by
  simp only[MV.le]at hv ⊢;exact⟨oO,MV.les_mono h hv.2⟩
theorem MV.les_mono{n m:Int}(h:n<=m):∀{l:List MV},MV.les n l->MV.les m l
 | [],_=>by simp only[MV.les]
 | x::r,hv=>by
  simp only[MV.les]at hv ⊢;exact⟨MV.le_mono h hv.1,MV.les_mono h hv.2⟩
end
end
variable{e:List MV}{v:MV}
section
mutual
def MV.E0:MV->List DV
 | .Z3 n=>[j0 (n:Int),.sl [],.sl [],j0 0,j0 0,j0 0,.sl [],.sl [],.sl []]
 | .list l=>[j0 0,.sl (P2 (l.map gS)),.sl [],j0 0,j0 0,j0 0,.sl [],.sl [],.sl []]
 | .both a b=>[j0 0,.sl [],.sl [MV.E0 a,MV.E0 b],j0 0,j0 0,j0 0,.sl [],.sl [],.sl []]
 | .Z4=>[j0 0,.sl [],.sl [],j0 0,j0 0,j0 0,.sl [],.sl [],.sl []]
 | .m6 b e=>[j0 0,.sl [],.sl [],j0 b.o0,j0 b.O0,j0 b.I0.o0,.sl (Y3 P1 b.I0.B0),.sl (Y3 E3 b.B0),.sl (MV.cellss e).reverse]
def MV.cellss:List MV->List (List DV)
 | []=>[]
 | x::r=>MV.E0 x::MV.cellss r
end
namespace MV
theorem df0:∀l:List MV,cellss l=l.map E0
 | []=>rfl
 | x::r=>by simp only[cellss,G4,df0 r]
def numF:MV->Int | .Z3 n=>n|_=>0
def listF:MV->List Int | .list l=>l.map gS|_=>[]
def pairF:MV->List MV | .both a b=>[a,b]|_=>[]
def bodyF:MV->Tm | .m6 b _=>b|_=>M6
def envF:MV->List MV | .m6 _ e=>e.reverse|_=>[]
theorem cells_eq(v:MV):v.E0=[j0 v.numF,.sl (P2 v.listF),.sl (v.pairF.map E0),j0 v.bodyF.o0,j0 v.bodyF.O0,j0 v.bodyF.I0.o0,.sl (v.bodyF.I0.B0.map P1),.sl (v.bodyF.B0.map E3),.sl (v.envF.map E0)]:=by
 cases v with
 | Z3 n=>rfl
 | list l=>rfl
 | both a b=>simp only[E0,numF,listF,pairF,bodyF,envF];rfl
 | Z4=>rfl
 | m6 b e=>simp only[E0,numF,listF,pairF,bodyF,envF,df0,List.map_reverse];rfl
def dv(v:MV):DV:=.agg v.E0
theorem fold(v:MV):eM [j0 v.numF,.sl (P2 v.listF),.sl (v.pairF.map E0),j0 v.bodyF.o0,j0 v.bodyF.O0,j0 v.bodyF.I0.o0,.sl (v.bodyF.I0.B0.map P1),.sl (v.bodyF.B0.map E3),.sl (v.envF.map E0)]=v.dv:=by rw[dv,cells_eq]
theorem cellsD_dv(v:MV):aL v.dv=[j0 v.numF,.sl (P2 v.listF),.sl (v.pairF.map E0),j0 v.bodyF.o0,j0 v.bodyF.O0,j0 v.bodyF.I0.o0,.sl (v.bodyF.I0.B0.map P1),.sl (v.bodyF.B0.map E3),.sl (v.envF.map E0)]:=by rw[dv,aL,cells_eq]
theorem isCell_dv(v:MV):v.dv.isCell=false:=rfl
theorem isAgg_dv(v:MV):v.dv.isAgg=true:=rfl
theorem length_cells(v:MV):v.E0.length=9:=by rw[cells_eq];rfl
theorem wide(l:List MV):(∀e∈Y3 E0 l,e.length=9)=True:=by simp[length_cells]
theorem numF_num(n:Nat):(MV.Z3 n).numF=n:=rfl
theorem listF_list(l:List Nat):(MV.list l).listF=l.map gS:=rfl
theorem pairF_both(a b:MV):(MV.both a b).pairF=[a,b]:=rfl
theorem bodyF_clo(b:Tm)(e:List MV):(MV.m6 b e).bodyF=b:=rfl
theorem envF_clo(b:Tm)(e:List MV):(MV.m6 b e).envF=e.reverse:=rfl
end MV
attribute [go_sem] MV.cells_eq MV.fold MV.cellsD_dv MV.isCell_dv MV.isAgg_dv MV.wide MV.numF_num MV.listF_list MV.pairF_both MV.bodyF_clo MV.envF_clo
end
section
theorem T.ty_fn(a b:T):(T.fn a b).ty=L0 4 [a.ty,b.ty]:=rfl
def oH:(a:T)->a.V->MV
 | .C0,n=>.Z3 n
 | .list,l=>.list l
 | .Z4,_=>.Z4
 | .pair a b,p=>.both (oH a p.1) (oH b p.2)
 | .fn _ _,_=>.Z4
theorem oI0{b:T}(p:(PE a b).V):bB (.pair a b) p=dH 3 0 [] [bB a p.1,bB b p.2]:=rfl
def mC:List T->T->T
 | [],r=>r
 | a::l,r=>.fn a (mC l r)
def YI:(l:List T)->{r:T}->(mC l r).V->Q0 l->r.V
 | [],_,f,_=>f
 | _::l,_,f,e=>YI l (f e.1) e.2
def zU:(l:List T)->Q0 l->List Val
 | [],_=>[]
 | a::l,e=>bB a e.1::zU l e.2
def jV:(l:List T)->Q0 l->List MV
 | [],_=>[]
 | a::l,e=>oH a e.1::jV l e.2
def JM:List T->Prop
 | []=>True
 | a::l=>a.plain/\a.ok/\JM l
theorem dg0:∀(l:List T) (X:Q0 l),(zU l X).length=l.length
 | [],_=>rfl
 | a::l,X=>by simp only[zU,B4,dg0 l X.2]
theorem d00:∀(l:List T) (X:Q0 l),(jV l X).length=l.length
 | [],_=>rfl
 | a::l,X=>by simp only[jV,B4,d00 l X.2]
theorem fs0{r:T}:∀(l:List T) (X:Q0 l) (i:Nat),i<l.length->JM l->∃(a:T) (x:a.V),(zU l X)[i]? = some (bB a x)/\(jV l X)[i]? = some (oH a x)/\mC (l.drop i) r = .fn a (mC (l.drop (i+1)) r)/\a.plain/\a.ok
 | [],X,i,h,_=>absurd h (aU0 _)
 | a::l,X,0,h,hp=>⟨a,X.1,rfl,rfl,rfl,hp.1,hp.2.1⟩
 | a::l,X,i+1,h,hp=>by
  obtain⟨b,x,h1,h2,h3,h4⟩:=fs0 (r:=r) l X.2 i (by simpa using h) hp.2.2;exact⟨b,x,by simpa [zU] using h1,by simpa [jV] using h2,by simpa using h3,h4⟩
theorem mz0(x:a.V)(hp:a.plain)(hs:a.ok):(bB a x).L4=0:=by
 obtain⟨v1,v2⟩:=Qp a x hp;have hs:a.size<=64:=hs;unfold Val.L4;rw[if_pos v1,if_neg (by rw[Val.nodes_count _ v1];omega)]
theorem WS:∀(a:T) (x:a.V),a.plain->(bB a x).tyN=a.ty
 | .C0,n,_=>by rw[Ip];rfl
 | .list,l,_=>by rw[Ip];rfl
 | .Z4,_,_=>by rw[Ip];rfl
 | .pair a b,p,h=>by
  rw[Ip,oI0];simp only[Val.o0,Val.B0,G4,O5,WS a p.1 h.1,WS b p.2 h.2];rfl
 | .fn _ _,_,h=>h.elim
theorem mA0(x:a.V)(hp:a.plain)(hs:a.ok):(bB a x).typeE=(a.ty,0):=by
 unfold Val.typeE;rw[mz0 x hp hs,WS a x hp];rfl
abbrev rO:DV:=.agg [j0 0,.sl [],j0 0]
theorem cu0(k:Int)(a b:Ty)(GU0:a.A0<=64)(GQ0:b.A0<=64)(hc:¬1+a.A0+b.A0<=64):cU 236 [j0 k,.agg (Q4 a),.agg (Q4 b)] (.H1 [rO,j0 4]):=by
 refine A3 Tryz.func236 fun X zX=>?_;have ha:=W7 a;have hb:=W7 b;have eC:¬(1:Int)+a.A0+b.A0<=64:=oO;have bS:(64:Int)<1+a.A0+b.A0:=oO;exact P4 (j4 @ha @hb @eC @bS) H0
theorem lp0(t:Tm)(h:t.o0=10)(x y:Ty)(FX0:x.A0<=64)(Gk0:y.A0<=64)(hc:¬1+x.A0+y.A0<=64) :
  cU 237 [t.dv,.agg (eW [x,y])] (.H1 [rO,j0 4]):=by
 rw[BF];have wp:=lS 10;rw[if_neg dD,if_neg dD,if_neg dD,if_neg dD,if_neg dD]at wp;have hi:P2 []=[]:=rfl;rw[hi]at wp;have wj:=cu0 3 x y FX0 Gk0 hc;simp only[W7]at wj ⊢;exact B2 iK @h (P3 wp wj)
theorem ft0{t:Ty}(hk:k=3\/k=4)(hs:s.ok)(ht:t.ok)(h:(eT (L0 k [s,t])).2≠0):¬1+s.A0+t.A0<=64:=by
 intro hc;apply h;rw[XT (Et hk hs.1 ht.1 hc)]
theorem v10(t:Tm)(h:t.o0=3)(x y:Ty)(hk:¬x.o0=4) :
  cU 237 [t.dv,.agg (eW [x,y])] (.H1 [rO,j0 7]):=by
 rw[BF];have wp:=lS 3;rw[if_neg dD,if_neg dD,if_neg dD,if_neg dD,if_neg dD]at wp;have wi:=mR x 4;have hi:P2 []=[]:=rfl;have hd:decide (x.o0=4)=false:=decide_eq_false hk;rw[hi]at wp;rw[hd]at wi;simp only[W7]at wi;exact G7 iK @h (P3 wp wi)
theorem v20(t:Tm)(h:t.o0=3)(x y a r:Ty)(hk:x.o0=4)(hx:x.B0=[a,r])(ha:a.ok)(hs:a.same y=false) :
  cU 237 [t.dv,.agg (eW [x,y])] (.H1 [rO,j0 7]):=by
 rw[BF];have wp:=lS 3;rw[if_neg dD,if_neg dD,if_neg dD,if_neg dD,if_neg dD]at wp;have wi:=mR x 4;have w0:=LM x a 0 (by rw[hx];rfl) ha;have ws:=LN a y;have hi:P2 []=[]:=rfl;have hd:decide (x.o0=4)=true:=decide_eq_true hk;rw[hi]at wp;rw[hd]at wi;rw[hs]at ws;simp only[W7]at wi w0 ws ⊢;exact G7 iK @h (cQ wp wi w0 ws)
theorem zr0(t:Tm)(h:t.o0=5)(x:Ty)(hk:¬x.o0=1):cU 237 [t.dv,.agg (eW [x])] (.H1 [rO,j0 7]):=by
 rw[GU];have wp:=lS 5;rw[if_neg dD,if_pos rfl]at wp;have wi:=mR x 1;have hi:P2 [1,1]=[[j0 1],[j0 1]]:=rfl;have hd:decide (x.o0=1)=false:=decide_eq_false hk;rw[hi]at wp;rw[hd]at wi;simp only[W7]at wi;refine A3 iK fun X zX=>?_;refine V3 @h (M0 wp) ?_;refine W8 ?_;exact P4 H0 (M0 wi)
theorem v30(t:Tm)(h:t.o0=8)(x y:Ty)(hk:¬x.o0=1):cU 237 [t.dv,.agg (eW [x,y])] (.H1 [rO,j0 7]):=by
 rw[BF];have wp:=lS 8;rw[if_neg dD,if_neg dD,if_neg dD,if_pos rfl]at wp;have wi:=mR x 1;have hi:P2 [2,1,2]=[[j0 2],[j0 1],[j0 2]]:=rfl;have hd:decide (x.o0=1)=false:=decide_eq_false hk;rw[hi]at wp;rw[hd]at wi;simp only[W7]at wi;refine A3 iK fun X zX=>?_;refine V3 @h (M0 wp) ?_;refine W8 ?_;exact P4 H0 (M0 wi)
theorem v40(t:Tm)(h:t.o0=8)(x y:Ty)(hx:x.o0=1)(hk:¬y.o0=2):cU 237 [t.dv,.agg (eW [x,y])] (.H1 [rO,j0 7]):=by
 rw[BF];have wp:=lS 8;rw[if_neg dD,if_neg dD,if_neg dD,if_pos rfl]at wp;have wi:=mR x 1;have wj:=mR y 2;have hi:P2 [2,1,2]=[[j0 2],[j0 1],[j0 2]]:=rfl;rw[hi]at wp;rw[decide_eq_true hx]at wi;rw[decide_eq_false hk]at wj;simp only[W7]at wi wj;refine A3 iK fun X zX=>?_;refine V3 @h (M0 wp) ?_;refine W8 ?_;refine V3 H0 (M0 wi) ?_;refine bV ?_;exact P4 H0 (M0 wj)
theorem v50(t:Tm)(h:t.o0=11\/t.o0=12)(x:Ty)(hk:¬x.o0=3) :
  cU 237 [t.dv,.agg (eW [x])] (.H1 [rO,j0 7]):=by
 rw[GU];have wp:=lS t.o0;rw[if_neg oO,if_neg oO,if_neg oO,if_neg oO,if_neg oO]at wp;have hi:P2 []=[]:=rfl;rw[hi]at wp;have wi:=mR x 3;rw[decide_eq_false hk]at wi;simp only[W7]at wi;rcases h with h|h
 ·rw[h]at wp;exact G7 iK @h (P3 wp wi)
 ·rw[h]at wp;exact G7 iK @h (P3 wp wi)
def ET(t:Tm):Ty:=tH t.I0 (if t.o0=9 then [L0 1 [],L0 2 [],t.I0] else [L0 1 [],t.I0])
theorem eM0(t:Tm)(h:t.o0=6\/t.o0=9)(ht:t.I0.ok)(x y z:Ty)(he:x.same t.I0=false\/y.same (ET t)=false\/¬z.o0=if t.o0=9 then 2 else 1) :
  cU 237 [t.dv,.agg (eW [x,y,z])] (.H1 [rO,j0 7]):=by
 rw[SH];have wo:=wP t.I0 ht;have ws:=LN x t.I0;have wt:=de0 t;have wy:=Cw y (ET t);have l7:=P5 t;rw[show tH t.I0 (if t.o0=9 then [L0 1 [],L0 2 [],t.I0] else [L0 1 [],t.I0])=ET t from rfl]at wt;generalize ET t=st at *;simp only[W7]at wo ws;have wp:=lS t.o0;rw[if_neg oO,if_neg oO,if_neg oO,if_neg oO,if_neg oO]at wp;have hi:P2 []=[]:=rfl;rw[hi]at wp;have Zy:=mR z 1;have wi2:=mR z 2;simp only[W7]at Zy wi2;cases hx:x.same t.I0
 ·rw[hx]at ws;rcases h with h|h
  ·rw[h]at l7 wp;exact G7 iK (j2 @h @l7) (E8 wp wo ws)
  ·rw[h]at l7 wp;exact G7 iK (j2 @h @l7) (E8 wp wo ws)
 rw[hx]at ws he;cases hy:y.same st
 ·rw[hy]at wy;rcases h with h|h
  ·rw[h]at l7 wp;exact G7 iK (j2 @h @l7) (T9 wp wo ws wt wy)
  ·rw[h]at l7 wp;exact G7 iK (j2 @h @l7) (T9 wp wo ws wt wy)
 rw[hy]at wy he;have hz:¬z.o0=if t.o0=9 then 2 else 1:=by
  rcases he with he|he|he;· cases he
  ·cases he
  ·exact he
 rcases h with h|h
 ·rw[if_neg oO]at hz;rw[decide_eq_false hz]at Zy;rw[h]at l7 wp;exact G7 iK (j2 @h @l7) (nD wp wo ws wt wy Zy)
 ·rw[if_pos h]at hz;rw[decide_eq_false hz]at wi2;rw[h]at l7 wp;exact G7 iK (j2 @h @l7) (nD wp wo ws wt wy wi2)
theorem EV0{x:Ty}(h:x.ok)(hk:x.o0=1):x=L0 1 []:=by
 obtain⟨a,rfl⟩:=PF x h.1;cases a with
 | C0=>rfl
 | list=>exact absurd (show (2:Int)=1 from hk) dD
 | Z4=>exact absurd (show (5:Int)=1 from hk) dD
 | pair=>exact absurd (show (3:Int)=1 from hk) dD
 | fn=>exact absurd (show (4:Int)=1 from hk) dD
theorem EW0{x:Ty}(h:x.ok)(hk:x.o0=2):x=L0 2 []:=by
 obtain⟨a,rfl⟩:=PF x h.1;cases a with
 | C0=>exact absurd (show (1:Int)=2 from hk) dD
 | list=>rfl
 | Z4=>exact absurd (show (5:Int)=2 from hk) dD
 | pair=>exact absurd (show (3:Int)=2 from hk) dD
 | fn=>exact absurd (show (4:Int)=2 from hk) dD
theorem d10(x:Ty):x.same x=true:=(y9 _ _).2 rfl
theorem XU{x:Ty}(h:x.ok)(hs:¬x.same (L0 1 [])=true):¬x.o0=1:=fun hk=>hs (by rw[EV0 h hk];exact d10 _)
theorem gc0{x:Ty}(h:x.ok)(hs:¬x.same (L0 2 [])=true):¬x.o0=2:=fun hk=>hs (by rw[EW0 h hk];exact d10 _)
theorem MU{b:Bool}(h:¬b=true):b=false:=by cases b;rfl;exact absurd rfl h
theorem gd0(y:Ty)(h:(eT y).2≠0):(eT y).2=4:=by
 unfold eT at h ⊢;split;· rename_i q;rw[if_pos q]at h;exact absurd rfl h
 ·rfl
theorem rB0{t:Tm}(ht:t.shape=true)(gN:¬t.o0=1)(Y5:¬t.o0=2){ds:List Ty}(hl:ds.length=t.B0.length)(hd:∀d∈ds,d.ok)(hr:(g7 t.o0 t.I0 ds).2≠0) :
  cU 237 [t.dv,.agg (eW ds)] (.H1 [rO,j0 (g7 t.o0 t.I0 ds).2]):=by
 obtain⟨ha,hi,hv,C6,hs⟩:=j9 ht;rw[<- hl]at ha;generalize he:(g7 t.o0 t.I0 ds).2=e at *;unfold g7 at he;rw[if_neg Y5]at he;by_cases h3:t.o0=3
 ·rw[if_pos h3]at he;rw[h3]at ha
  match ds,ha with
  | [x,y],_=>
   split at he;· exact absurd he.symm hr
   ·rename_i hx;obtain rfl:7=e:=he;by_cases BV:x.o0=4
    ·obtain⟨p,q,hp,op,oq,e0,e1⟩:=yV (hd x sS) (.inr BV);refine v20 t h3 x y p q BV hp op (MU fun q=>hx ⟨BV,?_⟩);show (x.arg 0).same y=true;rw[e0];exact q
    ·exact v10 t h3 x y BV
 rw[if_neg h3]at he;by_cases h4:t.o0=4;· rw[if_pos h4]at he;exact absurd he.symm hr
 rw[if_neg h4]at he;by_cases h5:t.o0=5
 ·rw[if_pos h5]at he;rw[h5]at ha
  match ds,ha with
  | [x],_=>
   split at he;· exact absurd he.symm hr
   ·rename_i hx;obtain rfl:7=e:=he;exact zr0 t h5 x (XU (hd x sS) hx)
 rw[if_neg h5]at he;by_cases h6:t.o0=6
 ·rw[if_pos h6]at he;rw[h6]at ha;rw[if_pos (.inr (.inl h6))]at C6
  match ds,ha with
  | [x,y,z],_=>
   split at he;· exact absurd he.symm hr
   ·rename_i hx;obtain rfl:7=e:=he;have hx:¬(x.same t.I0=true/\y.same (L0 4 [L0 1 [],L0 4 [t.I0,t.I0]])=true/\z.same (L0 1 [])=true):=hx;refine eM0 t (.inl h6) C6 x y z ?_;by_cases q1:x.same t.I0=true
    ·by_cases q2:y.same (ET t)=true
     ·refine .inr (.inr ?_);rw[if_neg oO];refine XU (hd z sS) fun q3=>hx ⟨q1,?_,q3⟩;unfold ET at q2;rw[if_neg oO]at q2;exact q2
     ·exact .inr (.inl (MU q2))
    ·exact .inl (MU q1)
 rw[if_neg h6]at he;by_cases h7:t.o0=7;· rw[if_pos h7]at he;exact absurd he.symm hr
 rw[if_neg h7]at he;by_cases h8:t.o0=8
 ·rw[if_pos h8]at he;rw[h8]at ha
  match ds,ha with
  | [x,y],_=>
   split at he;· exact absurd he.symm hr
   ·rename_i hx;obtain rfl:7=e:=he;have hx:¬(x.same (L0 1 [])=true/\y.same (L0 2 [])=true):=hx;by_cases q1:x.same (L0 1 [])=true;· exact v40 t h8 x y (by rw[(y9 _ _).1 q1];rfl) (gc0 (hd y sS) fun q2=>hx ⟨q1,q2⟩)
    ·exact v30 t h8 x y (XU (hd x sS) q1)
 rw[if_neg h8]at he;by_cases h9:t.o0=9
 ·rw[if_pos h9]at he;rw[h9]at ha;rw[if_pos (.inr (.inr h9))]at C6
  match ds,ha with
  | [x,y,z],_=>
   split at he;· exact absurd he.symm hr
   ·rename_i hx;obtain rfl:7=e:=he;have hx:¬(x.same t.I0=true/\y.same (L0 4 [L0 1 [],L0 4 [L0 2 [],L0 4 [t.I0,t.I0]]])=true/\z.same (L0 2 [])=true):=hx;refine eM0 t (.inr h9) C6 x y z ?_;by_cases q1:x.same t.I0=true
    ·by_cases q2:y.same (ET t)=true
     ·refine .inr (.inr ?_);rw[if_pos h9];refine gc0 (hd z sS) fun q3=>hx ⟨q1,?_,q3⟩;unfold ET at q2;rw[if_pos h9]at q2;exact q2
     ·exact .inr (.inl (MU q2))
    ·exact .inl (MU q1)
 rw[if_neg h9]at he;by_cases jN:t.o0=10
 ·rw[if_pos jN]at he;rw[jN]at ha
  match ds,ha with
  | [x,y],_=>
   have he:(eT (L0 3 [x,y])).2=e:=he;have h4:=gd0 (L0 3 [x,y]) (by rw[he];exact hr);have hb:=ft0 (.inl rfl) (hd x sS) (hd y sS) (by rw[h4];decide);rw[h4]at he;subst he;exact lp0 t jN x y (hd x sS).2 (hd y sS).2 hb
 rw[if_neg jN]at he;have h40:∀x:Ty,(t.o0=11\/t.o0=12)->ds=[x]->¬x.o0=3->7=e->cU 237 [t.dv,.agg (eW ds)] (.H1 [rO,j0 e]):=by
  intro x hk hx Aw h7;subst h7 hx;exact v50 t hk x Aw
 by_cases I7:t.o0=11
 ·rw[if_pos I7]at he;rw[I7]at ha
  match ds,ha with
  | [x],_=>
   split at he;· exact absurd he.symm hr
   ·rename_i hx;exact h40 x (.inl I7) rfl hx he
 rw[if_neg I7]at he;by_cases U8:t.o0=12
 ·rw[if_pos U8]at he;rw[U8]at ha
  match ds,ha with
  | [x],_=>
   split at he;· exact absurd he.symm hr
   ·rename_i hx;exact h40 x (.inr U8) rfl hx he
 rw[if_neg U8]at he;exact absurd he.symm hr
theorem dh0{g:List Ty}:∀{l:List Tm} {e:Int},e≠0->(f7.Y4 l g).2=e->∃(i:Nat) (x:Tm),l[i]? = some x/\(x.V1 g).2=e/\∀(j:Nat) (y:Tm),j<i->l[j]? = some y->(y.V1 g).2=0
 | [],e,h0,h=>absurd h.symm h0
 | a::r,e,h0,h=>by
  simp only[f7.Y4]at h;by_cases e1:(a.V1 g).2=0
  ·rw[if_pos e1]at h;by_cases e2:(f7.Y4 r g).2=0;· rw[if_pos e2]at h;exact absurd h.symm h0
   ·rw[if_neg e2]at h;obtain⟨i,x,h1,h2,h3⟩:=dh0 (l:=r) h0 h;refine⟨i+1,x,by simpa using h1,h2,fun j y hj hy=>?_⟩;cases j with
    | zero=>simp at hy;rw[<- hy];exact e1
    | succ j=>exact h3 j y oO (by simpa using hy)
  ·rw[if_neg e1]at h;exact⟨0,a,rfl,h,fun j y hj _=>absurd hj (aU0 _)⟩
theorem k00{t:Tm}(hg:∀x∈g,x.ok)(ht:t.shape=true)(h1:¬t.o0=1)(Y5:¬t.o0=2)(hI:(f7.Y4 t.B0 g).2=0)(h:(g7 t.o0 t.I0 (f7.Y4 t.B0 g).1).2≠0)
  (pY:∀(i:Nat) (x:Tm),t.B0[i]? = some x->(x.V1 g).2=0->cU 146 [.sl (g.map Q4),x.dv] (.H1 [.agg (Q4 (x.V1 g).1),j0 0])) :
  cU 146 [.sl (g.map Q4),t.dv] (.H1 [rO,j0 (g7 t.o0 t.I0 (f7.Y4 t.B0 g).1).2]):=by
 obtain⟨ha,hi,hv,C6,hs⟩:=j9 ht;obtain⟨cV,u4⟩:=PB t.B0 g hI;have oL:∀d∈(f7.Y4 t.B0 g).1,d.ok:=by
  intro d hd;obtain⟨i,kA⟩:=List.getElem?_of_mem hd;have J8:=(uA kA).1;obtain⟨x1,x2⟩:=u4 i _ (uB (by omega:i<t.B0.length));rw[x2]at kA;cases kA;exact Ll _ g (hs _ (vY _)) hg x1
 have wn:=rB0 ht h1 Y5 cV oL h;have step:∀(i:Nat) (x:Tm),t.B0[i]? = some x->∃d,(f7.Y4 t.B0 g).1[i]? = some d/\cU 146 [.sl (g.map Q4),x.dv] (.H1 [.agg (Q4 d),j0 0]):=by
  intro i x hx;obtain⟨x1,x2⟩:=u4 i x hx;exact⟨_,x2,pY i x hx x1⟩
 have h3:t.B0.length<=3:=by
  have:C5 t.o0<=3:=by unfold C5;(repeat' split) <;> omega
  omega
 have l7:=P5 t;generalize (g7 t.o0 t.I0 (f7.Y4 t.B0 g).1).2=e at *;generalize (f7.Y4 t.B0 g).1=ds at *;clear pY u4 oL;refine H2 PN ?_;intro X hP G0 hf X0 hn hR K1 G1;have nK:=sQ (G1 (.sl (g.map Q4)) sS);simp at nK;generalize Y3 Q4 g=G at *
 match V2:t.B0,h3 with
 | [],_=>
  rw[V2]at cV;obtain rfl:ds=[]:=List.length_eq_zero_iff.1 cV;rw[V2]at l7;simp only[O5]at l7;rw[Nk]at wn;refine U1 (j3 @h1 @Y5 @V2) ?_;refine W8 ?_;exact O1 (j2 @V2 @l7) (M0 wn)
 | [x],_=>
  obtain⟨d,q0,w⟩:=step 0 x (by rw[V2];rfl);rw[V2]at cV
  obtain rfl:ds=[d]:=by
   match ds,cV,q0 with
   | [_],_,q0=>simp at q0;rw[q0]
  rw[GU]at wn;simp only[W7]at w;rw[V2]at l7;simp only[G4,O5]at l7;rw[O3 x]at l7;refine U1 (j3 @h1 @Y5 @V2) ?_;refine W8 ?_;refine V3 @V2 (M0 w) ?_;refine G2 (s':=[sV 0 (.sl G),sV 67 (j0 1),sV 66 (j0 1),sV 65 (.sl [x.E0]),sP 3,sL 3 [.v (j0 t.o0),.v (j0 t.O0),.v (j0 t.I0.o0),.v (.sl (t.I0.B0.map P1)),.v (.sl [x.E0])],sP 4,sL 4 [.v (j0 0),.own 0 [],.v (j0 0)],sP 9,sL 9 [.v (j0 d.o0),.v (.sl (d.B0.map P1)),.v (j0 (d.A0:Int)),.v (j0 0),.own 0 [],.v (j0 0),.v (j0 0),.own 0 [],.v (j0 0)]]) [] @V2 ?_;refine bV ?_;exact O1 @l7 (M0 wn)
 | [x,y],_=>
  obtain⟨d,q0,w⟩:=step 0 x (by rw[V2];rfl);obtain⟨e1,q1,v⟩:=step 1 y (by rw[V2];rfl);rw[V2]at cV
  obtain rfl:ds=[d,e1]:=by
   match ds,cV,q0,q1 with
   | [_,_],_,q0,q1=>simp at q0 q1;rw[q0,q1]
  rw[BF]at wn;simp only[W7]at w v;rw[V2]at l7;simp only[G4,O5]at l7;rw[O3 x,O3 y]at l7;refine U1 (j3 @h1 @Y5 @V2) ?_;refine W8 ?_;refine V3 @V2 (M0 w) ?_;refine G2 (s':=[sV 0 (.sl G),sV 67 (j0 1),sV 66 (j0 2),sV 65 (.sl [x.E0,y.E0]),sP 3,sL 3 [.v (j0 t.o0),.v (j0 t.O0),.v (j0 t.I0.o0),.v (.sl (t.I0.B0.map P1)),.v (.sl [x.E0,y.E0])],sP 4,sL 4 [.v (j0 0),.own 0 [],.v (j0 0)],sP 9,sL 9 [.v (j0 d.o0),.v (.sl (d.B0.map P1)),.v (j0 (d.A0:Int)),.v (j0 0),.own 0 [],.v (j0 0),.v (j0 0),.own 0 [],.v (j0 0)]]) [] @V2 ?_;refine bV ?_;refine V3 @V2 (M0 v) ?_;refine G2 (s':=[sV 0 (.sl G),sV 67 (j0 2),sV 66 (j0 2),sV 65 (.sl [x.E0,y.E0]),sP 3,sL 3 [.v (j0 t.o0),.v (j0 t.O0),.v (j0 t.I0.o0),.v (.sl (t.I0.B0.map P1)),.v (.sl [x.E0,y.E0])],sP 4,sL 4 [.v (j0 0),.own 0 [],.v (j0 0)],sP 9,sL 9 [.v (j0 d.o0),.v (.sl (d.B0.map P1)),.v (j0 (d.A0:Int)),.v (j0 e1.o0),.v (.sl (e1.B0.map P1)),.v (j0 (e1.A0:Int)),.v (j0 0),.own 0 [],.v (j0 0)]]) [] @V2 ?_;refine bV ?_;exact O1 @l7 (M0 wn)
 | [x,y,z'],_=>
  obtain⟨d,q0,w⟩:=step 0 x (by rw[V2];rfl);obtain⟨e1,q1,v⟩:=step 1 y (by rw[V2];rfl);obtain⟨k,q2,u⟩:=step 2 z' (by rw[V2];rfl);rw[V2]at cV
  obtain rfl:ds=[d,e1,k]:=by
   match ds,cV,q0,q1,q2 with
   | [_,_,_],_,q0,q1,q2=>simp at q0 q1 q2;rw[q0,q1,q2]
  rw[SH]at wn;simp only[W7]at w v u;rw[V2]at l7;simp only[G4,O5]at l7;rw[O3 x,O3 y,O3 z']at l7;refine U1 (j3 @h1 @Y5 @V2) ?_;refine W8 ?_;refine V3 @V2 (M0 w) ?_;refine G2 (s':=[sV 0 (.sl G),sV 67 (j0 1),sV 66 (j0 3),sV 65 (.sl [x.E0,y.E0,z'.E0]),sP 3,sL 3 [.v (j0 t.o0),.v (j0 t.O0),.v (j0 t.I0.o0),.v (.sl (t.I0.B0.map P1)),.v (.sl [x.E0,y.E0,z'.E0])],sP 4,sL 4 [.v (j0 0),.own 0 [],.v (j0 0)],sP 9,sL 9 [.v (j0 d.o0),.v (.sl (d.B0.map P1)),.v (j0 (d.A0:Int)),.v (j0 0),.own 0 [],.v (j0 0),.v (j0 0),.own 0 [],.v (j0 0)]]) [] @V2 ?_;refine bV ?_;refine V3 @V2 (M0 v) ?_;refine G2 (s':=[sV 0 (.sl G),sV 67 (j0 2),sV 66 (j0 3),sV 65 (.sl [x.E0,y.E0,z'.E0]),sP 3,sL 3 [.v (j0 t.o0),.v (j0 t.O0),.v (j0 t.I0.o0),.v (.sl (t.I0.B0.map P1)),.v (.sl [x.E0,y.E0,z'.E0])],sP 4,sL 4 [.v (j0 0),.own 0 [],.v (j0 0)],sP 9,sL 9 [.v (j0 d.o0),.v (.sl (d.B0.map P1)),.v (j0 (d.A0:Int)),.v (j0 e1.o0),.v (.sl (e1.B0.map P1)),.v (j0 (e1.A0:Int)),.v (j0 0),.own 0 [],.v (j0 0)]]) [] @V2 ?_;refine bV ?_;refine V3 @V2 (M0 u) ?_
  refine G2 (s':=[sV 0 (.sl G),sV 67 (j0 3),sV 66 (j0 3),sV 65 (.sl [x.E0,y.E0,z'.E0]),sP 3,sL 3 [.v (j0 t.o0),.v (j0 t.O0),.v (j0 t.I0.o0),.v (.sl (t.I0.B0.map P1)),.v (.sl [x.E0,y.E0,z'.E0])],sP 4,sL 4 [.v (j0 0),.own 0 [],.v (j0 0)],sP 9,sL 9 [.v (j0 d.o0),.v (.sl (d.B0.map P1)),.v (j0 (d.A0:Int)),.v (j0 e1.o0),.v (.sl (e1.B0.map P1)),.v (j0 (e1.A0:Int)),.v (j0 k.o0),.v (.sl (k.B0.map P1)),.v (j0 (k.A0:Int))]]) [] @V2 ?_;refine bV ?_;exact O1 @l7 (M0 wn)
theorem k20{t:Tm}(ht:t.shape=true)(h1:¬t.o0=1)(Y5:¬t.o0=2){e:Int}(he:e≠0){z:Tm}(z1:t.B0[i]? = some z)(z3:∀(j:Nat) (y:Tm),j<i->t.B0[j]? = some y->(y.V1 g).2=0)
  (wz:cU 146 [.sl (g.map Q4),z.dv] (.H1 [rO,j0 e]))
  (pY:∀(i:Nat) (x:Tm),t.B0[i]? = some x->(x.V1 g).2=0->cU 146 [.sl (g.map Q4),x.dv] (.H1 [.agg (Q4 (x.V1 g).1),j0 0])) :
  cU 146 [.sl (g.map Q4),t.dv] (.H1 [rO,j0 e]):=by
 obtain⟨ha,hi,hv,C6,hs⟩:=j9 ht;have h3:t.B0.length<=3:=by
  have:C5 t.o0<=3:=by unfold C5;(repeat' split) <;> omega
  omega
 have l7:=P5 t;refine H2 PN ?_;intro X hP G0 hf X0 hn hR K1 G1;have nK:=sQ (G1 (.sl (g.map Q4)) sS);simp at nK;have tO:i<t.B0.length:=(uA z1).1
 match V2:t.B0,h3 with
 | [],_=>rw[V2]at tO;simp at tO
 | [x],_=>
  rw[V2]at z1 z3 tO l7;simp only[G4,O5]at l7;rw[O3 x]at l7
  match i,tO,z1,z3 with
  | 0,_,z1,z3=>
   simp at z1;subst z1;clear pY;generalize Y3 Q4 g=G at *;refine U1 (j3 @h1 @Y5 @V2) ?_;refine W8 ?_;exact P4 (j2 @V2 @he) (M0 wz)
  | i+1,tO,_,_=>exact absurd tO sS
 | [x,y],_=>
  rw[V2]at z1 z3 tO l7;simp only[G4,O5]at l7;rw[O3 x,O3 y]at l7
  match i,tO,z1,z3 with
  | 0,_,z1,z3=>
   simp at z1;subst z1;clear pY;generalize Y3 Q4 g=G at *;refine U1 (j3 @h1 @Y5 @V2) ?_;refine W8 ?_;exact P4 (j2 @V2 @he) (M0 wz)
  | 1,_,z1,z3=>
   simp at z1;subst z1;have w:=pY 0 x (by rw[V2];rfl) (z3 0 x oO rfl);generalize (x.V1 g).1=d at *;simp only[W7]at w;clear pY;generalize Y3 Q4 g=G at *;refine U1 (j3 @h1 @Y5 @V2) ?_;refine W8 ?_;refine V3 @V2 (M0 w) ?_;refine G2 (s':=[sV 0 (.sl G),sV 67 (j0 1),sV 66 (j0 2),sV 65 (.sl [x.E0,y.E0]),sP 3,sL 3 [.v (j0 t.o0),.v (j0 t.O0),.v (j0 t.I0.o0),.v (.sl (t.I0.B0.map P1)),.v (.sl [x.E0,y.E0])],sP 4,sL 4 [.v (j0 0),.own 0 [],.v (j0 0)],sP 9,sL 9 [.v (j0 d.o0),.v (.sl (d.B0.map P1)),.v (j0 (d.A0:Int)),.v (j0 0),.own 0 [],.v (j0 0),.v (j0 0),.own 0 [],.v (j0 0)]]) [] @V2 ?_;refine bV ?_;exact P4 (j2 @V2 @he) (M0 wz)
  | i+2,tO,_,_=>exact absurd tO sS
 | [x,y,z'],_=>
  rw[V2]at z1 z3 tO l7;simp only[G4,O5]at l7;rw[O3 x,O3 y,O3 z']at l7
  match i,tO,z1,z3 with
  | 0,_,z1,z3=>
   simp at z1;subst z1;clear pY;generalize Y3 Q4 g=G at *;refine U1 (j3 @h1 @Y5 @V2) ?_;refine W8 ?_;exact P4 (j2 @V2 @he) (M0 wz)
  | 1,_,z1,z3=>
   simp at z1;subst z1;have w:=pY 0 x (by rw[V2];rfl) (z3 0 x oO rfl);generalize (x.V1 g).1=d at *;simp only[W7]at w;clear pY;generalize Y3 Q4 g=G at *;refine U1 (j3 @h1 @Y5 @V2) ?_;refine W8 ?_;refine V3 @V2 (M0 w) ?_;refine G2 (s':=[sV 0 (.sl G),sV 67 (j0 1),sV 66 (j0 3),sV 65 (.sl [x.E0,y.E0,z'.E0]),sP 3,sL 3 [.v (j0 t.o0),.v (j0 t.O0),.v (j0 t.I0.o0),.v (.sl (t.I0.B0.map P1)),.v (.sl [x.E0,y.E0,z'.E0])],sP 4,sL 4 [.v (j0 0),.own 0 [],.v (j0 0)],sP 9,sL 9 [.v (j0 d.o0),.v (.sl (d.B0.map P1)),.v (j0 (d.A0:Int)),.v (j0 0),.own 0 [],.v (j0 0),.v (j0 0),.own 0 [],.v (j0 0)]]) [] @V2 ?_;refine bV ?_;exact P4 (j2 @V2 @he) (M0 wz)
  | 2,_,z1,z3=>
   simp at z1;subst z1;have w:=pY 0 x (by rw[V2];rfl) (z3 0 x oO rfl);have v:=pY 1 y (by rw[V2];rfl) (z3 1 y oO rfl);generalize (x.V1 g).1=d at *;generalize (y.V1 g).1=e1 at *;simp only[W7]at w v;clear pY;generalize Y3 Q4 g=G at *;refine U1 (j3 @h1 @Y5 @V2) ?_;refine W8 ?_;refine V3 @V2 (M0 w) ?_;refine G2 (s':=[sV 0 (.sl G),sV 67 (j0 1),sV 66 (j0 3),sV 65 (.sl [x.E0,y.E0,z'.E0]),sP 3,sL 3 [.v (j0 t.o0),.v (j0 t.O0),.v (j0 t.I0.o0),.v (.sl (t.I0.B0.map P1)),.v (.sl [x.E0,y.E0,z'.E0])],sP 4,sL 4 [.v (j0 0),.own 0 [],.v (j0 0)],sP 9,sL 9 [.v (j0 d.o0),.v (.sl (d.B0.map P1)),.v (j0 (d.A0:Int)),.v (j0 0),.own 0 [],.v (j0 0),.v (j0 0),.own 0 [],.v (j0 0)]]) [] @V2 ?_;refine bV ?_;refine V3 @V2 (M0 v) ?_;refine G2 (s':=[sV 0 (.sl G),sV 67 (j0 2),sV 66 (j0 3),sV 65 (.sl [x.E0,y.E0,z'.E0]),sP 3,sL 3 [.v (j0 t.o0),.v (j0 t.O0),.v (j0 t.I0.o0),.v (.sl (t.I0.B0.map P1)),.v (.sl [x.E0,y.E0,z'.E0])],sP 4,sL 4 [.v (j0 0),.own 0 [],.v (j0 0)],sP 9,sL 9 [.v (j0 d.o0),.v (.sl (d.B0.map P1)),.v (j0 (d.A0:Int)),.v (j0 e1.o0),.v (.sl (e1.B0.map P1)),.v (j0 (e1.A0:Int)),.v (j0 0),.own 0 [],.v (j0 0)]]) [] @V2 ?_;refine bV ?_
   exact P4 (j2 @V2 @he) (M0 wz)
  | i+3,tO,_,_=>exact absurd tO sS
theorem b10(t:Tm)(g:List Ty)(NP:g.length+t.A0<=2147483648)(ht:t.shape=true)(hg:∀x∈g,x.ok){e:Int}(he:e≠0)(h:(t.V1 g).2=e) :
  cU 146 [.sl (g.map Q4),t.dv] (.H1 [rO,j0 e]):=by
 induction t using m7 generalizing g with
 | h t ih=>
 obtain⟨ha,hi,hv,C6,hs⟩:=j9 ht;rw[oW t]at h;by_cases h1:t.o0=1
 ·rw[if_pos h1]at h;split at h
  ·rename_i hq;obtain rfl:6=e:=h;refine H2 PN ?_;intro X hP G0 hf X0 hn hR K1 G1;have nK:=sQ (G1 (.sl (g.map Q4)) sS);simp at nK;have KL:(Y3 Q4 g).length=g.length:=sS;generalize Y3 Q4 g=G at *;exact P4 (j3 @h1 @hq @KL) H0
  ·exact absurd h.symm he
 rw[if_neg h1]at h;by_cases Y5:t.o0=2
 ·rw[if_pos Y5]at h;rw[Y5]at ha
  obtain⟨b,hb⟩:∃b,t.B0=[b]:=by
   match hh:t.B0,ha with
   | [b],_=>exact⟨b,rfl⟩
  have yF:b∈t.B0:=by rw[hb];simp
  rw[if_pos (.inl Y5)]at C6;have dY:∀x∈g++[t.I0],x.ok:=by
   intro x hx;rcases t6.1 hx with hx|hx;· exact hg x hx
   ·rw[bM.1 hx];exact C6
  have h80:t.A0=1+(b.A0+0):=by rw[V6,hb];rfl
  have hV0:=Uu b;have DB:g.length<=2147483647:=oO;have wo:=wP t.I0 C6;have Tz:Y3 Q4 (g++[t.I0])=Y3 Q4 g++[Q4 t.I0]:=sS;have KL:(Y3 Q4 g).length=g.length:=sS;have Fd:∀e:List DV,e∈Y3 Q4 g->e.length=3:=by intro e he;simp only[F9]at he;obtain⟨x,-,rfl⟩:=he;rfl
  rw[hb]at h;simp only[f7.Y4]at h;by_cases dF:(b.V1 (g++[t.I0])).2=0
  ·rw[if_pos dF]at h;simp only[if_true]at h;have hbo:=Ll b (g++[t.I0]) (hs b yF) dY dF;have w1:=LH b (g++[t.I0]) (by simp;omega) (hs b yF) dY dF;generalize (b.V1 (g++[t.I0])).1=rb at *;have ZR:g7 t.o0 t.I0 [rb]=eT (L0 4 [t.I0,rb]):=by rw[Y5];rfl
   rw[ZR]at h;have h4:=gd0 (L0 4 [t.I0,rb]) (by rw[h];exact he);have d7:=ft0 (.inr rfl) C6 hbo (by rw[h4];decide);rw[h4]at h;subst h;have wj:=cu0 4 t.I0 rb C6.2 hbo.2 d7;rw[Tz]at w1;simp only[W7 t.I0,W7 rb]at w1 wo wj;refine H2 PN ?_;intro X hP G0 hf X0 hn hR K1 G1;have nK:=sQ (G1 (.sl (g.map Q4)) sS);simp at nK;generalize Y3 Q4 g=G at *;have Pa:FE g.length G=G:=by rw[DS];omega
   exact O1 (j6 @Y5 @hb @Pa @KL @Fd @DB) (E8 wo w1 wj)
  ·rw[if_neg dF]at h;simp only at h;rw[if_neg dF]at h;have w1:=ih b yF (g++[t.I0]) (by simp;omega) (hs b yF) dY h;rw[Tz]at w1;simp only[W7 t.I0]at w1 wo;clear ih h;refine H2 PN ?_;intro X hP G0 hf X0 hn hR K1 G1;have nK:=sQ (G1 (.sl (g.map Q4)) sS);simp at nK;generalize Y3 Q4 g=G at *;have Pa:FE g.length G=G:=by rw[DS];omega
   exact P4 (j7 @Y5 @hb @Pa @KL @Fd @DB @he) (P3 wo w1)
 rw[if_neg Y5]at h;have pY:∀(i:Nat) (x:Tm),t.B0[i]? = some x->(x.V1 g).2=0->cU 146 [.sl (g.map Q4),x.dv] (.H1 [.agg (Q4 (x.V1 g).1),j0 0]):=by
  intro i x hx h0;have hm:=uE hx;have I8:=L9 hm;have N4:=V6 t;exact LH x g oO (hs x hm) hg h0
 by_cases hI:(f7.Y4 t.B0 g).2=0
 ·rw[if_pos hI]at h;rw[<- h];exact k00 hg ht h1 Y5 hI (by rw[h];exact he) pY
 rw[if_neg hI]at h;obtain⟨i,z,z1,z2,z3⟩:=dh0 he h;have zm:=uE z1;have wz:=ih z zm g (by have I8:=L9 zm;have N4:=V6 t;omega) (hs z zm) hg z2;exact k20 ht h1 Y5 he z1 z3 wz pY
theorem bw0(g:List Ty)(hg:∀x∈g,x.ok)(hl:g.length<=16):cU 114 [.sl (g.map P1)] (j0 0):=by
 refine A3 jJ0 fun X zX=>?_;have fU:¬(16<(g.length:Int)):=oO;refine U1 @fU ?_;refine Q1 ?_;refine G2 [] tT (y7 (g) (fun done rest=>[sV 11 (j0 done.length),sV 10 (j0 g.length),sV 9 (.sl (g.map P1)),sV 2 (j0 0)]) ?_ ?_)
 ·intro done x rest hL B3 Z1;have I1:=E5 hL;have Ts:=hg x (uE B3);have w:=US x (by have:=Ts.2;omega);rw[(wE x).2 Ts]at w;refine K5 ?_;refine N1 @B3 (M0 w) ?_;refine W3 (wr []) tT tT Z1
 ·refine K2 ?_;refine Z6 ?_;exact O1 H0 H0
theorem Qb(g:List Ty)(hg:∀x∈g,x.ok)(hl:g.length<=16):cU 131 [.sl (g.map P1)] (.sl (g.map Q4)):=by
 refine A3 Tryz.func131 fun X zX=>?_;refine N2 ?_;refine Q1 ?_;refine G2 [(1003,0)] tT (y7 (g) (fun done rest=>[sV 8 (j0 done.length),sV 7 (j0 g.length),sV 6 (.sl (g.map P1)),(.P0 2,.one (.own 0 [])),(.P0 3,.one (.own 1003 (done.map Q4))),(.tok 1003,.tk 3 done.length)]) ?_ ?_)
 ·intro done x rest hL B3 Z1;have I1:=E5 hL;have Ts:=hg x (uE B3);have w:=wP x Ts;have P6:=W7 x;refine K5 ?_;refine N1 (j3 @B3 @P6 @Xy) (M0 w) ?_;refine W3 (wr [(1003,16)]) (j2 @P6 @Xy) tT Z1
 ·refine K2 ?_;refine Z6 ?_;exact O1 H0 H0
theorem ku0(K3:D6 gl 2=some A7)(g:List Ty)(hg:∀x∈g,x.ok)(hl:g.length<=16)(t:Tm)(r:Ty)(hc:t.L4=0)(h:t.V1 g=(r,0)) :
  cU 48 [.sl (g.map P1),t.dv] (.H1 [r.dv,j0 0]):=by
 obtain⟨hs,gK⟩:=(lO t).1 hc;have w2:=ID K3 t (gV t hs) oO;rw[hc]at w2;have w3:=LH t g oO hs hg (by rw[h]);rw[h]at w3;have w4:=IN r;have w5:=Qb g hg hl;have w6:=bw0 g hg hl;simp only[W7]at w3 w5;exact G7 UA H0 (T9 w6 w2 w5 w3 w4)
end
section
namespace Tm
def fr:Tm->Int
 | .mk k i _ a=>if k=1 then i+1 else if k=2 then max 0 (go a - 1) else go a
where go:List Tm->Int
 | []=>0
 | a::r=>max a.fr (go r)
abbrev frs:=fr.go
theorem fr_eq(t:Tm):t.fr=if t.o0=1 then t.O0+1 else if t.o0=2 then max 0 (frs t.B0 - 1) else frs t.B0:=by cases t;rfl
@[go_sem] theorem frs_nil:frs []=0:=rfl
theorem frs_cons(a:Tm)(r:List Tm):frs (a::r)=max a.fr (frs r):=rfl
theorem frs_pos(l:List Tm):0<=frs l:=by
 induction l with
 | nil=>exact Iu 0
 | cons a r ih=>rw[frs_cons];omega
theorem frs_snoc(l:List Tm)(x:Tm):frs (l++[x])=max (frs l) x.fr:=by
 induction l with
 | nil=>rw[aT,frs_cons,frs_nil];omega
 | cons a r ih=>rw[R6,frs_cons,frs_cons,ih];omega
theorem frs_mem(h:x∈l):x.fr<=frs l:=by
 induction l with
 | nil=>cases h
 | cons a r ih=>
  rw[frs_cons];rcases u5.1 h with rfl|h;· omega
  ·have:=ih h;omega
def nc:Tm->List DV
 | .mk k i y a=>[j0 k,j0 i,j0 y.o0,.sl (y.B0.map P1),.sl (go a),j0 (U0 k i y a).A0,j0 (U0 k i y a).fr]
where go:List Tm->List (List DV)
 | []=>[]
 | a::r=>[.soft (nc a) a.nf]::go r
abbrev nd(t:Tm):DV:=.soft t.nc t.nf
def nE(t:Tm):List DV:=[t.nd]
@[go_sem] theorem GE0 (t:Tm):t.nE=[t.nd]:=rfl
@[go_sem] theorem nc_eq (t:Tm):t.nc=[j0 t.o0,j0 t.O0,j0 t.I0.o0,.sl (t.I0.B0.map P1),.sl (t.B0.map nE),j0 t.A0,j0 t.fr]:=by
 have key:∀l:List Tm,nc.go l=l.map nE:=by
  intro l
  induction l with
  | nil=>rfl
  | cons a r ih=>simp only[nc.go,ih,G4];rfl
 cases t with
 | mk k i y a=>rw[nc,key];rfl
end Tm
theorem Tm.nE_fr(h:J6 (.sl (l.map Tm.nE))):l.length<=2147483648/\∀x∈l,-9223372036854775808<=x.fr/\x.fr<=9223372036854775807:=by
 obtain⟨h1,h2⟩:=(GR Tm.nE (fun a=>.agg a.nE) (fun _=>rfl) l).1 h;refine⟨by simpa [M5] using h1,fun x hx=>?_⟩;have h:=h2 x hx;simp[J6,J6.fits,aY,IntKind.min,IntKind.max,IntKind.signed,IntKind.bits,Tm.nE,Tm.nd,Tm.nc_eq]at h;omega
theorem Tm.frs_le{m:Int}(h:∀x∈l,x.fr<=m)(hm:0<=m):frs l<=m:=by
 induction l with
 | nil=>exact hm
 | cons a r ih=>
  have:=h a sS;have:=ih fun x hx=>h x (by simp[hx]);rw[frs_cons];omega
theorem Mf(t:Tm)(hi:0<=t.O0/\t.O0<=4611686018427387904)(hc:t.A0<=4611686018427387904):cU 375 [j0 t.o0,j0 t.O0,t.I0.dv,.sl (t.B0.map Tm.nE)] t.nd:=by
 have e:=t.fr_eq;have hp:=Tm.frs_pos t.B0;have N4:=V6 t;refine H2 Tryz.func375 ?_;intro X hP G0 hf X0 hn hR K1 G1;obtain⟨hlen,eZ⟩:=Tm.nE_fr (G1 (.sl (t.B0.map Tm.nE)) sS);refine N2 ?_;refine Q1 ?_;refine G2 [] (j2 @D3.Z0.eq_1 @D3.Z0.eq_2) (y7 (t.B0) (fun done rest=>[sV 0 (j0 t.o0),sV 1 (j0 t.O0),sV 8 (.K0 (.pointer none)),(.P0 9,.one (.loc 17 0)),sL 17 [.v (j0 t.o0),.v (j0 t.O0),.v (j0 t.I0.o0),.v (.sl (t.I0.B0.map P1)),.v (.sl (t.B0.map Tm.nE)),.v (j0 (1+D3.Z0 done:Nat)),.v (j0 (Tm.frs done)),.v (O2 false)],sV 18 (.sl (t.B0.map Tm.nE)),sV 19 (j0 t.B0.length),sV 20 (j0 done.length)]) ?_ ?_)
 ·intro done x rest hL hg Z1;have I1:=E5 hL;have I8:D3.Z0 t.B0=D3.Z0 done+(x.A0+D3.Z0 rest):=by rw[hL,gR];rfl
  have hcd:D3.Z0 (done++[x])=D3.Z0 done+x.A0:=by rw[gR];rfl
  have mE:=Tm.frs_snoc done x;have hfx:=eZ x (uE hg);have hpd:=Tm.frs_pos done;have hld:Tm.frs done<=9223372036854775807:=Tm.frs_le (fun y hy=>(eZ y (by rw[hL];simp[hy])).2) dD;refine W3 (wr []) (j2 @hcd @mE) @hg Z1
 ·have fin:t.o0=1\/t.o0=2\/t.o0≠1/\t.o0≠2:=oO;have KH:Tm.frs t.B0<=9223372036854775807:=Tm.frs_le (fun y hy=>(eZ y hy).2) dD;rcases fin with h1|h1|h1
  all_goals
   first|rw[if_neg h1.1,if_neg h1.2]at e|rw[if_pos h1]at e|rw[if_neg oO,if_pos h1]at e
   refine U1 @h1 ?_;refine AV0 17 8 t.nf (cs:=t.nc) sG (by simp[go_sem,e,N4,h1] <;> omega) sG (by simp[K1]) ?_;simp[go_sem];exact rF
theorem Wr(t:Tm):cU 409 [t.nd] (j0 (W2 t.o0)):=by
 refine A3 Tryz.func409 fun X zX=>?_;rcases Ge t.o0 with⟨h2,hb⟩|⟨h2,hb⟩
 all_goals
  refine U1 @h2 ?_;exact aN @hb
theorem Mt(t:Tm)(l:List Tm)(hi:0<=t.O0/\t.O0<=4611686018427387904)(hc:D3.Z0 l<=4611686018427387903):cU 395 [t.nd,.sl (l.map Tm.nE)] (U0 t.o0 t.O0 t.I0 l).nd:=by
 have w:=Mf (U0 t.o0 t.O0 t.I0 l) hi (by have:=V6 (U0 t.o0 t.O0 t.I0 l);rw[M8]at this;omega);simp only[Z9,fE,kL,M8]at w;generalize U0 t.o0 t.O0 t.I0 l=u at *;exact B2 Tryz.func395 H0 (M0 w)
theorem zs0(t:Tm)(hi:t.idx 1099511627776)(hc:t.A0<=1000000):cU 346 [t.dv] t.nd:=by
 induction t using m7 with
 | h t ih=>
 have AL:=(oX t _).1 hi;have N4:=V6 t;have w:=Mf t ⟨AL.1.1,oO⟩ oO;refine H2 Tryz.func346 ?_;intro X hP G0 hf X0 hn hR K1 G1;have hlen:=kM (G1 t.dv sS);refine E4 (bx [1000001]) tT ?_;refine N2 ?_;refine Q1 ?_;refine G2 [(3,0)] tT (y7 (t.B0) (fun done rest=>[sV 1 (.ref t.cs),sV 2 (.K0 (.pointer none)),(.P0 3,.one (.own 3 (done.map Tm.nE))),(.tok 3,.tk 1 done.length),sV 7 (.sl (t.B0.map E3)),sV 8 (j0 t.B0.length),sV 9 (j0 done.length)]) ?_ ?_)
 ·intro done x rest hL hg Z1;have I1:=E5 hL;have U2:=uE hg;have gJ:=L9 U2;have w:=ih x U2 (AL.2 x U2) oO;refine N1 @hg (M0 w) ?_;refine W3 (wr [(3,17)]) tT tT Z1
 ·exact O1 H0 (M0 w)
theorem Tm.upN_fr(t:Tm)(p k:Int)(ht:t.shape=true)(h:t.fr<=p):t.V0 p k=t:=by
 induction t using m7 generalizing p with
 | h t ih=>
 have hs:=j9 ht;have e:=t.fr_eq;have hp:=Tm.frs_pos t.B0
 have key:∀q,Tm.frs t.B0<=q->t.B0.map (fun a=>a.V0 q k)=t.B0:=fun q hq=>by
  conv=>rhs;rw[<- yW t.B0]
  exact kW fun a ha=>ih a ha q (hs.2.2.2.2 a ha) (jO0 (Tm.frs_mem ha) hq)
 rw[cL];rcases Ge t.o0 with⟨h2,hb⟩|⟨h2,hb⟩;· rw[if_neg oO,key _ (by rw[if_neg oO,if_pos h2]at e;omega),Cn]
 ·by_cases h1:t.o0=1
  ·have hl:t.B0=[]:=by have:=hs.1;rw[h1]at this;simpa [C5] using this
   rw[if_neg (by rw[if_pos h1]at e;omega),hl];exact (CS t rfl rfl rfl hl).symm
  ·rw[if_neg oO,key _ (by rw[if_neg h1,if_neg h2]at e;omega),Cn]
theorem Tm.inN_fr(t:Tm)(p d:Int)(s:Tm)(ht:t.shape=true)(h:t.fr<=p+d):t.Y1 p d s=t:=by
 induction t using m7 generalizing d with
 | h t ih=>
 have hs:=j9 ht;have e:=t.fr_eq;have hp:=Tm.frs_pos t.B0
 have key:∀q,Tm.frs t.B0<=p+q->t.B0.map (fun a=>a.Y1 p q s)=t.B0:=fun q hq=>by
  conv=>rhs;rw[<- yW t.B0]
  exact kW fun a ha=>ih a ha q (hs.2.2.2.2 a ha) (jO0 (Tm.frs_mem ha) hq)
 by_cases h1:t.o0=1
 ·have hl:t.B0=[]:=by have:=hs.1;rw[h1]at this;simpa [C5] using this
  have hz:=hs.2.2.2.1;have et:t=vT t.O0:=CS t h1 rfl (MM (by simpa [h1] using hz)) hl;rw[if_pos h1]at e;generalize t.O0=i at *;rw[et,BA,if_neg oO,if_neg oO]
 rw[nR,if_neg h1];rcases Ge t.o0 with⟨h2,hb⟩|⟨h2,hb⟩;· rw[key _ (by rw[if_neg h1,if_pos h2]at e;omega),Cn]
 ·rw[key _ (by rw[if_neg h1,if_neg h2]at e;omega),Cn]
theorem Tm.times_fr(t:Tm)(p:Int)(ht:t.shape=true)(h:t.fr<=p):t.R2 p=0:=by
 induction t using m7 generalizing p with
 | h t ih=>
 have hs:=j9 ht;have e:=t.fr_eq;have hp:=Tm.frs_pos t.B0;have kl:∀l:List Tm,(∀a∈l,a∈t.B0)->∀q,Tm.frs l<=q->t8.B5 l q=0:=by
  intro l
  induction l with
  | nil=>intro _ _ _;rfl
  | cons a r l6=>
   intro hl q hq;rw[Tm.frs_cons]at hq;simp only[t8.B5];rw[ih a (hl a sS) q (hs.2.2.2.2 a (hl a sS)) oO,l6 (fun x hx=>hl x (iJ _ hx)) q oO]
 have key:=kl t.B0 fun a h=>h;rw[DU];by_cases h1:t.o0=1
 ·have hl:t.B0=[]:=by have:=hs.1;rw[h1]at this;simpa [C5] using this
  rw[if_neg (by rw[if_pos h1]at e;omega),hl];rfl
 rw[if_neg oO];rcases Ge t.o0 with⟨h2,hb⟩|⟨h2,hb⟩;· rw[key _ (by rw[if_neg h1,if_pos h2]at e;omega)]
 ·rw[key _ (by rw[if_neg h1,if_neg h2]at e;omega)]
theorem oJ0{f:Tm->Tm}(h:∀x∈l,(f x).A0=x.A0):D3.Z0 (l.map f)=D3.Z0 l:=by
 induction l with
 | nil=>rfl
 | cons a r ih=>simp only[G4,D3.Z0];rw[h a sS,ih fun x hx=>h x (by simp[hx])]
theorem v60(t:Tm)(p k:Int)(ht:Gd t)(hc:t.A0<=1000000)(hp:0<=p)(Dl:p+t.A0<=1099511627776)(hk:0<=k/\k<=1099511627776):cU 410 [t.nd,j0 p,j0 k] (t.V0 p k).nd:=by
 induction t using m7 generalizing p with
 | h t ih=>
 have N4:=V6 t;have kE:=lT t.o0;have AL:=((oX t _).1 ht.2).1;have eU:=cL t p k;have w2:=Mt t (t.B0.map fun a=>a.V0 (p+W2 t.o0) k) oO (by rw[oJ0 fun x _=>iO x _ k];omega);by_cases h0:t.fr<=p
 ·rw[Tm.upN_fr t p k ht.1 h0];exact B2 a80 @h0 H0
 by_cases oK:k=0
 ·rw[oK,Jx];exact B2 a80 @h0 H0
 by_cases h1:t.o0=1
 ·have hl:t.B0=[]:=(by have:=(j9 ht.1).1;rw[h1]at this;simpa [C5] using this);rw[if_pos ⟨h1,by rw[Tm.fr_eq,if_pos h1]at h0;omega⟩,hl,h1]at eU;have w:=Mf (U0 1 (t.O0+k) t.I0 []) (by simp only[fE];omega) (by simp[D3,D3.Z0]);simp only[Z9,fE,kL,M8,O5]at w eU;rw[<- eU]at w;generalize t.V0 p k=u at *;exact B2 a80 (j3 @h0 @oK @h1) (M0 w)
 rw[if_neg oO]at eU;rw[<- eU]at w2;generalize t.V0 p k=u at *;refine A3 a80 fun X zX=>?_;have hlen:=Lt t.B0;refine U1 (j3 @h0 @oK @h1) ?_;refine Q1 ?_;refine G2 [(7,0)] tT (y7 (t.B0) (fun done rest=>[sV 0 t.nd,sV 1 (j0 p),sV 2 (j0 k),(.P0 7,.one (.own 7 ((done.map fun a=>a.V0 (p+W2 t.o0) k).map Tm.nE))),(.tok 7,.tk 1 done.length),sV 44 (.sl (t.B0.map Tm.nE)),sV 45 (j0 t.B0.length),sV 46 (j0 done.length)]) ?_ ?_)
 ·intro done x rest hL hg Z1;have I1:=E5 hL;have U2:=uE hg;have gJ:=L9 U2;have w:=ih x U2 (p+W2 t.o0) (ht.arg x U2) oO oO oO;refine N1 @hg (P3 (Wr t) w) ?_;refine W3 (wr [(7,59)]) tT tT Z1
 ·exact O1 H0 (M0 w2)
theorem rC0(t:Tm)(p:Int)(ht:t.shape=true)(hc:t.A0<=1000000)(hp:0<=p)(Dl:p+t.A0<=1099511627776):cU 403 [t.nd,j0 p] (j0 (t.R2 p)):=by
 induction t using m7 generalizing p with
 | h t ih=>
 have N4:=V6 t;have kE:=lT t.o0;have eU:=DU t p;have hlen:=Lt t.B0;by_cases h0:t.fr<=p
 ·rw[Tm.times_fr t p ht h0];exact B2 a90 @h0 H0
 by_cases h1:t.o0=1
 ·have hl:t.B0=[]:=(by have:=(j9 ht).1;rw[h1]at this;simpa [C5] using this);rw[hl]at eU;by_cases h2:t.O0=p
  ·rw[if_pos ⟨h1,h2⟩]at eU;exact B2 a90 (j6 @h0 @h1 @h2 @eU @t8.B5.eq_1 @t8.B5.eq_2) H0
  ·rw[if_neg oO]at eU;exact B2 a90 (j6 @h0 @h1 @h2 @eU @t8.B5.eq_1 @t8.B5.eq_2) H0
 rw[if_neg oO]at eU;have hle:=Tm.timess_le t.B0 (p+W2 t.o0);refine A3 a90 fun X zX=>?_;refine U1 (j2 @h0 @h1) ?_;refine Q1 ?_;refine G2 [] (j2 @t8.B5.eq_1 @t8.B5.eq_2) (y7 (t.B0) (fun done rest=>[sV 0 t.nd,sV 1 (j0 p),sV 5 (j0 (t8.B5 done (p+W2 t.o0):Nat)),sV 28 (.sl (t.B0.map Tm.nE)),sV 29 (j0 t.B0.length),sV 30 (j0 done.length)]) ?_ ?_)
 ·intro done x rest hL hg Z1;have I1:=E5 hL;have U2:=uE hg;have gJ:=L9 U2;have w:=ih x U2 (p+W2 t.o0) ((j9 ht).2.2.2.2 x U2) oO oO oO;have I8:t8.B5 t.B0 (p+W2 t.o0)=t8.B5 done (p+W2 t.o0)+(x.R2 (p+W2 t.o0)+t8.B5 rest (p+W2 t.o0)):=by rw[hL,Is];rfl
  have hcd:t8.B5 (done++[x]) (p+W2 t.o0)=t8.B5 done (p+W2 t.o0)+x.R2 (p+W2 t.o0):=by rw[Is];rfl
  refine N1 @hg (P3 (Wr t) w) ?_;refine W3 (wr []) @hcd tT Z1
 ·exact O1 @eU H0
theorem EX0(t s:Tm)(p d:Int)(ht:t.shape=true)(hc:t.A0<=1000000)(hs:s.A0<=1000000):(t.Y1 p d s).A0<=4000000000000:=by
 have h1:=Ry t p d s ht;have h2:=FR t (p+d);have h3:(t.R2 (p+d):Int) * ((s.A0:Int) - 1)<=1000000 * 1000000:=by
  have:(1:Int)<=s.A0:=by have:=V6 s;omega
  exact a30 oO oO oO oO
 omega
theorem zt0(t s:Tm)(p d:Int)(ht:Gd t)(hc:t.A0<=1000000)(hs:Gd s)(hsc:s.A0<=1000000)(hp:0<=p)(hd:0<=d)(Dl:p+d+t.A0<=1000000000):cU 404 [t.nd,j0 (p+d),s.nd] (t.Y1 p d s).nd:=by
 induction t using m7 generalizing d with
 | h t ih=>
 have N4:=V6 t;have kE:=lT t.o0;have AL:=((oX t _).1 ht.2).1;have eU:=nR t p d s;have hlen:=Lt t.B0;have hle:=EX0 t s p d ht.1 hc hsc;by_cases h0:t.fr<=p+d
 ·rw[Tm.inN_fr t p d s ht.1 h0];exact B2 ba0 @h0 H0
 by_cases h1:t.o0=1
 ·obtain⟨e,-,-⟩:=ht.var h1;have hl:t.B0=[]:=(by have:=(j9 ht.1).1;rw[h1]at this;simpa [C5] using this);have eV:=BA t.O0 p d s;rw[show vT t.O0=t from e.symm]at eV;by_cases h2:t.O0=p+d
  ·rw[if_pos h2]at eV;have w:=v60 s 0 (p+d) hs hsc oO oO ⟨oO,oO⟩;rw[<- eV]at w;generalize t.Y1 p d s=u at *;exact B2 ba0 (j3 @h0 @h1 @h2) (M0 w)
  ·rw[if_neg h2,if_pos (by rw[Tm.fr_eq,if_pos h1]at h0;omega)]at eV;have w:=Mf (U0 1 (t.O0 - 1) t.I0 []) (by simp only[fE];rw[Tm.fr_eq,if_pos h1]at h0;omega) (by simp[D3,D3.Z0]);simp only[Z9,fE,kL,M8,O5]at w;have ey:t.I0=L0 0 []:=by rw[e];rfl
   rw[show U0 1 (t.O0 - 1) t.I0 []=vT (t.O0 - 1) by rw[ey];rfl,<- eV]at w;generalize t.Y1 p d s=u at *;exact B2 ba0 (j3 @h0 @h1 @h2) (M0 w)
 rw[if_neg h1]at eU
 have w2:=Mt t (t.B0.map fun a=>a.Y1 p (d+W2 t.o0) s) oO (by
  have:=V6 (t.Y1 p d s);rw[eU,M8]at this;rw[eU]at hle
  omega)
 rw[<- eU]at w2;generalize t.Y1 p d s=u at *;refine A3 ba0 fun X zX=>?_;refine U1 (j2 @h0 @h1) ?_;refine Q1 ?_;refine G2 [(7,0)] tT (y7 (t.B0) (fun done rest=>[sV 0 t.nd,sV 1 (j0 (p+d)),sV 2 s.nd,(.P0 7,.one (.own 7 ((done.map fun a=>a.Y1 p (d+W2 t.o0) s).map Tm.nE))),(.tok 7,.tk 1 done.length),sV 48 (.sl (t.B0.map Tm.nE)),sV 49 (j0 t.B0.length),sV 50 (j0 done.length)]) ?_ ?_)
 ·intro done x rest hL hg Z1;have I1:=E5 hL;have U2:=uE hg;have gJ:=L9 U2;have w:=ih x U2 (d+W2 t.o0) (ht.arg x U2) oO oO oO;rw[<- DW]at w;refine N1 @hg (P3 (Wr t) w) ?_;refine W3 (wr [(7,63)]) tT tT Z1
 ·exact O1 H0 (M0 w2)
def Tm.ap(f:Tm):List Tm->Tm
 | []=>f
 | a::r=>(gE f a).ap r
theorem zu0(f:Tm)(l:List Tm)(x:Tm):f.ap (l++[x])=gE (f.ap l) x:=by
 induction l generalizing f with
 | nil=>rfl
 | cons a r ih=>exact ih _
theorem Jm(f:Tm)(l:List Tm):(f.ap l).A0=f.A0+l.length+D3.Z0 l:=by
 induction l generalizing f with
 | nil=>rfl
 | cons a r ih=>
  rw[Tm.ap,ih,V6 (gE f a)];simp only[gE,M8,D3.Z0,B4];omega
theorem RW(f:Tm)(l:List Tm)(hc:(f.ap l).A0<=4611686018427387904):cU 405 [f.nd,.sl (l.map Tm.nE)] (f.ap l).nd:=by
 have N4:=Jm f l;refine H2 Tryz.func405 ?_;intro X hP G0 hf X0 hn hR K1 G1;obtain⟨hlen,-⟩:=Tm.nE_fr (G1 (.sl (l.map Tm.nE)) sS);refine N2 ?_;refine Q1 ?_;refine aM [] sG (by simp[go_sem,Tm.ap] <;> omega) sG (y7 (l) (fun done rest=>[(.P0 0,.one (.v (f.ap done).nd)),sV 4 (.K0 (.pointer none)),sV 7 (.sl (l.map Tm.nE)),sV 8 (j0 l.length),sV 9 (j0 done.length)]) ?_ ?_)
 ·intro done x rest hL hg Z1;have I1:=E5 hL;have GK0:=Jm f done;have I8:D3.Z0 l=D3.Z0 done+(x.A0+D3.Z0 rest):=by rw[hL,gR];rfl
  have eS:=zu0 f done x;have w:=Mf (gE (f.ap done) x) (by simp[gE,fE]) (by rw[V6];simp only[gE,M8,D3.Z0];omega);simp only[gE,Z9,fE,kL,M8,O5,G4]at w;rw[show U0 3 0 (L0 0 []) [f.ap done,x]=f.ap (done++[x]) from eS.symm]at w;have hz:eM [j0 0,.sl []]=(L0 0 []).dv:=rfl;generalize f.ap done=u at *;generalize f.ap (done++[x])=v at *;refine N1 (j2 @hg @hz) (M0 w) ?_;refine W3 (wr []) tT tT Z1
 ·exact O1 H0 H0
end
section
theorem d20(t:Tm)(ht:t.shape=true):cU 378 [t.nd] (O2 t.rootN):=by
 refine A3 Tryz.func378 fun X zX=>?_;by_cases h3:t.o0=3
 ·obtain⟨x,y,hx⟩:=sD ht (by rw[h3];rfl);exact O1 (j4 @h3 @hx @Tm.rootN.eq_1 @Tm.argN.eq_1) H0
 by_cases h6:t.o0=6
 ·obtain⟨x,y,z,hx⟩:=AX ht (by rw[h6];rfl);by_cases hz:z.o0=4
  all_goals
   exact O1 (j5 @h6 @hx @hz @Tm.rootN.eq_1 @Tm.argN.eq_1) H0
 by_cases h9:t.o0=9
 ·obtain⟨x,y,z,hx⟩:=AX ht (by rw[h9];rfl);by_cases hz:z.o0=7
  all_goals
   exact O1 (j5 @h9 @hx @hz @Tm.rootN.eq_1 @Tm.argN.eq_1) H0
 by_cases I7:t.o0=11\/t.o0=12
 ·obtain⟨x,hx⟩:=qO ht (by rcases I7 with h|h <;> rw[h] <;> rfl);rcases I7 with h|h
  all_goals
   exact O1 (j4 @h @hx @Tm.rootN.eq_1 @Tm.argN.eq_1) H0
 have U8:¬t.o0=12:=fun h=>I7 (.inr h);have I7:¬t.o0=11:=fun h=>I7 (.inl h);exact O1 (j6 @h3 @h6 @h9 @I7 @U8 @Tm.rootN.eq_1) H0
theorem VS{t:Tm}(ht:t.shape=true)(hr:t.rootN=true):(∃x y b,t.o0=3/\t.B0=[x,y]/\x.B0=[b])\/(∃x y z,t.o0=6/\t.B0=[x,y,z]/\z.o0=4/\z.B0=[])\/(∃x y z n,t.o0=6/\t.B0=[x,y,z]/\z.o0=5/\z.B0=[n]) \/
  (∃x y z,t.o0=9/\t.B0=[x,y,z]/\z.o0=7/\z.B0=[])\/(∃x y z n r,t.o0=9/\t.B0=[x,y,z]/\z.o0=8/\z.B0=[n,r])\/(∃x p q,t.o0=11/\t.B0=[x]/\x.B0=[p,q])\/∃x p q,t.o0=12/\t.B0=[x]/\x.B0=[p,q]:=by
 have hs:=(j9 ht).2.2.2.2;have h0:∀z∈t.B0,C5 z.o0=0->z.B0=[]:=fun z hz h=>by have:=(j9 (hs z hz)).1;rw[h]at this;simpa using this
 by_cases h3:t.o0=3
 ·obtain⟨x,y,hx⟩:=sD ht (by rw[h3];rfl);have hk:x.o0=2:=by simpa [n6,h3,X3,hx] using hr
  obtain⟨b,hb⟩:=qO (hs x (by rw[hx];simp)) (by rw[hk];rfl);exact .inl ⟨x,y,b,h3,hx,hb⟩
 by_cases h6:t.o0=6
 ·obtain⟨x,y,z,hx⟩:=AX ht (by rw[h6];rfl);have:z.o0=4\/z.o0=5:=by simpa [n6,h6,X3,hx] using hr
  rcases this with hz|hz;· exact .inr (.inl ⟨x,y,z,h6,hx,hz,h0 z (by rw[hx];simp) (by rw[hz];rfl)⟩)
  ·obtain⟨n,qG⟩:=qO (hs z (by rw[hx];simp)) (by rw[hz];rfl);exact .inr (.inr (.inl ⟨x,y,z,n,h6,hx,hz,qG⟩))
 by_cases h9:t.o0=9
 ·obtain⟨x,y,z,hx⟩:=AX ht (by rw[h9];rfl);have:z.o0=7\/z.o0=8:=by simpa [n6,h9,X3,hx] using hr
  rcases this with hz|hz;· exact .inr (.inr (.inr (.inl ⟨x,y,z,h9,hx,hz,h0 z (by rw[hx];simp) (by rw[hz];rfl)⟩)))
  ·obtain⟨n,r,qG⟩:=sD (hs z (by rw[hx];simp)) (by rw[hz];rfl);exact .inr (.inr (.inr (.inr (.inl ⟨x,y,z,n,r,h9,hx,hz,qG⟩))))
 by_cases I7:t.o0=11
 ·obtain⟨x,hx⟩:=qO ht (by rw[I7];rfl);have hk:x.o0=10:=by simpa [n6,I7,X3,hx] using hr
  obtain⟨p,q,hp⟩:=sD (hs x (by rw[hx];simp)) (by rw[hk];rfl);exact .inr (.inr (.inr (.inr (.inr (.inl ⟨x,p,q,I7,hx,hp⟩)))))
 have U8:t.o0=12:=by
  by_cases h:t.o0=12;· exact h
  ·simp[n6,h3,h6,h9,I7,h]at hr
 obtain⟨x,hx⟩:=qO ht (by rw[U8];rfl);have hk:x.o0=10:=by simpa [n6,U8,X3,hx] using hr
 obtain⟨p,q,hp⟩:=sD (hs x (by rw[hx];simp)) (by rw[hk];rfl);exact .inr (.inr (.inr (.inr (.inr (.inr ⟨x,p,q,U8,hx,hp⟩)))))
theorem b20(t:Tm)(ht:Gd t)(hc:t.A0<=1000000)(hr:t.rootN=true):cU 394 [t.nd] t.reducedN.nd:=by
 have N4:=V6 t;have AL:=((oX t _).1 ht.2).1;have gJ:=@L9;rcases VS ht.1 hr with⟨x,y,b,h,hx,hb⟩|⟨x,y,z,h,hx,hz,Q7⟩|⟨x,y,z,n,h,hx,hz,Q7⟩|⟨x,y,z,h,hx,hz,Q7⟩|⟨x,y,z,n,r,h,hx,hz,Q7⟩|⟨x,p,q,h,hx,hz⟩|⟨x,p,q,h,hx,hz⟩
 ·have c1:=xG hx;have c2:=xH hb;have gx:=ht.arg x (by rw[hx];simp);have w:=zt0 b y 0 0 (gx.arg b (by rw[hb];simp)) oO (ht.arg y (by rw[hx];simp)) oO oO oO oO;simp only[sE]at w;exact B2 PR (j5 @h @hx @hb @Tm.reducedN.eq_1 @Tm.argN.eq_1) (M0 w)
 ·exact B2 PR (j6 @h @hx @Q7 @Tm.reducedN.eq_1 @Tm.argN.eq_1 @hz) H0
 ·have Fx:t.O0=0:=by have:=(j9 ht.1).2.2.1;omega
  have c1:=Bz hx;have c2:=xH Q7;have w1:=Mt t [x,y,n] oO (by simp only[D3.Z0];omega);have e1:=V6 (U0 t.o0 t.O0 t.I0 [x,y,n]);simp only[M8,D3.Z0]at e1;have e2:=Jm y [n];simp only[B4,fC,D3.Z0]at e2;have w2:=RW y [n] oO;have w3:=RW (y.ap [n]) [U0 t.o0 t.O0 t.I0 [x,y,n]] (by rw[Jm];simp only[B4,fC,D3.Z0];omega);have er:t.reducedN=(y.ap [n]).ap [U0 t.o0 t.O0 t.I0 [x,y,n]]:=by simp[oY,h,X3,hx,hz,Q7,Tm.ap,Fx]
  rw[er];simp only[G4,O5]at w1 w2 w3;generalize (y.ap [n]).ap [U0 t.o0 t.O0 t.I0 [x,y,n]]=u3 at *;generalize y.ap [n]=u2 at *;generalize U0 t.o0 t.O0 t.I0 [x,y,n]=u1 at *;exact B2 PR (j3 @h @hx @Q7) (E8 w1 w2 w3)
 ·exact B2 PR (j6 @h @hx @Q7 @Tm.reducedN.eq_1 @Tm.argN.eq_1 @hz) H0
 ·have Fx:t.O0=0:=by have:=(j9 ht.1).2.2.1;omega
  have c1:=Bz hx;have c2:=xG Q7;have w1:=Mt t [x,y,r] oO (by simp only[D3.Z0];omega);have e1:=V6 (U0 t.o0 t.O0 t.I0 [x,y,r]);simp only[M8,D3.Z0]at e1;have e2:=Jm y [n,r];simp only[B4,fC,D3.Z0]at e2;have w2:=RW y [n,r] oO;have w3:=RW (y.ap [n,r]) [U0 t.o0 t.O0 t.I0 [x,y,r]] (by rw[Jm];simp only[B4,fC,D3.Z0];omega);have er:t.reducedN=(y.ap [n,r]).ap [U0 t.o0 t.O0 t.I0 [x,y,r]]:=by simp[oY,h,X3,hx,hz,Q7,Tm.ap,Fx]
  rw[er];simp only[G4,O5]at w1 w2 w3;generalize (y.ap [n,r]).ap [U0 t.o0 t.O0 t.I0 [x,y,r]]=u3 at *;generalize y.ap [n,r]=u2 at *;generalize U0 t.o0 t.O0 t.I0 [x,y,r]=u1 at *;exact B2 PR (j3 @h @hx @Q7) (E8 w1 w2 w3)
 all_goals
  exact B2 PR (j5 @h @hx @hz @Tm.reducedN.eq_1 @Tm.argN.eq_1) H0
theorem rD0(t:Tm)(ht:Gd t)(hc:t.A0<=1000000)(hr:t.rootN=true):cU 393 [t.nd] (j0 (t.A0+t.growthN)):=by
 have hrc:=UY t ht.1 hr;have wc:=b20 t ht hc hr;rcases VS ht.1 hr with⟨x,y,b,h,hx,hb⟩|⟨x,y,z,h,hx,hz,Q7⟩|⟨x,y,z,n,h,hx,hz,Q7⟩|⟨x,y,z,h,hx,hz,Q7⟩|⟨x,y,z,n,r,h,hx,hz,Q7⟩|⟨x,p,q,h,hx,hz⟩|⟨x,p,q,h,hx,hz⟩
 ·have c1:=xG hx;have c2:=xH hb;have gx:=ht.arg x (by rw[hx];simp);have w:=rC0 b 0 (gx.arg b (by rw[hb];simp)).1 oO oO oO;have h2:=FR b 0;have h3:(0:Int)<=(b.R2 0:Int) * ((y.A0:Int) - 1)/\(b.R2 0:Int) * ((y.A0:Int) - 1)<=1000000 * 1000000:=by
   have:(1:Int)<=y.A0:=by have:=V6 y;omega
   exact⟨jD0 oO oO,a30 oO oO oO oO⟩
  have e:(t.A0:Int)+t.growthN=b.A0+b.R2 0 * ((y.A0:Int) - 1):=by simp[kN,h,X3,hx,hb];omega
  exact B2 PT (j4 @h @hx @hb @e) (M0 w)
 ·have e:(t.A0:Int)+t.growthN=x.A0:=by simp[kN,h,X3,hx,hz];omega
  exact B2 PT (j4 @h @hx @hz @e) H0
 ·have c1:=Bz hx;have c2:=xH Q7;have e:(t.A0:Int)+t.growthN=2+y.A0+2 * n.A0+1+x.A0+y.A0:=by simp[kN,h,X3,hx,hz,Q7];omega
  exact B2 PT (j5 @h @hx @hz @Q7 @e) H0
 ·have e:(t.A0:Int)+t.growthN=x.A0:=by simp[kN,h,X3,hx,hz];omega
  exact B2 PT (j4 @h @hx @hz @e) H0
 ·have c1:=Bz hx;have c2:=xG Q7;have e:(t.A0:Int)+t.growthN=3+y.A0+n.A0+2 * r.A0+1+x.A0+y.A0:=by simp[kN,h,X3,hx,hz,Q7];omega
  exact B2 PT (j5 @h @hx @hz @Q7 @e) H0
 all_goals
  generalize t.reducedN=u at *;exact B2 PT (j2 @h @hrc) (M0 wc)
theorem RX(t:Tm)(room:Int):t.nf=true↔(t.T3 room).2.1=false:=by
 induction t using m7 with
 | h t ih=>
 constructor
 ·intro h;rw[jQ0,uH,jR0]at h;have key:∀l:List Tm,(∀a∈l,(a.T3 room).2.1=false)->(Lq.nexts l room).2.1=false:=by
   intro l
   induction l with
   | nil=>intro _;rfl
   | cons a r l6=>
    intro hl;have:=hl a sS;rcases hq:a.T3 room with⟨u,v,w⟩;rw[hq]at this;simp only at this;subst this;simp only[Lq.nexts,hq];exact l6 fun x hx=>hl x (by simp[hx])
  have hk:=key t.B0 fun a ha=>(ih a ha).1 (h.2 a ha);rw[PH t room (by simpa using h.1)];rcases hq:Lq.nexts t.B0 room with⟨u,v,w⟩;rw[hq]at hk;simp only at hk;subst hk;rfl
 ·intro h;obtain⟨h1,h2⟩:=Tm.next_none h;rw[jQ0,uH,jR0];exact⟨by simp[h1],fun a ha=>(ih a ha).2 (h2 a ha)⟩
theorem oK0(b:Nat)(ys:List (List DV))(cs:List DV)(ok:Bool):dK b ys (.v (.soft cs ok)) = .v (.soft cs ok):=rfl
theorem oL0(b:Nat)(ys:List (List DV))(ok:Bool):dK b ys (.v (.flag ok)) = .v (.flag ok):=rfl
abbrev YJ:DV:=.K0 (.pointer none)
def Tm.stepD(t:Tm)(room:Int):DV:=match t.T3 room with
 | (x,true,true)=>.H1 [x.nd,j0 0]
 | (_,true,false)=>.H1 [YJ,j0 4]
 | (_,false,_)=>.H1 [YJ,j0 0]
theorem RY{t:Tm}{room:Int}(h:(t.T3 room).2.1=false):t.stepD room = .H1 [YJ,j0 0]:=by
 rcases hq:t.T3 room with⟨u,v,w⟩;rw[hq]at h;simp only at h;subst h;simp[Tm.stepD,hq]
theorem rE0(t:Tm)(ht:t.shape=true)(hc:t.A0<=1000000)(hr:t.rootN=true):-1000000<=t.growthN/\t.growthN<=4000000000000:=by
 have hrc:=UY t ht hr;refine⟨oO,?_⟩;rcases VS ht hr with⟨x,y,b,h,hx,hb⟩|⟨x,y,z,h,hx,hz,Q7⟩|⟨x,y,z,n,h,hx,hz,Q7⟩|⟨x,y,z,h,hx,hz,Q7⟩|⟨x,y,z,n,r,h,hx,hz,Q7⟩|⟨x,p,q,h,hx,hz⟩|⟨x,p,q,h,hx,hz⟩
 ·have c1:=xG hx;have c2:=xH hb;have h2:=FR b 0;have h3:(b.R2 0:Int) * ((y.A0:Int) - 1)<=1000000 * 1000000:=by
   have:(1:Int)<=y.A0:=by have:=V6 y;omega
   exact a30 oO oO oO oO
  simp[kN,h,X3,hx,hb];omega
 ·have c1:=Bz hx;simp[kN,h,X3,hx,hz];omega
 ·have c1:=Bz hx;have c2:=xH Q7;simp[kN,h,X3,hx,hz,Q7];omega
 ·have c1:=Bz hx;simp[kN,h,X3,hx,hz];omega
 ·have c1:=Bz hx;have c2:=xG Q7;simp[kN,h,X3,hx,hz,Q7];omega
 all_goals
  have c1:=xH hx;have c2:=xG hz;simp[kN,h,X3,hx,hz];omega
theorem v70(t:Tm)(room:Int)(ht:Gd t)(hc:t.A0<=1000000)(ab0:room<=1000000):cU 376 [t.nd,j0 room] (t.stepD room):=by
 induction t using m7 with
 | h t ih=>
 have N4:=V6 t;have hlen:=Lt t.B0;have AL:=((oX t _).1 ht.2).1;refine H2 Tryz.func376 ?_;intro X hP G0 hf X0 hn hR K1 G1;refine N2 ?_;refine Q1 ?_;refine O9 [14] fun K hK=>?_;simp[go_sem,hP,G0,hn];refine dL0 (by simp[go_sem];rfl) (by simp[go_sem,hP]) nN rfl ?_;intro v hv;simp[go_sem];refine K4 ?_;clear hK K;cases v;rotate_left
 ·have hN:=RY ((RX t room).1 (by simpa using hv));exact O1 @hN H0
 clear hv;refine N1 H0 (M0 (d20 t ht.1)) ?_;by_cases dW:t.rootN=true
 ·have hN:=Tm.nextN_root t room dW;refine U1 @dW ?_;have HB:=rE0 t ht.1 hc dW;refine N1 H0 (M0 (rD0 t ht hc dW)) ?_;by_cases hg:room<t.growthN
  ·rw[if_pos hg]at hN;refine U1 @hg ?_;refine N3 ?_;simp[go_sem,hP,G0,hn,Tm.stepD,hN] <;> (try omega)
  ·rw[if_neg hg]at hN;refine N1 @hg (M0 (b20 t ht hc dW)) ?_;refine N3 ?_;simp[go_sem,hP,G0,hn,Tm.stepD,hN] <;> (try omega)
 have hr:t.rootN=false:=by simpa using dW
 refine U1 @hr ?_;refine Q1 ?_;refine G2 [] tT (dB (t.B0) (fun done=>(Lq.nexts done room).2.1=false) (fun done rest=>[sV 0 t.nd,sV 1 (j0 room),sV 31 (.sl (t.B0.map Tm.nE)),sV 32 (j0 t.B0.length),sV 33 (j0 done.length)]) (rfl) ?_ ?_)
 ·intro done x rest hL B3 hI Z1;have I1:=E5 hL;have U2:=uE B3;have gJ:=L9 U2;have w:=ih x U2 (ht.arg x U2) oO;refine U1 @B3 ?_;rcases Aw:x.T3 room with⟨y,_|_,f⟩
  ·rw[RY (by rw[Aw])]at w;refine N1 H0 (M0 w) ?_;refine W3 (wr []) tT tT (Z1 (Tm.nexts_none (by rw[Aw]) done hI))
  cases f
  ·rw[Tm.stepD,Aw]at w;have hN:t.T3 room=(U0 t.o0 t.O0 t.I0 (done++y::rest),true,false):=by rw[PH t room hr,hL,jq0 Aw rest done hI]
   refine V3 H0 (M0 w) ?_;refine N3 ?_;simp[go_sem,hP,G0,hn,Tm.stepD,hN] <;> (try omega)
  rw[Tm.stepD,Aw]at w;refine N1 H0 (M0 w) ?_;refine K2 ?_;refine Fn0 ?_;refine K2 ?_;refine Fm0 ?_;refine Q1 ?_;refine O9 [53] fun K hK=>?_;simp[go_sem,hP,G0,hn];refine cg0 (E:=1) (ys:=t.B0.map Tm.nE) sG sG (by simp[go_sem,hP];rfl) dD (by simp[go_sem,hP]) nN (by simp[Tm.nE]) (by simp;omega) (by simp[M5];omega) (by rfl) ?_;intro b cap bL M7 hw0;have BS:(C4 (t.B0.map Tm.nE)).length=t.B0.length * 1:=by rw[sK (E:=1) (by simp[Tm.nE])];simp
  simp[go_sem,hP,G0,hn];refine K4 ?_;clear hK K;have Tp:t.B0.length<=M5:=by simp[M5];omega
  have cV:done.length<t.B0.length:=I1;refine U6 (j4 @BS @cV @Tp @I1) fun K hK=>?_;refine K4 ?_;clear hK K;have BY:=Xr (ys:=t.B0.map Tm.nE) (E:=1) (by simp[Tm.nE]) (i:=done.length) (by simpa using I1) (z:=y.nE) rfl;rw[show y.nE.map SV.v=[SV.v (.soft y.nc y.nf)] from rfl,Tm.nc_eq]at BY;obtain⟨L',DJ⟩:∃L',L' = done++y::rest:=⟨_,rfl⟩;have KF:(t.B0.map Tm.nE).set done.length y.nE=L'.map Tm.nE:=by rw[DJ,hL];simp
  rw[Nat.mul_one]at BY;rw[BY,KF];have kD:t.B0.length=(L'.map Tm.nE).length:=by rw[DJ,hL];simp
  have ag0:t.B0.length<=cap:=by simpa using bL
  have hN:t.T3 room=(U0 t.o0 t.O0 t.I0 L',true,true):=by rw[PH t room hr,hL,jq0 Aw rest done hI,DJ]
  have w2:=Mt t L' oO (by
   have h1:=c50 x (ht.arg x U2).1 Aw;have h2:=congrArg D3.Z0 hL;rw[gR]at h2;rw[DJ,gR];simp only[D3.Z0]at h2 ⊢
   omega)
  refine WI (b:=b) (E:=1) (ys:=L'.map Tm.nE) sG (fun e he=>?_) (by rw[<- kD];exact Tp) hw0 ?_;· obtain⟨q,_,rfl⟩:=F9.1 he;rfl
  simp[go_sem,xV,EI,vE,VG,VH,VI,Vs,WK,Wk,Wl,eH0,Wm,WL,Wn,Wo,oK0,oL0,WM kD ag0];refine N1 H0 (M0 w2) ?_;refine N3 ?_;simp[go_sem,hP,G0,hn,Tm.stepD,hN] <;> (try omega)
 ·intro hI;have hN:(t.T3 room).2.1=false:=by
   rw[PH t room hr];rcases hq:Lq.nexts t.B0 room with⟨u,v,w⟩;rw[hq]at hI;simp only at hI;subst hI;rfl
  have Cb:=(RX t room).2 hN;refine T7 ?_;refine Q1 ?_;refine O9 [9999] fun K hK=>?_;simp[go_sem,hP,G0,hn,Cb];refine cU0 (v:=true) sG sG (by simp[go_sem,hP]) rfl ?_;simp[go_sem];refine K4 ?_;clear hK K;exact O1 (RY hN) H0
theorem oM0(t:Tm)(ht:t.shape=true):cU 349 [t.nd] (O2 t.nf):=by
 induction t using m7 with
 | h t ih=>
 have hlen:t.B0.length<=3:=by have:=(j9 ht).1;have:C5 t.o0<=3:=(by unfold C5;repeat' split <;> omega);omega
 have e:=jQ0 t;have hi:=jR0 t.B0;refine H2 Tryz.func349 ?_;intro X hP G0 hf X0 hn hR K1 G1;refine N2 ?_;refine Q1 ?_;refine O9 [8] fun K hK=>?_;simp[go_sem,hP,G0,hn];refine dL0 (by simp[go_sem];rfl) (by simp[go_sem,hP]) nN rfl ?_;intro v hv;simp[go_sem];refine K4 ?_;clear hK K;cases v;rotate_left
 ·have hN:t.nf=true:=by simpa using hv
  exact O1 @hN H0
 clear hv;refine N1 H0 (M0 (d20 t ht)) ?_;by_cases dW:t.rootN=true;· exact O1 (j2 @dW @e) H0
 have hr:t.rootN=false:=by simpa using dW
 refine U1 @hr ?_;refine Q1 ?_;refine G2 [] tT (dB (t.B0) (fun done=>∀a∈done,a.nf=true) (fun done rest=>[sV 0 t.nd,sV 14 (.sl (t.B0.map Tm.nE)),sV 15 (j0 t.B0.length),sV 16 (j0 done.length)]) sS ?_ ?_)
 ·intro done x rest hL B3 hI Z1;have I1:=E5 hL;have U2:=uE B3;have w:=ih x U2 ((j9 ht).2.2.2.2 x U2);refine N1 @B3 (M0 w) ?_;by_cases hx:x.nf=true
  ·have pW:∀a∈done++[x],a.nf=true:=by
    intro a ha;rcases t6.1 ha with h|h;· exact hI a h
    ·rw[bM.1 h];exact hx
   refine W3 (wr []) tT @hx (Z1 pW)
  ·have hN:t.nf=false:=by
    rw[e];refine Bool.eq_false_iff.2 fun h=>hx ?_;rw[uH,hi]at h;exact h.2 x U2
   exact O1 (j2 @hx @hN) H0
 ·intro hI;have hN:t.nf=true:=by rw[e,hr,Bool.not_false,Bool.true_and];exact hi.2 hI
  refine T7 ?_;refine Q1 ?_;refine O9 [9999] fun K hK=>?_;simp[go_sem,hP,G0,hn,hN];refine cU0 (v:=true) sG sG (by simp[go_sem,hP]) rfl ?_;simp[go_sem];refine K4 ?_;clear hK K;exact O1 @hN H0
theorem WT(t:Tm):cU 377 [t.nd] (j0 t.A0):=by
 exact B2 Tryz.func377 H0 H0
theorem v80(t:Tm):cU 348 [t.nd] t.dv:=by
 induction t using m7 with
 | h t ih=>
 refine H2 Tryz.func348 ?_;intro X hP G0 hf X0 hn hR K1 G1;have hlen:t.B0.length<=2147483648:=by
  have h:=G1 t.nd sS;simp[J6,J6.fits,Tm.nc_eq,M5]at h;omega
 refine V3 H0 (M0 (IN t.I0)) ?_;refine Q1 ?_;refine G2 [(1003,0)] tT (y7 (t.B0) (fun done rest=>[sV 25 (j0 done.length),sV 24 (j0 t.B0.length),sV 23 (.sl (t.B0.map Tm.nE)),sP 3,sL 3 (t.ow 1003 (done.map E3)),(.tok 1003,.tk 5 done.length),sP 2,sL 2 (zR 0)]) ?_ ?_)
 ·intro done x rest hL hg Z1;have I1:=E5 hL;refine N1 @hg (M0 (ih x (uE hg))) ?_;refine W3 (wr [(1003,34)]) tT tT Z1
 ·exact P4 H0 H0
def Tm.nxR(t:Tm)(n:Int):DV × List DV:=match t.T3 (4096 - t.A0) with
 | (x,true,true)=>(.H1 [O2 true,j0 0],[x.nd,j0 (n+1)])
 | (_,true,false)=>(.H1 [O2 false,j0 4],[t.nd,j0 n])
 | (_,false,_)=>(.H1 [O2 false,j0 0],[t.nd,j0 n])
theorem v90(t:Tm)(n:Int)(ht:Gd t)(hc:t.A0<=1000000)(dG:0<=n/\n<=1000000)(b:Nat):cT 347 [M3 b] [(b,[t.nd,j0 n])] (t.nxR n).1 [(b,(t.nxR n).2)]:=by
 have w:=v70 t (4096 - t.A0) ht hc oO;rcases hq:t.T3 (4096 - t.A0) with⟨x,_|_,f⟩
 ·rw[RY (by rw[hq])]at w;simp only[Tm.nxR,hq];refine A3 jS0 fun X zX=>?_;refine N2 ?_;refine N1 H0 (P3 (WT t) w) ?_;refine N2 ?_;exact s7 [(b,[t.nd,j0 n])] tT
 cases f
 ·rw[Tm.stepD,hq]at w;simp only[Tm.nxR,hq];refine A3 jS0 fun X zX=>?_;refine N2 ?_;refine N1 H0 (P3 (WT t) w) ?_;refine N2 ?_;exact s7 [(b,[t.nd,j0 n])] tT
 ·rw[Tm.stepD,hq]at w;simp only[Tm.nxR,hq];refine A3 jS0 fun X zX=>?_;refine N2 ?_;refine N1 H0 (P3 (WT t) w) ?_;refine N2 ?_;exact s7 [(b,[x.nd,j0 (n+1)])] tT
theorem di0(K3:D6 gl 2=some A7)(t:Tm)(n:Nat)(ht:t.tys)(hm:t.leastN 536870912=true)(dG:n<=65536)(O7:t.runOK n=true):cU 288 [t.dv,j0 n] (.H1 [(aV n t 0).1.dv,j0 (aV n t 0).2.1,j0 (aV n t 0).2.2]):=by
 have gd:∀{u:Tm} {k:Nat},u.runOK k=true->Gd u/\u.A0<=4096:=fun {u k} h=>by
  have h1:=aX0 h;have h2:=(lO u).1 h1.1;exact⟨⟨h2.1,Lm oO (sF u _ h2.1 h1.2)⟩,h2.2⟩
 have hk:=(aX0 O7).1;have hg:=gd O7;refine A3 Tryz.func288 fun X zX=>?_;refine E4 (bx [1000002]) tT ?_;refine V3 @hk (M0 (ID K3 t ht oO)) ?_;have e1:¬(n:Int)<0:=oO;have e2:¬65536<(n:Int):=oO;refine N1 (j2 @e1 @e2) (P3 (Wp t hg.1 oO hm) (zs0 t hg.1.2 oO)) ?_;refine fG 32 (by simp[go_sem];rfl) ?_;intro b hb;simp[go_sem]at hb ⊢;refine Q1 ?_;refine G2 [] tT (mQ (fun x:Tm × Nat=>x.2<=n/\aV x.2 x.1 ((n:Int) - x.2)=aV n t 0/\x.1.runOK x.2=true) (fun x:Tm × Nat=>[sV 1 (j0 n),sV 8 (M3 b),sB  b [.v x.1.nd,.v (j0 ((n:Int) - x.2))],sP 4,sL 4 (zR 0)]) (fun x:Tm × Nat=>x.2) (t,n) (⟨I5 _,sS,O7⟩) ?_);rintro⟨u,k⟩ ⟨Dx,hl,hu⟩ T8;simp only at Dx hl hu ⊢;obtain⟨ug,uc⟩:=gd hu;have wt:=v80 u;cases k with
 | zero=>
  refine N1 H0 (M0 (oM0 u ug.1)) ?_;by_cases Cb:u.nf=true
  ·rw[jr0 ((RX u _).1 Cb)]at hl;exact O1 (j2 @Cb (hl).symm) (M0 wt)
  ·have aG:(u.T3 (4096 - u.A0)).2.1=true:=by
    rcases hq:(u.T3 (4096 - u.A0)).2.1;· exact absurd ((RX u _).2 hq) Cb
    ·rfl
   rw[Tm.loopN_zero aG]at hl;exact P4 (j3 @Cb (hl).symm @M6.eq_1) H0
 | succ k=>
  have w:=v90 u ((n:Int) - ((k+1:Nat):Int)) ug oO oO b;have I1:(n:Int) - ((k+1:Nat):Int)<n:=oO;rcases hq:u.T3 (4096 - u.A0) with⟨x,_|_,f⟩
  ·simp only[Tm.nxR,hq]at w;rw[jr0 (by rw[hq])]at hl;exact O1 (j2 @I1 (hl).symm) (P3 w wt)
  cases f
  ·simp only[Tm.nxR,hq]at w;rw[Tm.loopN_big (by rw[hq]) (by rw[hq])]at hl;exact P4 (j3 @I1 (hl).symm @M6.eq_1) (M0 w)
  ·simp only[Tm.nxR,hq]at w;rw[Tm.loopN_on (by rw[hq]) (by rw[hq]),hq]at hl;refine N1 @I1 (M0 w) ?_;refine W3 (wr []) tT @I1 (T8 (x,k) ⟨oO,by rw[<- hl];congr 1;simp only;omega,Tm.runOK_next hu hq⟩ (by simp only;omega))
theorem cv0(a b:Tm):cU 372 [a.dv,b.dv] (O2 (a.same b)):=by
 exact B2 Tryz.func372 H0 (M0 (mn0 a b))
theorem fu0{l:List Int}:∀(n p:Nat),∃xs:List Nat,(tA l p n).1=xs.map gS/\xs.length=n/\∀x∈xs,x<=3
 | 0,p=>⟨[],rfl,rfl,fun x h=>by cases h⟩
 | n+1,p=>by
  obtain⟨xs,h1,h2,h3⟩:=fu0 (l:=l) n (Y2 l p 4).2;have hb:=lA (l:=l) (p:=p) (n:=4) dD;refine⟨(Y2 l p 4).1.toNat::xs,?_,by simp[h2],fun x hx=>?_⟩
  ·simp only[tA,G4,h1]
   congr 1
   show _=((Y2 l p 4).1.toNat:Int);omega
  ·rcases u5.1 hx with rfl|hx;· omega
   ·exact h3 x hx
theorem Xz(l:List Int):∀(a:T) (p:Nat),a.plain->∃x:a.V,(oC l a.ty p).1=bB a x/\(oH a x).le 5
 | .C0,p,_=>by
  have hb:=lA (l:=l) (p:=p) (n:=5) dD;refine⟨((Y2 l p 5).1.toNat:Nat),?_,?_⟩
  ·rw[Jk,if_pos (show T.C0.ty.o0=1 from rfl)];show dH 1 _ [] []=dH 1 ((Y2 l p 5).1.toNat:Int) [] [];rw[show ((Y2 l p 5).1.toNat:Int)=(Y2 l p 5).1 from oO]
  ·show (((Y2 l p 5).1.toNat:Nat):Int)<=5;omega
 | .list,p,_=>by
  have hb:=lA (l:=l) (p:=p) (n:=4) dD;obtain⟨xs,h1,h2,h3⟩:=fu0 (l:=l) (Y2 l p 4).1.toNat (Y2 l p 4).2;refine⟨xs,?_,?_⟩
  ·rw[Jk,if_neg (show ¬T.list.ty.o0=1 from dD),if_pos (show T.list.ty.o0=2 from rfl),h1];rfl
  ·show (xs.length:Int)<=5/\∀x∈xs,(x:Int)<=5;exact⟨oO,fun x hx=>by have:=h3 x hx;omega⟩
 | .Z4,p,_=>⟨(),by rw[Jk];rfl,trivial⟩
 | .pair a b,p,h=>by
  obtain⟨x,h1,h2⟩:=Xz l a p h.1;obtain⟨y,h3,h4⟩:=Xz l b (oC l a.ty p).2 h.2;refine⟨(x,y),?_,⟨h2,h4⟩⟩;rw[Jk,if_neg (show ¬(PE a b).ty.o0=1 by simp[t7,Ty.o0]),if_neg (show ¬(PE a b).ty.o0=2 by simp[t7,Ty.o0]),if_pos (show (PE a b).ty.o0=3 from rfl)];show dH 3 0 [] [_,_]=dH 3 0 [] [bB a x,bB b y];rw[<- h1,<- h3]
 | .fn _ _,_,h=>h.elim
theorem eF(s:Ty)(b:Tm):cU 29 [s.dv,b.dv] (U0 2 0 s [b]).dv:=by
 exact G7 Tryz.func29 H0 H0
theorem sM:cU 32 [] (L0 1 []).dv:=by
 exact G7 Tryz.func32 H0 H0
theorem IQ:cU 8 [] (L0 1 []).dv:=by
 exact G7 Tryz.func8 H0 (M0 sM)
theorem d30(a b:Ty):cU 179 [a.dv,b.dv] (L0 3 [a,b]).dv:=by
 exact G7 Tryz.func179 H0 H0
theorem Mu(a b:Ty):cU 71 [a.dv,b.dv] (L0 4 [a,b]).dv:=by
 exact G7 Tryz.func71 H0 H0
theorem d40(k:Int)(l:List Tm):cU 30 [j0 k,.sl (l.map E3)] (U0 k 0 (L0 0 []) l).dv:=by
 exact G7 Tryz.func30 H0 H0
theorem WU(i:Int):cU 31 [j0 i] (U0 1 i (L0 0 []) []).dv:=by
 exact G7 Tryz.func31 H0 H0
end
section
section
variable{X:Ctx}{s s0:St}{k:List Item}
def tJ(d c:Nat)(o:Oper):Oper:=⟨some d,.pick (.const (.bool true)) (.tmp d) (.const (.int .i64 c)),o.type,o.pos,o.after,none⟩
abbrev HQ:=List (Nat × Nat × Nat)
def dO(Q:HQ):Nat->List Oper->List Oper
 | _,[]=>[]
 | i,o::l=>(match Q.lookup i with|some p=>tJ p.1 p.2 o|none=>o)::dO Q (i+1) l
theorem eN0(Q:HQ):∀(l:List Oper) (k i:Nat),(dO Q k l)[i]? = l[i]?.map fun o=>match Q.lookup (k+i) with|some p=>tJ p.1 p.2 o|none=>o
 | [],_,_=>by simp[dO]
 | o::l,k,0=>by simp[dO]
 | o::l,k,i+1=>by simp only[dO,List.getElem?_cons_succ];rw[eN0 Q l (k+1) i,show k+1+i=k+(i+1) from oO]
theorem eO0(Q:HQ):∀(l:List Oper) (k:Nat),(dO Q k l).length=l.length
 | [],_=>rfl
 | o::l,k=>by simp[dO,eO0 Q l (k+1)]
theorem wc0(Q:HQ)(i:Nat)(o:Oper):(match Q.lookup i with|some p=>tJ p.1 p.2 o|none=>o).after=o.after:=by split <;> rfl
theorem fv0(Q:HQ):∀(l:List Oper) (k:Nat),(∀T,vH (dO Q k l) T=vH l T)/\(∀n,zY n (dO Q k l)=zY n l)/\∀T ts,Ad T ts (dO Q k l)=Ad T ts l
 | [],_=>⟨fun _=>rfl,fun _=>rfl,fun _ _=>rfl⟩
 | o::l,k=>by
  obtain⟨h1,h2,h3⟩:=fv0 Q l (k+1);have e:=wc0 Q k o;refine⟨fun T=>?_,fun n=>?_,fun T ts=>?_⟩;· simp only[dO,vH,JI,e,h1]
  ·simp only[dO,zY,e,h2]
  ·cases ts with
   | nil=>rfl
   | cons t ts=>simp only[dO,Ad,JI,e,h3]
theorem eP0(d c:Nat)(o:Oper):ER (tJ d c o)=some (d,c):=by simp[ER,tJ]
theorem d50{T:List Nat}{ops:List Oper}{evs:List Ev}:∀{l:List Oper} {k:Nat},Nr T ops evs k l=true->∀(i:Nat) (o:Oper) (d c:Nat),l[i]? = some o->ER o=some (d,c)->Ke T (k+i) d c 0 ops evs=true
 | [],_,_,_,_,_,_,h,_=>by cases h
 | o::l,k,h,i,o',d,c,ho,hq=>by
  simp only[Nr,uH]at h;cases i with
  | zero=>simp at ho;subst ho;rw[hq]at h;exact h.1
  | succ i=>have:=d50 h.2 i o' d c (by simpa using ho) hq;rw[show k+(i+1)=k+1+i from oO];exact this
theorem Ws{T:List Nat}{q d c:Nat}:∀{os:List Oper} {xs:List Ev} {k:Nat},Ke T q d c k os xs=true->∀(j:Nat) (o:Oper) (x:Ev),os[j]? = some o->xs[j]? = some x ->
  (∀d' c',ER o=some (d',c')->(∀l∈lG x.e,l = .P0 d')/\(k+j<q->(T.getD q 0).testBit (k+j)=true)/\(q<k+j->(T.getD (k+j) 0).testBit q=true))/\(ER o=none->Kd T q d c (k+j) x=true)
 | [],_,_,_,_,_,_,h,_=>by cases h
 | _::_,[],_,_,_,_,_,_,h=>by cases h
 | o::os,x::xs,k,h,j,o',x',ho,hx=>by
  simp only[Ke,uH]at h;cases j with
  | zero=>
   simp at ho hx;subst ho hx;refine⟨fun d' c' hy=>?_,fun hn=>?_⟩
   ·rw[hy]at h;simp only[uH,yR,beq_iff_eq,Ci,decide_eq_true_eq]at h;exact⟨h.1.1,fun I1=>by rcases h.1.2 with (h|h)|h <;> first|omega|exact h.2,fun I1=>by rcases h.1.2 with (h|h)|h <;> first|omega|exact h.2⟩
   ·rw[hn]at h;exact h.1
  | succ j=>have:=Ws h.2 j o' x' (by simpa using ho) (by simpa using hx);rw[show k+(j+1)=k+1+j from oO];exact this
def cA(ds:List Nat):Loc->Bool
 | .heap _=>false
 | .P0 n=>!ds.contains n
 | _=>true
def iW(d:List Nat)(s:St):St:=s.filter fun p=>cA d p.1
theorem Bs(d:List Nat)(s:St)(l:Loc):get (iW d s) l=if cA d l=true then get s l else none:=by
 induction s with
 | nil=>simp[iW,get]
 | cons p r ih=>
  obtain⟨m,v⟩:=p;unfold iW at ih ⊢;by_cases hv:cA d m=true
  ·rw[List.filter_cons_of_pos (by simpa using hv)];simp only[get];by_cases h:m=l;· subst h;simp[hv]
   ·simp only[if_neg h,ih]
  ·rw[List.filter_cons_of_neg (by simpa using hv),ih];simp only[get];by_cases h:m=l;· subst h;simp[hv]
   ·simp only[if_neg h]
theorem oN0{s t:St}(h1:aC n s=true)(h2:aC n t=true):aC n (s++t)=true:=by
 induction s with
 | nil=>exact h2
 | cons p r ih=>
  simp only[aC,R6,A8,a9,uH]at h1 ih ⊢;have:=ih ⟨h1.1.2,h1.2.2⟩;exact⟨⟨h1.1.1,this.1⟩,h1.2.1,this.2⟩
theorem oO0{d:List Nat}{s:St}(h:aC n s=true):aC n (iW d s)=true:=by
 induction s with
 | nil=>exact h
 | cons p r ih=>
  simp only[aC,A8,a9,uH]at h;have hr:=ih (by simp only[aC,uH];exact⟨h.1.2,h.2.2⟩);unfold iW at hr ⊢;by_cases hv:cA d p.1=true
  ·rw[List.filter_cons_of_pos (by simpa using hv)];simp only[aC,A8,a9,uH]at hr ⊢;exact⟨⟨h.1.1,hr.1⟩,h.2.1,hr.2⟩
  ·rw[List.filter_cons_of_neg (by simpa using hv)];exact hr
def YK(Q:HQ)(ops:List Oper):Bool:=
 ops.all (fun o=>o.guard.isNone&&(ER o).isNone)&&Q.all (fun p=>decide (p.1<ops.length)&&(!p.2.2.testBit 0||decide (Q.length=1)))&&decide (0<Q.length)&&(oT Q.length).all fun i=>(oT i).all fun j=>decide ((Q.getD j (0,0,0)).1<(Q.getD i (0,0,0)).1)
theorem fw0{Q:HQ}(hinc:∀(i j:Nat) (p q:Nat × Nat × Nat),Q[i]? = some p->Q[j]? = some q->j<i->q.1<p.1){m:Nat}{p:Nat × Nat × Nat}(h:Q[m]? = some p):Q.lookup p.1=some p.2:=by
 induction Q generalizing m with
 | nil=>cases h
 | cons x r ih=>
  cases m with
  | zero=>simp at h;subst h;simp[jT0]
  | succ m=>
   have h':r[m]? = some p:=by simpa using h
   have I1:x.1<p.1:=hinc (m+1) 0 p x h rfl oO;have X1:(p.1==x.1)=false:=by simp;omega
   rw[jT0,X1];exact ih (fun i j p q hi hj gP=>hinc (i+1) (j+1) p q (by simpa using hi) (by simpa using hj) oO) h'
theorem Mv{i:Nat}{c:Nat × Nat}:∀{Q:HQ},Q.lookup i=some c->∃m:Nat,Q[m]? = some (i,c)
 | [],h=>by cases h
 | (a,b)::r,h=>by
  rw[jT0]at h;split at h
  ·rename_i e;have e:i=a:=by simpa using e
   cases h;exact⟨0,by rw[e];rfl⟩
  ·obtain⟨m,hm⟩:=Mv h;exact⟨m+1,by simpa using hm⟩
theorem ge0{id:Nat}{ops:Array Oper}{sv h0:St}(hm:X.P.follows .mixedOrders=true)(Q:HQ)(rd:Nat->St)(Φ:Nat->St->Prop)(vd:Option LV)(h00:Φ 0 h0)(hle:iZ (iW (Q.map (·.2.1)) sv++h0) s)(kG:YK Q ops.toList=true)
  (hcov:∀(m q d c:Nat),Q[m]? = some (q,d,c)->∀l v,get (rd m) l=some v->∃n,l = .P0 n/\cA (Q.map (·.2.1)) l=true/\c.testBit (n+1)=true)
  (hΦ:∀m h,Φ m h->(∀l v,get h l=some v->cA (Q.map (·.2.1)) l=false)/\(∀n,aC n h=true)/\(0<m->get h (.P0 (Q.getD 0 (0,0,0)).2.1)=vd))
  (HS:∀(m q d c:Nat) (o:Oper),Q[m]? = some (q,d,c)->ops[q]? = some o->∀(s1 h:St),(∀l,cA (Q.map (·.2.1)) l=false->get s1 l=none)->iZ (rd m) s1->Φ m h->∀(G:Gh) (a:Act) (w:World),Rel X G (h++s1) a w ->
   ∀next N,(∀h' G' a' w',Φ (m+1) h'->Rel X G' (h'++s1) a' w'->next a' w')->o.wpIn X.F 0 X.P a w next N) (L1:List Nat)
  (hVC:∀K:St->Prop,(∀s',(∀m,m<Q.length->iZ (rd m) s')->get s' (.P0 (Q.getD 0 (0,0,0)).2.1)=vd->(∀h',Φ Q.length h'->W X k (iW (Q.map (·.2.1)) s'++h'))->K s')->pQ X L1 (dO Q 0 ops.toList).toArray sv K (dO Q 0 ops.toList) sv []) :
  W X (.code (.region id ops true)::k) s:=by
 intro G a w b cs hf hk hr R;obtain⟨d0,iF⟩:∃d0,(Q.getD 0 (0,0,0)).2.1=d0:=⟨_,rfl⟩;rw[iF]at hΦ hVC;have hD0:∀q d c,Q[0]? = some (q,d,c)->d=d0:=fun q d c h=>by rw[<- iF,jO,h];rfl
 generalize c8:Q.map (·.2.1)=ds at *
 have hsw:∀(m:Nat) (h t:St),Φ m h->∀l,get (iW ds t++h) l=get (h++iW ds t) l:=fun m h t S4 l=>by
  rw[eE,eE,Bs];by_cases hv:cA ds l=true
  ·cases hq:get h l with
   | none=>rw[if_pos hv];cases get t l <;> rfl
   | some u=>rw[(hΦ m h S4).1 l u hq]at hv;cases hv
  ·rw[if_neg hv];cases get h l <;> rfl
 have iC:∀(m q d c:Nat),Q[m]? = some (q,d,c)->cA ds (.P0 d)=false:=fun m q d c h=>by
  have:d∈ds:=by rw[<- c8];exact F9.2 ⟨_,uE h,rfl⟩
  simpa [cA] using this
 obtain⟨evs,h1,h2,h3,h4,h5⟩:=iN (hVC (fun s'=>(∀m,m<Q.length->iZ (rd m) s')/\get s' (.P0 d0)=vd/\∀h',Φ Q.length h'->W X k (iW ds s'++h')) fun _ a b c=>⟨a,b,c⟩);simp only[List.reverse_nil,aT]at h2;have hlen:evs.length=ops.size:=by have:=Ql h1;rw[eO0]at this;simpa using this
 obtain⟨t1,t2,t3⟩:=fv0 Q ops.toList 0;have n8:GZ ops.toList sv evs=true:=by have:=Xo h2;simpa only[GZ,t1,t2,t3] using this
 have hb:Nr (vH ops.toList []) (dO Q 0 ops.toList) evs 0 (dO Q 0 ops.toList)=true:=by
  unfold De at h2;rw[uH]at h2
  simpa only[t1] using h2.2
 generalize hT:vH ops.toList []=T at hb;simp only[YK,uH,yR,decide_eq_true_eq,Ci,Ig,Option.isNone_iff_eq_none,DP]at kG;obtain⟨⟨⟨g1,g2⟩,g3⟩,g4⟩:=kG
 have hinc:∀(i j:Nat) (p q:Nat × Nat × Nat),Q[i]? = some p->Q[j]? = some q->j<i->q.1<p.1:=fun i j p q hi hj gP=>by
  have:=g4 i (uA hi).1 j gP;rw[jO,jO,hi,hj]at this;exact this
 have hat:∀(i:Nat) (o:Oper),ops[i]? = some o->(dO Q 0 ops.toList)[i]? = some (match Q.lookup i with|some p=>tJ p.1 p.2 o|none=>o):=fun i o ho=>by
  rw[eN0,G8,DN,ho];rfl
 have P6:∀(m q d c:Nat),Q[m]? = some (q,d,c)->q<ops.size:=fun m q d c hm=>by have:=(g2 _ (uE hm)).1;simpa using this
 have hA:∀(m q d c:Nat),Q[m]? = some (q,d,c)->Ke T q d c 0 (dO Q 0 ops.toList) evs=true:=fun m q d c hm=>by
  have hq:=hat q _ (uG (P6 m q d c hm));rw[fw0 hinc hm]at hq;have:=d50 hb q _ d c hq (eP0 d c _)
  rwa [G8]at this
 have hO:∀(i:Nat) (o:Oper) (x:Ev),ops[i]? = some o->evs[i]? = some x->Q.lookup i=none->∀(m q d c:Nat),Q[m]? = some (q,d,c)->Kd T q d c i x=true:=fun i o x ho hx hn m q d c hm=>by
  have hi:=hat i o ho;rw[hn]at hi;have:=(Ws (hA m q d c hm) i o x hi hx).2 (g1 o (uE (by rw[DN];exact ho))).2
  rwa [G8]at this
 have hD:∀(i:Nat) (p:Nat × Nat) (o:Oper) (x:Ev),ops[i]? = some o->evs[i]? = some x->Q.lookup i=some p->(∀l∈lG x.e,l = .P0 p.1)/\∀(m q d c:Nat),Q[m]? = some (q,d,c)->(i<q->(T.getD q 0).testBit i=true)/\(q<i->(T.getD i 0).testBit q=true):=fun i p o x ho hx hn=>by
  have hi:=hat i o ho;rw[hn]at hi;have hs:=fun m q d c hm=>(Ws (hA m q d c hm) i _ x hi hx).1 _ _ (eP0 p.1 p.2 o);obtain⟨m,hm⟩:=Mv hn;refine⟨(hs m _ _ _ hm).1,fun m q d c hm=>?_⟩;have:=(hs m q d c hm).2
  rwa [G8]at this
 have key:=ex0 (X:=X) (s0:=sv) (N:=Dj X fun s'=>W X k s') (Rl:=fun L a w=>∃m h G,m<=Q.length/\(∀(j q d c:Nat),Q[j]? = some (q,d,c)->(L q=true↔j<m))/\Φ m h/\Rel X G (h++iW ds (aO L 0 evs sv)) a w) hlen n8 (fun L a w u4 ⟨m,h,G,hm,hL,S4,R⟩=>by
   have e:m=Q.length:=by
    rcases yP m Q.length with I1|Fv
    ·have:=(hL m _ _ _ (uB I1)).1 (u4 _ (P6 m _ _ _ (uB I1)));omega
    ·omega
   subst e;refine⟨rfl,G,_,h5 h S4,R.congr fun l=>?_⟩;rw[hsw _ _ _ S4,eE,eE,Bs,Bs,ey0 (by rw[hlen];exact u4)])
  (fun L i o ev ho bR e0 e1 e2 hf a1 a2 a w ⟨m,h,G,hm,hL,S4,R⟩ next hn=>by
   have hgu:=(g1 o (uE (by rw[DN];exact ho))).1;have hw:∀ys,fD o ys=true:=fun ys=>by simp[fD,hgu]
   rw[hw,if_pos rfl];rw[hT]at a1 a2;obtain⟨f1,f2,f3⟩:=hΦ m h S4;have tR:i<ops.size:=(Array.getElem?_eq_some_iff.1 ho).1;cases hq:Q.lookup i with
   | none=>
    have hi:=hat i o ho;rw[hq]at hi;have oN:=RP 0 h1 i o ev hi bR;obtain⟨p0,lL⟩:∃p,Q[0]? = some p:=⟨_,uB g3⟩;obtain⟨q0,d,c0⟩:=p0;have:=hD0 _ _ _ lL;subst this;have lJ:=hO i o ev ho bR hq;have hE:=lJ 0 q0 d c0 lL;simp only[Kd,uH,yR]at hE lJ;have xZ:∀(j q d c:Nat),Q[j]? = some (q,d,c)->i≠q:=fun j q d c hj e=>by subst e;rw[fw0 hinc hj]at hq;cases hq
    have A4:∀n,n∈ds->∃m q c,Q[m]? = some (q,n,c):=fun n hn=>by
     rw[<- c8]at hn;obtain⟨⟨q,d,c⟩,hp,rfl⟩:=F9.1 hn;obtain⟨m,hm⟩:=List.mem_iff_getElem?.1 hp;exact⟨m,q,c,hm⟩
    have hvis:∀l∈lG ev.e,cA ds l=true:=fun l hl=>by
     have:=hE.2 l hl;cases l with
     | heap b=>simp at this
     | P0 n=>
      simp only[cA,Ig];cases hc:ds.contains n with
      | false=>rfl
      | true=>
       obtain⟨m,q,c,hm⟩:=A4 n (by simpa using hc);have:=(lJ m q n c hm).2 _ hl;simp at this
     | loc n=>rfl
     | tok n=>rfl
    have b6:=oN (h++iW ds (aO L 0 evs sv)) (fun l v hl=>by
     obtain⟨Ar,hg⟩:=QM hl;rw[cO0 e0 e1 e2 l Ar]at hg;rw[eE,Bs];have hx:=hE.1 l Ar;by_cases hv:cA ds l=true
     ·have:get h l=none:=by
       cases pU:get h l with
       | none=>rfl
       | some u=>rw[f1 l u pU]at hv;cases hv
      rw[this,if_pos hv,hg];rfl
     ·cases l with
      | heap b=>simp at hx
      | P0 n=>
       obtain⟨m1,q1,c1,KN⟩:=A4 n (by simpa [cA] using hv);have hx:=(lJ m1 q1 n c1 KN).1 _ Ar;simp only[bne_self_eq_false,PD,uH]at hx;have h1Q:Q.length=1:=by
        have:=(g2 _ (uE KN)).2;rcases this with h|h;· rw[hx.1]at h;cases h
        ·exact h
       have hz:m1=0:=by have:=(uA KN).1;omega
       subst hz;rw[lL]at KN;cases KN;have gQ:=a1 q0 hx.2;rw[f3 ((hL 0 q0 d c0 lL).1 gQ),<- h4,<- hg];have:get (aO L 0 evs sv) (.P0 d)=get (xA sv evs) (.P0 d):=by
        rw[<- ML 0];refine Bq evs 0 _ _ rfl fun j x hj X1 hw2=>?_;simp only[G8]at X1;have nI:j<ops.size:=by rw[<- hlen];exact (uA hj).1
        cases hqj:Q.lookup j with
        | none=>
         have:=hO j _ x (uG nI) hj hqj 0 q0 d c0 lL;simp only[Kd,uH,yR]at this;have:=this.2 _ hw2;simp at this
        | some p=>
         obtain⟨m',rP⟩:=Mv hqj;have:m' = 0:=by have:=(uA rP).1;omega
         subst this;rw[lL]at rP;cases rP;exact X1 gQ
       rw[this];rw[if_neg hv];cases get (xA sv evs) (Loc.P0 d) <;> rfl
      | loc n=>simp[cA]at hv
      | tok n=>simp[cA]at hv) (fun n dG=>oN0 (f2 n) (oO0 (hf n dG))) G a w R next (Dj X fun s'=>W X k s') fun G' a' w' R'=>hn a' w' ⟨m,h,G',hm,fun j q d c hj=>by
       have:(q==i)=false:=by simpa using fun e=>xZ j q d c hj e.symm
       show ((q==i)||L q)=true↔_;rw[this,PD];exact hL j q d c hj,S4,R'.congr fun l=>by
       rw[eE,Eh,eE,Bs,Bs,WG bR e0 e1,Eh];by_cases hv:cA ds l=true
       ·have:get h l=none:=by
         cases pU:get h l with
         | none=>rfl
         | some u=>rw[f1 l u pU]at hv;cases hv
        rw[this,if_pos hv,if_pos hv];simp
       ·have hs:ev.e.says l=none:=by
         cases hsy:ev.e.says l with
         | none=>rfl
         | some u=>exact absurd (hvis l (by
           by_cases tQ:l∈lG ev.e;· exact tQ
           ·have h6:=dE0 tQ;rw[hsy]at h6;cases h6)) hv
        rw[hs,if_neg hv,if_neg hv];simp⟩
    rw[hw,if_pos rfl]at b6;exact b6
   | some dc=>
    obtain⟨d,c⟩:=dc;obtain⟨j,hj⟩:=Mv hq;have hmj:m=j:=by
     have h7:¬j<m:=fun h=>by have:=(hL j i d c hj).2 h;rw[e0]at this;cases this
     rcases Nat.eq_zero_or_pos j with h8|h8;· omega
     ·have Hm:=(uA hj).1;obtain⟨p,hp⟩:∃p,Q[j - 1]? = some p:=⟨_,uB oO⟩;obtain⟨q',d',c'⟩:=p;have h9:=hinc j (j - 1) _ _ hj hp oO;have:=(hL (j - 1) q' d' c' hp).1 (a1 q' (((hD i _ o ev ho bR hq).2 _ _ _ _ hp).2 h9));omega
    subst hmj;refine HS m i d c o hj ho (iW ds (aO L 0 evs sv)) h (fun l hl=>by rw[Bs,if_neg (by rw[hl];decide)]) (fun l v hl=>?_) S4 G a w R next _ fun h' G' a' w' hφ' R'=>hn a' w' ⟨m+1,h',G',(uA hj).1,fun j' q d' c' jC=>?_,hφ',R'.congr fun l=>?_⟩
    ·obtain⟨n,rfl,A4,nH⟩:=hcov m i d c hj l v hl;rw[Bs,if_pos A4,<- h3 m (uA hj).1 _ _ hl,<- ML 0];refine Bq evs 0 _ _ rfl fun j' x jC X1 hw2=>?_;simp only[G8]at X1;have nI:j'<ops.size:=by rw[<- hlen];exact (uA jC).1
     cases hqj:Q.lookup j' with
     | none=>
      have:=hO j' _ x (uG nI) jC hqj m i d c hj;simp only[Kd,uH,yR]at this;have:=this.2 _ hw2;simp only[nH,Bool.not_true,PD,uH]at this;exact X1 (a1 j' this.2)
     | some p=>
      have:=(hD j' p _ x (uG nI) jC hqj).1 _ hw2;cases this;obtain⟨m2,Fc⟩:=Mv hqj;rw[iC m2 j' p.1 p.2 Fc]at A4;cases A4
    ·by_cases e:q=i
     ·subst e;have:j' = m:=by
       rcases Nat.lt_trichotomy j' m with h|h|h;· have:=hinc m j' _ _ hj jC h;simp at this
       ·exact h
       ·have:=hinc j' m _ _ jC hj h;simp at this
      subst this;simp
     ·have:(q==i)=false:=by simpa using e
      show ((q==i)||L q)=true↔_;rw[this,PD,hL j' q d' c' jC];have X1:j'≠m:=fun e2=>by subst e2;rw[hj]at jC;cases jC;exact e rfl
      omega
    ·rw[eE,eE,Bs,Bs,WG bR e0 e1];by_cases hv:cA ds l=true;· rw[if_pos hv,if_pos hv,Qh fun hl=>by rw[(hD i _ o ev ho bR hq).1 l hl,iC m i d c hj]at hv;cases hv]
     ·rw[if_neg hv,if_neg hv])
 have OL:=key ops.size (Array.replicate ops.size false) a { w with drawn:=w.drawn+1 } sS (fun j o hL=>by simp[L7,Ij]at hL;split at hL <;> simp at hL) (cH (List.length_filter_le _ _) sS)
  ⟨0,h0,G,aH _,fun j q d c _=>by simp only[L7,KZ,Ij,aU0,iff_false];split <;> simp,h00,by
   rw[Ji _ _ _ (fun j _=>by simp only[L7,KZ,Ij];split <;> rfl)];exact ((R.weaken hle).congr fun l=>(hsw 0 h0 sv h00 l).symm).drawn _⟩
 obtain⟨e',a',w',⟨rfl,G',s',hK,R'⟩,Hw⟩:=wpIn_region_any (F:=X.F) (n:=0) hm OL b k cs hr tT (SA _);obtain⟨nG,fr,q1,q2⟩:=hK G' a' w' b cs hf hk hr R';exact⟨nG,fr,q1,Steps.trans (StepsIn.steps Hw) q2⟩
theorem Vf(n:Nat)(φ:G3):aC n (U3 φ)=true:=by simp[aC,UU,UV]
theorem GJ{id:Nat}{ops:Array Oper}{sv:St}(hm:X.P.follows .mixedOrders=true){P:Program}{gl:X8}(hP:X.P=P)(G0:X.gl=gl)(q d c:Nat)(rds:St){f:FuncId}{args:Array Operand}{X5:Array TypeId}{ty:TypeId}{pos:String}{af:Array Edge}{ds:List DV}{φ:G3}{r:DV}{E:G3->Prop}
  (b6:ops[q]? = some ⟨some d,.call { callee:=.value (.func f),args:=args,argTypes:=X5 },ty,pos,af,none⟩) (hc:lF P gl f ds φ fun x ψ=>x=r/\E ψ) (V2:aZ X (get rds) args.toList=some ds) (A4:(φ.map (·.1)).Nodup) (hE:∀ψ,E ψ->(ψ.map (·.1)).Nodup) (C7:d<X.n)
  (hle:iZ (iW [d] sv++U3 φ) s) (kG:YK [(q,d,c)] ops.toList=true) (hcov:rds.all (fun p=>match p.1 with | .P0 n=>n != d&&c.testBit (n+1)|_=>false)=true) (L1:List Nat)
  (h:∀K:St->Prop,(∀s',iZ rds s'->get s' (.P0 d)=some (.one (.v r))->(∀ψ,E ψ->W X k (iW [d] s'++(.P0 d,.one (.v r))::U3 ψ))->K s')->pQ X L1 (dO [(q,d,c)] 0 ops.toList).toArray sv K (dO [(q,d,c)] 0 ops.toList) sv []) :
  W X (.code (.region id ops true)::k) s:=by
 have hcov':∀l v,get rds l=some v->∃n,l = .P0 n/\cA [d] l=true/\c.testBit (n+1)=true:=fun l v hl=>by
  have:∃u,(l,u)∈rds:=by
   clear hcov V2 h
   induction rds with
   | nil=>cases hl
   | cons p r ih=>
    obtain⟨m,u⟩:=p;simp only[get]at hl;split at hl;· rename_i e;exact⟨u,by rw[e];exact jU0⟩
    ·obtain⟨u,hu⟩:=ih hl;exact⟨u,iJ _ hu⟩
  obtain⟨u,hu⟩:=this;have:=yR.1 hcov _ hu;cases l with
  | P0 n=>simp only[uH]at this;exact⟨n,rfl,by simpa [cA] using this.1,this.2⟩
  | loc n=>cases this
  | heap n=>cases this
  | tok n=>cases this
 refine ge0 hm [(q,d,c)] (fun _=>rds) (fun m h=>(m=0/\h=U3 φ)\/(m=1/\∃ψ,E ψ/\h=(.P0 d,.one (.v r))::U3 ψ)) (some (.one (.v r))) (.inl ⟨rfl,rfl⟩) hle kG ?_ ?_ ?_ L1 fun K hK=>h K fun s' h1 h2 h3=>hK s' (fun _ _=>h1) h2 fun h' hh=>?_
 ·intro m q' d' c' hm l v hl;cases m with
  | zero=>cases hm;exact hcov' l v hl
  | succ m=>simp at hm
 ·rintro m h (⟨rfl,rfl⟩|⟨rfl,ψ,kS,rfl⟩);· exact⟨fun l v hl=>by obtain⟨b,cs,rfl,-⟩:=tZ hl;rfl,fun n=>Vf n φ,fun h=>absurd h dD⟩
  ·refine⟨fun l v hl=>?_,fun n=>?_,fun _=>by simp[get]⟩
   ·simp only[get]at hl;split at hl;· rename_i e;subst e;simp[cA]
    ·obtain⟨b,cs,rfl,-⟩:=tZ hl;rfl
   ·simp[aC,A8,a9,UU,UV,jS,pE]
 ·intro m q' d' c' o hm ho s1 h o9 oI S4 G a w R next N Z1
  cases m with
  | succ m=>simp at hm
  | zero=>
  cases hm;rw[b6]at ho;cases ho
  obtain⟨-,rfl⟩:(0:Nat)=0/\h=U3 φ:=by
   rcases S4 with h|⟨h,-⟩;· exact h
   ·exact absurd h dD
  have hrd2:iZ rds (U3 φ++s1):=fun l v hl=>by
   obtain⟨n,rfl,hv,-⟩:=hcov' l v hl;rw[eE];have:get (U3 φ) (.P0 n)=none:=by
    cases hq:get (U3 φ) (.P0 n) with
    | none=>rfl
    | some u=>obtain⟨b,cs,hb,-⟩:=tZ hq;cases hb
   rw[this,oI _ _ hl];rfl
  refine Mm (s:=U3 φ++s1) (o:=⟨some d,.call { callee:=.value (.func f),args:=args,argTypes:=X5 },ty,pos,af,none⟩) (fi:=#[]) (ca:=#[]) rfl rfl ⟨ds,Gb (fp:=S6 args.toList) (fun l v hl=>hrd2 l v (QM hl).2) (fun _ h=>h) V2,sS⟩ sS (hP ▸ G0 ▸ hc) (fun b cs hm=>by rw[eE,Bh A4 b cs hm];rfl) A4 rfl C7 R next N ?_
  rintro r' ψ G' a' w' ⟨rfl,kS⟩ - R';refine Z1 _ G' a' w' (.inr ⟨rfl,ψ,kS,rfl⟩) (R'.weaken fun l v hl=>?_);rw[R6,get]at hl;split at hl
  ·rename_i e;subst e;cases hl;rw[UQ _ sS,UR sS,T5,if_pos rfl]
  ·rename_i e;rw[eE]at hl;cases hq:get (U3 ψ) l with
   | some u=>
    rw[hq]at hl;cases hl;obtain⟨b,cs,rfl,rfl,hm⟩:=tZ hq;exact kI0 (hE ψ kS) _ b cs hm
   | none=>
    rw[hq]at hl;have hv:∀b,l≠.heap b:=fun b hb=>by subst hb;rw[show (none:Option LV).or (get s1 (.heap b))=get s1 (.heap b) from rfl,o9 (.heap b) rfl]at hl;cases hl
    rw[UQ _ hv,UR hv,T5,if_neg e,eE];cases pU:get (U3 φ) l with
    | none=>exact hl
    | some u=>obtain⟨b,cs,hb,-⟩:=tZ pU;exact absurd hb (hv b)
 ·rcases hh with⟨h,-⟩|⟨-,ψ,kS,rfl⟩;· exact absurd h sS
  ·exact h3 ψ kS
end
theorem Ai{K6 pc q p:Prop}(ze:K6)(c:pc)(k:q)(h:K6->pc->Hid q->p:=by
 intro ze c zk;repeat (refine⟨oO,?_⟩)
 refine IV hP G0 c (by simp[go_sem,hP,G0,hn,ze]) rfl (by simp[go_sem,hP,G0,hn,ze]) (by simp[ze]) nN ?_;exact zk.out):p:=h ze c ⟨k⟩
end
section
theorem wd0(k:Int):0<=W2 k:=by unfold W2;split <;> decide
theorem MW(t:Tm):∀(k d f b:Int),0<=f->f<=d->(t.V0 k d).V0 (k+f) b=t.V0 k (d+b):=by
 induction t using m7 with
 | h t ih=>
 intro k d f b hf hd;rw[cL t k d,cL,cL t k (d+b)];rw[Z9,fE,kL,M8,wI];have e1:(if t.o0=1/\k+f<=(if t.o0=1/\k<=t.O0 then t.O0+d else t.O0) then (if t.o0=1/\k<=t.O0 then t.O0+d else t.O0)+b else (if t.o0=1/\k<=t.O0 then t.O0+d else t.O0))=(if t.o0=1/\k<=t.O0 then t.O0+(d+b) else t.O0):=by
  by_cases h1:t.o0=1/\k<=t.O0;· rw[if_pos h1,if_pos ⟨h1.1,oO⟩,if_pos h1];omega
  ·rw[if_neg h1,if_neg h1,if_neg (by rintro⟨q1,q2⟩;exact h1 ⟨q1,oO⟩)]
 rw[e1]
 congr 1
 refine kW fun x hx=>?_;have:=ih x hx (k+W2 t.o0) d f b hf hd;rw[show k+W2 t.o0+f=k+f+W2 t.o0 from oO]at this;exact this
theorem zv0(t:Tm):∀(k f n c:Int),0<=f->0<=n->0<=c->(t.V0 k n).V0 (k+f+n) c=(t.V0 (k+f) c).V0 k n:=by
 induction t using m7 with
 | h t ih=>
 intro k f n c hf hn hc;rw[cL t k n,cL,cL t (k+f) c,cL (.mk t.o0 _ t.I0 _)];simp only[Z9,fE,kL,M8,wI];have e2:(t.B0.map ((fun x=>x.V0 (k+f+n+W2 t.o0) c) ∘ fun x=>x.V0 (k+W2 t.o0) n))=t.B0.map ((fun x=>x.V0 (k+W2 t.o0) n) ∘ fun x=>x.V0 (k+f+W2 t.o0) c):=by
  refine kW fun x hx=>?_;have:=ih x hx (k+W2 t.o0) f n c hf hn hc;rw[show k+W2 t.o0+f+n=k+f+n+W2 t.o0 from oO,show k+W2 t.o0+f=k+f+W2 t.o0 from oO]at this;exact this
 rw[e2]
 congr 1
 by_cases h1:t.o0=1
 ·simp only[h1,true_and];by_cases h2:k+f<=t.O0;· rw[if_pos (show k<=t.O0 from oO),if_pos oO,if_pos h2,if_pos oO];omega
  ·rw[if_neg h2];by_cases h3:k<=t.O0;· rw[if_pos h3,if_neg oO]
   ·rw[if_neg h3,if_neg oO]
 ·simp only[h1,false_and,if_false]
theorem gI0(t s:Tm):∀(f d b:Int),0<=f->f<=d->0<=b->(t.V0 f b).Y1 0 (d+b) s=(t.Y1 0 d s).V0 f b:=by
 induction t using m7 with
 | h t ih=>
 intro f d b hf hd hb;by_cases h1:t.o0=1
 ·rw[cL t f b,nR,Z9,fE,if_pos h1,nR t,if_pos h1];simp only[h1,true_and];by_cases h2:t.O0=0+d
  ·rw[if_pos (show f<=t.O0 from oO),if_pos oO,if_pos h2];have:=MW s 0 d f b hf hd;simp only[Int.zero_add]at this ⊢;exact this.symm
  ·rw[if_neg h2];by_cases h3:0+d<t.O0
   ·rw[if_pos (show f<=t.O0 from oO),if_neg oO,if_pos oO,if_pos h3];have:=EC (t.O0 - 1) f b;rw[if_pos oO]at this;show vT _=_;rw[show t.O0+b - 1=t.O0 - 1+b from oO];exact this.symm
   ·rw[if_neg h3];by_cases h4:f<=t.O0;· rw[if_pos h4,if_neg oO,if_neg oO,cL t f b,if_pos ⟨h1,h4⟩,h1]
    ·rw[if_neg h4,if_neg oO,if_neg oO,cL t f b,if_neg (fun h=>h4 h.2),h1]
 ·rw[cL t f b,nR,Z9,fE,kL,M8,if_neg h1,nR t,if_neg h1,cL];simp only[Z9,fE,kL,M8,wI,h1,false_and,if_false]
  congr 1
  refine kW fun x hx=>?_;have OZ:=wd0 t.o0;have:=ih x hx (f+W2 t.o0) (d+W2 t.o0) b oO oO hb;rw[show d+W2 t.o0+b=d+b+W2 t.o0 from oO]at this;exact this
structure Acts (A:Int->Tm->Tm):Prop where
 node:∀(d:Int) (k i:Int) (y:Ty) (a:List Tm),k≠1->k≠2->A d (U0 k i y a)=U0 k i y (a.map (A d))
 lam:∀(d:Int) (y:Ty) (x:Tm),A d (U0 2 0 y [x])=U0 2 0 y [A (d+1) x]
 low:∀(d:Int) (i:Nat),(i:Int)<d->A d (vT i)=vT i
 great:∀d:Int,0<=d->A d ga0=ga0
 up:∀(d n:Int) (x:Tm),0<=d->0<=n->A (d+n) (x.V0 0 n)=(A d x).V0 0 n
theorem Acts.n1{A:Int->Tm->Tm}(H:Acts A)(d k:Int)(x:Tm)(h1:k≠1)(h2:k≠2):A d (nT k [x])=nT k [A d x]:=H.node d k 0 _ [x] h1 h2
theorem Acts.n2{A:Int->Tm->Tm}(H:Acts A)(d k:Int)(x y:Tm)(h1:k≠1)(h2:k≠2):A d (nT k [x,y])=nT k [A d x,A d y]:=H.node d k 0 _ [x,y] h1 h2
end
section
section
variable{X:Ctx}{s:St}
theorem WV{L1:List Nat}{ops:Array Oper}{l:List Oper}{K:St->Prop}{d:Tmp}{t:TypeId}{x:Operand}{ty:TypeId}{pos:String}{af:Array Edge}{q:Option (Prop × St)}{y:SV}{cs:List DV}
  (hy:M2 X (get s) x=some y) (hc:bZ (P7 y)=some cs) (hb:fI cs=true) (hn:d<X.n) (hq:q=none)
  (k:vc X L1 ops l (L2 s (.P0 d) (.one (.v (.ref cs)))) K) :
  cB X L1 ops l K ⟨some d,.box t x,ty,pos,af,none⟩ s q:=by
 subst hq;exact wS rfl (Wb (o:=⟨some d,.box t x,ty,pos,af,none⟩) rfl rfl hn hy hc hb) (bW k)
theorem Wt{ops:Array Oper}{s0:St}{K:St->Prop}{l:List Oper}{k:St->List Ev->Prop}{ev:List Ev}{fp wr:List Loc}{d:Tmp}{t:TypeId}{x:Operand}{ty:TypeId}{pos:String}{af:Array Edge}{q:Option (Prop × St)}{y:SV}{cs:List DV}
  (hk:∀s ev,k s ev->VD X ops s0 l s ev K) (hy:M2 X (get (jU s fp)) x=some y) (hc:bZ (P7 y)=some cs) (hb:fI cs=true) (hn:d<X.n) (hq:q=none)
  (g:rM k ev s fp [d] [(.P0 d,some (.one (.v (.ref cs))))]) :
  Ae X ops s0 l K k ⟨some d,.box t x,ty,pos,af,none⟩ ev s fp wr q:=by
 subst hq;show VD X ops s0 _ s ev K;refine Bv ⟨fp,_,[d]⟩ (fun s' hs eZ=>zN (.inl rfl) ?_) (hk _ _ g);exact Wb (o:=⟨some d,.box t x,ty,pos,af,none⟩) rfl rfl hn (wO hs hy) hc hb
end
end
section
abbrev Nw:DV:=.K0 (.pointer none)
abbrev B9:DV:=.K0 .nilIface
def n9:List Nat->DV
 | []=>Nw
 | n::l=>.ref [j0 (n:Int),n9 l]
mutual
def MV.Q2:MV->DV
 | .Z3 n=>.iface 3 (j0 (n:Int))
 | .list l=>.iface 194 (n9 l)
 | .both a b=>.iface 200 (.ref [MV.Q2 a,MV.Q2 b])
 | .Z4=>.iface 204 (.agg [])
 | .m6 b e=>.iface 211 (.ref (b.E0++[MV.envM e]))
def MV.envM:List MV->DV
 | []=>Nw
 | v::e=>.ref [MV.Q2 v,MV.envM e]
end
theorem oP0:∀l,(n9 l).isCell=true
 | []=>rfl
 | _::_=>rfl
theorem QB(v:MV):v.Q2.isCell=true:=by cases v <;> (simp only[MV.Q2];rfl)
theorem rF0(e:List MV):(MV.envM e).isCell=true:=by cases e <;> (simp only[MV.envM];rfl)
theorem Vg(v:MV):aL v.Q2=[v.Q2]:=by cases v <;> (simp only[MV.Q2];rfl)
theorem mB0(e:List MV):aL (MV.envM e)=[MV.envM e]:=by cases e <;> (simp only[MV.envM];rfl)
theorem lq0(l:List Nat):aL (n9 l)=[n9 l]:=by cases l <;> rfl
attribute [go_sem] oP0 QB rF0 Vg mB0 lq0
theorem rG0(e:List MV)(i:Nat)(hi:i<e.length):cU 153 [MV.envM e,j0 (i:Int)] (e.getD i .Z4).Q2:=by
 refine H2 Tryz.func153 ?_;intro X hP G0 hf X0 hn hR K1 G1;have h0:e.drop (i - i)=e:=sS;have AE:y6 .i64 i:=G1 (j0 i) sS;rw[LU]at AE;refine N2 ?_;refine Q1 ?_;refine G2 [] @h0 (mQ (fun k:Nat=>k<=i) (fun k:Nat=>[sV 0 (MV.envM (e.drop (i - k))),sV 1 (j0 (k:Int)),sV 4 B9]) (fun k:Nat=>k) i (I5 i) ?_);intro k hk ih
 obtain⟨v,r,hr⟩:∃v r,e.drop (i - k)=v::r:=by
  cases hq:e.drop (i - k) with
  | nil=>have:=jV0.1 hq;omega
  | cons v r=>exact⟨v,r,rfl⟩
 have hE:MV.envM (e.drop (i - k)) = .ref [v.Q2,MV.envM r]:=by rw[hr,MV.envM]
 cases k with
 | zero=>
  have hv:(e[i]?.getD MV.Z4)=v:=by
   have:=congrArg (fun l=>l.head?) hr;simp only[aq0,List.head?_drop,List.head?_cons]at this;simp[this]
  rw[aq0]at hE;refine T7 ?_;exact O1 (j2 @hE @hv) H0
 | succ k=>
  have hd:e.drop (i - k)=r:=by
   have h1:i - k=(i - (k+1))+1:=oO;rw[h1,<- List.drop_drop,hr,List.drop_one,List.tail_cons]
  have oK:(0:Int)<(k:Int)+1:=oO;refine K5 ?_;refine R4 @hE ?_;refine K2 ?_;refine m5 ?_;refine G2 [] @hd (ih k oO oO)
def SI(ev:U9)(k:Int)(l:List MV):Option (MV × Nat):=if 3<=k/\k<=13 then JW ev k l else none
def cE:Nat->U9
 | 0,_,_=>none
 | d+1,t,e=>
  if t.o0=1 then if 0<=t.O0/\t.O0.toNat<e.length then some (e.getD t.O0.toNat .Z4,1) else none
  else if t.o0=2 then if t.B0.length=0 then none else some (.m6 (t.argN 0) e,1)
  else if 3<t.B0.length then none
  else match bF (cE d) t.B0 e with
   | none=>none
   | some (l,c)=>match SI (cE d) t.o0 l with
    | none=>none
    | some (v,c')=>some (v,1+c+c')
mutual
def MV.nle(M:Nat):MV->Prop
 | .Z3 n=>n<=M
 | .list l=>l.length<=M/\∀n∈l,n<=M
 | .both a b=>MV.nle M a/\MV.nle M b
 | .Z4=>True
 | .m6 _ e=>MV.nles M e
def MV.nles(M:Nat):List MV->Prop
 | []=>True
 | v::e=>MV.nle M v/\MV.nles M e
end
def R8(most n:Nat)(v:DV):DV:=if n<=most then .H1 [v,O2 true] else .H1 [B9,O2 false]
def L5(most n:Nat):List DV:=[j0 (if n<=most then (n:Int) else (most:Int)),j0 (most:Int)]
def lD(P:Program)(gl:X8)(fe:FuncId)(most:Nat)(ev:U9):Prop:=
 ∀ ⦃t:Tm⦄ ⦃e:List MV⦄ ⦃u:Nat⦄ ⦃v:MV⦄ ⦃c:Nat⦄ (b:Nat) (M:Nat),ev t e=some (v,c)->u<=most->M+(most - u)<=1073741824->MV.nles M e ->
  P8 P gl fe [M3 b,t.dv,MV.envM e] [(b,L5 most u)] (R8 most (u+c) v.Q2) [(b,L5 most (u+c))]
def iX(most:Nat)(ev:U9):Prop:=
 ∀ ⦃t:Tm⦄ ⦃e:List MV⦄ ⦃v:MV⦄ ⦃c:Nat⦄ (M:Nat),ev t e=some (v,c)->MV.nles M e->v.nle (M+c)
theorem d60(b:Tm)(e:List MV):(MV.m6 b e).Q2 = .iface 211 (.ref [j0 b.o0,j0 b.O0,j0 b.I0.o0,.sl (b.I0.B0.map P1),.sl (b.B0.map E3),MV.envM e]):=by
 rw[MV.Q2,O3];rfl
theorem rH0(v:MV)(e:List MV):MV.envM (v::e) = .ref [v.Q2,MV.envM e]:=by rw[MV.envM]
mutual
theorem MV.nle_mono{M N:Nat}(h:M<=N):∀v:MV,v.nle M->v.nle N
 | .Z3 n,k=>by simp only[MV.nle]at k ⊢;omega
 | .list l,k=>by simp only[MV.nle]at k ⊢;exact⟨cH k.1 h,fun n hn=>cH (k.2 n hn) h⟩
 | .both a b,k=>by simp only[MV.nle]at k ⊢;exact⟨MV.nle_mono h a k.1,MV.nle_mono h b k.2⟩
 | .Z4,_=>by simp only[MV.nle]
 | .m6 b e,k=>by simp only[MV.nle]at k ⊢;exact MV.nles_mono h e k
theorem MV.nles_mono{M N:Nat}(h:M<=N):∀e:List MV,MV.nles M e->MV.nles N e
 | [],_=>by simp only[MV.nles]
 | v::e,k=>by simp only[MV.nles]at k ⊢;exact⟨MV.nle_mono h v k.1,MV.nles_mono h e k.2⟩
end
theorem WW{M:Nat}:∀{l:List MV} {i:Nat} {a:MV},MV.nles M l->l[i]? = some a->a.nle M
 | x::l,0,a,h,k=>by simp only[MV.nles]at h;simp at k;rw[<- k];exact h.1
 | x::l,i+1,a,h,k=>by simp only[MV.nles]at h;exact WW h.2 (by simpa using k)
theorem RB(hm:most<=1073741824){ev:U9}(H:lD W0 gl 53 most ev)(hN:iX most ev){f v:MV}{l:List MV}{u c:Nat}(b M:Nat)
  (h:iR ev f l=some (v,c)) (hu:u<=most) (hM:M+(most - u)<=1073741824) (hF:f.nle M) (hL:MV.nles M l) :
  cT 54 [M3 b,f.Q2,.sl (l.map fun x=>[x.Q2])] [(b,L5 most u)] (R8 most (u+c) v.Q2) [(b,L5 most (u+c))]:=by
 refine H2 Tryz.func54 ?_;intro X hP G0 hf X0 hn hR K1 G1;have gQ:(l.length:Int)<=2147483648:=by have:=G1 (.sl (l.map fun x=>[x.Q2])) sS;simp[J6]at this;have:=this.1;simp[M5]at this;omega
 have HU:L5 most u=[j0 (u:Int),j0 (most:Int)]:=by unfold L5;rw[if_pos hu]
 rw[HU];refine N2 ?_;refine Q1 ?_;refine G2 [] tT (mQ (fun x:MV × Nat × Nat=>x.2.1<=l.length/\x.2.2<=most/\u<=x.2.2/\x.1.nle (M+(x.2.2 - u))/\∃c',iR ev x.1 (l.drop x.2.1)=some (v,c')/\x.2.2+c' = u+c) (fun x:MV × Nat × Nat=>[sV 15 (j0 (x.2.1:Int)),sV 14 (j0 (l.length:Int)),sV 13 (.sl (l.map fun x=>[x.Q2])),sV 0 (M3 b),sV 1 x.1.Q2,sV 6 B9,sV 7 (O2 false),sB  b [.v (j0 (x.2.2:Int)),.v (j0 (most:Int))]]) (fun x:MV × Nat × Nat=>l.length - x.2.1) (f,0,u) (⟨aH _,hu,I5 u,by simpa using hF,c,by simpa using h,rfl⟩) ?_);rintro⟨g,i,u'⟩ ⟨hi,Cd,TL,hg,c',hc,gK⟩ ih;simp only at hi Cd TL hg hc gK;by_cases J8:i<l.length
 ·obtain⟨a,ha⟩:∃a,l[i]? = some a:=⟨l[i],uB J8⟩;have hd:l.drop i=a::l.drop (i+1):=by
   rw[Ln J8];rw[uB J8,uC]at ha;rw[ha]
  rw[hd]at hc;have iC:a.nle M:=WW hL ha;cases g with
  | Z3 n=>cases hc
  | list q=>cases hc
  | both p q=>cases hc
  | Z4=>cases hc
  | m6 body e=>
   simp only[iR]at hc;split at hc;· cases hc
   ·rename_i v1 c1 eJ;split at hc;· cases hc
    ·rename_i w c2 hw;simp only[uC,uD]at hc;obtain⟨rfl,rfl⟩:=hc;simp only[MV.nle]at hg;have Oo:MV.nles (M+(u' - u)) (a::e):=by simp only[MV.nles];exact⟨MV.nle_mono oO _ iC,hg⟩
     have W1:=H b (M+(u' - u)) eJ Cd oO Oo;have hN1:=hN (M+(u' - u)) eJ Oo;have NR:=d60 body e;have hT:=P5 body;have tV:L5 most u' = [j0 (u':Int),j0 (most:Int)]:=by unfold L5;rw[if_pos Cd]
     rw[tV,rH0]at W1;have vR:(l.map fun x=>[x.Q2])[i]? = some [a.Q2]:=by rw[cI,ha];rfl
     rw[NR];generalize l.map (fun x=>[x.Q2])=L at *;refine K5 ?_;refine R4 @vR ?_;refine K2 ?_;refine Q1 ?_;refine xB (by rw[hP];exact kO) [33] fun K hK=>?_;simp[go_sem,hP,G0,hn,hT];refine Wt (cs:=[a.Q2,MV.envM e]) (y:=.ag [a.Q2,MV.envM e] []) (fun _ _=>iN) sH sG sG nN (by rfl) ?_;simp[go_sem,hP,G0,hn];by_cases aR:u'+c1<=most
     ·have o1:R8 most (u'+c1) v1.Q2 = .H1 [v1.Q2,O2 true]:=by unfold R8;rw[if_pos aR]
      have o2:L5 most (u'+c1)=[j0 ((u'+c1:Nat):Int),j0 (most:Int)]:=by unfold L5;rw[if_pos aR]
      rw[o1,o2]at W1;refine Z7 tT (W1) ?_;refine K4 ?_;clear hK K;refine T7 ?_;refine K2 ?_;refine K2 ?_;have a1:i+1<=l.length:=oO;have a2:u<=u'+c1:=oO;have a3:M+(u' - u)+c1<=M+(u'+c1 - u):=oO;have a4:u'+c1+c2=u+c:=oO;have a5:l.length - (i+1)<l.length - i:=oO;refine m5 ?_;refine G2 [] tT (ih (v1,i+1,u'+c1) ⟨a1,aR,a2,MV.nle_mono a3 _ hN1,c2,hw,a4⟩ a5)
     ·have o1:R8 most (u'+c1) v1.Q2 = .H1 [B9,O2 false]:=by unfold R8;rw[if_neg aR]
      have o2:L5 most (u'+c1)=[j0 (most:Int),j0 (most:Int)]:=by unfold L5;rw[if_neg aR]
      have d7:¬u+c<=most:=oO;have o3:R8 most (u+c) w.Q2 = .H1 [B9,O2 false]:=by unfold R8;rw[if_neg d7]
      have o4:L5 most (u+c)=[j0 (most:Int),j0 (most:Int)]:=by unfold L5;rw[if_neg d7]
      rw[o3,o4]at hR;rw[o1,o2]at W1;refine Z7 tT (W1) ?_;refine K4 ?_;clear hK K;refine K5 ?_;refine K2 ?_;exact s7 [(b,[j0 (most:Int),j0 (most:Int)])] tT
 ·have hd:l.drop i=[]:=jV0.2 oO;have hii:i=l.length:=oO;subst hii;rw[hd]at hc;have n8:iR ev g []=some (g,0):=by cases g <;> rfl
  rw[n8]at hc;simp only[uC,uD]at hc;obtain⟨rfl,rfl⟩:=hc;have qC:u+c<=most:=oO;have o3:R8 most (u+c) g.Q2 = .H1 [g.Q2,O2 true]:=by unfold R8;rw[if_pos qC]
  have o4:L5 most (u+c)=[j0 (u':Int),j0 (most:Int)]:=by unfold L5;rw[if_pos qC];rw[<- gK];simp
  rw[o3,o4]at hR;refine T7 ?_;refine K2 ?_;exact s7 [(b,[j0 (u':Int),j0 (most:Int)])] tT
def V5(l:List MV)(i:Nat):DV:=match l[i]? with
 | some v=>v.Q2
 | none=>B9
theorem we0(l:List MV)(i:Nat):(V5 l i).isCell=true:=by unfold V5;split;exact QB _;rfl
attribute [go_sem] we0
def iY(l:List MV):List DV:=[V5 l 0,V5 l 1,V5 l 2]
def lZ(ev:U9)(most:Nat)(e:List MV):Nat->List Tm->List MV
 | _,[]=>[]
 | u,t::r=>match ev t e with
  | none=>[]
  | some (v,c)=>if u+c<=most then v::lZ ev most e (u+c) r else []
def oF(most n:Nat)(l:List MV):DV:=.H1 [.agg (iY l),O2 (decide (n<=most))]
theorem wQ{ev:U9}{most:Nat}{e:List MV}:∀{l:List Tm} {u:Nat} {vs:List MV} {c:Nat},bF ev l e=some (vs,c)->u+c<=most->lZ ev most e u l=vs
 | [],u,vs,c,h,k=>by simp only[bF,uC,uD]at h;rw[lZ,h.1]
 | t::r,u,vs,c,h,k=>by
  simp only[bF]at h;split at h;· cases h
  ·rename_i v c1 hv;split at h;· cases h
   ·rename_i l c2 hl;simp only[uC,uD]at h;obtain⟨rfl,rfl⟩:=h;rw[lZ,hv];simp only;rw[if_pos (show u+c1<=most from oO),wQ hl (show u+c1+c2<=most from oO)]
theorem wV(hm:most<=1073741824){ev:U9}(H:lD W0 gl 53 most ev)(hN:iX most ev){l:List Tm}{e vs:List MV}{u c:Nat}(b M:Nat)
  (h:bF ev l e=some (vs,c)) (h3:l.length<=3) (hu:u<=most) (hM:M+(most - u)<=1073741824) (he:MV.nles M e) :
  cT 154 [M3 b,.sl (l.map E3),MV.envM e] [(b,L5 most u)] (oF most (u+c) (lZ ev most e u l)) [(b,L5 most (u+c))]:=by
 refine H2 Tryz.func154 ?_;intro X hP G0 hf X0 hn hR K1 G1;have HU:L5 most u=[j0 (u:Int),j0 (most:Int)]:=by unfold L5;rw[if_pos hu]
 rw[HU];have z0:V5 [] 0=B9:=rfl;have z1:V5 [] 1=B9:=rfl;have z2:V5 [] 2=B9:=rfl;refine N2 ?_;refine Q1 ?_;refine G2 [] (j3 @z0 @z1 @z2) (mQ (fun x:List MV × Nat × Nat=>x.2.1<=l.length/\x.2.2<=most/\u<=x.2.2/\x.1.length=x.2.1/\MV.nles (M+(x.2.2 - u)) e/\∃c' vs',bF ev (l.drop x.2.1) e=some (vs',c')/\x.2.2+c' = u+c/\x.1++lZ ev most e x.2.2 (l.drop x.2.1)=lZ ev most e u l) (fun x:List MV × Nat × Nat=>[sV 15 (j0 (x.2.1:Int)),sV 14 (j0 (l.length:Int)),sV 13 (.sl (l.map E3)),sV 0 (M3 b),sV 2 (MV.envM e),sV 7 (O2 false),sP 6,sP 8,sL 6 [.v B9,.v B9,.v B9],sL 8 [.v (V5 x.1 0),.v (V5 x.1 1),.v (V5 x.1 2)],sB  b [.v (j0 (x.2.2:Int)),.v (j0 (most:Int))]]) (fun x:List MV × Nat × Nat=>l.length - x.2.1) (([]:List MV),0,u) (⟨aH _,hu,I5 u,rfl,by simpa using he,c,vs,by simpa using h,rfl,sS⟩) ?_);rintro⟨p,i,u'⟩ ⟨hi,Cd,TL,K9,hg,c',vs',hc,gK,qB⟩ ih;simp only at hi Cd TL K9 hg hc gK qB;by_cases J8:i<l.length
 ·obtain⟨t,ht⟩:∃t,l[i]? = some t:=⟨l[i],uB J8⟩;have hd:l.drop i=t::l.drop (i+1):=by
   rw[Ln J8];rw[uB J8,uC]at ht;rw[ht]
  rw[hd]at hc;rw[hd]at qB;simp only[bF]at hc;split at hc;· cases hc
  rename_i v1 c1 eJ;rw[lZ,eJ]at qB;simp only at qB;split at hc;· cases hc
  rename_i vs1 c2 hw;simp only[uC,uD]at hc;obtain⟨rfl,rfl⟩:=hc;have hgz:MV.nles (M+(u' - u)) e:=hg;have W1:=H b (M+(u' - u)) eJ Cd oO hg;have tV:L5 most u' = [j0 (u':Int),j0 (most:Int)]:=by unfold L5;rw[if_pos Cd]
  rw[tV]at W1;have vR:(l.map E3)[i]? = some [j0 t.o0,j0 t.O0,j0 t.I0.o0,.sl (t.I0.B0.map P1),.sl (t.B0.map E3)]:=by rw[cI,ht];simp[O3]
  have X1:l≠[]:=by rintro rfl;simp at J8
  rcases (show i=0\/i=1\/i=2 from oO) with rfl|rfl|rfl
  ·refine K2 ?_;refine Kk (j2 @X1 @J8) ?_;refine R4 @vR ?_;by_cases aR:u'+c1<=most
   ·have o1:R8 most (u'+c1) v1.Q2 = .H1 [v1.Q2,O2 true]:=by unfold R8;rw[if_pos aR]
    have o2:L5 most (u'+c1)=[j0 ((u'+c1:Nat):Int),j0 (most:Int)]:=by unfold L5;rw[if_pos aR]
    rw[o1,o2]at W1;refine N1 H0 (M0 W1) ?_;refine T7 ?_;refine K2 ?_;refine K2 ?_;have a4:u'+c1+c2=u+c:=oO;have a6:(p++[v1]).length=0+1:=by simp[K9]
    have a7:V5 (p++[v1]) 0=v1.Q2:=by simp[V5,K9]
    have a8:p++[v1]++lZ ev most e (u'+c1) (l.drop (0+1))=lZ ev most e u l:=by rw[yQ];rw[<- qB,if_pos aR];rfl
    have b1:V5 (p++[v1]) 1=V5 p 1:=by simp[V5,K9,PV]
    have b2:V5 (p++[v1]) 2=V5 p 2:=by simp[V5,K9,PV]
    have d1:0+1<=l.length:=oO;have d2:u<=u'+c1:=oO;have d3:M+(u' - u)<=M+(u'+c1 - u):=oO;have d5:l.length - (0+1)<l.length - 0:=oO;refine m5 ?_;refine G2 [] (j3 @a7 @b1 @b2) (ih (p++[v1],0+1,u'+c1) ⟨d1,aR,d2,a6,MV.nles_mono d3 _ hgz,c2,vs1,hw,a4,a8⟩ d5)
   ·have o1:R8 most (u'+c1) v1.Q2 = .H1 [B9,O2 false]:=by unfold R8;rw[if_neg aR]
    have o2:L5 most (u'+c1)=[j0 (most:Int),j0 (most:Int)]:=by unfold L5;rw[if_neg aR]
    have d7:¬u+c<=most:=oO;have o4:L5 most (u+c)=[j0 (most:Int),j0 (most:Int)]:=by unfold L5;rw[if_neg d7]
    have o5:lZ ev most e u l=p:=by rw[<- qB,if_neg aR];simp
    have o6:decide (u+c<=most)=false:=decide_eq_false d7;unfold oF at hR;rw[o4,o5,o6]at hR;rw[o1,o2]at W1;refine N1 H0 (M0 W1) ?_;refine K5 ?_;refine K2 ?_;exact s7 [(b,[j0 (most:Int),j0 (most:Int)])] @iY.eq_1
  ·refine K2 ?_;refine Kk (j2 @X1 @J8) ?_;refine R4 @vR ?_;by_cases aR:u'+c1<=most
   ·have o1:R8 most (u'+c1) v1.Q2 = .H1 [v1.Q2,O2 true]:=by unfold R8;rw[if_pos aR]
    have o2:L5 most (u'+c1)=[j0 ((u'+c1:Nat):Int),j0 (most:Int)]:=by unfold L5;rw[if_pos aR]
    rw[o1,o2]at W1;refine N1 H0 (M0 W1) ?_;refine T7 ?_;refine K2 ?_;refine K2 ?_;have a4:u'+c1+c2=u+c:=oO;have a6:(p++[v1]).length=1+1:=by simp[K9]
    have a7:V5 (p++[v1]) 1=v1.Q2:=by simp[V5,K9]
    have a8:p++[v1]++lZ ev most e (u'+c1) (l.drop (1+1))=lZ ev most e u l:=by rw[yQ];rw[<- qB,if_pos aR];rfl
    have b0:V5 (p++[v1]) 0=V5 p 0:=by simp[V5,K9,PV]
    have b2:V5 (p++[v1]) 2=V5 p 2:=by simp[V5,K9,PV]
    have d1:1+1<=l.length:=oO;have d2:u<=u'+c1:=oO;have d3:M+(u' - u)<=M+(u'+c1 - u):=oO;have d5:l.length - (1+1)<l.length - 1:=oO;refine m5 ?_;refine G2 [] (j3 @a7 @b0 @b2) (ih (p++[v1],1+1,u'+c1) ⟨d1,aR,d2,a6,MV.nles_mono d3 _ hgz,c2,vs1,hw,a4,a8⟩ d5)
   ·have o1:R8 most (u'+c1) v1.Q2 = .H1 [B9,O2 false]:=by unfold R8;rw[if_neg aR]
    have o2:L5 most (u'+c1)=[j0 (most:Int),j0 (most:Int)]:=by unfold L5;rw[if_neg aR]
    have d7:¬u+c<=most:=oO;have o4:L5 most (u+c)=[j0 (most:Int),j0 (most:Int)]:=by unfold L5;rw[if_neg d7]
    have o5:lZ ev most e u l=p:=by rw[<- qB,if_neg aR];simp
    have o6:decide (u+c<=most)=false:=decide_eq_false d7;unfold oF at hR;rw[o4,o5,o6]at hR;rw[o1,o2]at W1;refine N1 H0 (M0 W1) ?_;refine K5 ?_;refine K2 ?_;exact s7 [(b,[j0 (most:Int),j0 (most:Int)])] @iY.eq_1
  ·refine K2 ?_;refine Kk (j2 @X1 @J8) ?_;refine R4 @vR ?_;by_cases aR:u'+c1<=most
   ·have o1:R8 most (u'+c1) v1.Q2 = .H1 [v1.Q2,O2 true]:=by unfold R8;rw[if_pos aR]
    have o2:L5 most (u'+c1)=[j0 ((u'+c1:Nat):Int),j0 (most:Int)]:=by unfold L5;rw[if_pos aR]
    rw[o1,o2]at W1;refine N1 H0 (M0 W1) ?_;refine T7 ?_;refine K2 ?_;refine K2 ?_;have a4:u'+c1+c2=u+c:=oO;have a6:(p++[v1]).length=2+1:=by simp[K9]
    have a7:V5 (p++[v1]) 2=v1.Q2:=by simp[V5,K9]
    have a8:p++[v1]++lZ ev most e (u'+c1) (l.drop (2+1))=lZ ev most e u l:=by rw[yQ];rw[<- qB,if_pos aR];rfl
    have b0:V5 (p++[v1]) 0=V5 p 0:=by simp[V5,K9,PV]
    have b1:V5 (p++[v1]) 1=V5 p 1:=by simp[V5,K9,PV]
    have d1:2+1<=l.length:=oO;have d2:u<=u'+c1:=oO;have d3:M+(u' - u)<=M+(u'+c1 - u):=oO;have d5:l.length - (2+1)<l.length - 2:=oO;refine m5 ?_;refine G2 [] (j3 @a7 @b0 @b1) (ih (p++[v1],2+1,u'+c1) ⟨d1,aR,d2,a6,MV.nles_mono d3 _ hgz,c2,vs1,hw,a4,a8⟩ d5)
   ·have o1:R8 most (u'+c1) v1.Q2 = .H1 [B9,O2 false]:=by unfold R8;rw[if_neg aR]
    have o2:L5 most (u'+c1)=[j0 (most:Int),j0 (most:Int)]:=by unfold L5;rw[if_neg aR]
    have d7:¬u+c<=most:=oO;have o4:L5 most (u+c)=[j0 (most:Int),j0 (most:Int)]:=by unfold L5;rw[if_neg d7]
    have o5:lZ ev most e u l=p:=by rw[<- qB,if_neg aR];simp
    have o6:decide (u+c<=most)=false:=decide_eq_false d7;unfold oF at hR;rw[o4,o5,o6]at hR;rw[o1,o2]at W1;refine N1 H0 (M0 W1) ?_;refine K5 ?_;refine K2 ?_;exact s7 [(b,[j0 (most:Int),j0 (most:Int)])] @iY.eq_1
 ·have hd:l.drop i=[]:=jV0.2 oO;have hii:i=l.length:=oO;subst hii;rw[hd]at hc qB;simp only[bF,uC,uD]at hc;obtain⟨rfl,rfl⟩:=hc;simp only[lZ,KX]at qB;have qC:u+c<=most:=oO;have o4:L5 most (u+c)=[j0 (u':Int),j0 (most:Int)]:=by unfold L5;rw[if_pos qC];rw[<- gK];simp
  have o6:decide (u+c<=most)=true:=decide_eq_true qC;unfold oF at hR;rw[<- qB,o4,o6]at hR;refine T7 ?_;refine K2 ?_;exact s7 [(b,[j0 (u':Int),j0 (most:Int)])] @iY.eq_1
theorem Gn(n:Nat):(MV.Z3 n).Q2 = .iface 3 (j0 (n:Int)):=by rw[MV.Q2]
theorem zw0(hm:most<=1073741824){ev:U9}(H:lD W0 gl 53 most ev)(hN:iX most ev)(hNc:∀{f v:MV} {l:List MV} {c M:Nat},iR ev f l=some (v,c)->f.nle M->MV.nles M l->v.nle (M+c)){r f:MV}{n u:Nat}(b M:Nat)
  (h:xS ev f n 0 r=some (v,c)) (hu:u<=most) (hM:M+(most - u)<=1073741824) (dW:r.nle M) (B6:f.nle M) (qG:n<=M) :
  cT 155 [M3 b,.agg (iY [r,f,.Z3 n])] [(b,L5 most u)] (R8 most (u+c) v.Q2) [(b,L5 most (u+c))]:=by
 have z0:V5 [r,f,.Z3 n] 0=r.Q2:=rfl;have z1:V5 [r,f,.Z3 n] 1=f.Q2:=rfl;have z2:V5 [r,f,.Z3 n] 2 = .iface 3 (j0 (n:Int)):=Gn n;have HU:L5 most u=[j0 (u:Int),j0 (most:Int)]:=by unfold L5;rw[if_pos hu]
 unfold iY;rw[z0,z1,z2,HU];refine H2 Tryz.func155 ?_;intro X hP G0 hf X0 hn hR K1 G1;refine N2 ?_;refine Q1 ?_;refine G2 [] tT (mQ (fun x:DV × Bool × Nat × Nat=>x.1.isCell=true/\aL x.1=[x.1]/\(x.2.1=true->x.2.2.1<=n/\x.2.2.2<=most/\u<=x.2.2.2/\∃(q:MV) (c':Nat),x.1=q.Q2/\q.nle (M+(x.2.2.2 - u))/\xS ev f (n - x.2.2.1) x.2.2.1 q=some (v,c')/\x.2.2.2+c' = u+c)/\(x.2.1=false->x.1=B9/\x.2.2.2=most/\¬u+c<=most/\x.2.2.1<=n+1)) (fun x:DV × Bool × Nat × Nat=>[sV 6 x.1,sV 7 (O2 x.2.1),sV 8 (j0 (x.2.2.1:Int)),sV 0 (M3 b),sV 4 B9,sV 5 (O2 false),sP 3,sL 3 [.v r.Q2,.v f.Q2,.v (.iface 3 (j0 (n:Int)))],sB  b [.v (j0 (x.2.2.2:Int)),.v (j0 (most:Int))]]) (fun x:DV × Bool × Nat × Nat=>(if x.2.1 then n - x.2.2.1+1 else 0)) (r.Q2,true,0,u) (⟨QB r,Vg r,fun _=>⟨aH _,hu,I5 u,r,c,rfl,by simpa using dW,by simpa using h,rfl⟩,fun e=>by cases e⟩) ?_);rintro⟨y,ok,k,u'⟩ ⟨hy1,Zs,hy3,hy4⟩ ih;simp only at hy1 Zs hy3 hy4;cases ok with
 | false=>
  obtain⟨rfl,rfl,d7,hk⟩:=hy4 rfl;have o3:R8 u' (u+c) v.Q2 = .H1 [B9,O2 false]:=by unfold R8;rw[if_neg d7]
  have o4:L5 u' (u+c)=[j0 (u':Int),j0 (u':Int)]:=by unfold L5;rw[if_neg d7]
  rw[o3,o4]at hR;refine T7 ?_;refine K2 ?_;exact s7 [(b,[j0 (u':Int),j0 (u':Int)])] tT
 | true=>
  obtain⟨hk,Cd,TL,q,c',rfl,hq,hc,gK⟩:=hy3 rfl;have Ce:(n:Int)<=1073741824:=oO;by_cases Dx:k<n
  ·have e1:n - k=(n - (k+1))+1:=oO;rw[e1,xS]at hc;split at hc;· cases hc
   rename_i v1 c1 eJ;split at hc;· cases hc
   rename_i w c2 hw;simp only[uC,uD]at hc;obtain⟨rfl,rfl⟩:=hc;have Od:f.nle (M+(u' - u)):=MV.nle_mono oO _ B6;have nK:MV.nles (M+(u' - u)) [.Z3 k,q]:=by simp only[MV.nles,MV.nle];exact⟨oO,hq,trivial⟩
   have W1:=RB hm H hN b (M+(u' - u)) eJ Cd oO Od nK;have hN1:=hNc eJ Od nK;have tV:L5 most u' = [j0 (u':Int),j0 (most:Int)]:=by unfold L5;rw[if_pos Cd]
   have Gd0:(k:Int)<(n:Int):=oO;rw[tV]at W1;simp only[Y3,Gn]at W1;refine K5 ?_;by_cases aR:u'+c1<=most
   ·have o1:R8 most (u'+c1) v1.Q2 = .H1 [v1.Q2,O2 true]:=by unfold R8;rw[if_pos aR]
    have o2:L5 most (u'+c1)=[j0 ((u'+c1:Nat):Int),j0 (most:Int)]:=by unfold L5;rw[if_pos aR]
    rw[o1,o2]at W1;refine N1 H0 (M0 W1) ?_;refine K2 ?_;have d1:k+1<=n:=oO;have d2:u<=u'+c1:=oO;have d3:M+(u' - u)+c1<=M+(u'+c1 - u):=oO;have d4:u'+c1+c2=u+c:=oO;have d5:n - (k+1)+1<n - k+1:=oO;refine m5 ?_;refine G2 [] tT (ih (v1.Q2,true,k+1,u'+c1) ⟨QB v1,Vg v1,fun _=>⟨d1,aR,d2,v1,c2,rfl,MV.nle_mono d3 _ hN1,hw,d4⟩,fun e=>by cases e⟩ d5)
   ·have o1:R8 most (u'+c1) v1.Q2 = .H1 [B9,O2 false]:=by unfold R8;rw[if_neg aR]
    have o2:L5 most (u'+c1)=[j0 (most:Int),j0 (most:Int)]:=by unfold L5;rw[if_neg aR]
    have d7:¬u+c<=most:=oO;have d1:k+1<=n+1:=oO;have d5:0<n - k+1:=oO;rw[o1,o2]at W1;refine N1 H0 (M0 W1) ?_;refine K2 ?_;refine m5 ?_;refine G2 [] tT (ih (B9,false,k+1,most) ⟨rfl,rfl,fun e=>(by cases e),fun _=>⟨rfl,rfl,d7,d1⟩⟩ d5)
  ·have e0:n - k=0:=oO;rw[e0,xS]at hc;simp only[uC,uD]at hc;obtain⟨rfl,rfl⟩:=hc;have Gd0:(n:Int)<=(k:Int):=oO;have qC:u+c<=most:=oO;have o3:R8 most (u+c) q.Q2 = .H1 [q.Q2,O2 true]:=by unfold R8;rw[if_pos qC]
   have o4:L5 most (u+c)=[j0 (u':Int),j0 (most:Int)]:=by unfold L5;rw[if_pos qC];rw[<- gK];simp
   rw[o3,o4]at hR;refine T7 ?_;refine K2 ?_;exact s7 [(b,[j0 (u':Int),j0 (most:Int)])] tT
theorem Jn{most:Nat}{ev:U9}(hN:iX most ev):∀{l:List MV} {f v:MV} {c M:Nat},iR ev f l=some (v,c)->f.nle M->MV.nles M l->v.nle (M+c)
 | [],f,v,c,M,h,hf,hl=>by
  have:iR ev f []=some (f,0):=by cases f <;> rfl
  rw[this]at h;simp only[uC,uD]at h;obtain⟨rfl,rfl⟩:=h;exact hf
 | a::l,f,v,c,M,h,hf,hl=>by
  cases f with
  | Z3 n=>cases h
  | list q=>cases h
  | both p q=>cases h
  | Z4=>cases h
  | m6 body e=>
   simp only[iR]at h;split at h;· cases h
   rename_i v1 c1 eJ;split at h;· cases h
   rename_i w c2 hw;simp only[uC,uD]at h;obtain⟨rfl,rfl⟩:=h;simp only[MV.nle]at hf;simp only[MV.nles]at hl;have k:=hN M eJ (by simp only[MV.nles];exact⟨hl.1,hf⟩);have:=Jn hN hw k (MV.nles_mono oO _ hl.2);rw[Ie]at this;exact this
theorem fx0{most:Nat}{ev:U9}(hN:iX most ev){f:MV}:∀{n k:Nat} {r v:MV} {c M:Nat},xS ev f n k r=some (v,c)->f.nle M->r.nle M->k+n<=M->v.nle (M+c)
 | 0,k,r,v,c,M,h,hf,hr,hk=>by
  simp only[xS,uC,uD]at h;obtain⟨rfl,rfl⟩:=h;exact hr
 | n+1,k,r,v,c,M,h,hf,hr,hk=>by
  simp only[xS]at h;split at h;· cases h
  rename_i v1 c1 eJ;split at h;· cases h
  rename_i w c2 hw;simp only[uC,uD]at h;obtain⟨rfl,rfl⟩:=h;have k1:=Jn hN eJ hf (by simp only[MV.nles,MV.nle];exact⟨oO,hr,trivial⟩);have:=fx0 hN hw (MV.nle_mono oO _ hf) k1 oO;rw[Ie]at this;exact this
theorem WX{most:Nat}{ev:U9}(hN:iX most ev){f r:MV}:∀{l:List Nat} {v:MV} {c M:Nat},oD ev f r l=some (v,c)->f.nle M->r.nle M->(l.length<=M/\∀n∈l,n<=M)->v.nle (M+c)
 | [],v,c,M,h,hf,hr,hl=>by
  simp only[oD,uC,uD]at h;obtain⟨rfl,rfl⟩:=h;exact hr
 | x::l,v,c,M,h,hf,hr,hl=>by
  simp only[oD]at h;split at h;· cases h
  rename_i v1 c1 eJ;split at h;· cases h
  rename_i w c2 hw;simp only[uC,uD]at h;obtain⟨rfl,rfl⟩:=h;have gQ:l.length+1<=M:=by simpa using hl.1
  have k1:=WX hN eJ hf hr ⟨oO,fun n hn=>hl.2 n (iJ _ hn)⟩;have hx:x<=M:=hl.2 x sS
  have k2:=Jn hN hw (MV.nle_mono (show M<=M+c1 from oO) _ hf) (by
   simp only[MV.nles,MV.nle];exact⟨oO,⟨oO,fun n hn=>cH (hl.2 n (iJ _ hn)) oO⟩,k1,trivial⟩)
  rw[Ie]at k2;exact k2
theorem vB{most:Nat}{ev:U9}(hN:iX most ev){e:List MV}:∀{l:List Tm} {vs:List MV} {c M:Nat},bF ev l e=some (vs,c)->MV.nles M e->MV.nles (M+c) vs
 | [],vs,c,M,h,he=>by
  simp only[bF,uC,uD]at h;obtain⟨rfl,rfl⟩:=h;simp only[MV.nles]
 | t::l,vs,c,M,h,he=>by
  simp only[bF]at h;split at h;· cases h
  rename_i v1 c1 eJ;split at h;· cases h
  rename_i w c2 hw;simp only[uC,uD]at h;obtain⟨rfl,rfl⟩:=h;simp only[MV.nles];exact⟨MV.nle_mono oO _ (hN M eJ he),MV.nles_mono oO _ (vB hN hw he)⟩
theorem wf0{ev:U9}(hN:iX most ev){l:List MV}{M:Nat}(h:JW ev k l=some (v,c))(hl:MV.nles M l):v.nle (M+1+c):=by
 unfold JW at h;repeat' split at h
 all_goals first
  | (cases h;done)
  | skip
 all_goals try simp only[MV.nles,MV.nle]at hl
 ·exact Jn hN h (MV.nle_mono oO _ hl.1) (by simp only[MV.nles];exact⟨MV.nle_mono oO _ hl.2.1,trivial⟩)
 ·simp only[uC,uD]at h;obtain⟨rfl,rfl⟩:=h;simp only[MV.nle];omega
 ·simp only[uC,uD]at h;obtain⟨rfl,rfl⟩:=h;simp only[MV.nle];omega
 ·exact fx0 hN h (MV.nle_mono oO _ hl.2.1) (MV.nle_mono oO _ hl.1) oO
 ·simp only[uC,uD]at h;obtain⟨rfl,rfl⟩:=h;simp only[MV.nle];simp
 ·simp only[uC,uD]at h;obtain⟨rfl,rfl⟩:=h;simp only[MV.nle,u5,B4];refine⟨oO,?_⟩;rintro n (rfl|hn);· omega
  ·exact cH (hl.2.1.2 n hn) oO
 ·exact WX hN h (MV.nle_mono oO _ hl.2.1) (MV.nle_mono oO _ hl.1) ⟨oO,fun n hn=>cH (hl.2.2.1.2 n hn) oO⟩
 ·simp only[uC,uD]at h;obtain⟨rfl,rfl⟩:=h;simp only[MV.nle];exact⟨MV.nle_mono oO _ hl.1,MV.nle_mono oO _ hl.2.1⟩
 ·simp only[uC,uD]at h;obtain⟨rfl,rfl⟩:=h;exact MV.nle_mono oO _ hl.1.1
 ·simp only[uC,uD]at h;obtain⟨rfl,rfl⟩:=h;exact MV.nle_mono oO _ hl.1.2
 ·simp only[uC,uD]at h;obtain⟨rfl,rfl⟩:=h;simp only[MV.nle]
theorem RZ(most:Nat):∀d,iX most (cE d)
 | 0,t,e,v,c,M,h,he=>by cases h
 | d+1,t,e,v,c,M,h,he=>by
  have hN:=RZ most d;rw[cE]at h;split at h
  ·split at h
   ·rename_i hi;simp only[uC,uD]at h;obtain⟨rfl,rfl⟩:=h;have hg:e[t.O0.toNat]? = some (e.getD t.O0.toNat .Z4):=by simp[List.getD,uB hi.2]
    exact MV.nle_mono oO _ (WW he hg)
   ·cases h
  split at h
  ·split at h;· cases h
   ·simp only[uC,uD]at h;obtain⟨rfl,rfl⟩:=h;simp only[MV.nle];exact MV.nles_mono oO _ he
  split at h;· cases h
  split at h;· cases h
  rename_i l c1 hl;split at h;· cases h
  rename_i w c2 hw;simp only[uC,uD]at h;obtain⟨rfl,rfl⟩:=h;unfold SI at hw;split at hw
  ·have:=wf0 hN hw (vB hN hl he);exact MV.nle_mono oO _ this
  ·cases hw
theorem zx0:∀{d:Nat} {t:Tm} {e:List MV} {v:MV} {c:Nat},cE d t e=some (v,c)->1<=c
 | 0,t,e,v,c,h=>by cases h
 | d+1,t,e,v,c,h=>by
  rw[cE]at h;repeat' split at h
  all_goals first
   | (cases h;done)
   | (simp only[uC,uD]at h;omega)
theorem wg0:NA [] (some [])=some (True,.ag [] []):=rfl
attribute [go_sem] wg0
theorem LQ(l:List Nat):(MV.list l).Q2 = .iface 194 (n9 l):=by rw[MV.Q2]
theorem VT(x y:MV):(MV.both x y).Q2 = .iface 200 (.ref [x.Q2,y.Q2]):=by rw[MV.Q2]
theorem oQ0:MV.Z4.Q2 = .iface 204 (.agg []):=by rw[MV.Q2]
theorem Ra:n9 []=Nw:=rfl
theorem LR(n:Nat)(l:List Nat):n9 (n::l) = .ref [j0 (n:Int),n9 l]:=rfl
theorem nU(h:n<=most)(v:DV):R8 most n v = .H1 [v,O2 true]:=by unfold R8;rw[if_pos h]
theorem wW(h:¬n<=most)(v:DV):R8 most n v = .H1 [B9,O2 false]:=by unfold R8;rw[if_neg h]
theorem G6(h:n<=most):L5 most n=[j0 (n:Int),j0 (most:Int)]:=by unfold L5;rw[if_pos h]
theorem nW(h:¬n<=most):L5 most n=[j0 (most:Int),j0 (most:Int)]:=by unfold L5;rw[if_neg h]
def SJ(P:Program)(gl:X8)(ff:FuncId)(most:Nat)(ev:U9):Prop:=
 ∀ ⦃r f v:MV⦄ ⦃l:List Nat⦄ ⦃u c:Nat⦄ (b M:Nat),oD ev f r l=some (v,c)->u<=most->M+(most - u)<=1073741824->r.nle M->f.nle M->(l.length<=M/\∀n∈l,n<=M) ->
  P8 P gl ff [M3 b,.agg (iY [r,f,.list l])] [(b,L5 most u)] (R8 most (u+c) v.Q2) [(b,L5 most (u+c))]
theorem zy0(hm:most<=1073741824)(t:Tm)(b:Nat)(hu:u<=most)(h1:t.o0=1)(hi:0<=t.O0/\t.O0.toNat<e.length):
  cT 53 [M3 b,t.dv,MV.envM e] [(b,L5 most u)] (R8 most (u+1) (e.getD t.O0.toNat .Z4).Q2) [(b,L5 most (u+1))]:=by
 rw[G6 hu];have hti:(t.O0.toNat:Int)=t.O0:=If hi.1;have W1:=rG0 e t.O0.toNat hi.2;rw[hti]at W1;by_cases T4:u+1<=most
 ·rw[G6 T4,nU T4];have aE:¬(most:Int)<=(u:Int):=oO;refine A3 mO fun X zX=>?_;refine U1 (j2 @aE @h1) ?_;refine N1 H0 (M0 W1) ?_;exact s7 [(b,[j0 ((u+1:Nat):Int),j0 (most:Int)])] tT
 ·rw[nW T4,wW T4];have aE:(most:Int)<=(u:Int):=oO;have On:(u:Int)=(most:Int):=oO;refine A3 mO fun X zX=>?_;refine U1 @aE ?_;exact s7 [(b,[j0 (most:Int),j0 (most:Int)])] @On
theorem zz0(hm:most<=1073741824)(t:Tm){e:List MV}(b:Nat)(hu:u<=most)(h2:t.o0=2){body:Tm}{rest:List Tm}(ha:t.B0=body::rest):
  cT 53 [M3 b,t.dv,MV.envM e] [(b,L5 most u)] (R8 most (u+1) (MV.m6 body e).Q2) [(b,L5 most (u+1))]:=by
 rw[G6 hu];by_cases T4:u+1<=most
 ·rw[G6 T4,nU T4,d60];have aE:¬(most:Int)<=(u:Int):=oO;have hg:(t.B0.map E3)[0]? = some [j0 body.o0,j0 body.O0,j0 body.I0.o0,.sl (body.I0.B0.map P1),.sl (body.B0.map E3)]:=by rw[ha];simp[O3]
  have dY:t.B0[0]? = some body:=by rw[ha];rfl
  have hT:=P5 body;refine H2 mO ?_;intro X hP G0 hf X0 hn hR K1 G1;refine U1 (j2 @aE @h2) ?_;refine O9 [42] fun K hK=>?_;simp[go_sem,hP,G0,hn,hg,dY,hT,O3];refine WV (cs:=[j0 body.o0,j0 body.O0,j0 body.I0.o0,.sl (body.I0.B0.map P1),.sl (body.B0.map E3),MV.envM e]) (y:=.ag [j0 body.o0,j0 body.O0,j0 body.I0.o0,.sl (body.I0.B0.map P1),.sl (body.B0.map E3),MV.envM e] []) sH sG sG nN (by rfl) ?_;simp[go_sem,hP,G0,hn];refine K4 ?_;clear hK K;exact s7 [(b,[j0 ((u+1:Nat):Int),j0 (most:Int)])] tT
 ·rw[nW T4,wW T4];have aE:(most:Int)<=(u:Int):=oO;have On:(u:Int)=(most:Int):=oO;refine H2 mO ?_;intro X hP G0 hf X0 hn hR K1 G1;refine U1 @aE ?_;exact s7 [(b,[j0 (most:Int),j0 (most:Int)])] @On
def fL(l:List DV):List (List DV):=l.map fun x=>[x]
theorem cw0(l:List DV):(fL l).length=l.length:=by simp[fL]
theorem wh0{l:List DV}{x:DV}(h:l[i]? = some x):(fL l)[i]? = some [x]:=by simp[fL,h]
attribute [go_sem] cw0
theorem lr0(l:List DV):lF W0 gl 243 [.sl (fL l)] [] fun r φ=>∃b,r = .K0 (.func (.func 317) #[] #[.pointer (some ⟨b,0,none⟩)])/\φ=[(b,[.sl (fL l)])]:=by
 refine H2 Tryz.func243 ?_;intro X hP G0 hf X0 hn hR K1 G1;refine K2 ?_;refine fG 1 (by simp[go_sem];rfl) ?_;intro b hb;simp[go_sem];refine K2 ?_;refine Q1 ?_;refine gA hP hf X0 (.K0 (.func (.func 317) #[] #[.pointer (some ⟨b,0,none⟩)])) [(b,[.sl (fL l)])] sH sG sS (by rw[hR.1];exact⟨b,rfl,rfl⟩) hR.2
def gJ0(P:Program)(gl:X8)(l:List DV)(φ:Nat->G3)(Stop:G3->Loop->Prop)(lp:Nat)(r:Loop)(D0:Nat->Nat->Prop)(w0:World):Prop:=
 ∀(i:Nat) (x:DV),l[i]? = some x->YC P gl D0 w0 lp r [j0 i,x] (φ (i+1)) fun b I2 r'=>if b=true then I2=φ i/\r' = r else Stop I2 r'
theorem oR0(l:List DV)(hlen:l.length<=2147483648)(b0:Nat)(φ:Nat->G3)(S4:∀i,(φ i).map (·.1)=(φ 0).map (·.1))(A4:((φ 0).map (·.1)).Nodup)(dF:b0∉(φ 0).map (·.1)){Stop:G3->Loop->Prop}(Pi:∀ψ r',Stop ψ r'->ψ.map (·.1)=(φ 0).map (·.1))(lp:Nat)(r:Loop)(kT:r.params.size=2) :
  NE W0 gl 317 [.K0 (.func (.yield lp) #[] #[]),M3 b0] ((b0,[.sl (fL l)])::φ l.length) lp r (gJ0 W0 gl l φ Stop lp r) (fun I2 r'=>(I2=(b0,[.sl (fL l)])::φ 0/\r' = r)\/∃ψ,I2=(b0,[.sl (fL l)])::ψ/\Stop ψ r'):=by
 refine Wh jW0 rfl kK (uF rfl) ?_;intro X hP G0 hf X0 hn t9 K1 G1 HL hY;simp only[G4,u5,not_or,S4]at HL;obtain⟨o8,BP⟩:=HL;have V7:∀(i:Nat) (A:St),(∀m v,(m,v)∈A->∀b∈(φ 0).map (·.1),m≠.heap b)->v7 (get (A++U3 (φ i))) (φ i):=fun i A h=>Vo (by rw[S4];exact A4) (by rw[S4];exact h);simp only[GH,entry,bA,U3,G4,O5,R6,aT];refine R4 @o8 ?_;refine Q1 ?_;refine Sn (A':=[(.P0 3,.one (.v (j0 ((l.length:Int) - 1 - (0:Nat))))),(.P0 0,.one (.v (.K0 (.func (.yield lp) #[] #[])))),(.P0 1,.one (.v (M3 b0))),(.heap lp,.ob r),(.heap b0,.row [.v (.sl (fL l))])]) (A:=[_,_,_,_,_,_,_,_]) ?_ ?_ ?_
 ·intro m v h;simp only[u5,mL,or_false,uD]at h;rcases h with⟨rfl,rfl⟩|⟨rfl,rfl⟩|⟨rfl,rfl⟩|⟨rfl,rfl⟩|⟨rfl,rfl⟩ <;> simp[go_sem,o8]
 ·simp only[R6,aT];refine xF (X:=X) l.length (fun _=>True) (fun j=>(.P0 3,.one (.v (j0 ((l.length:Int) - 1 - (j:Nat)))))::(.P0 0,.one (.v (.K0 (.func (.yield lp) #[] #[]))))::(.P0 1,.one (.v (M3 b0)))::(.heap lp,.ob r)::(.heap b0,.row [.v (.sl (fL l))])::U3 (φ (l.length - j))) tT ?_ ?_
  ·intro j hj _ Z1;obtain⟨i,hi⟩:∃i:Nat,l.length=j+1+i:=⟨l.length - (j+1),oO⟩;have AE:(l.length:Int) - 1 - (j:Nat)=(i:Nat):=oO;have kA:l.length - j=i+1:=oO;have hi3:l.length - (j+1)=i:=oO;have hx:l[i]? = some l[i]:=uB oO;rw[AE,kA];rw[hi3]at Z1;generalize l[i]=x at hx;have vR:=wh0 hx;refine K5 ?_;refine U6 (j2 @o8 @vR) fun K hK=>?_;repeat (refine⟨oO,?_⟩)
   refine VF sG hP G0 (hY i x hx) kT sG rfl ?_ (by rw[S4];exact A4) sG nN [(.P0 3,.one (.v (j0 (i:Nat)))),(.P0 0,.one (.v (.K0 (.func (.yield lp) #[] #[])))),(.P0 1,.one (.v (M3 b0))),(.heap b0,.row [.v (.sl (fL l))])] ?_ ?_ ?_
   ·repeat (first|refine IH ?_|refine II (by rw[S4];assumption) ?_)
    exact Bh (by rw[S4];exact A4)
   ·intro m v h;simp only[u5,mL,or_false,uD]at h;rw[S4];rcases h with⟨rfl,rfl⟩|⟨rfl,rfl⟩|⟨rfl,rfl⟩|⟨rfl,rfl⟩;· simp[go_sem]
    ·simp[go_sem]
    ·simp[go_sem]
    ·refine⟨by simp[go_sem,o8],sS,by simp;exact fun e=>o8 e.symm,fun b hb e=>?_⟩;cases e;exact dF hb
   ·intro b I2 r' h;have:I2.map (·.1)=(φ 0).map (·.1):=by
     split at h;· rw[h.1,S4]
     ·exact Pi _ _ h
    rw[this];exact⟨A4,BP⟩
   ·intro b I2 r' h _;simp only[R6,aT];cases b with
    | true=>
     simp only[if_true]at h;obtain⟨rfl,rfl⟩:=h;simp[go_sem,hP,G0,hn];refine K4 ?_;clear hK K;refine Z6 ?_;refine K2 ?_;refine Q1 ?_;refine Sn (A':=[(.P0 3,.one (.v (j0 ((l.length:Int) - 1 - (j+1:Nat))))),(.P0 0,.one (.v (.K0 (.func (.yield lp) #[] #[])))),(.P0 1,.one (.v (M3 b0))),(.heap lp,.ob r'),(.heap b0,.row [.v (.sl (fL l))])]) (A:=[_,_,_,_,_,_,_,_,_]) ?_ (Z1 tT) ?_
     ·intro m v h;simp only[u5,mL,or_false,uD]at h;rcases h with⟨rfl,rfl⟩|⟨rfl,rfl⟩|⟨rfl,rfl⟩|⟨rfl,rfl⟩|⟨rfl,rfl⟩ <;> simp[go_sem,o8];omega
     ·intro m v h;simp only[u5,mL,or_false,uD]at h;rw[S4];intro b hb;rcases h with⟨rfl,rfl⟩|⟨rfl,rfl⟩|⟨rfl,rfl⟩|⟨rfl,rfl⟩|⟨rfl,rfl⟩|⟨rfl,rfl⟩|⟨rfl,rfl⟩|⟨rfl,rfl⟩|⟨rfl,rfl⟩ <;> first|(simp;done)|(intro e;cases e;first|exact dF hb|exact BP hb)
    | false=>
     simp only[Bool.false_eq_true,if_false]at h;have oR:=Pi _ _ h;simp[go_sem,hP,G0,hn];refine K4 ?_;clear hK K;refine sZ ?_;refine Q1 ?_;refine MI t9 (φ:=(b0,[.sl (fL l)])::I2) (q:=r') (r:=.H1 []) (by rw[hP,hf,X0];exact jW0) (by rw[X0];simp[go_sem]) (cZ ?_ ?_) ?_ ?_ (.inr ⟨I2,rfl,h⟩) Rs;· simp[go_sem,o8]
     ·repeat (first|refine IH ?_|refine II (by rw[oR];assumption) ?_)
      exact Bh (by rw[oR];exact A4)
     ·simp only[G4,Ck,oR];exact⟨dF,A4⟩
     ·simp[go_sem,o8]
  ·intro _;refine T7 ?_;refine Q1 ?_;refine MI t9 (φ:=(b0,[.sl (fL l)])::φ 0) (q:=r) (r:=.H1 []) (by rw[hP,hf,X0];exact jW0) (by rw[X0];simp[go_sem]) (cZ ?_ ?_) ?_ ?_ (.inl ⟨rfl,rfl⟩) Ml;· simp[go_sem,o8]
   ·repeat (first|refine IH ?_|refine II (by assumption) ?_)
    exact Bh A4
   ·simp only[G4,Ck];exact⟨dF,A4⟩
   ·simp[go_sem,o8]
 ·intro m v h;simp only[u5,mL,or_false,uD]at h;rw[S4];intro b hb;rcases h with⟨rfl,rfl⟩|⟨rfl,rfl⟩|⟨rfl,rfl⟩|⟨rfl,rfl⟩|⟨rfl,rfl⟩|⟨rfl,rfl⟩|⟨rfl,rfl⟩|⟨rfl,rfl⟩ <;> first|(simp;done)|(intro e;cases e;first|exact dF hb|exact BP hb)
def cellsOf:List Nat->List DV
 | []=>[]
 | n::l=>n9 (n::l)::cellsOf l
theorem bH0:∀l,(cellsOf l).length=l.length
 | []=>rfl
 | n::l=>by simp[cellsOf,bH0 l]
theorem cx0:∀{l:List Nat} {i:Nat},i<l.length->(cellsOf l)[i]? = some (n9 (l.drop i))
 | n::l,0,_=>rfl
 | n::l,i+1,h=>by simpa [cellsOf] using cx0 (l:=l) (i:=i) (by simpa using h)
theorem d70{ev:U9}{f r:MV}:∀{l:List Nat} {v:MV} {c:Nat} (i:Nat),oD ev f r l=some (v,c)->∃v' c',oD ev f r (l.drop i)=some (v',c')/\c'<=c
 | l,v,c,0,h=>⟨v,c,h,I5 _⟩
 | [],v,c,i+1,h=>⟨v,c,h,I5 _⟩
 | x::l,v,c,i+1,h=>by
  simp only[oD]at h;split at h;· cases h
  rename_i v1 c1 eJ;split at h;· cases h
  rename_i w c2 hw;simp only[uC,uD]at h;obtain⟨rfl,rfl⟩:=h;obtain⟨v',c',h1,h2⟩:=d70 i eJ;exact⟨v',c',h1,oO⟩
theorem rI0{ev:U9}{f r:MV}{x:Nat}{l:List Nat}(h:oD ev f r (x::l)=some (v,c)):∃v1 c1 c2,oD ev f r l=some (v1,c1)/\iR ev f [.Z3 x,.list l,v1]=some (v,c2)/\c=c1+c2:=by
 simp only[oD]at h;split at h;· cases h
 rename_i v1 c1 eJ;split at h;· cases h
 rename_i w c2 hw;simp only[uC,uD]at h;obtain⟨rfl,rfl⟩:=h;exact⟨v1,c1,c2,eJ,hw,rfl⟩
def EM(ev:U9)(f r:MV)(l:List Nat)(i:Nat):MV × Nat:=(oD ev f r (l.drop i)).getD (.Z4,0)
theorem zA0{M c1:Nat}(h:M+(most - u)<=1073741824)(k:u+c1<=most):M+c1+(most - (u+c1))<=1073741824:=oO
theorem wi0(hm:most<=1073741824){ev:U9}(H:lD W0 gl 53 most ev)(hN:iX most ev):SJ W0 gl 156 most ev:=by
 intro r f v l u c b M h hu hM dW B6 ZI;have z0:V5 [r,f,.list l] 0=r.Q2:=rfl;have z1:V5 [r,f,.list l] 1=f.Q2:=rfl;have z2:V5 [r,f,.list l] 2 = .iface 194 (n9 l):=LQ l;have AB:(l.length:Int)<=1073741824:=oO;unfold iY;rw[z0,z1,z2,G6 hu];refine H2 Tryz.func156 ?_;intro X hP G0 hf X0 hn hR K1 G1;refine N2 ?_;refine Q1 ?_;refine G2 [(1006,0)] @fL.eq_1 (mQ (fun x:List DV × List Nat=>x.1++cellsOf x.2=cellsOf l/\x.1.length+x.2.length=l.length) (fun x:List DV × List Nat=>[(.P0 6,.one (.own 1006 (fL x.1))),(.tok 1006,.tk 1 x.1.length),sV 7 (n9 x.2),sV 4 B9,sV 5 (O2 false),sP 2,sL 2 [.v (M3 b)],sP 3,sL 3 [.v r.Q2,.v f.Q2,.v (.iface 194 (n9 l))],sB  b [.v (j0 (u:Int)),.v (j0 (most:Int))]]) (fun x:List DV × List Nat=>x.2.length) (([]:List DV),l) (⟨rfl,sS⟩) ?_);rintro⟨cs,q⟩ ⟨Ue,pU⟩ ih;simp only at Ue pU;cases q with
 | cons n q=>
  have gJ:=LR n q;have TN:=cw0 cs;simp only[B4]at pU;have hle:(cs.length:Int)+1<=1073741824:=oO;have bT:cs.length<=2147483647:=oO;have Fd:∀e:List DV,e∈fL cs->e.length=1:=by intro e he;simp only[fL,F9]at he;obtain⟨x,-,rfl⟩:=he;rfl
  have F70:fL cs++[[Lu [j0 (n:Int),n9 q]]]=fL (cs++[Lu [j0 (n:Int),n9 q]]):=by simp[fL]
  have e1:(cs++[Lu [j0 (n:Int),n9 q]])++cellsOf q=cellsOf l:=by rw[<- Ue,cellsOf,gJ];simp
  have e2:(cs++[Lu [j0 (n:Int),n9 q]]).length+q.length=l.length:=by simp;omega
  have e3:q.length<(n::q).length:=sS;rw[gJ];refine K5 ?_;refine R4 (j3 @bT @Fd @TN) ?_;refine K2 ?_;have gQ:(cs++[Lu [j0 (n:Int),n9 q]]).length=cs.length+1:=sS;refine m5 ?_;refine G2 [(1006,24)] (j3 @F70 @TN @gQ) (ih (cs++[Lu [j0 (n:Int),n9 q]],q) ⟨e1,e2⟩ e3)
 | nil=>
  simp only[cellsOf,KX]at Ue;subst Ue;have gJ:=Ra;rw[gJ];refine T7 ?_;refine K2 ?_;refine U6 tT fun K hK=>?_;repeat (refine⟨oO,?_⟩)
  refine IV hP G0 (lr0 (cellsOf l)) sG rfl sG sS nN ?_;rintro rr ψ ⟨b0,rfl,rfl⟩ cS;simp[go_sem]at cS ⊢;refine K4 ?_;clear hK K;refine Q1 ?_;refine fG 2 (by simp[go_sem];rfl) ?_;intro b2 Z8;simp[go_sem,cS]at Z8 ⊢;refine fG 3 (by simp[go_sem];rfl) ?_;intro b3 BZ;simp[go_sem,cS,Z8]at BZ ⊢;refine fG 8 (by simp[go_sem];rfl) ?_;intro b8 NW;simp[go_sem,cS,Z8,BZ]at NW ⊢;refine fG 9 (by simp[go_sem];rfl) ?_;intro b9 hb9;simp[go_sem,cS,Z8,BZ,NW]at hb9 ⊢;have jA:¬b0=b:=fun e=>cS e.symm;obtain⟨q1,q2⟩:=Z8;obtain⟨q3,q4,q5⟩:=BZ;obtain⟨q6,q7,q8,q9⟩:=NW;obtain⟨eL,eK,fA,iI,iE⟩:=hb9;have jH:¬b9=b:=fun e=>iE e.symm;have jK:¬b8=b:=fun e=>q9 e.symm;have jJ:¬b3=b:=fun e=>q5 e.symm;have jD:¬b2=b:=fun e=>q2 e.symm;have p1:=f8 q1;have p3:=f8 q3;have p4:=f8 q4;have p6:=f8 q6;have p7:=f8 q7;have p8:=f8 q8;have jB:=f8 eL;have jL:=f8 eK;have jG:=f8 fA;have jE:=f8 iI;have hS:∀i,oD ev f r (l.drop i)=some (EM ev f r l i)/\(EM ev f r l i).2<=c:=by
   intro i;obtain⟨v',c',e1,e2⟩:=d70 i h;unfold EM;rw[e1];exact⟨rfl,e2⟩
  have hS0:EM ev f r l 0=(v,c):=by unfold EM;rw[List.drop_zero,h];rfl
  have hSl:EM ev f r l l.length=(r,0):=by unfold EM;rw[List.drop_length];rfl
  generalize hSS:EM ev f r l=S at hS hS0 hSl
  let Φ:Nat->G3:=fun i=>[(b2,[M3 b]),(b3,[r.Q2,f.Q2,.iface 194 (n9 l)]),(b8,[if u+(S i).2<=most then (S i).1.Q2 else B9]),(b9,[O2 (decide (u+(S i).2<=most))]),(b,L5 most (u+(S i).2))]
  have ak0:(cellsOf l).length=l.length:=bH0 l;have NK:Φ (cellsOf l).length=[(b2,[M3 b]),(b3,[r.Q2,f.Q2,.iface 194 (n9 l)]),(b8,[r.Q2]),(b9,[O2 true]),(b,[j0 (u:Int),j0 (most:Int)])]:=by
   simp only[Φ,ak0,hSl,qI,if_pos hu,G6 hu,decide_eq_true hu]
  refine Vn hR.2 (f:=317) (fi:=#[]) (ca:=#[.pointer (some ⟨b0,0,none⟩)]) sG (by simp[aY]) (φ:=(b0,[.sl (fL (cellsOf l))])::Φ (cellsOf l).length) ?_ ?_ (Y:=gJ0 X.P X.gl (cellsOf l) Φ (fun ψ r'=>∃i,ψ=Φ i/\¬u+(S i).2<=most/\r'.state = .done/\r'.pending=some (.exit 2))) (R:=fun I2 r'=>(I2=(b0,[.sl (fL (cellsOf l))])::Φ 0/\r'.state = .ready/\r'.pending=none)\/∃i,I2=(b0,[.sl (fL (cellsOf l))])::Φ i/\¬u+(S i).2<=most/\r'.state = .done/\r'.pending=some (.exit 2)) (SL:=[(2,M3 b2),(3,M3 b3),(8,M3 b8),(9,M3 b9)]) ?_ ?_ ?_ ?_ ?_
  ·rw[NK];refine cZ ?_ (cZ ?_ (cZ ?_ (cZ ?_ (cZ ?_ (cZ ?_ (by simp[v7]))))));all_goals simp[go_sem,cS,jA,q1,q2,q3,q4,q5,q6,q7,q8,q9,eL,eK,fA,iI,iE,jH,jK,jJ,jD,p1,p3,p4,p6,p7,p8,jB,jL,jG,jE]
  ·rw[NK];simp[cS,jA,q1,q2,q3,q4,q5,q6,q7,q8,q9,eL,eK,fA,iI,iE,jH,jK,jJ,jD,p1,p3,p4,p6,p7,p8,jB,jL,jG,jE];try (refine⟨?_,?_⟩ <;> (intro e;subst e;simp_all))
  ·intro n x h;simp only[u5,mL,or_false,uD]at h;rcases h with⟨rfl,rfl⟩|⟨rfl,rfl⟩|⟨rfl,rfl⟩|⟨rfl,rfl⟩ <;> simp[go_sem]
  ·intro lp rr h1 h2 h3 h4;have:=oR0 (cellsOf l) (by rw[ak0];omega) b0 Φ (fun _=>rfl) (by simp only[Φ];simp[cS,jA,q1,q2,q3,q4,q5,q6,q7,q8,q9,eL,eK,fA,iI,iE,jH,jK,jJ,jD,p1,p3,p4,p6,p7,p8,jB,jL,jG,jE];try (intro e;subst e;simp_all)) (by simp only[Φ];simp[cS,jA,q1,q2,q3,q4,q5,q6,q7,q8,q9,eL,eK,fA,iI,iE,jH,jK,jJ,jD,p1,p3,p4,p6,p7,p8,jB,jL,jG,jE]) (Stop:=fun ψ r'=>∃i,ψ=Φ i/\¬u+(S i).2<=most/\r'.state = .done/\r'.pending=some (.exit 2)) (by rintro ψ r' ⟨i,rfl,-⟩;rfl) lp rr (by rw[h3];rfl);rw[hP,G0];refine⟨this.1,fun D w vs a1 a2 a3 a4 a5 a6=>(this.2 D w vs a1 a2 a3 a4 a5 a6).mono ?_⟩;rintro e w' ⟨v1,D',I2,r',rfl,NQ,rest⟩;refine⟨v1,D',I2,r',rfl,?_,rest⟩;rcases NQ with⟨rfl,rfl⟩|⟨ψ,kS,i,rfl,k1,k2,k3⟩;· exact .inl ⟨rfl,h1,h2⟩
   ·exact .inr ⟨i,kS,k1,k2,k3⟩
  ·intro lp rr D0 w0 h1 h2 h3 h4 h5 h6 h7 h8 h9 i x hx;rw[hP,G0];have J8:i<l.length:=by have:=(uA hx).1;rw[ak0]at this;exact this
   rw[cx0 J8,uC]at hx;subst hx;refine WH X.n h5 h9 h1 (by rw[h3];rfl) (by rw[h3,hn];decide) (by rw[h3];decide) (by rw[h3];simp) ?_;intro X' Ic OI Fp pV AA oR L8 hY0;rw[h3,h6,h7];rw[hn]at pV;clear hP G0 hn;have hP:=Ic;have G0:=OI;have hn:=pV;have fU:¬lp=b2/\¬lp=b3/\¬lp=b8/\¬lp=b9/\¬lp=b:=by simpa [Φ] using L8
   obtain⟨x2,x3,x8,x9,xb⟩:=fU;have i2:=f8 x2;have i3:=f8 x3;have i8:=f8 x8;have i9:=f8 x9;have ib:=f8 xb;obtain⟨n,OF⟩:∃n,l.drop i=n::l.drop (i+1):=⟨l[i],Ln J8⟩;have gJ:=LR n (l.drop (i+1));have hfS:=(hS i).1;rw[OF]at hfS ⊢;obtain⟨v1,c1,c2,g1,g2,g3⟩:=rI0 hfS;have Tk:=(hS (i+1)).1;rw[g1,uC]at Tk;rw[gJ];by_cases Q6:u+c1<=most
   ·have TP:Φ (i+1)=[(b2,[M3 b]),(b3,[r.Q2,f.Q2,.iface 194 (n9 l)]),(b8,[v1.Q2]),(b9,[O2 true]),(b,[j0 ((u+c1:Nat):Int),j0 (most:Int)])]:=by
     simp only[Φ,<- Tk,if_pos Q6,G6 Q6,decide_eq_true Q6]
    have kE:∀n'∈l.drop (i+1),n'<=M:=fun n' pV=>ZI.2 n' (FB pV);have qA:(l.drop (i+1)).length<=M:=by have:=ZI.1;rw[List.length_drop];omega
    have hnM:n<=M:=ZI.2 n (FB (by rw[OF];exact jU0));have eJ:=WX hN g1 B6 dW ⟨qA,kE⟩;have w1:f.nle (M+c1):=MV.nle_mono (aT0 M c1) f B6;have w2:M+c1+(most - (u+c1))<=1073741824:=zA0 hM Q6;have w3:MV.nles (M+c1) [.Z3 n,.list (l.drop (i+1)),v1]:=by
     simp only[MV.nles,MV.nle];exact⟨oO,⟨oO,fun n' pV=>cH (kE n' pV) (aT0 M c1)⟩,eJ,trivial⟩
    have W1:=RB hm H hN b (M+c1) g2 Q6 w2 w1 w3;rw[G6 Q6]at W1;simp only[Y3,Gn,LQ]at W1;rw[TP];simp only[CQ,h3,EH,EB,U3,R6,aT];have J0:=j8 @cS @jA @q1 @q2 @q3 @q4 @q5 (j8 @q6 @q7 @q8 @q9 @eL @eK @fA (j8 @iI @iE @jH @jK @jJ @jD @p1 (j8 @p3 @p4 @p6 @p7 @p8 @jB @jL (j8 @jG @jE @x2 @x3 @x8 @x9 @xb (j5 @i2 @i3 @i8 @i9 @ib)))));refine R4 J0 ?_;refine RQ (r:=rr) (l:=lp) (by simp[Ctx.rd,AA]) sG h1 ?_;simp[go_sem,cS,jA,q1,q2,q3,q4,q5,q6,q7,q8,q9,eL,eK,fA,iI,iE,jH,jK,jJ,jD,p1,p3,p4,p6,p7,p8,jB,jL,jG,jE,x2,x3,x8,x9,xb,i2,i3,i8,i9,ib];refine R4 J0 ?_;refine Z6 ?_;by_cases dU:u+c1+c2<=most
    ·have o1:R8 most (u+c1+c2) (S i).1.Q2 = .H1 [(S i).1.Q2,O2 true]:=nU dU _;have DI:Φ i=[(b2,[M3 b]),(b3,[r.Q2,f.Q2,.iface 194 (n9 l)]),(b8,[(S i).1.Q2]),(b9,[O2 true]),(b,[j0 ((u+c1+c2:Nat):Int),j0 (most:Int)])]:=by
      have e9:u+(S i).2=u+c1+c2:=oO;simp only[Φ,e9,if_pos dU,G6 dU,decide_eq_true dU]
     rw[o1,G6 dU]at W1;refine U6 J0 fun K hK=>?_;refine YE J0 (W1) ?_;refine K4 ?_;clear hK K;refine Q1 ?_;refine MJ AA (φ:=Φ i) ?_ (by simp only[Φ];simp[cS,jA,q1,q2,q3,q4,q5,q6,q7,q8,q9,eL,eK,fA,iI,iE,jH,jK,jJ,jD,p1,p3,p4,p6,p7,p8,jB,jL,jG,jE]) (by simp[go_sem,cS,jA,q1,q2,q3,q4,q5,q6,q7,q8,q9,eL,eK,fA,iI,iE,jH,jK,jJ,jD,p1,p3,p4,p6,p7,p8,jB,jL,jG,jE,x2,x3,x8,x9,xb,i2,i3,i8,i9,ib]) none rfl ?_
     ·rw[DI];refine cZ ?_ (cZ ?_ (cZ ?_ (cZ ?_ (cZ ?_ (by simp[v7])))));all_goals simp[go_sem,cS,jA,q1,q2,q3,q4,q5,q6,q7,q8,q9,eL,eK,fA,iI,iE,jH,jK,jJ,jD,p1,p3,p4,p6,p7,p8,jB,jL,jG,jE,x2,x3,x8,x9,xb,i2,i3,i8,i9,ib]
     ·simp only[bd0,if_true,true_and];cases rr;simp only[xK]at h1 h2 ⊢;subst h1 h2;rfl
    ·have o1:R8 most (u+c1+c2) (S i).1.Q2 = .H1 [B9,O2 false]:=wW dU _;have DI:Φ i=[(b2,[M3 b]),(b3,[r.Q2,f.Q2,.iface 194 (n9 l)]),(b8,[B9]),(b9,[O2 false]),(b,[j0 (most:Int),j0 (most:Int)])]:=by
      have e9:u+(S i).2=u+c1+c2:=oO;simp only[Φ,e9,if_neg dU,nW dU,decide_eq_false dU]
     rw[o1,nW dU]at W1;refine U6 J0 fun K hK=>?_;refine YE J0 (W1) ?_;refine K4 ?_;clear hK K;refine Q1 ?_;refine MJ AA (φ:=Φ i) ?_ (by simp only[Φ];simp[cS,jA,q1,q2,q3,q4,q5,q6,q7,q8,q9,eL,eK,fA,iI,iE,jH,jK,jJ,jD,p1,p3,p4,p6,p7,p8,jB,jL,jG,jE]) (by simp[go_sem,cS,jA,q1,q2,q3,q4,q5,q6,q7,q8,q9,eL,eK,fA,iI,iE,jH,jK,jJ,jD,p1,p3,p4,p6,p7,p8,jB,jL,jG,jE,x2,x3,x8,x9,xb,i2,i3,i8,i9,ib]) none rfl ?_
     ·rw[DI];refine cZ ?_ (cZ ?_ (cZ ?_ (cZ ?_ (cZ ?_ (by simp[v7])))));all_goals simp[go_sem,cS,jA,q1,q2,q3,q4,q5,q6,q7,q8,q9,eL,eK,fA,iI,iE,jH,jK,jJ,jD,p1,p3,p4,p6,p7,p8,jB,jL,jG,jE,x2,x3,x8,x9,xb,i2,i3,i8,i9,ib]
     ·simp only[bd0,if_true,true_and];cases rr;simp only[xK]at h1 h2 ⊢;subst h1 h2;rfl
   ·have TP:Φ (i+1)=[(b2,[M3 b]),(b3,[r.Q2,f.Q2,.iface 194 (n9 l)]),(b8,[B9]),(b9,[O2 false]),(b,[j0 (most:Int),j0 (most:Int)])]:=by
     simp only[Φ,<- Tk,if_neg Q6,nW Q6,decide_eq_false Q6]
    rw[TP];simp only[CQ,h3,EH,EB,U3,R6,aT];have J1:=j8 @cS @jA @q1 @q2 @q3 @q4 @q5 (j8 @q6 @q7 @q8 @q9 @eL @eK @fA (j8 @iI @iE @jH @jK @jJ @jD @p1 (j8 @p3 @p4 @p6 @p7 @p8 @jB @jL (j8 @jG @jE @x2 @x3 @x8 @x9 @xb (j5 @i2 @i3 @i8 @i9 @ib)))));refine R4 J1 ?_;refine RQ (r:=rr) (l:=lp) (by simp[Ctx.rd,AA]) sG h1 ?_;simp[go_sem,cS,jA,q1,q2,q3,q4,q5,q6,q7,q8,q9,eL,eK,fA,iI,iE,jH,jK,jJ,jD,p1,p3,p4,p6,p7,p8,jB,jL,jG,jE,x2,x3,x8,x9,xb,i2,i3,i8,i9,ib];refine R4 J1 ?_;refine sZ ?_;refine MJ AA (φ:=Φ (i+1)) ?_ (by simp only[Φ];simp[cS,jA,q1,q2,q3,q4,q5,q6,q7,q8,q9,eL,eK,fA,iI,iE,jH,jK,jJ,jD,p1,p3,p4,p6,p7,p8,jB,jL,jG,jE]) (by simp[go_sem,cS,jA,q1,q2,q3,q4,q5,q6,q7,q8,q9,eL,eK,fA,iI,iE,jH,jK,jJ,jD,p1,p3,p4,p6,p7,p8,jB,jL,jG,jE,x2,x3,x8,x9,xb,i2,i3,i8,i9,ib]) (some (.exit 2)) ⟨_,rfl,rfl⟩ ?_
    ·rw[TP];refine cZ ?_ (cZ ?_ (cZ ?_ (cZ ?_ (cZ ?_ (by simp[v7])))));all_goals simp[go_sem,cS,jA,q1,q2,q3,q4,q5,q6,q7,q8,q9,eL,eK,fA,iI,iE,jH,jK,jJ,jD,p1,p3,p4,p6,p7,p8,jB,jL,jG,jE,x2,x3,x8,x9,xb,i2,i3,i8,i9,ib]
    ·rw[if_neg sS];exact⟨i+1,rfl,by rw[<- Tk];exact Q6,rfl,rfl⟩
  ·rintro I2 r' (⟨-,h,-⟩|⟨_,-,-,h,-⟩) <;> (rw[h];simp)
  ·rintro I2 r' (⟨rfl,-,h⟩|⟨i,rfl,hi,-,h⟩) -
   ·rw[h];by_cases gL:u+c<=most
    ·rw[nU gL,G6 gL]at hR;have DI:Φ 0=[(b2,[M3 b]),(b3,[r.Q2,f.Q2,.iface 194 (n9 l)]),(b8,[v.Q2]),(b9,[O2 true]),(b,[j0 ((u+c:Nat):Int),j0 (most:Int)])]:=by
      simp only[Φ,hS0,if_pos gL,G6 gL,decide_eq_true gL]
     rw[DI,NK];simp[go_sem,cS,jA,q1,q2,q3,q4,q5,q6,q7,q8,q9,eL,eK,fA,iI,iE,jH,jK,jJ,jD,p1,p3,p4,p6,p7,p8,jB,jL,jG,jE];have J2:=j8 @cS @jA @q1 @q2 @q3 @q4 @q5 (j8 @q6 @q7 @q8 @q9 @eL @eK @fA (j8 @iI @iE @jH @jK @jJ @jD @p1 (j8 @p3 @p4 @p6 @p7 @p8 @jB @jL (j2 @jG @jE))));refine R4 J2 ?_;exact s7 [(b,[j0 ((u+c:Nat):Int),j0 (most:Int)])] J2
    ·rw[wW gL,nW gL]at hR;have DI:Φ 0=[(b2,[M3 b]),(b3,[r.Q2,f.Q2,.iface 194 (n9 l)]),(b8,[B9]),(b9,[O2 false]),(b,[j0 (most:Int),j0 (most:Int)])]:=by
      simp only[Φ,hS0,if_neg gL,nW gL,decide_eq_false gL]
     rw[DI,NK];simp[go_sem,cS,jA,q1,q2,q3,q4,q5,q6,q7,q8,q9,eL,eK,fA,iI,iE,jH,jK,jJ,jD,p1,p3,p4,p6,p7,p8,jB,jL,jG,jE];have J3:=j8 @cS @jA @q1 @q2 @q3 @q4 @q5 (j8 @q6 @q7 @q8 @q9 @eL @eK @fA (j8 @iI @iE @jH @jK @jJ @jD @p1 (j8 @p3 @p4 @p6 @p7 @p8 @jB @jL (j2 @jG @jE))));refine R4 J3 ?_;exact s7 [(b,[j0 (most:Int),j0 (most:Int)])] J3
   ·rw[h];have gL:¬u+c<=most:=by have:=(hS i).2;omega
    rw[wW gL,nW gL]at hR;have DI:Φ i=[(b2,[M3 b]),(b3,[r.Q2,f.Q2,.iface 194 (n9 l)]),(b8,[B9]),(b9,[O2 false]),(b,[j0 (most:Int),j0 (most:Int)])]:=by
     simp only[Φ,if_neg hi,nW hi,decide_eq_false hi]
    rw[DI,NK];simp[go_sem,cS,jA,q1,q2,q3,q4,q5,q6,q7,q8,q9,eL,eK,fA,iI,iE,jH,jK,jJ,jD,p1,p3,p4,p6,p7,p8,jB,jL,jG,jE];have J4:=j8 @cS @jA @q1 @q2 @q3 @q4 @q5 (j8 @q6 @q7 @q8 @q9 @eL @eK @fA (j8 @iI @iE @jH @jK @jJ @jD @p1 (j8 @p3 @p4 @p6 @p7 @p8 @jB @jL (j2 @jG @jE))));refine R4 J4 ?_;exact s7 [(b,[j0 (most:Int),j0 (most:Int)])] J4
theorem zB0(hm:most<=1073741824)(t:Tm){e:List MV}(b:Nat)(hu:u<=most)(T4:¬u+1<=most):
  cT 53 [M3 b,t.dv,MV.envM e] [(b,L5 most u)] (.H1 [B9,O2 false]) [(b,[j0 (most:Int),j0 (most:Int)])]:=by
 rw[G6 hu];have aE:(most:Int)<=(u:Int):=oO;have On:(u:Int)=(most:Int):=oO;refine A3 mO fun X zX=>?_;refine U1 @aE ?_;exact s7 [(b,[j0 (most:Int),j0 (most:Int)])] @On
theorem rJ0(hm:most<=1073741824){ev:U9}(H:lD W0 gl 53 most ev)(hN:iX most ev)(t:Tm)(b M:Nat)(hu:u<=most)(hM:M+(most - u)<=1073741824)(he:MV.nles M e)
  (h3:t.B0.length<=3) (gN:¬t.o0=1) (Y5:¬t.o0=2) {vs:List MV} {c1:Nat} (u4:bF ev t.B0 e=some (vs,c1)) (T4:u+1<=most) (s4:¬u+1+c1<=most) :
  cT 53 [M3 b,t.dv,MV.envM e] [(b,L5 most u)] (.H1 [B9,O2 false]) [(b,[j0 (most:Int),j0 (most:Int)])]:=by
 rw[G6 hu];have aE:¬(most:Int)<=(u:Int):=oO;have A1:=wV hm H hN b (M+1) u4 h3 T4 oO (MV.nles_mono oO _ he);have o6:decide (u+1+c1<=most)=false:=decide_eq_false s4;unfold oF iY at A1;rw[G6 T4,nW s4,o6]at A1;generalize lZ ev most e (u+1) t.B0=pp at A1;refine A3 mO fun X zX=>?_;refine U1 (j3 @aE @gN @Y5) ?_;refine N1 H0 (M0 A1) ?_;refine N2 ?_;exact s7 [(b,[j0 (most:Int),j0 (most:Int)])] tT
theorem wj0(hm:most<=1073741824){ev:U9}(H:lD W0 gl 53 most ev)(hN:iX most ev)(t:Tm)(b M:Nat)(hu:u<=most)(hM:M+(most - u)<=1073741824)(he:MV.nles M e)
  (h3:t.B0.length<=3) (hk:t.o0=3) {f x:MV} {v:MV} {c2:Nat} {c1:Nat} (u4:bF ev t.B0 e=some ([f,x],c1)) (T4:u+1<=most) (s4:u+1+c1<=most) (L6:iR ev f [x]=some (v,c2)) :
  cT 53 [M3 b,t.dv,MV.envM e] [(b,L5 most u)] (R8 most (u+1+c1+c2) v.Q2) [(b,L5 most (u+1+c1+c2))]:=by
 rw[G6 hu];have aE:¬(most:Int)<=(u:Int):=oO;have A1:=wV hm H hN b (M+1) u4 h3 T4 oO (MV.nles_mono oO _ he);have B1:=vB hN u4 he;have o6:decide (u+1+c1<=most)=true:=decide_eq_true s4;unfold oF iY at A1;rw[G6 T4,G6 s4,o6,wQ u4 s4]at A1;have z0:V5 [f,x] 0=f.Q2:=by first|rfl|(simp only[V5];rw[MV.Q2];done)|exact rfl
 have z1:V5 [f,x] 1=x.Q2:=by first|rfl|(simp only[V5];rw[MV.Q2];done)|exact rfl
 have z2:V5 [f,x] 2=B9:=by first|rfl|(simp only[V5];rw[MV.Q2];done)|exact rfl
 rw[z0,z1,z2]at A1;simp only[MV.nles]at B1;have W1:=RB hm H hN b (M+c1) L6 s4 oO B1.1 (by simp only[MV.nles];exact⟨B1.2.1,trivial⟩);rw[G6 s4]at W1;simp only[Y3]at W1;by_cases X9:u+1+c1+c2<=most
 ·rw[G6 X9,nU X9]at W1 ⊢;refine A3 mO fun X zX=>?_;refine U1 (j2 @aE @hk) ?_;refine N1 H0 (M0 A1) ?_;refine U1 @hk ?_;refine N1 H0 (M0 W1) ?_;exact s7 [(b,[j0 ((u+1+c1+c2:Nat):Int),j0 (most:Int)])] tT
 ·rw[nW X9,wW X9]at W1 ⊢;refine A3 mO fun X zX=>?_;refine U1 (j2 @aE @hk) ?_;refine N1 H0 (M0 A1) ?_;refine U1 @hk ?_;refine N1 H0 (M0 W1) ?_;exact s7 [(b,[j0 (most:Int),j0 (most:Int)])] tT
theorem wk0(hm:most<=1073741824){ev:U9}(H:lD W0 gl 53 most ev)(hN:iX most ev)(t:Tm)(b M:Nat)(hu:u<=most)(hM:M+(most - u)<=1073741824)(he:MV.nles M e)
  (h3:t.B0.length<=3) (hk:t.o0=4) {vs:List MV} {c1:Nat} (u4:bF ev t.B0 e=some (vs,c1)) (T4:u+1<=most) (s4:u+1+c1<=most) :
  cT 53 [M3 b,t.dv,MV.envM e] [(b,L5 most u)] (.H1 [(.iface 3 (j0 (0:Int))),O2 true]) [(b,[j0 ((u+1+c1:Nat):Int),j0 (most:Int)])]:=by
 rw[G6 hu];have aE:¬(most:Int)<=(u:Int):=oO;have A1:=wV hm H hN b (M+1) u4 h3 T4 oO (MV.nles_mono oO _ he);have B1:=vB hN u4 he;have o6:decide (u+1+c1<=most)=true:=decide_eq_true s4;unfold oF iY at A1;rw[G6 T4,G6 s4,o6,wQ u4 s4]at A1;refine A3 mO fun X zX=>?_;refine U1 (j2 @aE @hk) ?_;refine N1 H0 (M0 A1) ?_;refine U1 @hk ?_;exact s7 [(b,[j0 ((u+1+c1:Nat):Int),j0 (most:Int)])] tT
theorem wm0(hm:most<=1073741824){ev:U9}(H:lD W0 gl 53 most ev)(hN:iX most ev)(t:Tm)(b M:Nat)(hu:u<=most)(hM:M+(most - u)<=1073741824)(he:MV.nles M e)
  (h3:t.B0.length<=3) (hk:t.o0=5) {n:Nat} {c1:Nat} (u4:bF ev t.B0 e=some ([.Z3 n],c1)) (T4:u+1<=most) (s4:u+1+c1<=most) :
  cT 53 [M3 b,t.dv,MV.envM e] [(b,L5 most u)] (.H1 [(.iface 3 (j0 (((n+1:Nat)):Int))),O2 true]) [(b,[j0 ((u+1+c1:Nat):Int),j0 (most:Int)])]:=by
 rw[G6 hu];have aE:¬(most:Int)<=(u:Int):=oO;have A1:=wV hm H hN b (M+1) u4 h3 T4 oO (MV.nles_mono oO _ he);have B1:=vB hN u4 he;have o6:decide (u+1+c1<=most)=true:=decide_eq_true s4;unfold oF iY at A1;rw[G6 T4,G6 s4,o6,wQ u4 s4]at A1;have z0:V5 [.Z3 n] 0=(.iface 3 (j0 (n:Int))):=by first|rfl|(simp only[V5];rw[MV.Q2];done)|exact Gn _
 have z1:V5 [.Z3 n] 1=B9:=by first|rfl|(simp only[V5];rw[MV.Q2];done)|exact rfl
 have z2:V5 [.Z3 n] 2=B9:=by first|rfl|(simp only[V5];rw[MV.Q2];done)|exact rfl
 rw[z0,z1,z2]at A1;refine A3 mO fun X zX=>?_;refine N1 (j2 @aE @hk) (M0 A1) ?_;simp only[MV.nles,MV.nle]at B1;have Ce:(n:Int)<=1073741824:=oO;have dG:((n+1:Nat):Int)=(n:Int)+1:=oO;exact v8 [(b,[j0 ((u+1+c1:Nat):Int),j0 (most:Int)])] (j3 @hk @Ce @dG) H0
theorem wo0(hm:most<=1073741824){ev:U9}(H:lD W0 gl 53 most ev)(hN:iX most ev)(t:Tm)(b M:Nat)(hu:u<=most)(hM:M+(most - u)<=1073741824)(he:MV.nles M e)
  (h3:t.B0.length<=3) (hk:t.o0=6) {r f:MV} {n:Nat} {v:MV} {c2:Nat} {c1:Nat} (u4:bF ev t.B0 e=some ([r,f,.Z3 n],c1)) (T4:u+1<=most) (s4:u+1+c1<=most) (L6:xS ev f n 0 r=some (v,c2)) :
  cT 53 [M3 b,t.dv,MV.envM e] [(b,L5 most u)] (R8 most (u+1+c1+c2) v.Q2) [(b,L5 most (u+1+c1+c2))]:=by
 rw[G6 hu];have aE:¬(most:Int)<=(u:Int):=oO;have A1:=wV hm H hN b (M+1) u4 h3 T4 oO (MV.nles_mono oO _ he);have B1:=vB hN u4 he;have o6:decide (u+1+c1<=most)=true:=decide_eq_true s4;unfold oF iY at A1;rw[G6 T4,G6 s4,o6,wQ u4 s4]at A1;simp only[MV.nles,MV.nle]at B1;have W1:=zw0 hm H hN (fun h=>Jn hN h) b (M+c1) L6 s4 oO B1.1 B1.2.1 B1.2.2.1;unfold iY at W1;rw[G6 s4]at W1;by_cases X9:u+1+c1+c2<=most
 ·rw[G6 X9,nU X9]at W1 ⊢;refine A3 mO fun X zX=>?_;refine U1 (j2 @aE @hk) ?_;refine N1 H0 (M0 A1) ?_;refine U1 @hk ?_;refine N1 H0 (M0 W1) ?_;exact s7 [(b,[j0 ((u+1+c1+c2:Nat):Int),j0 (most:Int)])] tT
 ·rw[nW X9,wW X9]at W1 ⊢;refine A3 mO fun X zX=>?_;refine U1 (j2 @aE @hk) ?_;refine N1 H0 (M0 A1) ?_;refine U1 @hk ?_;refine N1 H0 (M0 W1) ?_;exact s7 [(b,[j0 (most:Int),j0 (most:Int)])] tT
theorem wp0(hm:most<=1073741824){ev:U9}(H:lD W0 gl 53 most ev)(hN:iX most ev)(t:Tm)(b M:Nat)(hu:u<=most)(hM:M+(most - u)<=1073741824)(he:MV.nles M e)
  (h3:t.B0.length<=3) (hk:t.o0=7) {vs:List MV} {c1:Nat} (u4:bF ev t.B0 e=some (vs,c1)) (T4:u+1<=most) (s4:u+1+c1<=most) :
  cT 53 [M3 b,t.dv,MV.envM e] [(b,L5 most u)] (.H1 [(.iface 194 (n9 [])),O2 true]) [(b,[j0 ((u+1+c1:Nat):Int),j0 (most:Int)])]:=by
 rw[G6 hu];have aE:¬(most:Int)<=(u:Int):=oO;have A1:=wV hm H hN b (M+1) u4 h3 T4 oO (MV.nles_mono oO _ he);have B1:=vB hN u4 he;have o6:decide (u+1+c1<=most)=true:=decide_eq_true s4;unfold oF iY at A1;rw[G6 T4,G6 s4,o6,wQ u4 s4]at A1;refine A3 mO fun X zX=>?_;refine N1 (j2 @aE @hk) (M0 A1) ?_;have GG0:=Ra;exact v8 [(b,[j0 ((u+1+c1:Nat):Int),j0 (most:Int)])] (j2 @hk @Ra) H0
theorem wq0(hm:most<=1073741824){ev:U9}(H:lD W0 gl 53 most ev)(hN:iX most ev)(Ht:SJ W0 gl 156 most ev)(t:Tm)(b M:Nat)(hu:u<=most)(hM:M+(most - u)<=1073741824)(he:MV.nles M e)
  (h3:t.B0.length<=3) (hk:t.o0=9) {r f:MV} {l:List Nat} {v:MV} {c2:Nat} {c1:Nat} (u4:bF ev t.B0 e=some ([r,f,.list l],c1)) (T4:u+1<=most) (s4:u+1+c1<=most) (L6:oD ev f r l=some (v,c2)) :
  cT 53 [M3 b,t.dv,MV.envM e] [(b,L5 most u)] (R8 most (u+1+c1+c2) v.Q2) [(b,L5 most (u+1+c1+c2))]:=by
 rw[G6 hu];have aE:¬(most:Int)<=(u:Int):=oO;have A1:=wV hm H hN b (M+1) u4 h3 T4 oO (MV.nles_mono oO _ he);have B1:=vB hN u4 he;have o6:decide (u+1+c1<=most)=true:=decide_eq_true s4;unfold oF iY at A1;rw[G6 T4,G6 s4,o6,wQ u4 s4]at A1;simp only[MV.nles,MV.nle]at B1;have W1:=Ht b (M+c1) L6 s4 oO B1.1 B1.2.1 B1.2.2.1;unfold iY at W1;rw[G6 s4]at W1;by_cases X9:u+1+c1+c2<=most
 ·rw[G6 X9,nU X9]at W1 ⊢;refine A3 mO fun X zX=>?_;refine U1 (j2 @aE @hk) ?_;refine N1 H0 (M0 A1) ?_;refine U1 @hk ?_;refine N1 H0 (M0 W1) ?_;exact s7 [(b,[j0 ((u+1+c1+c2:Nat):Int),j0 (most:Int)])] tT
 ·rw[nW X9,wW X9]at W1 ⊢;refine A3 mO fun X zX=>?_;refine U1 (j2 @aE @hk) ?_;refine N1 H0 (M0 A1) ?_;refine U1 @hk ?_;refine N1 H0 (M0 W1) ?_;exact s7 [(b,[j0 (most:Int),j0 (most:Int)])] tT
theorem rK0(hm:most<=1073741824){ev:U9}(H:lD W0 gl 53 most ev)(hN:iX most ev)(t:Tm)(b M:Nat)(hu:u<=most)(hM:M+(most - u)<=1073741824)(he:MV.nles M e)
  (h3:t.B0.length<=3) (hk:t.o0=11) {x y:MV} {c1:Nat} (u4:bF ev t.B0 e=some ([.both x y],c1)) (T4:u+1<=most) (s4:u+1+c1<=most) :
  cT 53 [M3 b,t.dv,MV.envM e] [(b,L5 most u)] (.H1 [x.Q2,O2 true]) [(b,[j0 ((u+1+c1:Nat):Int),j0 (most:Int)])]:=by
 rw[G6 hu];have aE:¬(most:Int)<=(u:Int):=oO;have A1:=wV hm H hN b (M+1) u4 h3 T4 oO (MV.nles_mono oO _ he);have B1:=vB hN u4 he;have o6:decide (u+1+c1<=most)=true:=decide_eq_true s4;unfold oF iY at A1;rw[G6 T4,G6 s4,o6,wQ u4 s4]at A1;have z0:V5 [.both x y] 0=(.iface 200 (.ref [x.Q2,y.Q2])):=by first|rfl|(simp only[V5];rw[MV.Q2];done)|exact VT _ _
 have z1:V5 [.both x y] 1=B9:=by first|rfl|(simp only[V5];rw[MV.Q2];done)|exact rfl
 have z2:V5 [.both x y] 2=B9:=by first|rfl|(simp only[V5];rw[MV.Q2];done)|exact rfl
 rw[z0,z1,z2]at A1;refine A3 mO fun X zX=>?_;refine U1 (j2 @aE @hk) ?_;refine N1 H0 (M0 A1) ?_;refine U1 @hk ?_;exact s7 [(b,[j0 ((u+1+c1:Nat):Int),j0 (most:Int)])] tT
theorem rL0(hm:most<=1073741824){ev:U9}(H:lD W0 gl 53 most ev)(hN:iX most ev)(t:Tm)(b M:Nat)(hu:u<=most)(hM:M+(most - u)<=1073741824)(he:MV.nles M e)
  (h3:t.B0.length<=3) (hk:t.o0=12) {x y:MV} {c1:Nat} (u4:bF ev t.B0 e=some ([.both x y],c1)) (T4:u+1<=most) (s4:u+1+c1<=most) :
  cT 53 [M3 b,t.dv,MV.envM e] [(b,L5 most u)] (.H1 [y.Q2,O2 true]) [(b,[j0 ((u+1+c1:Nat):Int),j0 (most:Int)])]:=by
 rw[G6 hu];have aE:¬(most:Int)<=(u:Int):=oO;have A1:=wV hm H hN b (M+1) u4 h3 T4 oO (MV.nles_mono oO _ he);have B1:=vB hN u4 he;have o6:decide (u+1+c1<=most)=true:=decide_eq_true s4;unfold oF iY at A1;rw[G6 T4,G6 s4,o6,wQ u4 s4]at A1;have z0:V5 [.both x y] 0=(.iface 200 (.ref [x.Q2,y.Q2])):=by first|rfl|(simp only[V5];rw[MV.Q2];done)|exact VT _ _
 have z1:V5 [.both x y] 1=B9:=by first|rfl|(simp only[V5];rw[MV.Q2];done)|exact rfl
 have z2:V5 [.both x y] 2=B9:=by first|rfl|(simp only[V5];rw[MV.Q2];done)|exact rfl
 rw[z0,z1,z2]at A1;refine A3 mO fun X zX=>?_;refine U1 (j2 @aE @hk) ?_;refine N1 H0 (M0 A1) ?_;refine U1 @hk ?_;exact s7 [(b,[j0 ((u+1+c1:Nat):Int),j0 (most:Int)])] tT
theorem rM0(hm:most<=1073741824){ev:U9}(H:lD W0 gl 53 most ev)(hN:iX most ev)(t:Tm)(b M:Nat)(hu:u<=most)(hM:M+(most - u)<=1073741824)(he:MV.nles M e)
  (h3:t.B0.length<=3) (hk:t.o0=13) {vs:List MV} {c1:Nat} (u4:bF ev t.B0 e=some (vs,c1)) (T4:u+1<=most) (s4:u+1+c1<=most) :
  cT 53 [M3 b,t.dv,MV.envM e] [(b,L5 most u)] (.H1 [(.iface 204 (.agg [])),O2 true]) [(b,[j0 ((u+1+c1:Nat):Int),j0 (most:Int)])]:=by
 rw[G6 hu];have aE:¬(most:Int)<=(u:Int):=oO;have A1:=wV hm H hN b (M+1) u4 h3 T4 oO (MV.nles_mono oO _ he);have B1:=vB hN u4 he;have o6:decide (u+1+c1<=most)=true:=decide_eq_true s4;unfold oF iY at A1;rw[G6 T4,G6 s4,o6,wQ u4 s4]at A1;refine A3 mO fun X zX=>?_;refine U1 (j2 @aE @hk) ?_;refine N1 H0 (M0 A1) ?_;refine U1 @hk ?_;exact s7 [(b,[j0 ((u+1+c1:Nat):Int),j0 (most:Int)])] tT
theorem rN0(hm:most<=1073741824){ev:U9}(H:lD W0 gl 53 most ev)(hN:iX most ev)(t:Tm)(b M:Nat)(hu:u<=most)(hM:M+(most - u)<=1073741824)(he:MV.nles M e)
  (h3:t.B0.length<=3) (hk:t.o0=10) {x y:MV} {c1:Nat} (u4:bF ev t.B0 e=some ([x,y],c1)) (T4:u+1<=most) (s4:u+1+c1<=most) :
  cT 53 [M3 b,t.dv,MV.envM e] [(b,L5 most u)] (.H1 [(.iface 200 (.ref [x.Q2,y.Q2])),O2 true]) [(b,[j0 ((u+1+c1:Nat):Int),j0 (most:Int)])]:=by
 rw[G6 hu];have aE:¬(most:Int)<=(u:Int):=oO;have A1:=wV hm H hN b (M+1) u4 h3 T4 oO (MV.nles_mono oO _ he);have B1:=vB hN u4 he;have o6:decide (u+1+c1<=most)=true:=decide_eq_true s4;unfold oF iY at A1;rw[G6 T4,G6 s4,o6,wQ u4 s4]at A1;have z0:V5 [x,y] 0=x.Q2:=by first|rfl|(simp only[V5];rw[MV.Q2];done)|exact rfl
 have z1:V5 [x,y] 1=y.Q2:=by first|rfl|(simp only[V5];rw[MV.Q2];done)|exact rfl
 have z2:V5 [x,y] 2=B9:=by first|rfl|(simp only[V5];rw[MV.Q2];done)|exact rfl
 rw[z0,z1,z2]at A1;refine H2 mO ?_;intro X hP G0 hf X0 hn hR K1 G1;refine V3 (j2 @aE @hk) (M0 A1) ?_;refine O9 [109] fun K hK=>?_;simp[go_sem,hP,G0,hn];refine WV (cs:=[x.Q2,y.Q2]) (y:=.ag [x.Q2,y.Q2] []) sH sG sG nN (by rfl) ?_;simp[go_sem,hP,G0,hn];refine K4 ?_;clear hK K;exact s7 [(b,[j0 ((u+1+c1:Nat):Int),j0 (most:Int)])] tT
theorem wr0(hm:most<=1073741824){ev:U9}(H:lD W0 gl 53 most ev)(hN:iX most ev)(t:Tm)(b M:Nat)(hu:u<=most)(hM:M+(most - u)<=1073741824)(he:MV.nles M e)
  (h3:t.B0.length<=3) (hk:t.o0=8) {n:Nat} {l:List Nat} {c1:Nat} (u4:bF ev t.B0 e=some ([.Z3 n,.list l],c1)) (T4:u+1<=most) (s4:u+1+c1<=most) :
  cT 53 [M3 b,t.dv,MV.envM e] [(b,L5 most u)] (.H1 [(.iface 194 (n9 (n::l))),O2 true]) [(b,[j0 ((u+1+c1:Nat):Int),j0 (most:Int)])]:=by
 rw[G6 hu];have aE:¬(most:Int)<=(u:Int):=oO;have A1:=wV hm H hN b (M+1) u4 h3 T4 oO (MV.nles_mono oO _ he);have B1:=vB hN u4 he;have o6:decide (u+1+c1<=most)=true:=decide_eq_true s4;unfold oF iY at A1;rw[G6 T4,G6 s4,o6,wQ u4 s4]at A1;have z0:V5 [.Z3 n,.list l] 0=(.iface 3 (j0 (n:Int))):=by first|rfl|(simp only[V5];rw[MV.Q2];done)|exact Gn _
 have z1:V5 [.Z3 n,.list l] 1=(.iface 194 (n9 l)):=by first|rfl|(simp only[V5];rw[MV.Q2];done)|exact LQ _
 have z2:V5 [.Z3 n,.list l] 2=B9:=by first|rfl|(simp only[V5];rw[MV.Q2];done)|exact rfl
 rw[z0,z1,z2]at A1;refine H2 mO ?_;intro X hP G0 hf X0 hn hR K1 G1;refine V3 (j2 @aE @hk) (M0 A1) ?_;refine xB (by rw[hP];exact kO) [93] fun K hK=>?_;simp[go_sem,hP,G0,hn];refine Wt (cs:=[j0 (n:Int),n9 l]) (y:=.ag [j0 (n:Int),n9 l] []) (fun _ _=>iN) sH sG sG nN (by rfl) ?_;simp[go_sem,hP,G0,hn];refine K4 ?_;clear hK K;exact s7 [(b,[j0 ((u+1+c1:Nat):Int),j0 (most:Int)])] @LR
end
end Go.Proofs.YtmilnfebjgkkcaaGreatDoor.Lift
