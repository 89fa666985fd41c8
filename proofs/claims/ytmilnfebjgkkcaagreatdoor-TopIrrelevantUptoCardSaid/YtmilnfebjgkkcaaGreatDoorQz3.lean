import Derived.Test.YtmilnfebjgkkcaaGreatDoorQz2
set_option maxHeartbeats 8000000
set_option maxRecDepth 100000
set_option linter.all false
namespace Go.Proofs.YtmilnfebjgkkcaaGreatDoor.Lift
open Bool renaming and_assoc->Ut,eq_false_iff->AT,or_eq_true->Ci,or_eq_true_iff->aY0
open Builtin renaming append_->DO,firstCells->kV,nextslicecap->Ii,zeroCells->KW
open DV renaming isCell->oS
open Fm renaming B0->lP,args_mk->FO,E0->L3,cells_eq->aA,ind->aU,o0->cM,kind_mk->Ik,M1->mN,terms_mk->FN,I0->aZ0,type_mk->Le
open Instr renaming buildSlice->au0,checkKey->ji0,findNow->Lo
open Int renaming add_assoc->DW,add_zero->sE,natCast_add->PG,natCast_nonneg->jw0,ofNat->gS,toNat_natCast->aO0,toNat_of_nonneg->If
open Lift.Loc renaming heap->kI,P0->mI
open Lift.Trans renaming refl->oU
open List renaming all_eq_true->yR,append_assoc->yQ,cons_append->R6,flatten_cons->FI,getD_eq_getElem?_getD->jO,getElem?_append_left->cJ,getElem?_append_right->cK,getElem?_map->cI,getElem?_reverse->aV0,getElem?_take_of_lt->tX,getElem_mem->vY,length->jh0,length_append->mJ,length_cons->B4,length_drop->Ui,length_eq_one_iff->aR0,length_filter_le->Ur,length_map->fV,length_nil->fC,length_replicate->Jj1,length_take->rX,map->Y3,map_congr_left->kW,map_cons->G4,map_nil->O5,mem_append->t6,mem_cons->u5,mem_cons_of_mem->iJ,mem_iff_getElem->yM,mem_iff_getElem?->FJ,mem_map->F9,mem_of_mem_drop->FB,mem_of_mem_take->yN,mem_range->DP,mem_replicate->AY,mem_singleton->bM,nil_append->aT,nodup_cons->Ck,not_mem_nil->mL,range->oT,range'_succ->qJ,replicate->wG,take_append_drop->FK,take_of_length_le->DS
open Nat renaming add_assoc->Ie,add_mul->Y9,le_refl->I5,lt_irrefl->vX,lt_or_ge->yP,min_eq_left->It,mul_le_mul->iY0,mul_le_mul_right->yO,pow_le_pow_right->Ux,strongRecOn->Pu,zero_add->G8
open Option renaming bind_eq_some_iff->mH,getD_some->Cj,map_eq_some_iff->vV,map_some->AS
open Option.some renaming inj->Iq
open Region renaming binds->Cl,ready->FH,wanted->fD
open Result renaming andThen->Lp,andThen_ok->cW
open SV renaming v->b7
open Sem renaming run_bind->v9,run_pure->kH
open Tm renaming B0->J5,args_mk->M8,E0->E3,cells_eq->O3,A0->D3,count_eq->V6,count_mem->L9,count_pos->Uu,counts_append->gR,fit_len->kM,ind->m7,O0->wH,index_mk->fE,o0->W6,kind_mk->Z9,length_cells->mM,mk->U0,shape->DR,shape_eq->Lj,shapes_append->aM0,shapes_iff->je0,I0->FU,type_mk->kL
open Tryz renaming func240->jc0,func374->jx0,prog->W0
open Ty renaming B0->yT,E0->P1,cells_eq->mK,A0->AU,count_eq->sA,counts_append->aL0,fit_len->Py,ind->yS,o0->qM,mk->L0,same_eq->In,same_iff->y9,sames_iff->Px,shape->wD,shape_eq->Pz,shapes_append->aK0,zero->Io
open Val renaming E0->vZ,dv_fit->aQ0,fit_eq->aP0,ind->Il,mk->dH,same_eq->PC,sames_iff->jg0
open World renaming cell?->rW
open _root_.Array renaming getD_eq_getD_getElem?->KZ,getElem?_append_left->FF,getElem?_append_right->iZ0,getElem?_eq_some_iff->fB,getElem?_push->as0,getElem?_replicate->Ij,range->Pp,replicate->La
open Go
variable{E b d i p q:Nat}{G:Gh}{P:Program}{T2 key:TypeId}{f:Fm}{g:List Ty}{k n room:Int}{kk:List Item}{l:List Int}{l1 l2:List Tm}{o:Oper}{t u x:Tm}{w:World}{y:Operand}{ys zs:List (List DV)}
section
def mZ(k:Int):Int:=if k=3\/k=4 then 2 else 0
theorem kH0(t:Ty):cU 324 [t.dv] (O2 t.shape):=by
 induction t using yS with
 | h t ih=>
 refine H2 Tryz.func324 ?_;intro X hP G0 hf X0 hn hR K1 G1;have hlen:=Py (G1 t.dv sS);have hs:=Pz t;refine K2 ?_;refine K2 ?_;refine K2 ?_;refine Ha ?_;refine Sm (t.o0=1\/t.o0=2\/t.o0=5\/t.o0=3\/t.o0=4) [sV 3 (j0 (mZ t.o0)),sL 1 (tM t),sP 1] ?_ ?_
 ·intro Q3;by_cases h1:t.o0=1;· refine W3 (wr []) (j2 @mZ.eq_1 @h1) @h1 (Q3 (by simp[h1]))
  by_cases h2:t.o0=2;· refine W3 (wr []) (j2 @mZ.eq_1 @h2) @h2 (Q3 (by simp[h2]))
  by_cases h3:t.o0=5;· refine W3 (wr []) (j2 @mZ.eq_1 @h3) @h3 (Q3 (by simp[h3]))
  by_cases h4:t.o0=3;· refine W3 (wr []) (j2 @mZ.eq_1 @h4) @h4 (Q3 (by simp[h4]))
  by_cases h5:t.o0=4;· refine W3 (wr []) (j2 @mZ.eq_1 @h5) @h5 (Q3 (by simp[h5]))
  exact O1 (j7 @h1 @h2 @h3 @h4 @h5 @hs @mV.eq_1) H0
 ·intro hk;by_cases hl:(t.B0.length:Int)=mZ t.o0
  ·have C6:mV t.o0 t.B0.length=true:=by
    unfold mZ at hl;unfold mV;rcases hk with h|h|h|h|h <;> simp[h]at hl ⊢ <;> omega
   refine U1 @hl ?_;refine Q1 ?_;refine G2 [] (j2 @wD.shapes.eq_1 @wD.shapes.eq_2) (dB (t.B0) (fun done=>wD.shapes done=true) (fun done rest=>[sV 23 (j0 done.length),sV 22 (j0 t.B0.length),sV 21 (.sl (t.B0.map P1))]) (rfl) ?_ ?_)
   ·intro done x rest hL hg hI Z1;have I1:=E5 hL;refine K5 ?_;refine R4 @hg ?_;refine N1 @hg (M0 (ih x (uE hg))) ?_;by_cases hx:x.shape=true
    ·refine Kl @hx ?_;refine W3 (wr []) tT @hx (Z1 (by rw[aK0];simp[hI,wD.shapes,hx]))
    ·refine Kk @hx ?_;refine U1 @hx ?_;have:t.shape=false:=by rw[hs,hL,aK0];simp[wD.shapes,hx]
     exact aN @this
   ·intro hI;refine T7 ?_;exact O1 (j3 @hs @C6 @hI) H0
  ·have C6:mV t.o0 t.B0.length=false:=by
    unfold mZ at hl;unfold mV;rcases hk with h|h|h|h|h <;> simp[h]at hl ⊢ <;> omega
   exact O1 (j3 @hl @hs @C6) H0
theorem kR0(t:Ty)(hc:t.A0<=2147483648):cU 325 [t.dv] (j0 t.A0):=by
 induction t using yS with
 | h t ih=>
 refine H2 Tryz.func325 ?_;intro X hP G0 hf X0 hn hR K1 G1;have hlen:=Py (G1 t.dv sS);rw[sA]at hc;refine K2 ?_;refine K2 ?_;refine K2 ?_;refine Q1 ?_;have J0:=j2 @AU.Z0.eq_1 @AU.Z0.eq_2;refine G2 [] J0 (y7 (t.B0) (fun done rest=>[sV 9 (j0 done.length),sV 8 (j0 t.B0.length),sV 7 (.sl (t.B0.map P1)),sV 3 (j0 (1+AU.Z0 done:Nat))]) ?_ ?_)
 ·intro done x rest hL hg Z1;have I1:=E5 hL;have I8:AU.Z0 t.B0=AU.Z0 done+(x.A0+AU.Z0 rest):=by rw[hL,aL0];rfl
  rw[aL0]at Z1;refine K5 ?_;refine R4 @hg ?_;refine U6 tT fun K hK=>?_;refine Z7 tT (ih x (uE hg) oO) ?_;refine K4 ?_;clear hK K;refine K2 ?_;refine m5 ?_;refine G2 [] J0 Z1
 ·refine K2 ?_;refine Z6 ?_;refine K2 ?_;exact aN @sA
theorem Qc(t:Ty):cU 255 [t.dv] (O2 t.zero):=by
 refine A3 Tryz.func255 fun X zX=>?_;refine K2 ?_;by_cases h:t.o0=0
 ·refine R4 @h ?_;exact aN (j2 @Ty.zero.eq_1 @h)
 ·refine R4 @h ?_;exact aN (j2 @Ty.zero.eq_1 @h)
theorem Ea(t:Ty)(hc:t.A0<=2147483648):cU 253 [t.dv] (j0 t.L4):=by
 refine A3 Tryz.func253 fun X zX=>?_;refine K2 ?_;refine U6 tT fun K hK=>?_;refine Z7 tT (kH0 t) ?_;refine K4 ?_;clear hK K;by_cases h:t.shape=true
 ·refine Kl @h ?_;refine U6 tT fun K hK=>?_;refine Z7 tT (kR0 t hc) ?_;refine K4 ?_;clear hK K;by_cases h2:64<t.A0
  ·refine Kk @h2 ?_;refine K2 ?_;exact aN (j3 @Ty.L4.eq_1 @h @h2)
  ·refine Kl @h2 ?_;refine K2 ?_;exact aN (j3 @Ty.L4.eq_1 @h @h2)
 ·refine Kk @h ?_;refine K2 ?_;exact aN (j2 @Ty.L4.eq_1 @h)
def mW:List Ty->Int
 | []=>0
 | t::r=>if t.L4=0 then mW r else t.L4
def gD(l:List Ty):Int:=if 16<l.length then 3 else mW l
theorem Qd(l m:List Ty)(h:mW l=0):mW (l++m)=mW m:=by
 induction l with
 | nil=>rfl
 | cons a r ih=>
  simp only[mW]at h;split at h;· rename_i ha;simp only[R6,mW,ha,if_true];exact ih h
  ·rename_i ha;exact absurd h ha
theorem UI(l:List Ty)(hc:∀t∈l,t.A0<=2147483648):cU 183 [.sl (l.map P1)] (j0 (gD l)):=by
 refine H2 Tryz.func183 ?_;intro X hP G0 hf X0 hn hR K1 G1;have hlen:=sQ (G1 (.sl (l.map P1)) sS);simp only[fV]at hlen;by_cases h:16<l.length;· exact O1 (j2 @h @gD.eq_1) H0
 ·refine U1 @h ?_;refine Q1 ?_;refine G2 [] tT (dB (l) (fun done=>mW done=0) (fun done rest=>[sV 11 (j0 done.length),sV 10 (j0 l.length),sV 9 (.sl (l.map P1))]) (rfl) ?_ ?_)
  ·intro done x rest hL hg hI Z1;have I1:=E5 hL;have hx:=Qd done (x::rest) hI;rw[<- hL]at hx;refine K5 ?_;refine R4 @hg ?_;refine N1 @hg (M0 (Ea x (hc x (uE hg)))) ?_;by_cases yB:x.L4=0;· refine W3 (wr []) tT @yB (Z1 (by rw[Qd done [x] hI];simp[mW,yB]))
   ·exact O1 (j6 @yB @gD.eq_1 @h @hx @mW.eq_1 @mW.eq_2) H0
  ·intro hI;refine T7 ?_;exact O1 (j3 @gD.eq_1 @h @hI) H0
theorem Ly(k:Int):cU 326 [j0 k] (j0 (C5 k)):=by
 refine H2 Tryz.func326 ?_;intro X hP G0 hf X0 hn hR K1 G1;by_cases bK:k=1
 ·refine U1 @bK ?_;refine N3 ?_;simp[go_sem,hP,G0,hn,C5,bK] <;> (try omega)
 by_cases o9:k=4
 ·refine U1 @o9 ?_;refine N3 ?_;simp[go_sem,hP,G0,hn,C5,o9] <;> (try omega)
 by_cases W9:k=7
 ·refine U1 @W9 ?_;refine N3 ?_;simp[go_sem,hP,G0,hn,C5,W9] <;> (try omega)
 by_cases mF:k=13
 ·refine U1 @mF ?_;refine N3 ?_;simp[go_sem,hP,G0,hn,C5,mF] <;> (try omega)
 by_cases yG:k=2
 ·refine U1 @yG ?_;refine N3 ?_;simp[go_sem,hP,G0,hn,C5,yG] <;> (try omega)
 by_cases HY:k=5
 ·refine U1 @HY ?_;refine N3 ?_;simp[go_sem,hP,G0,hn,C5,HY] <;> (try omega)
 by_cases Hk:k=11
 ·refine U1 @Hk ?_;refine N3 ?_;simp[go_sem,hP,G0,hn,C5,Hk] <;> (try omega)
 by_cases Hz:k=12
 ·refine U1 @Hz ?_;refine N3 ?_;simp[go_sem,hP,G0,hn,C5,Hz] <;> (try omega)
 by_cases Id:k=3
 ·refine U1 @Id ?_;refine N3 ?_;simp[go_sem,hP,G0,hn,C5,Id] <;> (try omega)
 by_cases Hi:k=8
 ·refine U1 @Hi ?_;refine N3 ?_;simp[go_sem,hP,G0,hn,C5,Hi] <;> (try omega)
 by_cases Hu:k=10
 ·refine U1 @Hu ?_;refine N3 ?_;simp[go_sem,hP,G0,hn,C5,Hu] <;> (try omega)
 by_cases Hx:k=6
 ·refine U1 @Hx ?_;refine N3 ?_;simp[go_sem,hP,G0,hn,C5,Hx] <;> (try omega)
 by_cases Hr:k=9
 ·refine U1 @Hr ?_;refine N3 ?_;simp[go_sem,hP,G0,hn,C5,Hr] <;> (try omega)
 refine U1 (j8 @bK @o9 @W9 @mF @yG @HY @Hk (j6 @Hz @Id @Hi @Hu @Hx @Hr)) ?_;refine N3 ?_;simp[go_sem,hP,G0,hn,C5,bK,o9,W9,mF,yG,HY,Hk,Hz,Id,Hi,Hu,Hx,Hr] <;> (try omega)
def sR(t:Tm):Bool:=decide ((t.B0.length:Int)=C5 t.o0)&&decide (0<=t.O0)&&(decide (t.o0=1)||decide (t.O0=0))
theorem Qa(t:Tm)(ht:t.tys):cU 256 [t.dv] (O2 t.shape):=by
 induction t using m7 with
 | h t ih=>
 obtain⟨NS,BR⟩:=(Tm.tys_eq t).1 ht;refine H2 Tryz.func256 ?_;intro X hP G0 hf X0 hn hR K1 G1;have hlen:=kM (G1 t.dv sS);have hs:=Lj t;refine K2 ?_;refine Ha ?_;refine Yp [sV 26 (O2 (!sR t)),sL 1 (gG t),sP 1] ?_ ?_
 ·intro Q3;by_cases hA:(t.B0.length:Int)=C5 t.o0
  ·by_cases hB:t.O0<0
   ·refine N1 (j2 @hA @hB) (M0 (Ly t.o0)) ?_;refine m5 ?_;refine G2 [] (j3 @sR.eq_1 @hA @hB) Q3
   ·by_cases hC:t.o0=1
    ·refine N1 (j3 @hA @hB @hC) (M0 (Ly t.o0)) ?_;refine m5 ?_;refine G2 [] (j4 @sR.eq_1 @hA @hB @hC) Q3
    ·by_cases hD:t.O0=0
     ·refine N1 (j4 @hA @hB @hC @hD) (M0 (Ly t.o0)) ?_;refine m5 ?_;refine G2 [] (j5 @sR.eq_1 @hA @hB @hC @hD) Q3
     ·refine N1 (j4 @hA @hB @hC @hD) (M0 (Ly t.o0)) ?_;refine m5 ?_;refine G2 [] (j5 @sR.eq_1 @hA @hB @hC @hD) Q3
  ·refine N1 @hA (M0 (Ly t.o0)) ?_;refine m5 ?_;refine G2 [] (j2 @sR.eq_1 @hA) Q3
 ·by_cases O8:sR t=true
  ·have hk:qZ t.o0 t.O0 t.I0 t.B0.length=cP t.o0 t.I0:=by
    simp only[sR,uH,decide_eq_true_eq]at O8;simp[qZ,O8]
   refine Kl @O8 ?_;refine K2 ?_;refine Ha ?_;refine Sm (cP t.o0 t.I0=true) [sL 1 (gG t),sP 1] ?_ ?_
   ·intro Q3;by_cases k2:t.o0=2
    ·refine N1 @k2 (M0 (Ea t.I0 oO)) ?_;by_cases hc:t.I0.L4=0;· refine W3 (wr []) @k2 (j2 @k2 @hc) (Q3 (by simp[cP,k2,hc]))
     ·have hz:cP t.o0 t.I0=false:=by simp[cP,k2,hc]
      exact O1 (j4 @hc @hs @hk @hz) H0
    by_cases k6:t.o0=6
    ·refine N1 @k6 (M0 (Ea t.I0 oO)) ?_;by_cases hc:t.I0.L4=0;· refine W3 (wr []) @k6 (j2 @k6 @hc) (Q3 (by simp[cP,k6,hc]))
     ·have hz:cP t.o0 t.I0=false:=by simp[cP,k6,hc]
      exact O1 (j4 @hc @hs @hk @hz) H0
    by_cases k9:t.o0=9
    ·refine N1 @k9 (M0 (Ea t.I0 oO)) ?_;by_cases hc:t.I0.L4=0;· refine W3 (wr []) @k9 (j2 @k9 @hc) (Q3 (by simp[cP,k9,hc]))
     ·have hz:cP t.o0 t.I0=false:=by simp[cP,k9,hc]
      exact O1 (j4 @hc @hs @hk @hz) H0
    refine N1 (j3 @k2 @k6 @k9) (M0 (Qc t.I0)) ?_;by_cases hc:t.I0.zero=true;· refine W3 (wr []) tT @hc (Q3 (by simp[cP,k2,k6,k9,hc]))
    ·have hz:cP t.o0 t.I0=false:=by simp[cP,k2,k6,k9,hc]
     exact O1 (j4 @hc @hs @hk @hz) H0
   ·intro C6;refine N2 ?_;refine Q1 ?_;refine G2 [] (j2 @DR.shapes.eq_1 @DR.shapes.eq_2) (dB (t.B0) (fun done=>DR.shapes done=true) (fun done rest=>[sV 44 (j0 done.length),sV 43 (j0 t.B0.length),sV 42 (.sl (t.B0.map E3))]) (rfl) ?_ ?_)
    ·intro done x rest hL hg hI Z1;have I1:=E5 hL;refine K5 ?_;refine R4 @hg ?_;refine N1 @hg (M0 (ih x (uE hg) (BR x (uE hg)))) ?_;by_cases hx:x.shape=true;· refine W3 (wr []) tT @hx (Z1 (by rw[aM0];simp[hI,DR.shapes,hx]))
     ·refine U1 @hx ?_;have:t.shape=false:=by rw[hs,hL,aM0];simp[DR.shapes,hx]
      exact aN @this
    ·intro hI;refine T7 ?_;exact O1 (j4 @hs @hk @C6 @hI) H0
  ·have hk:qZ t.o0 t.O0 t.I0 t.B0.length=false:=by
    simp only[sR,uH,decide_eq_true_eq]at O8;simp only[qZ];cases hh:(decide ((t.B0.length:Int)=C5 t.o0)&&decide (0<=t.O0)&&(decide (t.o0=1)||decide (t.O0=0))) with
    | true=>exact absurd (by simpa using hh) O8
    | false=>rfl
   exact O1 (j3 @O8 @hs @hk) H0
theorem IB(t:Tm)(ht:t.tys)(hc:t.A0<=2147483648):cU 318 [t.dv] (j0 t.L4):=by
 refine A3 Tryz.func318 fun X zX=>?_;refine N1 H0 (M0 (Qa t ht)) ?_;by_cases h:t.shape=true
 ·refine N1 @h (M0 (lR t hc)) ?_;by_cases h2:4096<t.A0;· exact O1 (j3 @h2 @Tm.L4.eq_1 @h) H0
  ·exact O1 (j3 @h2 @Tm.L4.eq_1 @h) H0
 ·exact O1 (j2 @h @Tm.L4.eq_1) H0
def fJ(k:Int):Bool:=decide (1<=k)&&decide (k<=13)
theorem bW0(k:Int):fJ k=decide (0<=C5 k):=by
 unfold fJ C5;by_cases h:1<=k/\k<=13
 ·have:k=1\/k=2\/k=3\/k=4\/k=5\/k=6\/k=7\/k=8\/k=9\/k=10\/k=11\/k=12\/k=13:=oO;rcases this with rfl|rfl|rfl|rfl|rfl|rfl|rfl|rfl|rfl|rfl|rfl|rfl|rfl <;> decide
 ·rw[if_neg oO,if_neg oO,if_neg oO,if_neg oO]
  simp;omega
theorem vC0(K3:D6 gl 2=some A7)(k:Int):cU 362 [j0 k] (.H1 [j0 (if fJ k=true then C5 k else 0),O2 (fJ k)]):=by
 refine H2 Tryz.func362 ?_;intro X hP G0 hf X0 hn hR K1 G1;have hk:=K3;simp only[A7,P2,Y3]at hk;by_cases bK:k=1
 ·refine U1 (j2 @bK @hk) ?_;refine N3 ?_;simp[go_sem,hP,G0,hn,fJ,C5,bK] <;> (try omega)
 by_cases o9:k=2
 ·refine U1 (j2 @o9 @hk) ?_;refine N3 ?_;simp[go_sem,hP,G0,hn,fJ,C5,o9] <;> (try omega)
 by_cases W9:k=3
 ·refine U1 (j2 @W9 @hk) ?_;refine N3 ?_;simp[go_sem,hP,G0,hn,fJ,C5,W9] <;> (try omega)
 by_cases mF:k=4
 ·refine U1 (j2 @mF @hk) ?_;refine N3 ?_;simp[go_sem,hP,G0,hn,fJ,C5,mF] <;> (try omega)
 by_cases yG:k=5
 ·refine U1 (j2 @yG @hk) ?_;refine N3 ?_;simp[go_sem,hP,G0,hn,fJ,C5,yG] <;> (try omega)
 by_cases HY:k=6
 ·refine U1 (j2 @HY @hk) ?_;refine N3 ?_;simp[go_sem,hP,G0,hn,fJ,C5,HY] <;> (try omega)
 by_cases Hk:k=7
 ·refine U1 (j2 @Hk @hk) ?_;refine N3 ?_;simp[go_sem,hP,G0,hn,fJ,C5,Hk] <;> (try omega)
 by_cases Hz:k=8
 ·refine U1 (j2 @Hz @hk) ?_;refine N3 ?_;simp[go_sem,hP,G0,hn,fJ,C5,Hz] <;> (try omega)
 by_cases Id:k=9
 ·refine U1 (j2 @Id @hk) ?_;refine N3 ?_;simp[go_sem,hP,G0,hn,fJ,C5,Id] <;> (try omega)
 by_cases Hi:k=10
 ·refine U1 (j2 @Hi @hk) ?_;refine N3 ?_;simp[go_sem,hP,G0,hn,fJ,C5,Hi] <;> (try omega)
 by_cases Hu:k=11
 ·refine U1 (j2 @Hu @hk) ?_;refine N3 ?_;simp[go_sem,hP,G0,hn,fJ,C5,Hu] <;> (try omega)
 by_cases Hx:k=12
 ·refine U1 (j2 @Hx @hk) ?_;refine N3 ?_;simp[go_sem,hP,G0,hn,fJ,C5,Hx] <;> (try omega)
 by_cases Hr:k=13
 ·refine U1 (j2 @Hr @hk) ?_;refine N3 ?_;simp[go_sem,hP,G0,hn,fJ,C5,Hr] <;> (try omega)
 by_cases tP:k<1
 ·have:fJ k=false:=by simp[fJ];omega
  exact O1 (j2 @tP @this) H0
 ·have oM:14<=k:=oO;have:fJ k=false:=by simp[fJ];omega
  exact O1 (j3 @tP @oM @this) H0
theorem vD0(k:Int):cU 363 [j0 k] (O2 (decide (k=2)||decide (k=6)||decide (k=9))):=by
 refine H2 Tryz.func363 ?_;intro X hP G0 hf X0 hn hR K1 G1;by_cases bK:k=2
 ·refine U1 @bK ?_;refine N3 ?_;simp[go_sem,hP,G0,hn,bK] <;> (try omega)
 by_cases o9:k=6
 ·refine U1 @o9 ?_;refine N3 ?_;simp[go_sem,hP,G0,hn,o9] <;> (try omega)
 by_cases W9:k=9
 ·refine U1 @W9 ?_;refine N3 ?_;simp[go_sem,hP,G0,hn,W9] <;> (try omega)
 refine U1 (j3 @bK @o9 @W9) ?_;refine N3 ?_;simp[go_sem,hP,G0,hn,bK,o9,W9] <;> (try omega)
theorem QP(t:Ty):cU 280 [t.dv] (O2 t.zero):=by
 refine A3 Tryz.func280 fun X zX=>?_;by_cases h:t.o0=0;· exact O1 (j2 @h @Ty.zero.eq_1) H0
 ·exact O1 (j2 @h @Ty.zero.eq_1) H0
def Ty.lQ(t:Ty):DV:=.H1 [j0 (if t.shape=true then t.A0 else 0:Nat),O2 t.shape]
theorem bX0(t:Ty)(hc:t.A0<=2147483648):cU 316 [t.dv] t.lQ:=by
 induction t using yS with
 | h t ih=>
 rw[sA]at hc;refine H2 Tryz.func316 ?_;intro X hP G0 hf X0 hn hR K1 G1;have hlen:=Py (G1 t.dv sS);have hs:=Pz t;have no:t.shape=false->t.lQ = .H1 [j0 0,O2 false]:=fun h=>by simp[Ty.lQ,h]
 refine K2 ?_;refine K2 ?_;refine K2 ?_;refine Ha ?_;refine Sm (t.o0=1\/t.o0=2\/t.o0=5\/t.o0=3\/t.o0=4) [sV 4 (j0 (mZ t.o0)),sL 1 [.v (j0 t.o0),.v (.sl (t.B0.map P1))],sP 1] ?_ ?_
 ·intro Q3;by_cases h1:t.o0=1;· refine W3 (wr []) (j2 @mZ.eq_1 @h1) @h1 (Q3 (by simp[h1]))
  by_cases h2:t.o0=2;· refine W3 (wr []) (j2 @mZ.eq_1 @h2) @h2 (Q3 (by simp[h2]))
  by_cases h3:t.o0=5;· refine W3 (wr []) (j2 @mZ.eq_1 @h3) @h3 (Q3 (by simp[h3]))
  by_cases h4:t.o0=3;· refine W3 (wr []) (j2 @mZ.eq_1 @h4) @h4 (Q3 (by simp[h4]))
  by_cases h5:t.o0=4;· refine W3 (wr []) (j2 @mZ.eq_1 @h5) @h5 (Q3 (by simp[h5]))
  have hz:=no (by rw[hs];simp[mV,h1,h2,h3,h4,h5]);refine U1 (j5 @h1 @h2 @h3 @h4 @h5) ?_;exact aN @hz
 ·intro hk;by_cases hl:(t.B0.length:Int)=mZ t.o0
  ·have C6:mV t.o0 t.B0.length=true:=by
    unfold mZ at hl;unfold mV;rcases hk with h|h|h|h|h <;> simp[h]at hl ⊢ <;> omega
   refine U1 @hl ?_;refine Q1 ?_;have J0:=j2 @AU.Z0.eq_1 @AU.Z0.eq_2;refine G2 [] J0 (dB (t.B0) (fun done=>wD.shapes done=true) (fun done rest=>[sV 5 (j0 (1+AU.Z0 done:Nat)),sV 27 (j0 done.length),sV 26 (j0 t.B0.length),sV 25 (.sl (t.B0.map P1))]) (rfl) ?_ ?_)
   ·intro done x rest hL hg hI Z1;have I1:=E5 hL;have I8:AU.Z0 t.B0=AU.Z0 done+(x.A0+AU.Z0 rest):=by rw[hL,aL0];rfl
    rw[aL0]at Z1;refine K5 ?_;refine R4 @hg ?_;by_cases hx:x.shape=true
    ·refine N1 (j3 @hg @Ty.lQ.eq_1 @hx) (M0 (ih x (uE hg) oO)) ?_;refine W3 (wr []) J0 @hx (Z1 (by rw[aK0];simp[hI,wD.shapes,hx]))
    ·have hz:=no (by rw[hs,hL,aK0];simp[wD.shapes,hx]);refine N1 (j3 @hg @Ty.lQ.eq_1 @hx) (M0 (ih x (uE hg) oO)) ?_;refine U1 @hx ?_;exact aN @hz
   ·intro hI;have hz:t.lQ = .H1 [j0 t.A0,O2 true]:=by simp[Ty.lQ,hs,C6,hI]
    refine T7 ?_;refine N2 ?_;exact aN (j2 @hz @sA)
  ·have hz:=no (by
    rw[hs];have:mV t.o0 t.B0.length=false:=by
     unfold mZ at hl;unfold mV;rcases hk with h|h|h|h|h <;> simp[h]at hl ⊢ <;> omega
    simp[this])
   refine U1 @hl ?_;exact aN @hz
theorem FY(t:Ty)(hc:t.A0<=2147483648):cU 241 [t.dv] (.H1 [j0 (if t.L4=0 then t.A0 else 0:Nat),j0 t.L4]):=by
 refine A3 Tryz.func241 fun X zX=>?_;refine N2 ?_;by_cases h:t.shape=true
 ·refine N1 (j2 @Ty.lQ.eq_1 @h) (M0 (bX0 t hc)) ?_;by_cases h2:64<t.A0;· exact O1 (j3 @h @h2 @Ty.L4.eq_1) H0
  ·exact O1 (j3 @h @h2 @Ty.L4.eq_1) H0
 ·exact O1 (j3 @Ty.lQ.eq_1 @h @Ty.L4.eq_1) (M0 (bX0 t hc))
def CG(t:Tm):Bool:=fJ t.o0&&decide ((t.B0.length:Int)=C5 t.o0)&&decide (0<=t.O0)&&(decide (t.O0=0)||decide (t.o0=1))
theorem oe0(t:Tm):CG t=sR t:=by
 unfold CG sR;rw[bW0];cases h:decide ((t.B0.length:Int)=C5 t.o0) with
 | false=>simp
 | true=>
  have h1:(t.B0.length:Int)=C5 t.o0:=by simpa using h
  have:decide (0<=C5 t.o0)=true:=by simp;omega
  rw[this];cases decide (0<=t.O0) <;> cases decide (t.O0=0) <;> cases decide (t.o0=1) <;> rfl
def Tm.lQ(t:Tm):DV:=.H1 [j0 (if t.shape=true then t.A0 else 0:Nat),O2 t.shape]
theorem Vb(K3:D6 gl 2=some A7)(t:Tm)(ht:t.tys)(hc:t.A0<=2147483648):cU 310 [t.dv] t.lQ:=by
 induction t using m7 with
 | h t ih=>
 obtain⟨NS,BR⟩:=(Tm.tys_eq t).1 ht;rw[V6]at hc;refine H2 Tryz.func310 ?_;intro X hP G0 hf X0 hn hR K1 G1;have hlen:=kM (G1 t.dv sS);have hs:=Lj t;have no:t.shape=false->t.lQ = .H1 [j0 0,O2 false]:=fun h=>by simp[Tm.lQ,h]
 refine N2 ?_;refine N1 H0 (M0 (vC0 K3 t.o0)) ?_;refine Ha ?_;refine Yp [sV 42 (O2 (!CG t)),sL 1 [.v (j0 t.o0),.v (j0 t.O0),.v (j0 t.I0.o0),.v (.sl (t.I0.B0.map P1)),.v (.sl (t.B0.map E3))],sP 1] ?_ ?_
 ·intro Q3;by_cases h0:fJ t.o0=true
  ·by_cases hA:(t.B0.length:Int)=C5 t.o0
   ·by_cases hB:t.O0<0
    ·refine R4 (j3 @h0 @hA @hB) ?_;refine m5 ?_;refine G2 [] (j4 @CG.eq_1 @h0 @hA @hB) Q3
    ·by_cases hD:t.O0=0
     ·refine R4 (j4 @h0 @hA @hB @hD) ?_;refine m5 ?_;refine G2 [] (j5 @CG.eq_1 @h0 @hA @hB @hD) Q3
     ·by_cases hC:t.o0=1
      ·have h01:fJ 1=true:=rfl;refine R4 (j6 @h0 @hA @hB @hD @hC @h01) ?_;refine m5 ?_;refine G2 [] (j7 @CG.eq_1 @h0 @hA @hB @hD @hC @h01) Q3
      ·refine R4 (j5 @h0 @hA @hB @hD @hC) ?_;refine m5 ?_;refine G2 [] (j6 @CG.eq_1 @h0 @hA @hB @hD @hC) Q3
   ·refine R4 (j2 @h0 @hA) ?_;refine m5 ?_;refine G2 [] (j3 @CG.eq_1 @h0 @hA) Q3
  ·refine R4 @h0 ?_;refine m5 ?_;refine G2 [] (j2 @CG.eq_1 @h0) Q3
 ·rw[oe0];by_cases O8:sR t=true
  ·have hk:qZ t.o0 t.O0 t.I0 t.B0.length=cP t.o0 t.I0:=by
    simp only[sR,uH,decide_eq_true_eq]at O8;simp[qZ,O8]
   refine Kl @O8 ?_;refine N1 H0 (M0 (vD0 t.o0)) ?_;refine Ha ?_;refine Sm (cP t.o0 t.I0=true) [sL 1 [.v (j0 t.o0),.v (j0 t.O0),.v (j0 t.I0.o0),.v (.sl (t.I0.B0.map P1)),.v (.sl (t.B0.map E3))],sP 1] ?_ ?_
   ·intro Q3;by_cases k2:t.o0=2
    ·refine U1 @k2 ?_;refine N1 H0 (M0 (FY t.I0 oO)) ?_;by_cases hc:t.I0.L4=0;· refine W3 (wr []) @k2 (j2 @k2 @hc) (Q3 (by simp[cP,k2,hc]))
     ·have hz:=no (by rw[hs,hk];simp[cP,k2,hc]);refine U1 @hc ?_;exact aN @hz
    by_cases k6:t.o0=6
    ·refine U1 @k6 ?_;refine N1 H0 (M0 (FY t.I0 oO)) ?_;by_cases hc:t.I0.L4=0;· refine W3 (wr []) @k6 (j2 @k6 @hc) (Q3 (by simp[cP,k6,hc]))
     ·have hz:=no (by rw[hs,hk];simp[cP,k6,hc]);refine U1 @hc ?_;exact aN @hz
    by_cases k9:t.o0=9
    ·refine U1 @k9 ?_;refine N1 H0 (M0 (FY t.I0 oO)) ?_;by_cases hc:t.I0.L4=0;· refine W3 (wr []) @k9 (j2 @k9 @hc) (Q3 (by simp[cP,k9,hc]))
     ·have hz:=no (by rw[hs,hk];simp[cP,k9,hc]);refine U1 @hc ?_;exact aN @hz
    refine U1 (j3 @k2 @k6 @k9) ?_;refine N1 H0 (M0 (QP t.I0)) ?_;by_cases hc:t.I0.zero=true;· refine W3 (wr []) tT @hc (Q3 (by simp[cP,k2,k6,k9,hc]))
    ·have hz:=no (by rw[hs,hk];simp[cP,k2,k6,k9,hc]);refine U1 @hc ?_;exact aN @hz
   ·intro C6;refine N2 ?_;refine Q1 ?_;have J0:=j2 @D3.Z0.eq_1 @D3.Z0.eq_2;refine G2 [] J0 (dB (t.B0) (fun done=>DR.shapes done=true) (fun done rest=>[sV 8 (j0 (1+D3.Z0 done:Nat)),sV 61 (j0 done.length),sV 60 (j0 t.B0.length),sV 59 (.sl (t.B0.map E3))]) (rfl) ?_ ?_)
    ·intro done x rest hL hg hI Z1;have I1:=E5 hL;have I8:D3.Z0 t.B0=D3.Z0 done+(x.A0+D3.Z0 rest):=by rw[hL,gR];rfl
     rw[gR]at Z1;refine K5 ?_;refine R4 @hg ?_;by_cases hx:x.shape=true
     ·refine N1 (j3 @hg @Tm.lQ.eq_1 @hx) (M0 (ih x (uE hg) (BR x (uE hg)) oO)) ?_;refine W3 (wr []) J0 @hx (Z1 (by rw[aM0];simp[hI,DR.shapes,hx]))
     ·have hz:=no (by rw[hs,hL,aM0];simp[DR.shapes,hx]);refine N1 (j3 @hg @Tm.lQ.eq_1 @hx) (M0 (ih x (uE hg) (BR x (uE hg)) oO)) ?_;refine U1 @hx ?_;exact aN @hz
    ·intro hI;have hz:t.lQ = .H1 [j0 t.A0,O2 true]:=by simp[Tm.lQ,hs,hk,C6,hI]
     refine T7 ?_;refine N2 ?_;exact aN (j2 @hz @V6)
  ·have hk:qZ t.o0 t.O0 t.I0 t.B0.length=false:=by
    simp only[sR,uH,decide_eq_true_eq]at O8;simp only[qZ];cases hh:(decide ((t.B0.length:Int)=C5 t.o0)&&decide (0<=t.O0)&&(decide (t.o0=1)||decide (t.O0=0))) with
    | true=>exact absurd (by simpa using hh) O8
    | false=>rfl
   have hz:=no (by rw[hs,hk];rfl);refine U1 @O8 ?_;exact aN @hz
theorem fH(h:p<=l.length):(Y2 l p n).2<=l.length:=by
 unfold Y2;split;· exact h
 ·split
  ·rename_i x hx;have:=(uA hx).1;simp only;omega
  ·exact h
theorem lA(h:1<=n):0<=(Y2 l p n).1/\(Y2 l p n).1<n:=by
 unfold Y2;rw[if_neg oO];split
 ·rename_i x hx;have:=fm0 x n h;exact⟨this.1,this.2.1⟩
 ·exact⟨sS,by simp;omega⟩
def tA(l:List Int)(p:Nat):Nat->List Int × Nat
 | 0=>([],p)
 | n+1=>((Y2 l p 4).1::(tA l (Y2 l p 4).2 n).1,(tA l (Y2 l p 4).2 n).2)
def oC(l:List Int):Ty->Nat->Val × Nat
 | .mk k ts,p=>
  if k=1 then (dH 1 (Y2 l p 5).1 [] [],(Y2 l p 5).2)
  else if k=2 then (dH 2 0 (tA l (Y2 l p 4).2 (Y2 l p 4).1.toNat).1 [],(tA l (Y2 l p 4).2 (Y2 l p 4).1.toNat).2)
  else if k=3 then (dH 3 0 [] (mkVals ts p).1,(mkVals ts p).2)
  else (dH 4 0 [] [],p)
where
 mkVals:List Ty->Nat->List Val × Nat
  | [],p=>([],p)
  | t::r,p=>((oC l t p).1::(mkVals r (oC l t p).2).1,(mkVals r (oC l t p).2).2)
def Ty.plain:Ty->Prop
 | .mk k ts=>(k=3->ts.length=2)/\plains ts
where
 plains:List Ty->Prop
  | []=>True
  | t::r=>t.plain/\plains r
theorem Ty.plains_iff(ts:List Ty):Ty.plain.plains ts↔∀a∈ts,a.plain:=by
 induction ts with
 | nil=>simp[Ty.plain.plains]
 | cons a r ih=>simp[Ty.plain.plains,ih]
theorem Ty.plain_eq(t:Ty):t.plain↔(t.o0=3->t.B0.length=2)/\∀a∈t.B0,a.plain:=by
 cases t with
 | mk k ts=>simp only[Ty.plain,Ty.plains_iff,qM,yT]
theorem Jk(l:List Int)(t:Ty)(p:Nat):oC l t p =
  if t.o0=1 then (dH 1 (Y2 l p 5).1 [] [],(Y2 l p 5).2)
  else if t.o0=2 then (dH 2 0 (tA l (Y2 l p 4).2 (Y2 l p 4).1.toNat).1 [],(tA l (Y2 l p 4).2 (Y2 l p 4).1.toNat).2)
  else if t.o0=3 then (dH 3 0 [] (oC.mkVals l t.B0 p).1,(oC.mkVals l t.B0 p).2)
  else (dH 4 0 [] [],p):=by
 cases t;rfl
theorem eB0{l:List Int}:∀{n p:Nat},p<=l.length->(tA l p n).2<=l.length
 | 0,_,h=>h
 | n+1,_,h=>eB0 (n:=n) (fH h)
theorem eC0(t:Ty):∀{p:Nat},p<=l.length->(oC l t p).2<=l.length:=by
 induction t using yS with
 | h t ih=>
 intro p hp;have hs:∀ts:List Ty,(∀a∈ts,a∈t.B0)->∀p,p<=l.length->(oC.mkVals l ts p).2<=l.length:=by
  intro ts
  induction ts with
  | nil=>intro _ p hp;exact hp
  | cons a r l6=>intro h p hp;exact l6 (fun b hb=>h b (iJ _ hb)) _ (ih a (h a sS) hp)
 rw[Jk];split;· exact fH hp
 ·split;· exact eB0 (fH hp)
  ·split;· exact hs t.B0 (fun _ h=>h) p hp
   ·exact hp
theorem vE0(t:Ty)(b:Nat)(l:List Int)(p:Nat)(hl:l.length<=500)(hp:p<=l.length)(ht:t.plain) :
  cT 13 [M3 b,t.dv] [(b,R5 l p)] (oC l t p).1.dv [(b,R5 l (oC l t p).2)]:=by
 induction t using yS generalizing p with
 | h t ih=>
 refine H2 Tryz.func13 ?_;intro X hP G0 hf X0 hn hR K1 G1;have hp5:=fH (n:=5) hp;have hp4:=fH (n:=4) hp;rw[Jk]at hR;refine K2 ?_;refine K2 ?_;by_cases h1:t.o0=1
 ·rw[if_pos h1]at hR;refine R4 @h1 ?_;refine Q1 ?_;refine aB rfl ?_ ?_;rotate_left;· intro h;simp at h
  intro _;refine U6 tT fun K hK=>?_;refine Z7 tT (fX b l p 5 dD oO) ?_;refine K4 ?_;clear hK K;exact s7 [(b,R5 l (Y2 l p 5).2)] tT
 rw[if_neg h1]at hR;by_cases h2:t.o0=2
 ·rw[if_pos h2]at hR;have OE:=lA (l:=l) (p:=p) (n:=4) dD;obtain⟨r0,dW⟩:∃r0:Nat,(Y2 l p 4).1=r0:=⟨(Y2 l p 4).1.toNat,oO⟩;rw[dW,aO0]at hR;rw[dW]at OE;refine R4 @h2 ?_;refine Q1 ?_;refine aB rfl ?_ ?_;· intro h;simp at h
  intro _;refine R4 @h2 ?_;refine Q1 ?_;refine aB rfl ?_ ?_;rotate_left;· intro h;simp at h
  intro _;refine K2 ?_;refine U6 tT fun K hK=>?_;refine Z7 tT (fX b l p 4 dD oO) ?_;refine K4 ?_;clear hK K;refine Q1 ?_
  refine aM [(1005,0)] sG (by simp[go_sem,dW,c7]) sG (mQ (fun x:List Int × Nat × Nat=>x.2.1<=l.length/\(x.1++(tA l x.2.1 x.2.2).1,(tA l x.2.1 x.2.2).2)=tA l (Y2 l p 4).2 r0/\x.1.length+x.2.2<=4)
   (fun x=>[(.P0 6,.one (.v (j0 x.2.2))),(.heap b,.row [.v (.sl (P2 l)),.v (j0 x.2.1)]),(.loc 5,.row [.v (j0 2),.v (j0 0),.own 1005 (P2 x.1),.own 0 []]),(.tok 1005,.tk 1 x.1.length),(.P0 5,.one (.loc 5 0)),(.loc 4,.row [.v (j0 0),.v (j0 0),.own 0 [],.own 0 []]),(.P0 4,.one (.loc 4 0)),(.P0 0,.one (.v (M3 b)))])
   (fun x=>x.2.2) ([],(Y2 l p 4).2,r0) ⟨hp4,sS,by simp;omega⟩ ?_)
  rintro⟨acc,q,r⟩ ⟨i1,i2,i3⟩ l6;simp only at i1 i2 i3;cases r with
  | zero=>
   simp only[tA,List.append_nil]at i2;refine K2 ?_;refine Q1 ?_;refine aB rfl ?_ ?_;· intro h;simp at h
   intro _;refine K2 ?_;exact s7 [(b,R5 l q)] (i2).symm
  | succ r=>
   have hq:=fH (n:=4) i1;refine K5 ?_;refine U6 tT fun K hK=>?_;refine Z7 tT (fX b l q 4 dD oO) ?_;refine K4 ?_;clear hK K;refine K2 ?_;refine m5 ?_;refine G2 [(1005,28)] (j2 @Wj @c7) (l6 (acc++[(Y2 l q 4).1],(Y2 l q 4).2,r) ⟨hq,by rw[<- i2];simp[tA],by simp;omega⟩ sS)
 rw[if_neg h2]at hR;by_cases h3:t.o0=3
 ·rw[if_pos h3]at hR;obtain⟨NS,BR⟩:=(Ty.plain_eq t).1 ht
  obtain⟨x,y,mD⟩:∃x y,t.B0=[x,y]:=by
   have:=NS h3
   match h:t.B0,this with
   | [x,y],_=>exact⟨x,y,rfl⟩
  have hpx:=eC0 (l:=l) x hp;refine R4 @h3 ?_;refine Z6 ?_;refine R4 @h3 ?_;refine Z6 ?_;refine R4 @h3 ?_;refine sZ ?_;refine U6 @mD fun K hK=>?_;refine Z7 @mD (ih x (by simp[mD]) p hp (BR x (by simp[mD]))) ?_;refine Z7 @mD (ih y (by simp[mD]) _ hpx (BR y (by simp[mD]))) ?_;refine K4 ?_;clear hK K;exact s7 [(b,R5 l (oC l y (oC l x p).2).2)] (j3 @mD @oC.mkVals.eq_1 @oC.mkVals.eq_2)
 rw[if_neg h3]at hR;refine R4 @h1 ?_;refine Z6 ?_;refine R4 @h2 ?_;refine Z6 ?_;refine R4 @h3 ?_;refine Z6 ?_;refine K2 ?_;exact s7 [(b,R5 l p)] tT
theorem Val.fit_args{t:Val}(h:t.dv.fit):t.B0.length<=2147483648:=((aP0 t).1 ((aQ0 t).1 h)).2.2.2.1
theorem Val.fit_list{t:Val}(h:t.dv.fit):t.list.length<=2147483648:=((aP0 t).1 ((aQ0 t).1 h)).2.2.1.1
theorem Nf(k:Int)(l:List Tm):cU 289 [j0 k,.sl (l.map E3)] (U0 k 0 (L0 0 []) l).dv:=by
 refine A3 Tryz.func289 fun X zX=>?_;refine K2 ?_;refine K2 ?_;exact JK
def g8:Nat->Tm
 | 0=>U0 4 0 (L0 0 []) []
 | n+1=>U0 5 0 (L0 0 []) [g8 n]
def Ng(n:Int):Int:=min n 4096+1
def Val.okB(v:Val):Bool:=
 if v.o0=1 then decide (0<=v.Z3)&&decide (v.list.length=0)&&decide (v.B0.length=0)
 else if v.o0=2 then decide (v.Z3=0)&&!v.list.any (fun n=>decide (n<0))&&decide (v.B0.length=0)
 else if v.o0=3 then decide (v.Z3=0)&&decide (v.list.length=0)&&decide (v.B0.length=2)
 else if v.o0=4 then decide (v.Z3=0)&&decide (v.list.length=0)&&decide (v.B0.length=0)
 else false
theorem mh0(n:Int):cU 314 [j0 n] (O2 (decide (n<0))):=by
 refine A3 Tryz.func314 fun X zX=>?_;refine K2 ?_;refine K2 ?_;exact rF
abbrev Zi(f:Nat):DV:=.K0 (.func (.func f) #[] #[])
def Sp(l:List Int):Int:=match l.findIdx? (fun n=>decide (n<0)) with
 | some k=>k
 | none=>-1
theorem mi0(l:List Int):cU 364 [.sl (P2 l),Zi 314] (j0 (Sp l)):=by
 refine H2 Tryz.func364 ?_;intro X hP G0 hf X0 hn hR K1 G1;have hlen:l.length<=2147483648:=by simpa [P2] using sQ (G1 (.sl (P2 l)) sS)
 refine K2 ?_;refine K2 ?_;refine Q1 ?_;refine G2 [] tT (xF (l.length) (fun i=>∀(j:Nat) (x:Int),j<i->l[j]? = some x->0<=x) (fun i=>[sV 8 (j0 i),sV 7 (j0 l.length),sV 6 (.sl (P2 l)),sV 0 (.sl (P2 l)),sV 1 (Zi 314)]) (by intro j x h;omega) ?_ ?_)
 ·intro i I1 hI Z1;obtain⟨x,hx⟩:∃x,l[i]? = some x:=⟨_,uB I1⟩;have hg:=zL hx;refine K5 ?_;refine K2 ?_;refine U6 @hg fun K hK=>?_;repeat (refine⟨oO,?_⟩)
  refine qW0 hP G0 (mh0 x) sG sH rfl sG sS nN ?_;simp[go_sem,hP,G0,hn];refine K4 ?_;clear hK K;by_cases ZN:x<0
  ·refine Q1 ?_;refine aB rfl ?_ ?_;rotate_left;· intro h;simp[ZN]at h
   intro _;refine K2 ?_;refine N3 ?_;simp[go_sem,hP,G0,hn] <;> (try omega);unfold Sp;have:l.findIdx? (fun n=>decide (n<0))=some i:=by
    rw[List.findIdx?_eq_some_iff_getElem];obtain⟨h1,h2⟩:=uA hx;refine⟨h1,by simp[h2,ZN],fun j hj=>?_⟩;have:=hI j l[j] hj (uB oO)
    simp;omega
   rw[this]
  ·refine Q1 ?_;refine aB rfl ?_ ?_;· intro h;simp[ZN]at h
   intro _;refine K2 ?_;refine m5 ?_;refine G2 [] tT (Z1 ?_);intro j y hj hy;by_cases vS:j=i;· subst vS;rw[hx]at hy;cases hy;omega
   ·exact hI j y oO hy
 ·intro hI;refine T7 ?_;refine K2 ?_;refine N3 ?_;simp[go_sem,hP,G0,hn] <;> (try omega);unfold Sp;have:l.findIdx? (fun n=>decide (n<0))=none:=by
   rw[List.findIdx?_eq_none_iff];intro x hx;obtain⟨i,hi,rfl⟩:=yM.1 hx;have:=hI i l[i] hi (uB hi)
   simp;omega
  rw[this]
theorem mj0(l:List Int):cU 315 [.sl (P2 l),Zi 314] (O2 (l.any (fun n=>decide (n<0)))):=by
 refine H2 Tryz.func315 ?_;intro X hP G0 hf X0 hn hR K1 G1;refine K2 ?_;refine U6 tT fun K hK=>?_;refine Z7 tT (mi0 l) ?_;refine K4 ?_;clear hK K;refine N3 ?_;simp[go_sem,hP,G0,hn] <;> (try omega);unfold Sp;cases h:l.findIdx? (fun n=>decide (n<0)) with
 | none=>
  rw[List.findIdx?_eq_none_iff]at h;have:l.any (fun n=>decide (n<0))=false:=by
   rw[List.any_eq_false];intro x hx;simp[h x hx]
  simp only[this];decide
 | some k=>
  obtain⟨h1,h2,-⟩:=List.findIdx?_eq_some_iff_getElem.1 h;have:l.any (fun n=>decide (n<0))=true:=by
   rw[List.any_eq_true];exact⟨_,vY h1,h2⟩
  simp[this]
def Val.nodesN:Val->Int × Bool
 | .mk k n l a=>nodesL a (1,Val.okB (.mk k n l a))
where
 nodesL:List Val->Int × Bool->Int × Bool
  | [],p=>p
  | a::r,p=>if p.2 then nodesL r (p.1+(Val.nodesN a).1,(Val.nodesN a).2) else p
theorem Val.nodesN_eq(v:Val):v.nodesN=nodesN.nodesL v.B0 (1,v.okB):=by cases v;simp[nodesN,B0]
theorem Val.nodesL_no(l:List Val)(n:Int):nodesN.nodesL l (n,false)=(n,false):=by cases l <;> simp[nodesN.nodesL]
theorem Val.nodesL_append(l m:List Val)(p:Int × Bool):nodesN.nodesL (l++m) p=nodesN.nodesL m (nodesN.nodesL l p):=by
 induction l generalizing p with
 | nil=>simp[nodesN.nodesL]
 | cons a r ih=>
  obtain⟨n,ok⟩:=p;cases ok with
  | true=>simp[nodesN.nodesL,ih]
  | false=>simp[nodesL_no]
def Val.A0:Val->Nat
 | .mk _ _ _ a=>1+Z0 a
where
 Z0:List Val->Nat
  | []=>0
  | a::r=>a.A0+Z0 r
theorem Val.count_eq(t:Val):t.A0=1+Val.A0.Z0 t.B0:=by cases t;simp[A0,B0]
theorem Val.counts_append(l m:List Val):Val.A0.Z0 (l++m)=Val.A0.Z0 l+Val.A0.Z0 m:=by
 induction l with
 | nil=>simp[Val.A0.Z0]
 | cons a r ih=>simp[Val.A0.Z0,ih];omega
theorem Val.nodesL_le{v:Val}(ih:∀a∈v.B0,0<=a.nodesN.1/\a.nodesN.1<=a.A0)(l:List Val):(∀a∈l,a∈v.B0)->∀(n:Int) (ok:Bool),n<=(nodesN.nodesL l (n,ok)).1/\(nodesN.nodesL l (n,ok)).1<=n+Val.A0.Z0 l:=by
 induction l with
 | nil=>intro _ n ok;simp[nodesN.nodesL,Val.A0.Z0]
 | cons a r l6=>
  intro h n ok;have h1:=ih a (h a sS);cases ok with
  | false=>simp[nodesL_no,Val.A0.Z0];omega
  | true=>
   have h2:=l6 (fun b hb=>h b (iJ _ hb)) (n+a.nodesN.1) a.nodesN.2;simp only[nodesN.nodesL,if_true,Val.A0.Z0];omega
theorem Val.nodes_le(v:Val):0<=v.nodesN.1/\v.nodesN.1<=v.A0:=by
 induction v using Il with
 | h v ih=>
 have:=Val.nodesL_le ih v.B0 (fun _ h=>h) 1 v.okB;rw[nodesN_eq,count_eq];omega
theorem vF0(v:Val)(hc:v.A0<=2147483648):cU 238 [v.dv] (.H1 [j0 v.nodesN.1,O2 v.nodesN.2]):=by
 induction v using Il with
 | h v ih=>
 refine H2 Tryz.func238 ?_;intro X hP G0 hf X0 hn hR K1 G1;have gQ:=Val.fit_args (G1 v.dv sS);have fU:=Val.fit_list (G1 v.dv sS);rw[Val.count_eq]at hc;refine K2 ?_;refine K2 ?_;refine K2 ?_;refine K2 ?_;refine Ha ?_;refine Yp [sV 5 (O2 v.okB),sL 1 [.v (j0 v.o0),.v (j0 v.Z3),.v (.sl (P2 v.list)),.v (.sl (v.B0.map vZ))],sP 1] ?_ ?_
 ·intro Q3;by_cases h1:v.o0=1
  ·refine R4 @h1 ?_;refine sZ ?_;by_cases q1:0<=v.Z3
   ·by_cases q2:v.list.length=0
    ·refine R4 (j3 @h1 @q1 @q2) ?_;refine m5 ?_;refine G2 [] (j4 @Val.okB.eq_1 @h1 @q1 @q2) Q3
    ·refine R4 (j3 @h1 @q1 @q2) ?_;refine m5 ?_;refine G2 [] (j4 @Val.okB.eq_1 @h1 @q1 @q2) Q3
   ·refine R4 (j2 @h1 @q1) ?_;refine m5 ?_;refine G2 [] (j3 @Val.okB.eq_1 @h1 @q1) Q3
  by_cases h2:v.o0=2
  ·refine R4 @h2 ?_;refine Z6 ?_;refine R4 @h2 ?_;refine sZ ?_;by_cases q1:v.Z3=0
   ·refine U6 (j2 @h2 @q1) fun K hK=>?_;refine Z7 tT (mj0 v.list) ?_;by_cases q2:v.list.any (fun n=>decide (n<0))=true
    ·simp[go_sem,hP,hn,q2];refine K4 ?_;clear hK K;refine m5 ?_;refine G2 [] (j4 @Val.okB.eq_1 @h2 @q1 @q2) Q3
    ·simp only[Bool.not_eq_true]at q2;simp[go_sem,hP,hn,q2];refine K4 ?_;clear hK K;refine m5 ?_;refine G2 [] (j4 @Val.okB.eq_1 @h2 @q1 @q2) Q3
   ·refine R4 (j2 @h2 @q1) ?_;refine m5 ?_;refine G2 [] (j3 @Val.okB.eq_1 @h2 @q1) Q3
  by_cases h3:v.o0=3
  ·refine R4 @h3 ?_;refine Z6 ?_;refine R4 @h3 ?_;refine Z6 ?_;refine R4 @h3 ?_;refine sZ ?_;by_cases q1:v.Z3=0
   ·by_cases q2:v.list.length=0
    ·refine R4 (j3 @h3 @q1 @q2) ?_;refine m5 ?_;refine G2 [] (j4 @Val.okB.eq_1 @h3 @q1 @q2) Q3
    ·refine R4 (j3 @h3 @q1 @q2) ?_;refine m5 ?_;refine G2 [] (j4 @Val.okB.eq_1 @h3 @q1 @q2) Q3
   ·refine R4 (j2 @h3 @q1) ?_;refine m5 ?_;refine G2 [] (j3 @Val.okB.eq_1 @h3 @q1) Q3
  by_cases h4:v.o0=4
  ·refine R4 @h4 ?_;refine Z6 ?_;refine R4 @h4 ?_;refine Z6 ?_;refine R4 @h4 ?_;refine Z6 ?_;refine R4 @h4 ?_;refine sZ ?_;by_cases q1:v.Z3=0
   ·by_cases q2:v.list.length=0
    ·refine R4 (j3 @h4 @q1 @q2) ?_;refine m5 ?_;refine G2 [] (j4 @Val.okB.eq_1 @h4 @q1 @q2) Q3
    ·refine R4 (j3 @h4 @q1 @q2) ?_;refine m5 ?_;refine G2 [] (j4 @Val.okB.eq_1 @h4 @q1 @q2) Q3
   ·refine R4 (j2 @h4 @q1) ?_;refine m5 ?_;refine G2 [] (j3 @Val.okB.eq_1 @h4 @q1) Q3
  refine R4 @h1 ?_;refine Z6 ?_;refine R4 @h2 ?_;refine Z6 ?_;refine R4 @h3 ?_;refine Z6 ?_;refine R4 @h4 ?_;refine Z6 ?_;refine m5 ?_;refine G2 [] (j5 @Val.okB.eq_1 @h1 @h2 @h3 @h4) Q3
 ·refine K2 ?_;refine K2 ?_;refine Q1 ?_;refine G2 [] (j2 @Val.nodesN.nodesL.eq_1 @Val.nodesN.nodesL.eq_2) (y7 (v.B0) (fun done rest=>[sV 84 (j0 done.length),sV 83 (j0 v.B0.length),sV 82 (.sl (v.B0.map vZ)),sV 6 (j0 (Val.nodesN.nodesL done (1,v.okB)).1),sV 5 (O2 (Val.nodesN.nodesL done (1,v.okB)).2)]) ?_ ?_)
  ·intro done x rest hL hg Z1;have I1:=E5 hL;have I8:Val.A0.Z0 v.B0=Val.A0.Z0 done+(x.A0+Val.A0.Z0 rest):=by rw[hL,Val.counts_append];rfl
   have hb:=Val.nodesL_le (v:=v) (fun a _=>Val.nodes_le a) done (fun a ha=>by rw[hL];simp[ha]) 1 v.okB;have hx:=Val.nodes_le x;obtain⟨n,ok,hp⟩:∃n ok,Val.nodesN.nodesL done (1,v.okB)=(n,ok):=⟨_,_,rfl⟩;rw[hp]at hb;simp only[Val.nodesL_append,hp]at Z1 ⊢;refine K5 ?_;refine R4 @hg ?_;cases ok with
   | false=>
    refine K5 ?_;refine K2 ?_;exact aN (j5 @Val.nodesN_eq @hL @Val.nodesL_append @hp @Val.nodesL_no)
   | true=>
    refine T7 ?_;refine K2 ?_;refine U6 tT fun K hK=>?_;refine Z7 tT (ih x (uE hg) oO) ?_;refine K4 ?_;clear hK K;refine K2 ?_;refine K2 ?_;refine m5 ?_;refine G2 [] (j2 @Val.nodesN.nodesL.eq_1 @Val.nodesN.nodesL.eq_2) Z1
  ·refine K2 ?_;refine Z6 ?_;refine K2 ?_;exact aN @Val.nodesN_eq
theorem vG0(v:Val)(hc:v.A0<=2147483648):cU 148 [v.dv] (j0 (if v.nodesN.2=true then if v.nodesN.1 > 64 then 4 else 0 else 2)):=by
 refine A3 Tryz.func148 fun X zX=>?_;refine K2 ?_;refine U6 tT fun K hK=>?_;refine Z7 tT (vF0 v hc) ?_;refine K4 ?_;clear hK K;obtain⟨n,ok,hp⟩:∃n ok,v.nodesN=(n,ok):=⟨_,_,rfl⟩;simp only[hp];cases ok with
 | false=>
  refine K5 ?_;refine K2 ?_;exact aN @hp
 | true=>
  refine T7 ?_;by_cases h:64<n
  ·refine R4 @h ?_;refine sZ ?_;refine K2 ?_;exact aN (j2 @hp @h)
  ·refine R4 @h ?_;refine Z6 ?_;refine K2 ?_;exact aN (j2 @hp @h)
theorem Qi(K3:D6 gl 2=some A7)(t:Tm)(ht:t.tys)(hc:t.A0<=2147483648):cU 235 [t.dv] (.H1 [j0 (if t.L4=0 then t.A0 else 0:Nat),j0 t.L4]):=by
 refine A3 Tryz.func235 fun X zX=>?_;refine N2 ?_;by_cases h:t.shape=true
 ·refine N1 (j2 @Tm.lQ.eq_1 @h) (M0 (Vb K3 t ht hc)) ?_;by_cases h2:4096<t.A0;· exact O1 (j3 @h @h2 @Tm.L4.eq_1) H0
  ·exact O1 (j3 @h @h2 @Tm.L4.eq_1) H0
 ·exact O1 (j3 @Tm.lQ.eq_1 @h @Tm.L4.eq_1) (M0 (Vb K3 t ht hc))
theorem ID(K3:D6 gl 2=some A7)(t:Tm)(ht:t.tys)(hc:t.A0<=2147483648):cU 145 [t.dv] (j0 t.L4):=by
 exact B2 Tryz.func145 H0 (M0 (Qi K3 t ht hc))
def GS:Val:=dH 0 0 [] []
theorem y00:cU 239 [] (L0 2 []).dv:=by
 exact G7 Tryz.func239 H0 H0
theorem CJ0:cU 217 [] (L0 1 []).dv:=by
 exact G7 Tryz.func217 H0 H0
def Val.tyN:Val->Ty
 | .mk k _ _ a=>if k=2 then L0 2 [] else if k=4 then L0 5 [] else if k=3 then L0 3 (tys a) else L0 1 []
where
 tys:List Val->List Ty
  | []=>[]
  | a::r=>a.tyN::tys r
theorem Val.tys_map(l:List Val):tyN.tys l=l.map Val.tyN:=by
 induction l with
 | nil=>rfl
 | cons a r ih=>simp[tyN.tys,ih]
theorem Val.tyN_eq(v:Val):v.tyN=if v.o0=2 then L0 2 [] else if v.o0=4 then L0 5 [] else if v.o0=3 then L0 3 (v.B0.map Val.tyN) else L0 1 []:=by
 cases v;rw[tyN,tys_map];rfl
def Nu:List Int->Int->Int × Bool
 | [],n=>(n,false)
 | x::r,n=>if 4096<n+(1+Ng x) then (n+(1+Ng x),true) else Nu r (n+(1+Ng x))
def Val.lengthN:Val->Int
 | .mk k n l a=>
  if k=1 then lengths a (Ng n)
  else if k=2 then (if (Nu l 1).2=true then (Nu l 1).1 else lengths a (Nu l 1).1)
  else lengths a 1
where
 lengths:List Val->Int->Int
  | [],n=>n
  | a::r,n=>lengths r (n+a.lengthN)
def Val.pos(v:Val):Prop:=0<=v.Z3/\∀n∈v.list,(0:Int)<=n
def Val.allPos:Val->Prop
 | .mk k n l a=>Val.pos (.mk k n l a)/\poss a
where
 poss:List Val->Prop
  | []=>True
  | a::r=>a.allPos/\poss r
theorem Val.poss_iff(l:List Val):allPos.poss l↔∀a∈l,a.allPos:=by
 induction l with
 | nil=>simp[allPos.poss]
 | cons a r ih=>simp[allPos.poss,ih]
theorem Val.allPos_eq(v:Val):v.allPos↔v.pos/\∀a∈v.B0,a.allPos:=by
 cases v;simp only[allPos,poss_iff,B0]
def Val.head(v:Val):Int:=if v.o0=1 then Ng v.Z3 else if v.o0=2 then (Nu v.list 1).1 else 1
theorem mk0(l:List Int):lF W0 gl 150 [.sl (P2 l)] [] fun r φ=>∃b,r = .K0 (.func (.func 240) #[] #[.pointer (some ⟨b,0,none⟩)])/\φ=[(b,[.sl (P2 l)])]:=by
 refine H2 Tryz.func150 ?_;intro X hP G0 hf X0 hn hR K1 G1;refine K2 ?_;refine fG 1 (by simp[go_sem];rfl) ?_;intro b hb;simp[go_sem];refine K2 ?_;refine Q1 ?_;refine gA hP hf X0 (.K0 (.func (.func 240) #[] #[.pointer (some ⟨b,0,none⟩)])) [(b,[.sl (P2 l)])] sH sG sS (by rw[hR.1];exact⟨b,rfl,rfl⟩) hR.2
def gD0(P:Program)(gl:X8)(l:List Int)(φ:Nat->G3)(Stop:G3->Loop->Prop)(lp:Nat)(r:Loop)(D0:Nat->Nat->Prop)(w0:World):Prop:=
 ∀(i:Nat) (x:Int),l[i]? = some x->YC P gl D0 w0 lp r [j0 i,j0 x] (φ (i+1)) fun b I2 r'=>if b=true then I2=φ i/\r' = r else Stop I2 r'
theorem rb0(l:List Int)(hlen:l.length<=2147483648)(b0:Nat)(φ:Nat->G3)(S4:∀i,(φ i).map (·.1)=(φ 0).map (·.1))(A4:((φ 0).map (·.1)).Nodup)(dF:b0∉(φ 0).map (·.1)){Stop:G3->Loop->Prop}(Pi:∀ψ r',Stop ψ r'->ψ.map (·.1)=(φ 0).map (·.1))(lp:Nat)(r:Loop)(kT:r.params.size=2) :
  NE W0 gl 240 [.K0 (.func (.yield lp) #[] #[]),M3 b0] ((b0,[.sl (P2 l)])::φ l.length) lp r (gD0 W0 gl l φ Stop lp r) (fun I2 r'=>(I2=(b0,[.sl (P2 l)])::φ 0/\r' = r)\/∃ψ,I2=(b0,[.sl (P2 l)])::ψ/\Stop ψ r'):=by
 refine Wh jc0 rfl kK (uF rfl) ?_;intro X hP G0 hf X0 hn t9 K1 G1 HL hY;simp only[G4,u5,not_or,S4]at HL;obtain⟨o8,BP⟩:=HL;have V7:∀(i:Nat) (A:St),(∀m v,(m,v)∈A->∀b∈(φ 0).map (·.1),m≠.heap b)->v7 (get (A++U3 (φ i))) (φ i):=fun i A h=>Vo (by rw[S4];exact A4) (by rw[S4];exact h);simp only[GH,entry,bA,U3,G4,O5,R6,aT];refine R4 @o8 ?_;refine Q1 ?_;refine Sn (A':=[(.P0 3,.one (.v (j0 ((l.length:Int) - 1 - (0:Nat))))),(.P0 0,.one (.v (.K0 (.func (.yield lp) #[] #[])))),(.P0 1,.one (.v (M3 b0))),(.heap lp,.ob r),(.heap b0,.row [.v (.sl (P2 l))])]) (A:=[_,_,_,_,_,_,_,_]) ?_ ?_ ?_
 ·intro m v h;simp only[u5,mL,or_false,uD]at h;rcases h with⟨rfl,rfl⟩|⟨rfl,rfl⟩|⟨rfl,rfl⟩|⟨rfl,rfl⟩|⟨rfl,rfl⟩ <;> simp[go_sem,o8]
 ·simp only[R6,aT];refine xF (X:=X) l.length (fun _=>True) (fun j=>(.P0 3,.one (.v (j0 ((l.length:Int) - 1 - (j:Nat)))))::(.P0 0,.one (.v (.K0 (.func (.yield lp) #[] #[]))))::(.P0 1,.one (.v (M3 b0)))::(.heap lp,.ob r)::(.heap b0,.row [.v (.sl (P2 l))])::U3 (φ (l.length - j))) tT ?_ ?_
  ·intro j hj _ Z1;obtain⟨i,hi⟩:∃i:Nat,l.length=j+1+i:=⟨l.length - (j+1),oO⟩;have AE:(l.length:Int) - 1 - (j:Nat)=(i:Nat):=oO;have kA:l.length - j=i+1:=oO;have hi3:l.length - (j+1)=i:=oO;have hx:l[i]? = some l[i]:=uB oO;rw[AE,kA];rw[hi3]at Z1;generalize l[i]=x at hx;have vR:=zL hx;refine K5 ?_;refine U6 (j2 @o8 @vR) fun K hK=>?_;repeat (refine⟨oO,?_⟩)
   refine VF sG hP G0 (hY i x hx) kT sG rfl ?_ (by rw[S4];exact A4) sG nN [(.P0 3,.one (.v (j0 (i:Nat)))),(.P0 0,.one (.v (.K0 (.func (.yield lp) #[] #[])))),(.P0 1,.one (.v (M3 b0))),(.heap b0,.row [.v (.sl (P2 l))])] ?_ ?_ ?_
   ·repeat (first|refine IH ?_|refine II (by rw[S4];assumption) ?_)
    exact Bh (by rw[S4];exact A4)
   ·intro m v h;simp only[u5,mL,or_false,uD]at h;rw[S4];rcases h with⟨rfl,rfl⟩|⟨rfl,rfl⟩|⟨rfl,rfl⟩|⟨rfl,rfl⟩;· simp[go_sem]
    ·simp[go_sem]
    ·simp[go_sem]
    ·refine⟨by simp[go_sem,o8],sS,by simp;exact fun e=>o8 e.symm,fun b hb e=>?_⟩;cases e;exact dF hb
   ·intro b I2 r' h;have:I2.map (·.1)=(φ 0).map (·.1):=by
     split at h;· rw[h.1,S4]
     ·exact Pi _ _ h
    rw[this];exact⟨A4,BP⟩
   ·intro b I2 r' h _;simp only[R6,aT];cases b with
    | true=>
     simp only[if_true]at h;obtain⟨rfl,rfl⟩:=h;simp[go_sem,hP,G0,hn];refine K4 ?_;clear hK K;refine Z6 ?_;refine K2 ?_;refine Q1 ?_;refine Sn (A':=[(.P0 3,.one (.v (j0 ((l.length:Int) - 1 - (j+1:Nat))))),(.P0 0,.one (.v (.K0 (.func (.yield lp) #[] #[])))),(.P0 1,.one (.v (M3 b0))),(.heap lp,.ob r'),(.heap b0,.row [.v (.sl (P2 l))])]) (A:=[_,_,_,_,_,_,_,_,_]) ?_ (Z1 tT) ?_
     ·intro m v h;simp only[u5,mL,or_false,uD]at h;rcases h with⟨rfl,rfl⟩|⟨rfl,rfl⟩|⟨rfl,rfl⟩|⟨rfl,rfl⟩|⟨rfl,rfl⟩ <;> simp[go_sem,o8];omega
     ·intro m v h;simp only[u5,mL,or_false,uD]at h;rw[S4];intro b hb;rcases h with⟨rfl,rfl⟩|⟨rfl,rfl⟩|⟨rfl,rfl⟩|⟨rfl,rfl⟩|⟨rfl,rfl⟩|⟨rfl,rfl⟩|⟨rfl,rfl⟩|⟨rfl,rfl⟩|⟨rfl,rfl⟩ <;> first|(simp;done)|(intro e;cases e;first|exact dF hb|exact BP hb)
    | false=>
     simp only[Bool.false_eq_true,if_false]at h;have oR:=Pi _ _ h;simp[go_sem,hP,G0,hn];refine K4 ?_;clear hK K;refine sZ ?_;refine Q1 ?_;refine MI t9 (φ:=(b0,[.sl (P2 l)])::I2) (q:=r') (r:=.H1 []) (by rw[hP,hf,X0];exact jc0) (by rw[X0];simp[go_sem]) (cZ ?_ ?_) ?_ ?_ (.inr ⟨I2,rfl,h⟩) Rs;· simp[go_sem,o8]
     ·repeat (first|refine IH ?_|refine II (by rw[oR];assumption) ?_)
      exact Bh (by rw[oR];exact A4)
     ·simp only[G4,Ck,oR];exact⟨dF,A4⟩
     ·simp[go_sem,o8]
  ·intro _;refine T7 ?_;refine Q1 ?_;refine MI t9 (φ:=(b0,[.sl (P2 l)])::φ 0) (q:=r) (r:=.H1 []) (by rw[hP,hf,X0];exact jc0) (by rw[X0];simp[go_sem]) (cZ ?_ ?_) ?_ ?_ (.inl ⟨rfl,rfl⟩) Ml;· simp[go_sem,o8]
   ·repeat (first|refine IH ?_|refine II (by assumption) ?_)
    exact Bh A4
   ·simp only[G4,Ck];exact⟨dF,A4⟩
   ·simp[go_sem,o8]
 ·intro m v h;simp only[u5,mL,or_false,uD]at h;rw[S4];intro b hb;rcases h with⟨rfl,rfl⟩|⟨rfl,rfl⟩|⟨rfl,rfl⟩|⟨rfl,rfl⟩|⟨rfl,rfl⟩|⟨rfl,rfl⟩|⟨rfl,rfl⟩|⟨rfl,rfl⟩ <;> first|(simp;done)|(intro e;cases e;first|exact dF hb|exact BP hb)
def CK0(l:List Int):Tm:=l.foldr (fun x t=>U0 8 0 (L0 0 []) [g8 x.toNat,t]) (U0 7 0 (L0 0 []) [])
def Val.termN:Val->Tm
 | .mk k n l a=>
  if k=2 then CK0 l else if k=4 then U0 13 0 (L0 0 []) [] else if k=3 then U0 10 0 (L0 0 []) (M1 a) else g8 n.toNat
where
 M1:List Val->List Tm
  | []=>[]
  | a::r=>a.termN::M1 r
def Val.two:Val->Prop
 | .mk k _ _ a=>(k=3->a.length=2)/\twos a
where
 twos:List Val->Prop
  | []=>True
  | a::r=>a.two/\twos r
theorem Val.twos_iff(l:List Val):two.twos l↔∀a∈l,a.two:=by
 induction l with
 | nil=>simp[two.twos]
 | cons a r ih=>simp[two.twos,ih]
theorem Val.two_eq(v:Val):v.two↔(v.o0=3->v.B0.length=2)/\∀a∈v.B0,a.two:=by
 cases v;simp only[two,twos_iff,o0,B0]
theorem Val.nodesL_ok{l:List Val}{ok:Bool}(h:(nodesN.nodesL l (n,ok)).2=true):ok=true/\∀a∈l,a.nodesN.2=true:=by
 induction l generalizing n ok with
 | nil=>simp[nodesN.nodesL]at h;exact⟨h,sS⟩
 | cons a r ih=>
  cases ok with
  | false=>rw[nodesL_no]at h;cases h
  | true=>
   simp only[nodesN.nodesL,if_true]at h;obtain⟨h1,h2⟩:=ih h;exact⟨rfl,by simpa using ⟨h1,h2⟩⟩
theorem Val.ok_all(v:Val)(h:v.nodesN.2=true):v.allPos/\v.two:=by
 induction v using Il with
 | h v ih=>
 rw[nodesN_eq]at h;obtain⟨h1,h2⟩:=nodesL_ok h;rw[allPos_eq,two_eq];have gM:v.pos/\(v.o0=3->v.B0.length=2):=by
  unfold okB at h1;unfold pos;split at h1
  ·rename_i hk;simp at h1;simp[hk,h1]
  ·split at h1
   ·rename_i hk;simp at h1;simp[hk];obtain⟨⟨q1,q2⟩,q3⟩:=h1;rw[q1];exact⟨oO,fun n hn=>by have:=q2 n hn;omega⟩
   ·split at h1;· simp at h1;simp[h1]
    ·split at h1;· rename_i hk;simp at h1;simp[h1,hk]
     ·cases h1
 exact⟨⟨gM.1,fun a ha=>(ih a ha (h2 a ha)).1⟩,gM.2,fun a ha=>(ih a ha (h2 a ha)).2⟩
def M6:Tm:=U0 0 0 (L0 0 []) []
def Val.L4(v:Val):Int:=if v.nodesN.2=true then if v.nodesN.1 > 64 then 4 else 0 else 2
def Val.flat(v:Val):Prop:=
 v.B0=[]/\((v.o0=1/\0<=v.Z3/\v.Z3<=4/\v.list=[])\/(v.o0=2/\v.Z3=0/\v.list.length<=3/\∀x∈v.list,0<=x/\x<=3)\/(v.o0=4/\v.Z3=0/\v.list=[]))
def Val.good(v:Val):Prop:=v.flat\/∃a b,v=dH 3 0 [] [a,b]/\a.flat/\b.flat
end
section
def I4:Ty:=L0 0 []
def Ty.arg(t:Ty)(i:Nat):Ty:=t.B0.getD i I4
def Ty.ok(t:Ty):Prop:=t.shape=true/\t.A0<=64
theorem Ty.checkN_iff(t:Ty):t.L4=0↔t.ok:=by
 unfold Ty.L4 Ty.ok;split
 ·split;· rename_i h;simp;omega
  ·rename_i h;simp;constructor <;> first|assumption|omega
 ·rename_i h;simp[h]
def eT(t:Ty):Ty × Int:=if t.L4=0 then (t,0) else (I4,4)
theorem JL(t:Ty)(h:(eT t).2=0):(eT t).1.ok/\eT t=(t,0):=by
 unfold eT at h ⊢;split;· rename_i h2;exact⟨(Ty.checkN_iff t).1 h2,rfl⟩
 ·rename_i h2;rw[if_neg h2]at h;cases h
def g7(k:Int)(ty:Ty)(l:List Ty):Ty × Int:=
 if k=2 then eT (L0 4 [ty,l.getD 0 I4])
 else if k=3 then if (l.getD 0 I4).o0=4/\((l.getD 0 I4).arg 0).same (l.getD 1 I4)=true then ((l.getD 0 I4).arg 1,0) else (I4,7)
 else if k=4 then (L0 1 [],0)
 else if k=5 then if (l.getD 0 I4).same (L0 1 [])=true then (L0 1 [],0) else (I4,7)
 else if k=6 then if (l.getD 0 I4).same ty=true/\(l.getD 1 I4).same (L0 4 [L0 1 [],L0 4 [ty,ty]])=true/\(l.getD 2 I4).same (L0 1 [])=true then (ty,0) else (I4,7)
 else if k=7 then (L0 2 [],0)
 else if k=8 then if (l.getD 0 I4).same (L0 1 [])=true/\(l.getD 1 I4).same (L0 2 [])=true then (L0 2 [],0) else (I4,7)
 else if k=9 then if (l.getD 0 I4).same ty=true/\(l.getD 1 I4).same (L0 4 [L0 1 [],L0 4 [L0 2 [],L0 4 [ty,ty]]])=true/\(l.getD 2 I4).same (L0 2 [])=true then (ty,0) else (I4,7)
 else if k=10 then eT (L0 3 [l.getD 0 I4,l.getD 1 I4])
 else if k=11 then if (l.getD 0 I4).o0=3 then ((l.getD 0 I4).arg 0,0) else (I4,7)
 else if k=12 then if (l.getD 0 I4).o0=3 then ((l.getD 0 I4).arg 1,0) else (I4,7)
 else (L0 5 [],0)
namespace Tm
def V1:Tm->List Ty->Ty × Int
 | .mk k i ty a,g=>
  if k=1 then if (g.length:Int)<=i then (I4,6) else (g.getD (g.length - 1 - i.toNat) I4,0)
  else if (Y4 a (if k=2 then g++[ty] else g)).2=0 then g7 k ty (Y4 a (if k=2 then g++[ty] else g)).1
  else (I4,(Y4 a (if k=2 then g++[ty] else g)).2)
where
 Y4:List Tm->List Ty->List Ty × Int
  | [],_=>([],0)
  | a::r,g=>if (a.V1 g).2=0 then if (Y4 r g).2=0 then ((a.V1 g).1::(Y4 r g).1,0) else ([],(Y4 r g).2) else ([],(a.V1 g).2)
theorem inferN_eq(t:Tm)(g:List Ty):t.V1 g =
  if t.o0=1 then if (g.length:Int)<=t.O0 then (I4,6) else (g.getD (g.length - 1 - t.O0.toNat) I4,0)
  else if (V1.Y4 t.B0 (if t.o0=2 then g++[t.I0] else g)).2=0 then g7 t.o0 t.I0 (V1.Y4 t.B0 (if t.o0=2 then g++[t.I0] else g)).1
  else (I4,(V1.Y4 t.B0 (if t.o0=2 then g++[t.I0] else g)).2):=by
 cases t;rw[V1];rfl
theorem infers_snoc(l:List Tm)(x:Tm)(g:List Ty)(h:(V1.Y4 l g).2=0)(hx:(x.V1 g).2=0) :
  V1.Y4 (l++[x]) g=((V1.Y4 l g).1++[(x.V1 g).1],0):=by
 induction l with
 | nil=>simp[V1.Y4,hx]
 | cons a r ih=>
  simp only[V1.Y4]at h;by_cases ha:(a.V1 g).2=0
  ·by_cases hr:(V1.Y4 r g).2=0;· simp[V1.Y4,ha,hr,ih hr]
   ·simp[ha,hr]at h
  ·simp[ha]at h
theorem infers_stop(l:List Tm)(x:Tm)(m:List Tm)(g:List Ty)(h:(V1.Y4 l g).2=0)(hx:¬(x.V1 g).2=0) :
  V1.Y4 (l++x::m) g=([],(x.V1 g).2):=by
 induction l with
 | nil=>simp[V1.Y4,hx]
 | cons a r ih=>
  simp only[V1.Y4]at h;by_cases ha:(a.V1 g).2=0
  ·by_cases hr:(V1.Y4 r g).2=0;· simp[V1.Y4,ha,ih hr,hx]
   ·simp[ha,hr]at h
  ·simp[ha]at h
theorem infers_all(l:List Tm)(g:List Ty)(h:(V1.Y4 l g).2=0) :
  (V1.Y4 l g).1.length=l.length/\∀(i:Nat) (x:Tm),l[i]? = some x->(x.V1 g).2=0/\(V1.Y4 l g).1[i]? = some (x.V1 g).1:=by
 induction l with
 | nil=>simp[V1.Y4]
 | cons a r ih=>
  simp only[V1.Y4]at h ⊢;by_cases ha:(a.V1 g).2=0
  ·by_cases hr:(V1.Y4 r g).2=0
   ·simp only[ha,hr,if_true];obtain⟨h1,h2⟩:=ih hr;refine⟨by simp[h1],?_⟩;intro i x hx;cases i with
    | zero=>simp at hx;subst hx;exact⟨ha,sS⟩
    | succ i=>simp at hx;simpa using h2 i x hx
   ·simp[ha,hr]at h
  ·simp[ha]at h
end Tm
theorem Ty.ok_arg{t:Ty}(h:t.ok){a:Ty}(ha:a∈t.B0):a.ok:=by
 obtain⟨h1,h2⟩:=h;rw[Pz,uH,Ty.shapes_iff]at h1;have:=Ty.count_mem ha;rw[sA]at h2;exact⟨h1.2 a ha,oO⟩
theorem Ty.ok_two{t:Ty}(h:t.ok)(hk:t.o0=3\/t.o0=4):t.B0.length=2:=by
 obtain⟨h1,h2⟩:=h;rw[Pz,uH]at h1;rcases hk with hk|hk <;> simpa [mV,hk] using h1.1
theorem Ty.ok_args{t:Ty}(h:t.ok)(hk:t.o0=3\/t.o0=4):∃a b,t.B0=[a,b]/\a.ok/\b.ok/\t.arg 0=a/\t.arg 1=b:=by
 have h2:=Ty.ok_two h hk
 match ha:t.B0,h2 with
 | [a,b],_=>exact⟨a,b,rfl,Ty.ok_arg h (by rw[ha];simp),Ty.ok_arg h (by rw[ha];simp),by simp[Ty.arg,ha],by simp[Ty.arg,ha]⟩
theorem Sq:(L0 1 []).ok:=⟨rfl,dD⟩
theorem RR:(L0 2 []).ok:=⟨rfl,dD⟩
theorem fn0:(L0 5 []).ok:=⟨rfl,dD⟩
theorem Tm.shape_node(h:t.shape=true):((t.B0.length:Int)=C5 t.o0)/\0<=t.O0/\(t.o0=1\/t.O0=0)/\(if t.o0=2\/t.o0=6\/t.o0=9 then t.I0.ok else t.I0.zero=true)/\∀a∈t.B0,a.shape=true:=by
 rw[Lj,uH,je0]at h;obtain⟨h1,h2⟩:=h;simp only[qZ,uH,Ci,decide_eq_true_eq,cP]at h1;refine⟨h1.1.1.1,h1.1.1.2,h1.1.2,?_,h2⟩;by_cases hk:t.o0=2\/t.o0=6\/t.o0=9;· rw[if_pos hk]at h1 ⊢;exact (Ty.checkN_iff _).1 (by simpa using h1.2)
 ·rw[if_neg hk]at h1 ⊢;exact h1.2
theorem Tm.inferN_ok(t:Tm)(g:List Ty)(ht:t.shape=true)(hg:∀x∈g,x.ok)(h:(t.V1 g).2=0):(t.V1 g).1.ok:=by
 induction t using m7 generalizing g with
 | h t ih=>
 obtain⟨ha,hi,hv,C6,hs⟩:=Tm.shape_node ht;rw[inferN_eq]at h ⊢;by_cases h1:t.o0=1
 ·rw[if_pos h1]at h ⊢;by_cases h2:(g.length:Int)<=t.O0;· rw[if_pos h2]at h;cases h
  ·rw[if_neg h2];have:g.length - 1 - t.O0.toNat<g.length:=oO;simp only[jO,uB this,Cj];exact hg _ (vY _)
 ·rw[if_neg h1]at h ⊢;generalize Fv:(if t.o0=2 then g++[t.I0] else g)=g' at h ⊢;have dY:∀x∈g',x.ok:=by
   subst Fv;split
   ·rename_i h2;intro x hx;rcases t6.1 hx with hx|hx;· exact hg x hx
    ·rw[bM.1 hx];rwa [if_pos (.inl h2)]at C6
   ·exact hg
  by_cases h2:(V1.Y4 t.B0 g').2=0
  ·rw[if_pos h2]at h ⊢;obtain⟨hl,hx⟩:=infers_all _ _ h2;have key:∀i:Nat,i<t.B0.length->((V1.Y4 t.B0 g').1.getD i I4).ok:=by
    intro i hi;obtain⟨x1,x2⟩:=hx i t.B0[i] (uB hi);rw[jO,x2,Cj];exact ih _ (vY _) g' (hs _ (vY _)) dY x1
   generalize (V1.Y4 t.B0 g').1=l at h key ⊢;unfold g7 at h ⊢;by_cases hk:t.o0=2
   ·rw[if_pos hk]at h ⊢;exact (JL _ h).1
   rw[if_neg hk]at h ⊢;by_cases hk:t.o0=3
   ·rw[if_pos hk]at h ⊢;by_cases hx:(l.getD 0 I4).o0=4/\((l.getD 0 I4).arg 0).same (l.getD 1 I4)=true
    ·rw[if_pos hx]at h ⊢;obtain⟨a,b,e,oa,ob,e0,e1⟩:=Ty.ok_args (key 0 (by rw[hk]at ha;simp[C5]at ha;omega)) (.inr hx.1);rw[e1];exact ob
    ·rw[if_neg hx]at h;cases h
   rw[if_neg hk]at h ⊢;by_cases hk:t.o0=4
   ·rw[if_pos hk]at h ⊢;exact Sq
   rw[if_neg hk]at h ⊢;by_cases hk:t.o0=5
   ·rw[if_pos hk]at h ⊢;by_cases hx:(l.getD 0 I4).same (L0 1 [])=true
    ·rw[if_pos hx]at h ⊢;exact Sq
    ·rw[if_neg hx]at h;cases h
   rw[if_neg hk]at h ⊢;by_cases hk:t.o0=6
   ·rw[if_pos hk]at h ⊢;by_cases hx:(l.getD 0 I4).same t.I0=true/\(l.getD 1 I4).same (L0 4 [L0 1 [],L0 4 [t.I0,t.I0]])=true/\(l.getD 2 I4).same (L0 1 [])=true
    ·rw[if_pos hx]at h ⊢
     rwa [if_pos (.inr (.inl hk))]at C6
    ·rw[if_neg hx]at h;cases h
   rw[if_neg hk]at h ⊢;by_cases hk:t.o0=7
   ·rw[if_pos hk]at h ⊢;exact RR
   rw[if_neg hk]at h ⊢;by_cases hk:t.o0=8
   ·rw[if_pos hk]at h ⊢;by_cases hx:(l.getD 0 I4).same (L0 1 [])=true/\(l.getD 1 I4).same (L0 2 [])=true
    ·rw[if_pos hx]at h ⊢;exact RR
    ·rw[if_neg hx]at h;cases h
   rw[if_neg hk]at h ⊢;by_cases hk:t.o0=9
   ·rw[if_pos hk]at h ⊢;by_cases hx:(l.getD 0 I4).same t.I0=true/\(l.getD 1 I4).same (L0 4 [L0 1 [],L0 4 [L0 2 [],L0 4 [t.I0,t.I0]]])=true/\(l.getD 2 I4).same (L0 2 [])=true
    ·rw[if_pos hx]at h ⊢
     rwa [if_pos (.inr (.inr hk))]at C6
    ·rw[if_neg hx]at h;cases h
   rw[if_neg hk]at h ⊢;by_cases hk:t.o0=10
   ·rw[if_pos hk]at h ⊢;exact (JL _ h).1
   rw[if_neg hk]at h ⊢;by_cases hk:t.o0=11
   ·rw[if_pos hk]at h ⊢;by_cases hx:(l.getD 0 I4).o0=3
    ·rw[if_pos hx]at h ⊢;obtain⟨a,b,e,oa,ob,e0,e1⟩:=Ty.ok_args (key 0 (by rw[hk]at ha;simp[C5]at ha;omega)) (.inl hx);rw[e0];exact oa
    ·rw[if_neg hx]at h;cases h
   rw[if_neg hk]at h ⊢;by_cases hk:t.o0=12
   ·rw[if_pos hk]at h ⊢;by_cases hx:(l.getD 0 I4).o0=3
    ·rw[if_pos hx]at h ⊢;obtain⟨a,b,e,oa,ob,e0,e1⟩:=Ty.ok_args (key 0 (by rw[hk]at ha;simp[C5]at ha;omega)) (.inl hx);rw[e1];exact ob
    ·rw[if_neg hx]at h;cases h
   rw[if_neg hk]at h ⊢;exact fn0
  ·rw[if_neg h2]at h;exact absurd h h2
end
section
theorem of0(v:Val)(ht:v.two):cU 149 [v.dv] v.tyN.dv:=by
 induction v using Il with
 | h v ih=>
 obtain⟨NS,BR⟩:=(Val.two_eq v).1 ht;refine A3 Tryz.func149 fun X zX=>?_;by_cases h2:v.o0=2
 ·have hr:v.tyN=L0 2 []:=by rw[Val.tyN_eq];simp[h2]
  exact P4 (j2 @h2 @hr) (M0 y00)
 by_cases h4:v.o0=4
 ·have hr:v.tyN=L0 5 []:=by rw[Val.tyN_eq];simp[h4]
  exact P4 (j2 @h4 @hr) H0
 by_cases h3:v.o0=3
 ·have NV:=NS h3
  match V2:v.B0,NV with
  | [x,y],_=>
  have hx:x∈v.B0:=by rw[V2];simp
  have hy:y∈v.B0:=by rw[V2];simp
  have hr:v.tyN=L0 3 [x.tyN,y.tyN]:=by rw[Val.tyN_eq];simp[h3,V2]
  exact P4 (j3 @h3 @V2 @hr) (P3 (ih x hx (BR x hx)) (ih y hy (BR y hy)))
 have hr:v.tyN=L0 1 []:=by rw[Val.tyN_eq];simp[h2,h3,h4]
 exact P4 (j4 @h2 @h3 @h4 @hr) (M0 CJ0)
def Val.typeE(v:Val):Ty × Int:=if v.L4≠0 then (I4,v.L4) else (v.tyN,0)
theorem vH0(v:Val)(hc:v.A0<=1048576):cU 49 [v.dv] (.H1 [v.typeE.1.dv,j0 v.typeE.2]):=by
 refine A3 Tryz.func49 fun X zX=>?_;refine N2 ?_;have hck:(if v.nodesN.2=true then if v.nodesN.1 > 64 then 4 else 0 else 2)=v.L4:=rfl;have fR:=vG0 v oO;rw[hck]at fR;refine N1 H0 (M0 fR) ?_;by_cases h:v.L4=0
 ·have O8:v.nodesN.2=true:=by
   unfold Val.L4 at h;split at h
   ·assumption
   ·cases h
  obtain⟨ha,ht⟩:=v.ok_all O8;exact P4 (j2 @h @Val.typeE.eq_1) (M0 (of0 v ht))
 ·exact P4 (j3 @h @Val.typeE.eq_1 @I4.eq_1) H0
theorem UX(a b:List Int)(ha:a.length<=2147483648)(hb:b.length<=2147483648):cU 57 [.sl (P2 a),.sl (P2 b)] (O2 (decide (a=b))):=by
 refine A3 Tryz.func57 fun X zX=>?_;by_cases hl:a.length=b.length
 ·refine U1 @hl ?_;refine Q1 ?_;refine G2 [] @hl (xF (a.length) (fun i=>∀(j:Nat) (x y:Int),j<i->a[j]? = some x->b[j]? = some y->x=y) (fun i=>[sV 13 (j0 i),sV 12 (j0 a.length),sV 0 (.sl (P2 a)),sV 1 (.sl (P2 b))]) (by intro j x y h;omega) ?_ ?_)
  ·intro i I1 hI Z1;obtain⟨x,hx⟩:∃x,a[i]? = some x:=⟨_,uB I1⟩;obtain⟨y,hy⟩:∃y,b[i]? = some y:=⟨_,uB oO⟩;have gx:=zL hx;have gy:=zL hy;refine K5 ?_;by_cases hs:x=y
   ·refine W3 (wr []) tT (j3 @gx @gy @hs) (Z1 ?_);intro j x' y' hj R7 K8;by_cases vS:j=i;· subst vS;rw[hx]at R7;rw[hy]at K8;cases R7;cases K8;exact hs
    ·exact hI j x' y' oO R7 K8
   ·have X1:a≠b:=fun e=>by subst e;rw[hx]at hy;cases hy;exact hs rfl
    exact O1 (j4 @gx @gy @hs @X1) H0
  ·intro hI;have he:a=b:=List.ext_getElem hl fun i h1 h2=>hI i _ _ h1 (uB h1) (uB h2);refine T7 ?_;exact O1 @he H0
 ·have X1:a≠b:=fun e=>hl (by rw[e]);exact O1 (j2 @hl @X1) H0
theorem wL(a b:Ty):cU 250 [a.dv,b.dv] (L0 4 [a,b]).dv:=by
 exact G7 Tryz.func250 H0 (P3 (yZ a) (yZ b))
theorem cm0(t:Ty)(hc:t.A0<=1073741824):cU 365 [t.dv] (.H1 [(eT t).1.dv,j0 (eT t).2]):=by
 refine A3 Tryz.func365 fun X zX=>?_;refine N1 H0 (M0 (Ea t oO)) ?_;by_cases h:t.L4=0;· exact P4 (j2 @h @eT.eq_1) H0
 ·exact P4 (j3 @h @eT.eq_1 @I4.eq_1) H0
theorem Ma(k:Int)(a b:Ty):(L0 k [a,b]).A0=1+(a.A0+(b.A0+0)):=rfl
theorem CB(g:List Ty):List.take g.length (Y3 P1 g)=Y3 P1 g:=by rw[DS];simp
theorem tB:(L0 1 []).dv = .agg [j0 1,.sl []]:=rfl
theorem CR:(L0 2 []).dv = .agg [j0 2,.sl []]:=rfl
theorem vI0(t:Tm)(g:List Ty)(NP:g.length+t.A0<=2147483648)(ht:t.shape=true)(hg:∀x∈g,x.ok):cU 319 [.sl (g.map P1),t.dv] (.H1 [(t.V1 g).1.dv,j0 (t.V1 g).2]):=by
 induction t using m7 generalizing g with
 | h t ih=>
 obtain⟨ha,hi,hv,C6,hs⟩:=Tm.shape_node ht;refine H2 Tryz.func319 ?_;intro X hP G0 hf X0 hn hR K1 G1;have nK:=sQ (G1 (.sl (g.map P1)) sS);simp at nK;by_cases h1:t.o0=1
 ·by_cases h2:(g.length:Int)<=t.O0;· exact P4 (j4 @h1 @h2 (Tm.inferN_eq t) @I4.eq_1) H0
  ·have I1:g.length - 1 - t.O0.toNat<g.length:=oO;have hx:=uB I1;generalize Fv:g[g.length - 1 - t.O0.toNat]=x at hx;have R7:g[(g.length - 1 - t.O0:Int).toNat]? = some x:=by rw[<- hx];congr 1;omega
   exact P4 (j5 @h1 @h2 @R7 (Tm.inferN_eq t) @hx) (M0 (yZ x))
 by_cases Y5:t.o0=2
 ·rw[Y5]at ha
  obtain⟨b,hb⟩:∃b,t.B0=[b]:=by
   match hh:t.B0,ha with
   | [b],_=>exact⟨b,rfl⟩
  have yF:b∈t.B0:=by rw[hb];simp
  rw[if_pos (.inl Y5)]at C6;have dY:∀x∈g++[t.I0],x.ok:=by
   intro x hx;rcases t6.1 hx with hx|hx;· exact hg x hx
   ·rw[bM.1 hx];exact C6
  have s9:=Tm.inferN_ok b (g++[t.I0]) (hs b yF) dY;have h80:t.A0=1+(b.A0+0):=by rw[V6,hb];rfl
  have hV0:=Uu b;have DB:g.length<=2147483647:=oO;refine N1 (j5 @Y5 @hb @CB (mK t.I0) @Ty.length_cells) (M0 (ih b yF (g++[t.I0]) (by simp;omega) (hs b yF) dY)) ?_;by_cases he:(b.V1 (g++[t.I0])).2=0
  ·have nH:=C6.2;have gK:=(s9 he).2;exact P4 (j7 @he (Tm.inferN_eq t) @Y5 @hb @Tm.V1.Y4.eq_1 @Tm.V1.Y4.eq_2 @g7.eq_1) (P3 (wL t.I0 (b.V1 (g++[t.I0])).1) (cm0 (L0 4 [t.I0,(b.V1 (g++[t.I0])).1]) (by rw[Ma];omega)))
  ·exact P4 (j7 @he (Tm.inferN_eq t) @Y5 @hb @Tm.V1.Y4.eq_1 @Tm.V1.Y4.eq_2 @I4.eq_1) H0
 have hlen:=kM (G1 t.dv sS);refine U1 (j2 @h1 @Y5) ?_;refine Q1 ?_;refine G2 [(1008,0)] (j2 @Tm.V1.Y4.eq_1 @Tm.V1.Y4.eq_2) (dB (t.B0) (fun done=>(Tm.V1.Y4 done g).2=0) (fun done rest=>[sV 0 (.sl (g.map P1)),sV 69 (j0 done.length),sV 68 (j0 t.B0.length),sV 67 (.sl (t.B0.map E3)),(.P0 8,.one (.own 1008 ((Tm.V1.Y4 done g).1.map P1))),(.tok 1008,.tk 2 (Tm.V1.Y4 done g).1.length),sL 4 [.v (j0 0),.own 0 []],sP 4,sL 3 (gG t),sP 3]) (rfl) ?_ ?_)
 ·intro done x rest hL B3 hI Z1;have I1:=E5 hL;have U2:=uE B3;have I8:=L9 U2;have N4:=V6 t;have aQ:=Tm.inferN_ok x g (hs x U2) hg;refine K5 ?_;refine N1 @B3 (M0 (ih x U2 g oO (hs x U2) hg)) ?_;by_cases he:(x.V1 g).2=0
  ·have Tq:=Tm.infers_snoc done x g hI he;have cV:=(Tm.infers_all done g hI).1;refine W3 (wr [(1008,86)]) (j3 @Tq @cV (mK (x.V1 g).1)) (j2 @he @cV) (Z1 (by rw[Tq]))
  ·have kG:=Tm.infers_stop done x rest g hI he;rw[<- hL]at kG;exact P4 (j6 @he (Tm.inferN_eq t) @h1 @Y5 @kG @I4.eq_1) H0
 ·intro hI;have hN:t.V1 g=g7 t.o0 t.I0 (Tm.V1.Y4 t.B0 g).1:=by rw[Tm.inferN_eq t];simp[h1,Y5,hI]
  have cV:=(Tm.infers_all t.B0 g hI).1;have oL:∀a∈(Tm.V1.Y4 t.B0 g).1,a.ok:=by
   intro a ha;obtain⟨i,hi,rfl⟩:=yM.1 ha;obtain⟨x1,x2⟩:=(Tm.infers_all t.B0 g hI).2 i t.B0[i] (uB oO);rw[uB hi]at x2;rw[Iq x2];exact Tm.inferN_ok _ g (hs _ (vY _)) hg x1
  obtain⟨ds,c8⟩:∃ds,ds=(Tm.V1.Y4 t.B0 g).1:=⟨_,rfl⟩;rw[<- c8]at hN cV oL ⊢;rw[<- cV]at ha;have h1l:t.o0=5\/t.o0=11\/t.o0=12->∃x,ds=[x]:=by
   intro hk;have:ds.length=1:=by rcases hk with hk|hk|hk <;> simp[hk,C5]at ha <;> omega
   exact aR0.1 this
  have NV:t.o0=3\/t.o0=8\/t.o0=10->∃x y,ds=[x,y]:=by
   intro hk;have:ds.length=2:=by rcases hk with hk|hk|hk <;> simp[hk,C5]at ha <;> omega
   match ds,this with
   | [x,y],_=>exact⟨x,y,rfl⟩
  have h3l:t.o0=6\/t.o0=9->∃x y z,ds=[x,y,z]:=by
   intro hk;have:ds.length=3:=by rcases hk with hk|hk <;> simp[hk,C5]at ha <;> omega
   match ds,this with
   | [x,y,z],_=>exact⟨x,y,z,rfl⟩
  refine T7 ?_;refine N1 H0 (P3 iM Eb) ?_;by_cases h3:t.o0=3
  ·obtain⟨x,y,rfl⟩:=NV (.inl h3);by_cases hx:x.o0=4
   ·obtain⟨p,q,hp,op,oq,e0,e1⟩:=Ty.ok_args (oL x sS) (.inr hx);refine N1 (j3 @h3 @hx @hp) (M0 (gU p y)) ?_;by_cases hs:p.same y=true;· exact P4 (j8 @h3 @hx @hp @hs @hN @g7.eq_1 @e0 @e1) H0
    ·exact P4 (j8 @h3 @hx @hp @hs @hN @g7.eq_1 @e0 (j2 @e1 @I4.eq_1)) H0
   ·exact P4 (j5 @h3 @hx @hN @g7.eq_1 @I4.eq_1) H0
  by_cases h4:t.o0=4;· exact P4 (j3 @h4 @hN @g7.eq_1) H0
  by_cases h5:t.o0=5
  ·obtain⟨x,rfl⟩:=h1l (.inl h5);refine N1 (j3 @h5 @tB @CR) (M0 (gU x (L0 1 []))) ?_;by_cases hs:x.same (L0 1 [])=true;· exact P4 (j4 @h5 @hs @hN @g7.eq_1) H0
   ·exact P4 (j5 @h5 @hs @hN @g7.eq_1 @I4.eq_1) H0
  by_cases h6:t.o0=6
  ·obtain⟨x,y,z,rfl⟩:=h3l (.inl h6);rw[if_pos (by simp[h6])]at C6;by_cases o9:x.same t.I0=true
   ·by_cases W9:y.same (L0 4 [L0 1 [],L0 4 [t.I0,t.I0]])=true
    ·refine N1 (j5 @h6 @o9 @W9 @tB @CR) (T9 (gU x t.I0) (wL t.I0 t.I0) (wL (L0 1 []) (L0 4 [t.I0,t.I0])) (gU y (L0 4 [L0 1 [],L0 4 [t.I0,t.I0]])) (gU z (L0 1 []))) ?_;by_cases mF:z.same (L0 1 [])=true;· exact P4 (j6 @h6 @o9 @W9 @mF @hN @g7.eq_1) (M0 (yZ t.I0))
     ·exact P4 (j7 @h6 @o9 @W9 @mF @hN @g7.eq_1 @I4.eq_1) H0
    ·exact P4 (j8 @h6 @o9 @W9 @tB @CR @hN @g7.eq_1 @I4.eq_1) (cQ (gU x t.I0) (wL t.I0 t.I0) (wL (L0 1 []) (L0 4 [t.I0,t.I0])) (gU y (L0 4 [L0 1 [],L0 4 [t.I0,t.I0]])))
   ·exact P4 (j5 @h6 @o9 @hN @g7.eq_1 @I4.eq_1) (M0 (gU x t.I0))
  by_cases h7:t.o0=7;· exact P4 (j3 @h7 @hN @g7.eq_1) H0
  by_cases h8:t.o0=8
  ·obtain⟨x,y,rfl⟩:=NV (.inr (.inl h8));by_cases o9:x.same (L0 1 [])=true
   ·refine N1 (j4 @h8 @o9 @tB @CR) (P3 (gU x (L0 1 [])) (gU y (L0 2 []))) ?_;by_cases W9:y.same (L0 2 [])=true;· exact P4 (j5 @h8 @o9 @W9 @hN @g7.eq_1) H0
    ·exact P4 (j6 @h8 @o9 @W9 @hN @g7.eq_1 @I4.eq_1) H0
   ·exact P4 (j7 @h8 @o9 @tB @CR @hN @g7.eq_1 @I4.eq_1) (M0 (gU x (L0 1 [])))
  by_cases h9:t.o0=9
  ·obtain⟨x,y,z,rfl⟩:=h3l (.inr h9);rw[if_pos (by simp[h9])]at C6;by_cases o9:x.same t.I0=true
   ·by_cases W9:y.same (L0 4 [L0 1 [],L0 4 [L0 2 [],L0 4 [t.I0,t.I0]]])=true
    ·refine N1 (j5 @h9 @o9 @W9 @tB @CR) (nD (gU x t.I0) (wL t.I0 t.I0) (wL (L0 2 []) (L0 4 [t.I0,t.I0])) (wL (L0 1 []) (L0 4 [L0 2 [],L0 4 [t.I0,t.I0]])) (gU y (L0 4 [L0 1 [],L0 4 [L0 2 [],L0 4 [t.I0,t.I0]]])) (gU z (L0 2 []))) ?_;by_cases mF:z.same (L0 2 [])=true;· exact P4 (j6 @h9 @o9 @W9 @mF @hN @g7.eq_1) (M0 (yZ t.I0))
     ·exact P4 (j7 @h9 @o9 @W9 @mF @hN @g7.eq_1 @I4.eq_1) H0
    ·exact P4 (j8 @h9 @o9 @W9 @tB @CR @hN @g7.eq_1 @I4.eq_1) (T9 (gU x t.I0) (wL t.I0 t.I0) (wL (L0 2 []) (L0 4 [t.I0,t.I0])) (wL (L0 1 []) (L0 4 [L0 2 [],L0 4 [t.I0,t.I0]])) (gU y (L0 4 [L0 1 [],L0 4 [L0 2 [],L0 4 [t.I0,t.I0]]])))
   ·exact P4 (j5 @h9 @o9 @hN @g7.eq_1 @I4.eq_1) (M0 (gU x t.I0))
  by_cases jN:t.o0=10
  ·obtain⟨x,y,rfl⟩:=NV (.inr (.inr jN));have I8:=(oL x sS).2;have cR:=(oL y sS).2;exact P4 (j3 @jN @hN @g7.eq_1) (P3 (bV0 x y) (cm0 (L0 3 [x,y]) (by rw[Ma];omega)))
  by_cases I7:t.o0=11
  ·obtain⟨x,rfl⟩:=h1l (.inr (.inl I7));by_cases hx:x.o0=3
   ·obtain⟨p,q,hp,op,oq,e0,e1⟩:=Ty.ok_args (oL x sS) (.inl hx);exact P4 (j6 @I7 @hx @hp @hN @g7.eq_1 @e0) H0
   ·exact P4 (j5 @I7 @hx @hN @g7.eq_1 @I4.eq_1) H0
  by_cases U8:t.o0=12
  ·obtain⟨x,rfl⟩:=h1l (.inr (.inr U8));by_cases hx:x.o0=3
   ·obtain⟨p,q,hp,op,oq,e0,e1⟩:=Ty.ok_args (oL x sS) (.inl hx);exact P4 (j6 @U8 @hx @hp @hN @g7.eq_1 @e1) H0
   ·exact P4 (j5 @U8 @hx @hN @g7.eq_1 @I4.eq_1) H0
  exact P4 (j8 @h1 @Y5 @h3 @h4 @h5 @h6 @h7 (j7 @h8 @h9 @jN @I7 @U8 @hN @g7.eq_1)) (M0 UW)
def Tm.typedE(t:Tm)(g:List Ty):Ty × Int:=if t.L4=0 then t.V1 g else (I4,t.L4)
def Tm.typeE(t:Tm)(g:List Ty):Ty × Int:=if gD g=0 then t.typedE g else (I4,gD g)
theorem Tm.checkN_iff(t:Tm):t.L4=0↔t.shape=true/\t.A0<=4096:=by
 unfold Tm.L4;split
 ·split;· rename_i h;simp;omega
  ·rename_i h;simp;constructor <;> first|assumption|omega
 ·rename_i h;simp[h]
theorem og0{l:List Ty}(h:mW l=0):∀x∈l,x.ok:=by
 induction l with
 | nil=>simp
 | cons a r ih=>
  simp only[mW]at h;split at h
  ·rename_i ha;intro x hx;rcases u5.1 hx with rfl|hx;· exact (Ty.checkN_iff _).1 ha
   ·exact ih h x hx
  ·rename_i ha;exact absurd h ha
theorem eD0{l:List Ty}(h:gD l=0):l.length<=16/\∀x∈l,x.ok:=by
 unfold gD at h;split at h;· cases h
 ·exact⟨oO,og0 h⟩
theorem bF0(t:Tm)(g:List Ty)(G0:g.length<=1048576)(ht:t.tys)(hc:t.A0<=1073741824)(hg:∀x∈g,x.ok):cU 244 [.sl (g.map P1),t.dv] (.H1 [(t.typedE g).1.dv,j0 (t.typedE g).2]):=by
 refine H2 Tryz.func244 ?_;intro X hP G0 hf X0 hn hR K1 G1;refine N1 H0 (M0 (IB t ht oO)) ?_;by_cases h:t.L4=0;· exact P4 (j2 @h @Tm.typedE.eq_1) (M0 (vI0 t g oO ((Tm.checkN_iff t).1 h).1 hg))
 ·exact P4 (j3 @h @Tm.typedE.eq_1 @I4.eq_1) H0
theorem UM(t:Tm)(g:List Ty)(hg:∀x∈g,x.A0<=2147483648)(ht:t.tys)(hc:t.A0<=1073741824):cU 161 [.sl (g.map P1),t.dv] (.H1 [(t.typeE g).1.dv,j0 (t.typeE g).2]):=by
 refine A3 Tryz.func161 fun X zX=>?_;refine N1 H0 (M0 (UI g hg)) ?_;by_cases h:gD g=0
 ·have ha:=eD0 h;exact P4 (j2 @h @Tm.typeE.eq_1) (M0 (bF0 t g oO ht hc ha.2))
 ·exact P4 (j3 @h @Tm.typeE.eq_1 @I4.eq_1) H0
def Tm.leastN:Tm->Int->Bool
 | .mk _ i _ a,m=>!decide (m<i)&&leasts a m
where
 leasts:List Tm->Int->Bool
  | [],_=>true
  | a::r,m=>a.leastN m&&leasts r m
theorem Tm.leastN_eq(t:Tm)(m:Int):t.leastN m=(!decide (m<t.O0)&&leastN.leasts t.B0 m):=by cases t;rfl
theorem Tm.leasts_append(l r:List Tm)(m:Int):leastN.leasts (l++r) m=(leastN.leasts l m&&leastN.leasts r m):=by
 induction l with
 | nil=>simp[leastN.leasts]
 | cons a r ih=>simp[leastN.leasts,ih,Ut]
theorem WJ(t:Tm)(m:Int):cU 386 [t.dv,j0 m] (O2 (t.leastN m)):=by
 induction t using m7 with
 | h t ih=>
 refine H2 Tryz.func386 ?_;intro X hP G0 hf X0 hn hR K1 G1;have hlen:=kM (G1 t.dv sS);by_cases h:m<t.O0;· exact O1 (j2 @h (Tm.leastN_eq t)) H0
 ·refine U1 @h ?_;refine Q1 ?_;refine G2 [] tT (dB (t.B0) (fun done=>Tm.leastN.leasts done m=true) (fun done rest=>[sV 1 (j0 m),sV 14 (j0 done.length),sV 13 (j0 t.B0.length),sV 12 (.sl (t.B0.map E3))]) (rfl) ?_ ?_)
  ·intro done x rest hL B3 hI Z1;have I1:=E5 hL;have U2:=uE B3;refine K5 ?_;refine N1 @B3 (M0 (ih x U2)) ?_;by_cases hx:x.leastN m=true;· refine W3 (wr []) tT @hx (Z1 (by rw[Tm.leasts_append,hI];simp[Tm.leastN.leasts,hx]))
   ·refine U1 @hx ?_;refine N3 ?_;simp[go_sem,hP,G0,hn,Tm.leastN_eq t,h] <;> (try omega);rw[hL,Tm.leasts_append];simp[Tm.leastN.leasts,hx]
  ·intro hI;refine T7 ?_;exact O1 (j3 (Tm.leastN_eq t) @h @hI) H0
theorem kS0(a b:Val):cU 16 [a.dv,b.dv] (O2 (a.same b)):=by
 induction a using Il generalizing b with
 | h a ih=>
 refine H2 Tryz.func16 ?_;intro X hP G0 hf X0 hn hR K1 G1;have Q6:=(aP0 a).1 ((aQ0 a).1 (G1 a.dv sS));have dU:=(aP0 b).1 ((aQ0 b).1 (G1 b.dv sS));have KH:=Q6.2.2.2.1;have o8:=dU.2.2.2.1;have hia:=Q6.2.2.1.1;have AH:=dU.2.2.1.1;simp only[M5]at KH o8 hia AH;by_cases hk:a.o0=b.o0
 ·by_cases hi:a.Z3=b.Z3
  ·by_cases ht:a.list=b.list
   ·by_cases hl:a.B0.length=b.B0.length
    ·refine V3 (j4 @hk @hi @ht @hl) (M0 (UX a.list b.list hia AH)) ?_;refine Q1 ?_;refine G2 [] (j4 @hk @hi @hl @ht) (xF (a.B0.length) (fun i=>∀(j:Nat) (x y:Val),j<i->a.B0[j]? = some x->b.B0[j]? = some y->x.same y=true) (fun i=>[sV 38 (j0 i),sV 37 (j0 a.B0.length),sP 3,sL 3 [.v (j0 b.o0),.v (j0 b.Z3),.v (.sl (P2 b.list)),.v (.sl (b.B0.map vZ))],sP 2,sL 2 [.v (j0 a.o0),.v (j0 a.Z3),.v (.sl (P2 a.list)),.v (.sl (a.B0.map vZ))]]) (by intro j x y h;omega) ?_ ?_)
     ·intro i I1 hI Z1;obtain⟨x,hx⟩:∃x,a.B0[i]? = some x:=⟨_,uB I1⟩;obtain⟨y,hy⟩:∃y,b.B0[i]? = some y:=⟨_,uB oO⟩;refine K5 ?_;refine N1 (j2 @hx @hy) (M0 (ih x (uE hx) y)) ?_;by_cases hs:x.same y=true
      ·refine W3 (wr []) tT @hs (Z1 ?_);intro j x' y' hj R7 K8;by_cases vS:j=i;· subst vS;rw[hx]at R7;rw[hy]at K8;cases R7;cases K8;exact hs
       ·exact hI j x' y' oO R7 K8
      ·refine U1 @hs ?_;refine N3 ?_;simp[go_sem,hP,G0,hn] <;> (try omega);refine AT.2 ?_;intro h;rw[PC]at h;simp only[uH,jg0]at h;exact hs (h.2.2 i x y hx hy)
     ·intro hI;refine T7 ?_;refine K2 ?_;refine N3 ?_;simp[go_sem,hP,G0,hn] <;> (try omega);rw[PC];simp only[uH,jg0];exact⟨⟨⟨by simp[hk],by simp[hi]⟩,by simp[ht]⟩,hl,fun i x y hx hy=>hI i x y (uA hx).1 hx hy⟩
    ·refine V3 (j4 @hk @hi @ht @hl) (M0 (UX a.list b.list hia AH)) ?_;refine N3 ?_;simp[go_sem,hP,G0,hn] <;> (try omega);refine AT.2 ?_;intro h;rw[PC]at h;simp only[uH,jg0]at h;exact hl h.2.1
   ·refine V3 (j3 @hk @hi @ht) (M0 (UX a.list b.list hia AH)) ?_;refine N3 ?_;simp[go_sem,hP,G0,hn] <;> (try omega);simp[PC,ht]
  ·refine U1 (j2 @hk @hi) ?_;refine N3 ?_;simp[go_sem,hP,G0,hn] <;> (try omega);simp[PC,hi]
 ·refine U1 @hk ?_;refine N3 ?_;simp[go_sem,hP,G0,hn] <;> (try omega);simp[PC,hk]
def Tm.argN(t:Tm)(i:Nat):Tm:=t.B0.getD i M6
def Tm.rootN(t:Tm):Bool:=
 if t.o0=3 then decide ((t.argN 0).o0=2)
 else if t.o0=6 then decide ((t.argN 2).o0=4)||decide ((t.argN 2).o0=5)
 else if t.o0=9 then decide ((t.argN 2).o0=7)||decide ((t.argN 2).o0=8)
 else if t.o0=11 then decide ((t.argN 0).o0=10)
 else if t.o0=12 then decide ((t.argN 0).o0=10)
 else false
theorem Tm.parts1(h:t.shape=true)(hk:C5 t.o0=1):∃x,t.B0=[x]:=by
 have:=(Tm.shape_node h).1;rw[hk]at this
 match ha:t.B0,this with
 | [x],_=>exact⟨x,rfl⟩
theorem Tm.parts2(h:t.shape=true)(hk:C5 t.o0=2):∃x y,t.B0=[x,y]:=by
 have:=(Tm.shape_node h).1;rw[hk]at this
 match ha:t.B0,this with
 | [x,y],_=>exact⟨x,y,rfl⟩
theorem Tm.parts3(h:t.shape=true)(hk:C5 t.o0=3):∃x y z,t.B0=[x,y,z]:=by
 have:=(Tm.shape_node h).1;rw[hk]at this
 match ha:t.B0,this with
 | [x,y,z],_=>exact⟨x,y,z,rfl⟩
theorem y10(t:Tm)(ht:t.shape=true):cU 398 [t.dv] (O2 t.rootN):=by
 refine A3 Tryz.func398 fun X zX=>?_;by_cases h3:t.o0=3
 ·obtain⟨x,y,hx⟩:=Tm.parts2 ht (by rw[h3];rfl);exact O1 (j4 @h3 @hx @Tm.rootN.eq_1 @Tm.argN.eq_1) H0
 by_cases h6:t.o0=6
 ·obtain⟨x,y,z,hx⟩:=Tm.parts3 ht (by rw[h6];rfl);by_cases hz:z.o0=4;· exact O1 (j5 @h6 @hx @hz @Tm.rootN.eq_1 @Tm.argN.eq_1) H0
  ·exact O1 (j5 @h6 @hx @hz @Tm.rootN.eq_1 @Tm.argN.eq_1) H0
 by_cases h9:t.o0=9
 ·obtain⟨x,y,z,hx⟩:=Tm.parts3 ht (by rw[h9];rfl);by_cases hz:z.o0=7;· exact O1 (j5 @h9 @hx @hz @Tm.rootN.eq_1 @Tm.argN.eq_1) H0
  ·exact O1 (j5 @h9 @hx @hz @Tm.rootN.eq_1 @Tm.argN.eq_1) H0
 by_cases I7:t.o0=11
 ·obtain⟨x,hx⟩:=Tm.parts1 ht (by rw[I7];rfl);exact O1 (j4 @I7 @hx @Tm.rootN.eq_1 @Tm.argN.eq_1) H0
 by_cases U8:t.o0=12
 ·obtain⟨x,hx⟩:=Tm.parts1 ht (by rw[U8];rfl);exact O1 (j4 @U8 @hx @Tm.rootN.eq_1 @Tm.argN.eq_1) H0
 exact O1 (j6 @h3 @h6 @h9 @I7 @U8 @Tm.rootN.eq_1) H0
def Tm.nf:Tm->Bool
 | .mk k i ty a=>!(U0 k i ty a).rootN&&nfs a
where
 nfs:List Tm->Bool
  | []=>true
  | a::r=>a.nf&&nfs r
theorem Tm.nf_eq(t:Tm):t.nf=(!t.rootN&&nf.nfs t.B0):=by cases t;rfl
theorem Tm.nfs_iff(l:List Tm):nf.nfs l=true↔∀a∈l,a.nf=true:=by
 induction l with
 | nil=>simp[nf.nfs]
 | cons a r ih=>simp[nf.nfs,ih]
end
section
def W2(k:Int):Int:=if k=2 then 1 else 0
namespace Tm
def V0:Tm->Int->Int->Tm
 | .mk k i ty a,f,b=>.mk k (if k=1/\f<=i then i+b else i) ty (ups a (f+W2 k) b)
where
 ups:List Tm->Int->Int->List Tm
  | [],_,_=>[]
  | x::r,f,b=>x.V0 f b::ups r f b
theorem ups_map(l:List Tm)(f b:Int):V0.ups l f b=l.map fun x=>x.V0 f b:=by
 induction l with
 | nil=>rfl
 | cons a r ih=>simp[V0.ups,ih]
theorem upN_eq(t:Tm)(f b:Int):t.V0 f b = .mk t.o0 (if t.o0=1/\f<=t.O0 then t.O0+b else t.O0) t.I0 (t.B0.map fun x=>x.V0 (f+W2 t.o0) b):=by
 cases t;rw[V0,ups_map];rfl
def R2:Tm->Int->Nat
 | .mk k i _ a,p=>(if k=1/\i=p then 1 else 0)+B5 a (p+W2 k)
where
 B5:List Tm->Int->Nat
  | [],_=>0
  | x::r,p=>x.R2 p+B5 r p
theorem timesN_eq(t:Tm)(p:Int):t.R2 p=(if t.o0=1/\t.O0=p then 1 else 0)+R2.B5 t.B0 (p+W2 t.o0):=by cases t;rfl
theorem timess_append(l m:List Tm)(p:Int):R2.B5 (l++m) p=R2.B5 l p+R2.B5 m p:=by
 induction l with
 | nil=>simp[R2.B5]
 | cons a r ih=>simp[R2.B5,ih];omega
theorem timesN_le(t:Tm)(p:Int):t.R2 p<=t.A0:=by
 induction t using m7 generalizing p with
 | h t ih=>
 have key:∀l:List Tm,(∀a∈l,a∈t.B0)->R2.B5 l (p+W2 t.o0)<=A0.Z0 l:=by
  intro l
  induction l with
  | nil=>intro _;exact I5 _
  | cons a r l6=>
   intro h;have h1:=ih a (h a sS) (p+W2 t.o0);have h2:=l6 fun b hb=>h b (by simp[hb]);simp only[R2.B5,A0.Z0];omega
 have:=key t.B0 fun _ h=>h;rw[timesN_eq,count_eq];split <;> omega
theorem timess_le(l:List Tm)(p:Int):R2.B5 l p<=A0.Z0 l:=by
 induction l with
 | nil=>exact I5 _
 | cons a r ih=>have:=timesN_le a p;simp only[R2.B5,A0.Z0];omega
def Y1:Tm->Int->Int->Tm->Tm
 | .mk k i ty a,p,d,s=>
  if k=1 then if i=p+d then s.V0 0 (p+d) else if p+d<i then .mk 1 (i - 1) (L0 0 []) [] else .mk k i ty a
  else .mk k i ty (ins a p (d+W2 k) s)
where
 ins:List Tm->Int->Int->Tm->List Tm
  | [],_,_,_=>[]
  | x::r,p,d,s=>x.Y1 p d s::ins r p d s
theorem ins_map(l:List Tm)(p d:Int)(s:Tm):Y1.ins l p d s=l.map fun x=>x.Y1 p d s:=by
 induction l with
 | nil=>rfl
 | cons a r ih=>simp[Y1.ins,ih]
theorem inN_eq(t:Tm)(p d:Int)(s:Tm):t.Y1 p d s =
  if t.o0=1 then if t.O0=p+d then s.V0 0 (p+d) else if p+d<t.O0 then .mk 1 (t.O0 - 1) (L0 0 []) [] else t
  else .mk t.o0 t.O0 t.I0 (t.B0.map fun x=>x.Y1 p (d+W2 t.o0) s):=by
 cases t;rw[Y1,ins_map];rfl
def idx:Tm->Int->Prop
 | .mk _ i _ a,m=>(0<=i/\i<=m)/\idxs a m
where
 idxs:List Tm->Int->Prop
  | [],_=>True
  | x::r,m=>x.idx m/\idxs r m
theorem vJ0(l:List Tm)(m:Int):idx.idxs l m↔∀x∈l,x.idx m:=by
 induction l with
 | nil=>simp[idx.idxs]
 | cons a r ih=>simp[idx.idxs,ih]
theorem idx_eq(t:Tm)(m:Int):t.idx m↔(0<=t.O0/\t.O0<=m)/\∀x∈t.B0,x.idx m:=by cases t;simp only[idx,vJ0,O0,B0]
theorem idx_mono{m:Int}(h:m<=n)(hi:t.idx m):t.idx n:=by
 induction t using m7 with
 | h t ih=>
 rw[idx_eq]at hi ⊢;exact⟨⟨hi.1.1,oO⟩,fun x hx=>ih x hx (hi.2 x hx)⟩
end Tm
end
section
theorem vF{X:Ctx}{k:List Item}{s:St}(S:St)(h1:W X kk S->W X k s)(h2:W X kk S):W X k s:=h1 h2
theorem Mo(t:Tm):cU 245 [t.dv] (j0 (W2 t.o0)):=by
 refine A3 Tryz.func245 fun X zX=>?_;by_cases h:t.o0=2;· exact O1 (j2 @h @W2.eq_1) H0
 ·exact O1 (j2 @h @W2.eq_1) H0
theorem lT(k:Int):0<=W2 k/\W2 k<=1:=by unfold W2;split <;> omega
theorem eE0(t:Tm)(p:Int)(hc:t.A0<=1073741824)(lL:0<=p)(hp:p+t.A0<=2147483648):cU 401 [t.dv,j0 p] (j0 (t.R2 p)):=by
 induction t using m7 generalizing p with
 | h t ih=>
 have N4:=V6 t;have kE:=lT t.o0;refine H2 Tryz.func401 ?_;intro X hP G0 hf X0 hn hR K1 G1;have hlen:=kM (G1 t.dv sS);refine N2 ?_;apply vF [sV 5 (j0 (if t.o0=1/\t.O0=p then 1 else 0)),sV 1 (j0 p),sL 2 (gG t),sP 2,sV 22 (j0 0),sV 21 (j0 t.B0.length),sV 20 (.sl (t.B0.map E3))]
 ·intro Q3;by_cases h1:t.o0=1
  ·by_cases h2:t.O0=p
   ·refine U1 (j2 @h1 @h2) ?_;refine m5 ?_;refine G2 [] (j2 @h1 @h2) Q3
   ·refine U1 (j2 @h1 @h2) ?_;refine m5 ?_;refine G2 [] (j2 @h1 @h2) Q3
  ·refine U1 @h1 ?_;refine m5 ?_;refine G2 [] @h1 Q3
 ·refine Q1 ?_;refine G2 [] (j2 @Tm.R2.B5.eq_1 @Tm.R2.B5.eq_2) (y7 (t.B0) (fun done rest=>[sV 5 (j0 ((if t.o0=1/\t.O0=p then 1 else 0)+(Tm.R2.B5 done (p+W2 t.o0):Nat))),sV 1 (j0 p),sV 22 (j0 done.length),sV 21 (j0 t.B0.length),sV 20 (.sl (t.B0.map E3)),sL 2 (gG t),sP 2]) ?_ ?_)
  ·intro done x rest hL B3 Z1;have I1:=E5 hL;have U2:=uE B3;have aF:D3.Z0 t.B0=D3.Z0 done+(x.A0+D3.Z0 rest):=by rw[hL,gR];rfl
   have h1:=Tm.timess_le done (p+W2 t.o0);have h2:=Tm.timesN_le x (p+W2 t.o0);have h3:(if t.o0=1/\t.O0=p then (1:Int) else 0)<=1/\0<=(if t.o0=1/\t.O0=p then (1:Int) else 0):=by split <;> omega
   generalize (if t.o0=1/\t.O0=p then (1:Int) else 0)=z at *;refine K5 ?_;refine N1 @B3 (P3 (Mo t) (ih x U2 (p+W2 t.o0) oO oO oO)) ?_;refine W3 (wr []) (j3 @Tm.timess_append @Tm.R2.B5.eq_1 @Tm.R2.B5.eq_2) tT Z1
  ·refine K2 ?_;refine Z6 ?_;refine N2 ?_;refine N3 ?_;simp[go_sem,hP,G0,hn,Tm.timesN_eq t] <;> (try omega);split <;> simp
theorem Yq(t:Tm)(f b:Int)(hi:t.idx 1099511627776)(V8:-1099511627776<=b)(Z8:b<=1099511627776)(B6:0<=f)(gL:f+t.A0<=1099511627776):cU 164 [t.dv,j0 f,j0 b] (t.V0 f b).dv:=by
 induction t using m7 generalizing f with
 | h t ih=>
 have N4:=V6 t;have kE:=lT t.o0;have aQ:=(Tm.idx_eq t _).1 hi;refine H2 Tryz.func164 ?_;intro X hP G0 hf X0 hn hR K1 G1;have hlen:=kM (G1 t.dv sS);refine N2 ?_;apply vF [sL 7 [.v (j0 t.o0),.v (j0 (if t.o0=1/\f<=t.O0 then t.O0+b else t.O0)),.v (j0 t.I0.o0),.v (.sl (t.I0.B0.map P1)),.own 0 []],sP 7,sV 1 (j0 f),sV 2 (j0 b),sL 3 (gG t),sP 3,sL 6 [.v (j0 0),.v (j0 0),.v (j0 0),.own 0 [],.own 0 []],sP 6,sV 34 (j0 0),sV 33 (j0 t.B0.length),sV 32 (.sl (t.B0.map E3))]
 ·intro Q3;by_cases h1:t.o0=1
  ·by_cases h2:f<=t.O0
   ·have TK:¬t.O0<f:=oO;refine U1 (j2 @h1 @h2) ?_;refine m5 ?_;refine G2 [] (j2 @h1 @h2) Q3
   ·refine U1 (j2 @h1 @h2) ?_;refine m5 ?_;refine G2 [] (j2 @h1 @h2) Q3
  ·refine U1 @h1 ?_;refine m5 ?_;refine G2 [] @h1 Q3
 ·refine Q1 ?_;refine G2 [(1007,0)] tT (y7 (t.B0) (fun done rest=>[sL 7 [.v (j0 t.o0),.v (j0 (if t.o0=1/\f<=t.O0 then t.O0+b else t.O0)),.v (j0 t.I0.o0),.v (.sl (t.I0.B0.map P1)),.own 1007 (done.map fun x=>(x.V0 (f+W2 t.o0) b).E0)],sP 7,(.tok 1007,.tk 5 done.length),sV 1 (j0 f),sV 2 (j0 b),sL 3 (gG t),sP 3,sL 6 [.v (j0 0),.v (j0 0),.v (j0 0),.own 0 [],.own 0 []],sP 6,sV 34 (j0 done.length),sV 33 (j0 t.B0.length),sV 32 (.sl (t.B0.map E3))]) ?_ ?_)
  ·intro done x rest hL B3 Z1;have I1:=E5 hL;have U2:=uE B3;have aF:=L9 U2;refine K5 ?_;refine N1 @B3 (P3 (Mo t) (ih x U2 (f+W2 t.o0) (aQ.2 x U2) oO oO)) ?_;refine W3 (wr [(1007,48)]) (O3 (x.V0 (f+W2 t.o0) b)) tT Z1
  ·refine K2 ?_;refine Z6 ?_;refine N2 ?_;refine N3 ?_;simp[go_sem,hP,G0,hn] <;> (try omega);rw[Tm.upN_eq t];simp[Tm.dv,O3,Z9,fE,kL,M8]
theorem Ed(i:Int):cU 168 [j0 i] (U0 1 i (L0 0 []) []).dv:=by
 exact G7 Tryz.func168 H0 H0
theorem gE0(t:Tm)(p d:Int)(s:Tm)(hi:t.idx 1099511627776)(hs:s.idx 1099511627776)(hp:0<=p)(hd:0<=d)(hpd:p+d+t.A0+s.A0<=1099511627776):cU 402 [t.dv,j0 p,j0 d,s.dv] (t.Y1 p d s).dv:=by
 induction t using m7 generalizing d with
 | h t ih=>
 have N4:=V6 t;have kE:=lT t.o0;have aQ:=(Tm.idx_eq t _).1 hi;refine H2 Tryz.func402 ?_;intro X hP G0 hf X0 hn hR K1 G1;have hlen:=kM (G1 t.dv sS);by_cases h1:t.o0=1
 ·by_cases h2:t.O0=p+d;· exact P4 (j3 @h1 @h2 (Tm.inN_eq t)) (M0 (Yq s 0 (p+d) hs oO oO oO oO))
  ·by_cases h3:p+d<t.O0;· exact P4 (j4 @h1 @h2 @h3 (Tm.inN_eq t)) (M0 (Ed (t.O0 - 1)))
   ·refine U1 (j3 @h1 @h2 @h3) ?_;refine Q1 ?_;first|refine xD hP hf X0 hR ?_|refine xE hP hf X0 hR ?_
    simp[go_sem,hP,G0,hn,Tm.inN_eq t,h1,h2,h3] <;> (try omega);all_goals (simp[Ty.dv,mK,Ty.kind_mk,Ty.args_mk,Tm.dv,O3,Z9,fE,kL,M8];exact h1.symm)
 ·refine U1 @h1 ?_;refine Q1 ?_;refine G2 [(1009,0)] tT (y7 (t.B0) (fun done rest=>[sL 9 [.v (j0 t.o0),.v (j0 t.O0),.v (j0 t.I0.o0),.v (.sl (t.I0.B0.map P1)),.own 1009 (done.map fun x=>(x.Y1 p (d+W2 t.o0) s).E0)],sP 9,(.tok 1009,.tk 5 done.length),sV 1 (j0 p),sV 2 (j0 d),sL 4 (gG t),sP 4,sL 7 (gG s),sP 7,sL 8 [.v (j0 0),.v (j0 0),.v (j0 0),.own 0 [],.own 0 []],sP 8,sV 47 (j0 done.length),sV 46 (j0 t.B0.length),sV 45 (.sl (t.B0.map E3))]) ?_ ?_)
  ·intro done x rest hL B3 Z1;have I1:=E5 hL;have U2:=uE B3;have aF:=L9 U2;refine K5 ?_;refine N1 @B3 (P3 (Mo t) (ih x U2 (d+W2 t.o0) (aQ.2 x U2) oO oO)) ?_;refine W3 (wr [(1009,62)]) (O3 (x.Y1 p (d+W2 t.o0) s)) tT Z1
  ·refine K2 ?_;refine Z6 ?_;refine N2 ?_;refine N3 ?_;simp[go_sem,hP,G0,hn] <;> (try omega);rw[Tm.inN_eq t];simp[h1,Tm.dv,O3,Z9,fE,kL,M8]
def gE(f a:Tm):Tm:=U0 3 0 (L0 0 []) [f,a]
def Tm.reducedN(t:Tm):Tm:=
 if t.o0=3 then ((t.argN 0).argN 0).Y1 0 0 (t.argN 1)
 else if t.o0=6 then
  if (t.argN 2).o0=4 then t.argN 0
  else gE (gE (t.argN 1) ((t.argN 2).argN 0)) (U0 6 0 t.I0 [t.argN 0,t.argN 1,(t.argN 2).argN 0])
 else if t.o0=9 then
  if (t.argN 2).o0=7 then t.argN 0
  else gE (gE (gE (t.argN 1) ((t.argN 2).argN 0)) ((t.argN 2).argN 1)) (U0 9 0 t.I0 [t.argN 0,t.argN 1,(t.argN 2).argN 1])
 else if t.o0=11 then (t.argN 0).argN 0
 else (t.argN 0).argN 1
def Tm.growthN(t:Tm):Int:=
 if t.o0=3 then ((t.argN 0).argN 0).A0+((t.argN 0).argN 0).R2 0 * ((t.argN 1).A0 - 1:Int) - t.A0
 else if t.o0=6 then
  if (t.argN 2).o0=4 then ((t.argN 0).A0:Int) - t.A0
  else 2+(t.argN 1).A0+((t.argN 2).argN 0).A0+t.A0 - 1 - t.A0
 else if t.o0=9 then
  if (t.argN 2).o0=7 then ((t.argN 0).A0:Int) - t.A0
  else 3+(t.argN 1).A0+((t.argN 2).argN 0).A0+((t.argN 2).argN 1).A0+t.A0 - 1 - ((t.argN 2).argN 0).A0 - t.A0
 else if t.o0=11 then (((t.argN 0).argN 0).A0:Int) - t.A0
 else (((t.argN 0).argN 1).A0:Int) - t.A0
theorem sJ(k:Int)(s:Ty)(l:List Tm):cU 171 [j0 k,s.dv,.sl (l.map E3)] (U0 k 0 s l).dv:=by
 exact G7 Tryz.func171 H0 (P3 (dI k l) (yZ s))
theorem xG{y:Tm}(h:t.B0=[x,y]):t.A0=1+(x.A0+(y.A0+0)):=by rw[V6,h];rfl
theorem Bz{y z:Tm}(h:t.B0=[x,y,z]):t.A0=1+(x.A0+(y.A0+(z.A0+0))):=by rw[V6,h];rfl
theorem xH(h:t.B0=[x]):t.A0=1+(x.A0+0):=by rw[V6,h];rfl
theorem rc0(t:Tm)(ht:t.shape=true)(hr:t.rootN=true)(hc:t.A0<=1048576):cU 399 [t.dv] (j0 t.growthN):=by
 have hs:=(Tm.shape_node ht).2.2.2.2;refine A3 Tryz.func399 fun X zX=>?_;refine N1 H0 (M0 (lR t oO)) ?_;by_cases h3:t.o0=3
 ·obtain⟨x,y,hx⟩:=Tm.parts2 ht (by rw[h3];rfl);have hk:x.o0=2:=by simpa [Tm.rootN,h3,Tm.argN,hx] using hr
  obtain⟨b,hb⟩:=Tm.parts1 (hs x (by rw[hx];simp)) (by rw[hk];rfl);have c1:=xG hx;have c2:=xH hb;have c3:=Tm.timesN_le b 0;have c4:=Uu y;have c5:0<=(b.R2 0:Int) * ((y.A0:Int) - 1)/\(b.R2 0:Int) * ((y.A0:Int) - 1)<=1099511627776:=by
   have e:(b.R2 0:Int) * ((y.A0:Int) - 1)=((b.R2 0 * (y.A0 - 1):Nat):Int):=by
    rw[Int.natCast_mul];congr 1;omega
   rw[e];have:=iY0 (show b.R2 0<=1048576 from oO) (show y.A0 - 1<=1048576 from oO);omega
  exact O1 (j5 @h3 @hx @hb @Tm.growthN.eq_1 @Tm.argN.eq_1) (E8 (lR b oO) (eE0 b 0 oO oO oO) (lR y oO))
 by_cases h6:t.o0=6
 ·obtain⟨x,y,z,hx⟩:=Tm.parts3 ht (by rw[h6];rfl);have c1:=Bz hx;by_cases hz:z.o0=4;· exact O1 (j5 @h6 @hx @hz @Tm.growthN.eq_1 @Tm.argN.eq_1) (M0 (lR x oO))
  ·have HJ:z.o0=5:=by
    have:z.o0=4\/z.o0=5:=by simpa [Tm.rootN,h6,Tm.argN,hx] using hr
    exact this.resolve_left hz
   obtain⟨n,qG⟩:=Tm.parts1 (hs z (by rw[hx];simp)) (by rw[HJ];rfl);have c2:=xH qG;exact O1 (j6 @h6 @hx @hz @qG @Tm.growthN.eq_1 @Tm.argN.eq_1) (P3 (lR y oO) (lR n oO))
 by_cases h9:t.o0=9
 ·obtain⟨x,y,z,hx⟩:=Tm.parts3 ht (by rw[h9];rfl);have c1:=Bz hx;by_cases hz:z.o0=7;· exact O1 (j5 @h9 @hx @hz @Tm.growthN.eq_1 @Tm.argN.eq_1) (M0 (lR x oO))
  ·have HJ:z.o0=8:=by
    have:z.o0=7\/z.o0=8:=by simpa [Tm.rootN,h9,Tm.argN,hx] using hr
    exact this.resolve_left hz
   obtain⟨n,r,qG⟩:=Tm.parts2 (hs z (by rw[hx];simp)) (by rw[HJ];rfl);have c2:=xG qG;exact O1 (j6 @h9 @hx @hz @qG @Tm.growthN.eq_1 @Tm.argN.eq_1) (cQ (lR y oO) (lR n oO) (lR r oO) (lR n oO))
 by_cases I7:t.o0=11
 ·obtain⟨x,hx⟩:=Tm.parts1 ht (by rw[I7];rfl);have hk:x.o0=10:=by simpa [Tm.rootN,I7,Tm.argN,hx] using hr
  obtain⟨p,q,hp⟩:=Tm.parts2 (hs x (by rw[hx];simp)) (by rw[hk];rfl);have c1:=xH hx;have c2:=xG hp;exact O1 (j5 @I7 @hx @hp @Tm.growthN.eq_1 @Tm.argN.eq_1) (M0 (lR p oO))
 have U8:t.o0=12:=by
  by_cases h:t.o0=12;· exact h
  ·simp[Tm.rootN,h3,h6,h9,I7,h]at hr
 obtain⟨x,hx⟩:=Tm.parts1 ht (by rw[U8];rfl);have hk:x.o0=10:=by simpa [Tm.rootN,U8,Tm.argN,hx] using hr
 obtain⟨p,q,hp⟩:=Tm.parts2 (hs x (by rw[hx];simp)) (by rw[hk];rfl);have c1:=xH hx;have c2:=xG hp;exact O1 (j5 @U8 @hx @hp @Tm.growthN.eq_1 @Tm.argN.eq_1) (M0 (lR q oO))
theorem oh0(t:Tm)(ht:t.shape=true)(hr:t.rootN=true)(hi:t.idx 549755813888)(hc:t.A0<=1048576):cU 400 [t.dv] t.reducedN.dv:=by
 have hs:=(Tm.shape_node ht).2.2.2.2;have kA:=((Tm.idx_eq t _).1 hi).2;refine A3 Tryz.func400 fun X zX=>?_;by_cases h3:t.o0=3
 ·obtain⟨x,y,hx⟩:=Tm.parts2 ht (by rw[h3];rfl);have hk:x.o0=2:=by simpa [Tm.rootN,h3,Tm.argN,hx] using hr
  obtain⟨b,hb⟩:=Tm.parts1 (hs x (by rw[hx];simp)) (by rw[hk];rfl);have c1:=xG hx;have c2:=xH hb;have ib:b.idx 1099511627776:=Tm.idx_mono oO (((Tm.idx_eq x _).1 (kA x (by rw[hx];simp))).2 b (by rw[hb];simp));have iy:y.idx 1099511627776:=Tm.idx_mono oO (kA y (by rw[hx];simp));exact P4 (j5 @h3 @hx @hb @Tm.reducedN.eq_1 @Tm.argN.eq_1) (M0 (gE0 b 0 0 y ib iy oO oO oO))
 by_cases h6:t.o0=6
 ·obtain⟨x,y,z,hx⟩:=Tm.parts3 ht (by rw[h6];rfl);by_cases hz:z.o0=4;· exact P4 (j5 @h6 @hx @hz @Tm.reducedN.eq_1 @Tm.argN.eq_1) H0
  ·have HJ:z.o0=5:=by
    have:z.o0=4\/z.o0=5:=by simpa [Tm.rootN,h6,Tm.argN,hx] using hr
    exact this.resolve_left hz
   obtain⟨n,qG⟩:=Tm.parts1 (hs z (by rw[hx];simp)) (by rw[HJ];rfl);exact P4 (j7 @h6 @hx @hz @qG @Tm.reducedN.eq_1 @Tm.argN.eq_1 @gE.eq_1) (E8 (dI 3 [y,n]) (sJ 6 t.I0 [x,y,n]) (dI 3 [U0 3 0 (L0 0 []) [y,n],U0 6 0 t.I0 [x,y,n]]))
 by_cases h9:t.o0=9
 ·obtain⟨x,y,z,hx⟩:=Tm.parts3 ht (by rw[h9];rfl);by_cases hz:z.o0=7;· exact P4 (j5 @h9 @hx @hz @Tm.reducedN.eq_1 @Tm.argN.eq_1) H0
  ·have HJ:z.o0=8:=by
    have:z.o0=7\/z.o0=8:=by simpa [Tm.rootN,h9,Tm.argN,hx] using hr
    exact this.resolve_left hz
   obtain⟨n,r,qG⟩:=Tm.parts2 (hs z (by rw[hx];simp)) (by rw[HJ];rfl);exact P4 (j7 @h9 @hx @hz @qG @Tm.reducedN.eq_1 @Tm.argN.eq_1 @gE.eq_1) (cQ (dI 3 [y,n]) (dI 3 [U0 3 0 (L0 0 []) [y,n],r]) (sJ 9 t.I0 [x,y,r]) (dI 3 [U0 3 0 (L0 0 []) [U0 3 0 (L0 0 []) [y,n],r],U0 9 0 t.I0 [x,y,r]]))
 by_cases I7:t.o0=11
 ·obtain⟨x,hx⟩:=Tm.parts1 ht (by rw[I7];rfl);have hk:x.o0=10:=by simpa [Tm.rootN,I7,Tm.argN,hx] using hr
  obtain⟨p,q,hp⟩:=Tm.parts2 (hs x (by rw[hx];simp)) (by rw[hk];rfl);exact P4 (j5 @I7 @hx @hp @Tm.reducedN.eq_1 @Tm.argN.eq_1) H0
 have U8:t.o0=12:=by
  by_cases h:t.o0=12;· exact h
  ·simp[Tm.rootN,h3,h6,h9,I7,h]at hr
 obtain⟨x,hx⟩:=Tm.parts1 ht (by rw[U8];rfl);have hk:x.o0=10:=by simpa [Tm.rootN,U8,Tm.argN,hx] using hr
 obtain⟨p,q,hp⟩:=Tm.parts2 (hs x (by rw[hx];simp)) (by rw[hk];rfl);exact P4 (j5 @U8 @hx @hp @Tm.reducedN.eq_1 @Tm.argN.eq_1) H0
def Yr(b:Tm)(l:List Ty):Tm:=l.foldr (fun s b=>U0 2 0 s [b]) b
def m9(f:Tm)(l:List Tm):Tm:=l.foldl gE f
theorem cV0(f:Tm)(l:List Tm)(x:Tm):m9 f (l++[x])=gE (m9 f l) x:=by simp[m9]
theorem dM0(f:Tm):m9 f []=f:=rfl
theorem Gc(i:Int):cU 220 [j0 i] (U0 1 i (L0 0 []) []).dv:=by
 exact G7 Tryz.func220 H0 H0
theorem Gq0(f:Tm)(l:List Tm):cU 219 [f.dv,.sl (l.map E3)] (m9 f l).dv:=by
 refine H2 Tryz.func219 ?_;intro X hP G0 hf X0 hn hR K1 G1;have hlen:=sQ (G1 (.sl (l.map E3)) sS);simp only[fV]at hlen;refine N2 ?_;refine Q1 ?_;refine G2 [] @dM0 (y7 (l) (fun done rest=>[sV 9 (j0 done.length),sV 8 (j0 l.length),sV 7 (.sl (l.map E3)),sL 2 (gG (m9 f done)),sP 2,sL 4 [.v (j0 0),.v (j0 0),.v (j0 0),.own 0 [],.own 0 []],sP 4]) ?_ ?_)
 ·intro done x rest hL B3 Z1;have I1:=E5 hL;refine K5 ?_;refine N1 @B3 (M0 (Nf 3 [m9 f done,x])) ?_;refine W3 (wr []) (j6 @cV0 @gE.eq_1 @Z9 @fE @kL @M8) tT Z1
 ·refine K2 ?_;refine Z6 ?_;exact P4 H0 H0
theorem Gk(f:Tm)(l:List Tm):cU 90 [f.dv,.sl (l.map E3)] (m9 f l).dv:=by
 refine H2 Tryz.func90 ?_;intro X hP G0 hf X0 hn hR K1 G1;have hlen:=sQ (G1 (.sl (l.map E3)) sS);simp only[fV]at hlen;refine N2 ?_;refine Q1 ?_;refine G2 [] @dM0 (y7 (l) (fun done rest=>[sV 9 (j0 done.length),sV 8 (j0 l.length),sV 7 (.sl (l.map E3)),sL 2 (gG (m9 f done)),sP 2,sL 4 [.v (j0 0),.v (j0 0),.v (j0 0),.own 0 [],.own 0 []],sP 4]) ?_ ?_)
 ·intro done x rest hL B3 Z1;have I1:=E5 hL;refine K5 ?_;refine N1 @B3 (M0 (dI 3 [m9 f done,x])) ?_;refine W3 (wr []) (j6 @cV0 @gE.eq_1 @Z9 @fE @kL @M8) tT Z1
 ·refine K2 ?_;refine Z6 ?_;exact P4 H0 H0
def vT(i:Int):Tm:=U0 1 i (L0 0 []) []
def nT(k:Int)(l:List Tm):Tm:=U0 k 0 (L0 0 []) l
def YG(b s o:Tm):Tm:=U0 6 0 (L0 1 []) [b,Yr s [L0 1 [],L0 1 []],o]
def YH(b:Tm):Tm:=Yr b [L0 1 [],L0 1 []]
def xL:Tm:=Yr (YG (nT 4 []) (vT 1) (vT 0)) [L0 1 []]
def Y6:Tm:=YH (YG (vT 1) (nT 5 [vT 0]) (vT 0))
def Q8:Tm:=YH (YG (vT 1) (m9 xL [vT 0]) (vT 0))
def H7:Tm:=YH (m9 Y6 [m9 Q8 [vT 1,vT 0],m9 Q8 [vT 0,vT 1]])
def Q4(t:Ty):List DV:=[j0 t.o0,.sl (t.B0.map P1),j0 (t.A0:Int)]
theorem W7(t:Ty):Q4 t=[j0 t.o0,.sl (t.B0.map P1),j0 (t.A0:Int)]:=rfl
theorem Cw(a b:Ty):cU 50 [a.dv,b.dv] (O2 (a.same b)):=by
 induction a using yS generalizing b with
 | h a ih=>
 refine H2 Tryz.func50 ?_;intro X hP G0 hf X0 hn hR K1 G1;have KH:=Py (G1 a.dv sS);have o8:=Py (G1 b.dv sS);by_cases hk:a.o0=b.o0
 ·by_cases hl:a.B0.length=b.B0.length
  ·refine U1 (j2 @hk @hl) ?_;refine Q1 ?_;refine G2 [] (j2 @hk @hl) (xF (a.B0.length) (fun i=>∀(j:Nat) (x y:Ty),j<i->a.B0[j]? = some x->b.B0[j]? = some y->x.same y=true) (fun i=>[sV 24 (j0 i),sV 23 (j0 a.B0.length),sV 22 (.sl (a.B0.map P1)),sP 3,sL 3 (tM b)]) (by intro j x y h;omega) ?_ ?_)
   ·intro i I1 hI Z1;obtain⟨x,hx⟩:∃x,a.B0[i]? = some x:=⟨_,uB I1⟩;obtain⟨y,hy⟩:∃y,b.B0[i]? = some y:=⟨_,uB oO⟩;refine K5 ?_;refine N1 (j2 @hx @hy) (M0 (ih x (uE hx) y)) ?_;by_cases hs:x.same y=true
    ·refine W3 (wr []) tT @hs (Z1 ?_);intro j x' y' hj R7 K8;by_cases vS:j=i;· subst vS;rw[hx]at R7;rw[hy]at K8;cases R7;cases K8;exact hs
     ·exact hI j x' y' oO R7 K8
    ·refine U1 @hs ?_;refine N3 ?_;simp[go_sem,hP,G0,hn] <;> (try omega);refine AT.2 ?_;intro h;rw[In,uH,Px]at h;exact hs (h.2.2 i x y hx hy)
   ·intro hI;refine T7 ?_;refine N2 ?_;refine N3 ?_;simp[go_sem,hP,G0,hn] <;> (try omega);rw[In,uH,Px];exact⟨by simp[hk],hl,fun i x y hx hy=>hI i x y (uA hx).1 hx hy⟩
  ·refine U1 (j2 @hk @hl) ?_;refine N3 ?_;simp[go_sem,hP,G0,hn] <;> (try omega);refine AT.2 ?_;intro h;rw[In,uH,Px]at h;exact hl h.2.1
 ·refine U1 @hk ?_;refine N3 ?_;simp[go_sem,hP,G0,hn] <;> (try omega);simp[In,hk]
theorem IN(t:Ty):cU 147 [t.dv] t.dv:=by
 induction t using yS with
 | h t ih=>
 refine H2 Tryz.func147 ?_;intro X hP G0 hf X0 hn hR K1 G1;have hlen:=Py (G1 t.dv sS);refine N2 ?_;refine Q1 ?_;refine G2 [(1003,0)] tT (y7 (t.B0) (fun done rest=>[sV 12 (j0 done.length),sV 11 (j0 t.B0.length),sV 10 (.sl (t.B0.map P1)),(.P0 3,.one (.loc 3 0)),sL 3 [.v (j0 t.o0),.own 1003 (done.map P1)],(.tok 1003,.tk 2 done.length),sP 2,sL 2 [.v (j0 0),.own 0 []]]) ?_ ?_)
 ·intro done x rest hL hg Z1;have I1:=E5 hL;refine K5 ?_;refine R4 @hg ?_;refine U6 tT fun K hK=>?_;refine Z7 tT (ih x (uE hg)) ?_;refine K4 ?_;clear hK K;refine K2 ?_;refine m5 ?_;refine G2 [(1003,21)] tT Z1
 ·refine K2 ?_;refine Z6 ?_;exact P4 H0 H0
theorem wP(t:Ty)(ht:t.ok):cU 222 [t.dv] (.agg (Q4 t)):=by
 refine A3 Tryz.func222 fun X zX=>?_;have hc:=ht.2;have h0:=(Ty.checkN_iff t).2 ht;exact O1 (j2 @h0 (W7 t)) (M0 (FY t oO))
theorem LM(t x:Ty)(i:Nat)(hx:t.B0[i]? = some x)(ho:x.ok):cU 312 [.agg (Q4 t),j0 (i:Int)] (.agg (Q4 x)):=by
 refine A3 Tryz.func312 fun X zX=>?_;have P6:=W7 t;refine R4 @P6 ?_;exact O1 (j2 @hx (W7 x)) (M0 (wP x ho))
theorem mR(t:Ty)(k:Int):cU 290 [.agg (Q4 t),j0 k] (O2 (decide (t.o0=k))):=by
 refine A3 Tryz.func290 fun X zX=>?_;have P6:=W7 t;exact O1 @P6 H0
theorem LN(a b:Ty):cU 284 [.agg (Q4 a),.agg (Q4 b)] (O2 (a.same b)):=by
 refine A3 Tryz.func284 fun X zX=>?_;have ha:=W7 a;have hb:=W7 b;by_cases h:a.A0=b.A0
 ·refine R4 (j2 @ha @hb) ?_;exact O1 (j3 @ha @hb @h) (M0 (Cw a b))
 ·have hs:a.same b=false:=by
   refine AT.2 fun e=>h ?_;rw[(y9 a b).1 e]
  have hi:¬(a.A0:Int)=(b.A0:Int):=oO;exact O1 (j4 @ha @hb @hi @hs) H0
theorem cW0(k:Int)(a b:Ty)(hc:1+a.A0+b.A0<=64):cU 236 [j0 k,.agg (Q4 a),.agg (Q4 b)] (.H1 [.agg (Q4 (L0 k [a,b])),j0 0]):=by
 refine A3 Tryz.func236 fun X zX=>?_;have ha:=W7 a;have hb:=W7 b;have eC:(1:Int)+a.A0+b.A0<=64:=oO;have hr:Q4 (L0 k [a,b])=[j0 k,.sl [a.E0,b.E0],j0 (1+(a.A0:Int)+(b.A0:Int))]:=by
  rw[W7,Ma];simp[qM,yT];omega
 exact O1 (j6 @ha @hb @eC @hr (mK a) (mK b)) H0
theorem lS(k:Int):cU 311 [j0 k] (.sl (P2 (if k=4 then [1] else if k=5 then [1,1] else if k=7 then [2] else if k=8 then [2,1,2] else if k=13 then [5] else []))):=by
 refine H2 Tryz.func311 ?_;intro X hP G0 hf X0 hn hR K1 G1;by_cases bK:k=4
 ·refine U1 @bK ?_;refine N3 ?_;simp[go_sem,hP,G0,hn,P2,bK] <;> (try omega)
 by_cases o9:k=5
 ·refine U1 @o9 ?_;refine N3 ?_;simp[go_sem,hP,G0,hn,P2,o9] <;> (try omega)
 by_cases W9:k=7
 ·refine U1 @W9 ?_;refine N3 ?_;simp[go_sem,hP,G0,hn,P2,W9] <;> (try omega)
 by_cases mF:k=8
 ·refine U1 @mF ?_;refine N3 ?_;simp[go_sem,hP,G0,hn,P2,mF] <;> (try omega)
 by_cases yG:k=13
 ·refine U1 @yG ?_;refine N3 ?_;simp[go_sem,hP,G0,hn,P2,yG] <;> (try omega)
 refine U1 (j5 @bK @o9 @W9 @mF @yG) ?_;refine N3 ?_;simp[go_sem,hP,G0,hn,P2,bK,o9,W9,mF,yG] <;> (try omega)
theorem Mp:cU 217 [] (L0 1 []).dv:=by
 exact G7 Tryz.func217 H0 H0
theorem dN0:cU 239 [] (L0 2 []).dv:=by
 exact G7 Tryz.func239 H0 H0
def tH(r:Ty)(l:List Ty):Ty:=l.foldr (fun a r=>L0 4 [a,r]) r
theorem eF0(r:Ty)(l:List Ty):cU 218 [r.dv,.sl (l.map P1)] (tH r l).dv:=by
 refine H2 Tryz.func218 ?_;intro X hP G0 hf X0 hn hR K1 G1;have AB:=sQ (G1 (.sl (l.map P1)) sS);simp at AB;have h0:l.drop l.length=[]:=List.drop_length;refine N2 ?_;refine Q1 ?_;refine aM [] sG (by simp[go_sem,h0,tH,List.foldr_nil] <;> omega) sG (mQ (fun k:Nat=>k<=l.length) (fun k:Nat=>[sV 1 (.sl (l.map P1)),sP 2,sL 2 [.v (j0 (tH r (l.drop k)).o0),.v (.sl ((tH r (l.drop k)).B0.map P1))],sP 4,sL 4 [.v (j0 0),.own 0 []],sV 5 (j0 ((k:Int) - 1))]) (fun k:Nat=>k) l.length (I5 _) ?_);intro k hk ih;cases k with
 | zero=>
  refine T7 ?_;refine N2 ?_;exact aN @mK
 | succ k=>
  have I1:k<l.length:=oO;obtain⟨a,ha⟩:∃a,l[k]? = some a:=⟨_,uB I1⟩;have hd:l.drop k=a::l.drop (k+1):=by
   rw[List.drop_eq_getElem_cons I1];rw[uB I1,uC]at ha;rw[ha]
  have mE:tH r (l.drop k)=L0 4 [a,tH r (l.drop (k+1))]:=by rw[hd];rfl
  have gN:((k+1:Nat):Int) - 1=(k:Int):=oO;have hle:(k:Int)<=2147483648:=oO;have bT:=mK (tH r (l.drop (k+1)));have HZ:=ih k oO oO;rw[mE]at HZ;simp only[qM,yT]at HZ;rw[gN];refine K5 ?_;refine R4 @ha ?_;refine K2 ?_;refine m5 ?_;refine G2 [] (mK (tH r (l.drop (k+1)))) HZ
end
section
section
variable{X:Ctx}{s s0:St}{k:List Item}
def gF0(T:List Nat)(m n:Nat):Bool:=(oT n).all fun j=>decide (j<m)||(oT j).all fun i=>(T.getD j 0).testBit i
theorem oi0{T:List Nat}{m n:Nat}(h:gF0 T m n=true):∀j,m<=j->j<n->∀i,i<j->(T.getD j 0).testBit i=true:=by
 intro j hj hn i hi;have:=yR.1 h j (DP.2 hn);rw[Ci]at this;rcases this with h1|h1;· exact absurd (of_decide_eq_true h1) oO
 ·exact yR.1 h1 i (DP.2 hi)
theorem Xs{ops:Array Oper}{m:Nat}{T:List Nat}(pT:zY 0 ops.toList=true)(BW:Ad T T ops.toList=true)(Ku:∀j,m<=j->j<ops.size->∀i,i<j->(T.getD j 0).testBit i=true){Q:Exit->Act->World->Prop} :
  ∀(k j fuel:Nat) (listed:Array Bool) (a:Act) (w:World),j+k=ops.size->m<=j->listed.size=ops.size->(∀i,i<ops.size->L7 listed i=decide (i<j))->k<=fuel->wpOpsIn X.F 0 X.P ops Q (List.range' j k) a w->wpAnyIn X.F 0 X.P .any ops Q fuel listed a w
 | 0,j,fuel,listed,a,w,hjk,hm,P6,hL,hf,hw=>by
  have u4:∀i,i<ops.size->L7 listed i=true:=fun i hi=>by rw[hL i hi];exact decide_eq_true oO
  have hr:∀i,¬i∈FH .any ops listed:=by
   intro i hi;obtain⟨h1,o,h2,-⟩:=mem_ready.1 hi;have hj:i<ops.size:=(fB.1 h2).1;rw[Er oO,u4 i hj]at h1;cases h1
  have hQ:Q .normal a w:=hw;cases fuel with
  | zero=>
   refine⟨?_,hQ⟩;cases hq:FH .any ops listed with
   | nil=>rfl
   | cons i r=>exact absurd (by rw[hq];simp) (hr i)
  | succ fuel=>exact⟨fun _=>hQ,fun i hi=>absurd hi (hr i)⟩
 | k+1,j,fuel,listed,a,w,hjk,hm,P6,hL,hf,hw=>by
  obtain⟨fuel,rfl⟩:∃f,fuel=f+1:=⟨fuel - 1,oO⟩;have nI:j<ops.size:=oO;have bT:JJ ops (L7 listed):=by
   intro i o hi ho e he hb;have tR:i<ops.size:=(fB.1 ho).1;have I1:=IL pT i o (by simpa using ho) e he hb;rw[hL i tR]at hi;have:=of_decide_eq_true hi;rw[hL e.on oO];exact decide_eq_true oO
  have hj:j∈FH .any ops listed:=by
   rw[mem_ready];refine⟨by rw[Er oO,hL j nI];exact decide_eq_false oO,ops[j],uG nI,fun e he hb=>?_⟩;have I1:=IL pT j ops[j] (by simp[nI]) e he hb;show L7 listed e.on=true;rw[hL e.on oO];exact decide_eq_true oO
  refine⟨fun hr=>absurd hj (by rw[hr];simp),fun i hi=>?_⟩;obtain⟨h1,o,ho,u4⟩:=mem_ready.1 hi;have tR:i<ops.size:=(fB.1 ho).1;rw[Er oO,hL i tR]at h1;have gP:j<=i:=by have:=of_decide_eq_false h1;omega
  have DF:∀e∈o.after,Cl .any e=true->L7 listed e.on=true:=u4;have heq:i=j:=by
   rcases yP j i with h|h
   ·have:=Ek pT BW bT i o ho DF (Ku i oO tR j h);rw[hL j nI]at this;exact absurd (of_decide_eq_true this) oO
   ·omega
  subst heq;rw[qJ,wpOpsIn_cons]at hw;refine wpOpIn_mono (fun a' w' h'=>?_) hw;refine Xs pT BW Ku k (i+1) fuel _ a' w' oO oO (by simpa using P6) (fun x hx=>?_) oO h';rw[Gx oO];show (x==i||L7 listed x)=_;rw[hL x hx];by_cases hxi:x=i;· subst hxi;simp
  ·have:(x==i)=false:=by simpa using hxi
   rw[this,Bool.false_or]
   congr 1
   exact propext ⟨fun h=>oO,fun h=>oO⟩
theorem rd0{ops ops':Array Oper}{m:Nat}{T0:List Nat}(ix0:ops.toList.take m=ops'.toList)(hmn:m<=ops.size){evs:List Ev}{K:St->Prop}(O7:Kc X ops' ops'.toList s0 evs)(hg:∀o∈ops'.toList,o.guard=none)(Dw:De ops'.toList s0 evs=true)
  (TZ:zY 0 ops.toList=true) (am0:Ad T0 T0 ops.toList=true) (Ku:∀j,m<=j->j<ops.size->∀i,i<j->(T0.getD j 0).testBit i=true) (hK:VL X ops (ops.toList.drop m) (xA s0 evs) K) :
  ∀(fuel:Nat) (listed:Array Bool) (G:Gh) (a:Act) (w:World),listed.size=ops.size->JJ ops (L7 listed)->(∀j,m<=j->L7 listed j=false)->(left m listed).length+(ops.size - m)<=fuel->Rel X G (aO (L7 listed) 0 evs s0) a w ->
   wpAnyIn X.F 0 X.P .any ops (Dj X K) fuel listed a w:=by
 have Dw:=Xo Dw;simp only[GZ,uH]at Dw;obtain⟨⟨⟨pT,BW⟩,eZ⟩,hp⟩:=Dw;generalize vH ops'.toList []=T at *;have GJ0:ops'.size=m:=by
  have:=congrArg jh0 ix0;simp at this;omega
 have hlen:evs.length=m:=by have:=Ql O7;simp at this;omega
 have d8:∀i,i<m->ops'[i]? = ops[i]?:=by
  intro i hi;have h1:ops'.toList[i]? = ops.toList[i]?:=by rw[<- ix0,tX hi]
  simpa using h1
 intro fuel
 induction fuel with
 | zero=>
  intro listed G a w P6 bT htl hle R;have AQ:m=ops.size:=oO;have u4:∀j,j<m->L7 listed j=true:=by
   intro j hj;cases hq:L7 listed j with
   | true=>rfl
   | false=>
    have hm:j∈left m listed:=by simp[left,hj,hq]
    have:=List.length_pos_of_mem hm;omega
  refine Xs TZ am0 Ku 0 m 0 listed a w oO (I5 _) P6 (fun i hi=>by rw[u4 i oO];exact (decide_eq_true oO).symm) (I5 _) ?_
  have R':Rel X G (xA s0 evs) a w:=R.congr fun l=>by
   rw[<- ML 0];refine Bq evs 0 _ _ rfl fun j ev hj X1=>?_;have jC:j<m:=by rw[<- hlen];exact (uA hj).1
   exact absurd (u4 j jC).symm (by simpa using X1)
  have:=hK m rfl G a w R';have hd:(ops.toList.drop m).length=0:=by simp;omega
  rw[hd]at this;exact this
 | succ fuel ih=>
  intro listed G a w P6 bT htl hle R;by_cases u4:∀j,j<m->L7 listed j=true
  ·have R':Rel X G (xA s0 evs) a w:=R.congr fun l=>by
    rw[<- ML 0];refine Bq evs 0 _ _ rfl fun j ev hj X1=>?_;have jC:j<m:=by rw[<- hlen];exact (uA hj).1
    exact absurd (u4 j jC).symm (by simpa using X1)
   have hw:=hK m rfl G a w R';have hd:(ops.toList.drop m).length=ops.size - m:=sS;rw[hd]at hw;refine Xs TZ am0 Ku (ops.size - m) m (fuel+1) listed a w oO (I5 _) P6 (fun i hi=>?_) oO hw;by_cases KE:i<m;· rw[u4 i KE];exact (decide_eq_true KE).symm
   ·rw[htl i oO];exact (decide_eq_false KE).symm
  have hex:∃j,j<m/\L7 listed j=false:=by
   by_cases h:∃j,j<m/\L7 listed j=false;· exact h
   ·exact absurd (fun j hj=>by
     cases hq:L7 listed j with
     | true=>rfl
     | false=>exact absurd ⟨j,hj,hq⟩ h) u4
  have aa0:FH .any ops listed=[]->∀j,j<m->L7 listed j=true:=by
   intro hr j
   induction j using Pu with
   | _ j ihj=>
    intro hj;cases hq:L7 listed j with
    | true=>rfl
    | false=>
     have nI:j<ops.size:=oO;have:j∈FH .any ops listed:=by
      rw[mem_ready];refine⟨by rw[Er oO];exact hq,ops[j],uG nI,fun e he hb=>?_⟩;have I1:=IL TZ j ops[j] (by simp[nI]) e he hb;exact ihj e.on oO oO
     rw[hr]at this;cases this
  refine⟨fun hr=>absurd (aa0 hr) u4,fun i hi=>?_⟩;obtain⟨h1,o,ho,FS0⟩:=mem_ready.1 hi;have tR:i<ops.size:=(fB.1 ho).1;have J8:i<listed.size:=oO;rw[Er J8]at h1;have DF:∀e∈o.after,Cl .any e=true->L7 listed e.on=true:=FS0;have KE:i<m:=by
   rcases yP i m with h|h;· exact h
   ·exact absurd (fun j hj=>Ek TZ am0 bT i o ho DF (Ku i h tR j oO)) u4
  have ZL:JJ ops' (L7 listed):=by
   intro j o' hL vU e he hb;have hj:j<m:=by have:=(fB.1 vU).1;omega
   exact bT j o' hL (by rw[<- d8 j hj];exact vU) e he hb
  have vU:ops'[i]? = some o:=by rw[d8 i KE];exact ho
  have cG:i<evs.length:=oO;have bR:evs[i]? = some evs[i]:=uB cG;have oN:=RP 0 O7 i o evs[i] (by simpa using vU) bR;have KA:∀(j:Nat) (ev:Ev),evs[j]? = some ev->i<j->L7 listed j=true->iQ evs[i] ev=true:=by
   intro j ev hj gP hL;have hjm:j<m:=by rw[<- hlen];exact (uA hj).1
   have nI:j<ops'.size:=oO;rcases (Gj hp i j _ ev gP bR hj).2 with h|h
   ·have:=Ek pT BW ZL j ops'[j] (uG nI) (fun e he hb=>ZL j _ hL (uG nI) e he hb) (by simpa using h);rw[h1]at this;cases this
   ·exact h
  have Zn:∀(j:Nat) (ev:Ev),evs[j]? = some ev->j<i->L7 listed j=false->iQ ev evs[i]=true:=by
   intro j ev hj gP hL;rcases (Gj hp j i ev _ gP hj bR).2 with h|h
   ·have:=Ek pT BW ZL i o vU DF (by simpa using h);rw[hL]at this;cases this
   ·exact h
  have b6:Kb X ops' o (aO (L7 listed) 0 evs s0) (apply (aO (L7 listed) 0 evs s0) evs[i].e):=by
   refine oN _ (fun l v hl=>?_) (fun d hd=>?_)
   ·obtain⟨Ar,hg⟩:=QM hl;rw[<- hg];refine Bq evs 0 _ _ rfl fun j ev hj X1 hw=>?_;simp only[G8]at X1;by_cases gP:j<i
    ·cases hq:L7 listed j with
     | true=>rw[hq]at X1;simp[gP]at X1
     | false=>
      have:=Zn j ev hj gP hq;simp only[iQ,uH,Jh]at this;exact this.1.1.1 l hw Ar
    ·cases hq:L7 listed j with
     | false=>rw[hq]at X1;simp[gP]at X1
     | true=>
      have TM:j≠i:=fun e=>by rw[e,h1]at hq;cases hq
      have:=KA j ev hj oO hq;simp only[iQ,uH,Jh]at this;exact this.1.1.2 l hw Ar
   ·refine Wc evs 0 s0 (Wd eZ i _ bR d hd) fun j ev hj hL=>?_;simp only[G8]at hL;have TM:j≠i:=fun e=>by rw[e,h1]at hL;cases hL
    by_cases gP:j<i;· exact (Gj hp j i ev _ gP hj bR).1 d hd
    ·have:=KA j ev hj oO hL;simp only[iQ,uH,Ru]at this
     simpa using this.2 d hd
  have Z1:∀G' a' w',Rel X G' (apply (aO (L7 listed) 0 evs s0) evs[i].e) a' w'->wpAnyIn X.F 0 X.P .any ops (Dj X K) fuel (listed.setIfInBounds i true) a' w':=by
   intro G' a' w' R';refine ih _ G' a' w' (by simpa using P6) ?_ ?_ ?_ ?_
   ·rw[Gx J8];intro j o' hL TA e he hb;simp only[Ci,beq_iff_eq]at hL ⊢;rcases hL with rfl|hL
    ·rw[ho]at TA;cases TA;exact .inr (DF e he hb)
    ·exact .inr (bT j o' hL TA e he hb)
   ·intro j hj;rw[Gx J8];show (j==i||L7 listed j)=false;rw[htl j hj,Bool.or_false]
    simp;omega
   ·have:=ew0 (n:=m) J8 KE h1;omega
   ·rw[Gx J8];refine R'.congr fun l=>Xn h1 evs 0 s0 (Nat.zero_le _) bR fun j ev hj I1 hL hw=>?_;simp only[G8]at I1 hL;have:=KA j ev hj I1 hL;simp only[iQ,uH,Jh]at this;exact this.1.2 l hw
  have Oi:o.guard=none:=hg o (uE (i:=i) (by simpa using vU));have:=b6 G a w R _ (Dj X K) Z1;unfold wpOpIn;simp only[ho];have hw:∀y,fD o y=true:=fun y=>by simp[fD,Oi]
  simp only[hw,if_true]at this ⊢;exact this
def f60(ops:List Oper)(m:Nat):Bool:=
 let T:=vH ops []
 zY 0 ops&&Ad T T ops&&gF0 T m ops.length&&(ops.take m).all fun o=>o.guard.isNone
theorem CL0{id:Nat}{ops:Array Oper}{s:St}(hm:X.P.follows .mixedOrders=true)(m:Nat)(hmn:m<=ops.size)(if0:f60 ops.toList m=true)(L1 F10:List Nat)
  (h:∀K:St->Prop,(∀s',W X k s'->K s')->pQ X L1 (ops.toList.take m).toArray s (fun s'=>vc X F10 ops (ops.toList.drop m) s' K) (ops.toList.take m) s []):W X (.code (.region id ops true)::k) s:=by
 intro G a w b cs hf hk hr R;simp only[f60,uH,yR]at if0;obtain⟨⟨⟨t1,t2⟩,t3⟩,t4⟩:=if0;obtain⟨evs,h1,h2,h3⟩:=iN (h (fun s'=>W X k s') (fun _ h=>h));have ht:(ops.toList.take m).toArray.toList=ops.toList.take m:=rfl;have h3':VL X ops (ops.toList.drop m) (xA s evs) (fun s'=>W X k s'):=bW h3
 have OL:=rd0 (ops':=(ops.toList.take m).toArray) (s0:=s) rfl hmn (by rw[ht];exact h1) (fun o ho=>by have:=t4 o (by simpa using ho);cases hq:o.guard with|none=>rfl|some _=>rw[hq]at this;cases this) (by simpa using h2) t1 t2 (oi0 (by simpa using t3)) h3' ops.size (La ops.size false) G a { w with drawn:=w.drawn+1 } sS (fun j o hL=>by simp[L7,Ij]at hL;split at hL <;> simp at hL) (fun j _=>by simp only[L7,KZ,Ij];split <;> rfl) (by
   have:(left m (La ops.size false)).length<=m:=Nat.le_trans (Ur _ _) sS
   omega) (by
   rw[Ji _ _ _ (fun j _=>by simp only[L7,KZ,Ij];split <;> rfl)];exact R.drawn _)
 obtain⟨e',a',w',⟨rfl,G',s',hK,R'⟩,Hw⟩:=wpIn_region_any (F:=X.F) (n:=0) hm OL b k cs hr tT (SA _);obtain⟨nG,fr,q1,q2⟩:=hK G' a' w' b cs hf hk hr R';exact⟨nG,fr,q1,Steps.trans (StepsIn.steps Hw) q2⟩
abbrev iV(b n cap:Nat):DV:=.K0 (.slice (some ⟨b,0,none⟩) n cap)
theorem y20(A M D xs:List SV)(h:xs.length=M.length):put (A++(M++D)) A.length xs=A++(xs++D):=by
 apply List.ext_getElem?;intro i;rw[MF _ _ _ _ (by simp;omega)];split
 ·rename_i hi;rw[cK hi.1,cJ oO]
 ·rename_i hi;by_cases h1:i<A.length;· rw[cJ h1,cJ h1]
  ·have h2:A.length+xs.length<=i:=oO;rw[cK oO,cK oO,cK oO,cK oO,h]
theorem IE(l r:List (List DV)):C4 (l++r)=C4 l++C4 r:=by simp[C4]
theorem sK{l:List (List DV)}(h:∀e∈l,e.length=E):(C4 l).length=l.length * E:=by simp only[C4,fV];exact IJ h
theorem oj0{full:List (List DV)}{n:Nat}(cF:∀e∈full,e.length=E)(S7:∀e∈zs,e.length=E)(hle:n+zs.length<=full.length):
  put (C4 full) (n * E) (C4 zs)=C4 (full.take n++zs++full.drop (n+zs.length)):=by
 have h1:full=full.take n++((full.drop n).take zs.length++full.drop (n+zs.length)):=by
  have:=FK zs.length (full.drop n);rw[List.drop_drop]at this;rw[this,FK]
 have m1:∀e∈full.take n,e.length=E:=fun e he=>cF e (yN he);have m2:∀e∈(full.drop n).take zs.length,e.length=E:=fun e he=>cF e (FB (yN he));have e1:(C4 (full.take n)).length=n * E:=by rw[sK m1,rX,It oO]
 have e2:(C4 zs).length=(C4 ((full.drop n).take zs.length)).length:=by rw[sK S7,sK m2,rX,Ui,It oO]
 have h2:C4 full=C4 (full.take n)++(C4 ((full.drop n).take zs.length)++C4 (full.drop (n+zs.length))):=by rw[<- IE,<- IE,<- h1]
 rw[h2,<- e1,y20 _ _ _ _ e2,IE,IE,yQ]
theorem ok0{g:Nat->Value}(hE:∀e∈zs,e.length=E)(h:tG G.D w E zs g):gY G w (C4 zs) (dS g (zs.length * E)):=by
 have hl:=IJ hE;refine⟨by rw[Bp,sK hE],fun i x v hx hv=>?_⟩;simp only[C4,cI]at hx;cases iF:zs.flatten[i]? with
 | none=>rw[iF]at hx;cases hx
 | some dd=>
  rw[iF]at hx;cases hx;obtain⟨i1,j1,e1,k1,k2,rfl⟩:=Qm hE iF;have hj:j1<E:=by rw[<- hE e1 (uE k1)];exact (uA k2).1
  have hi:i1<zs.length:=(uA k1).1;rw[Bu _ _ _ (vD hi hj)]at hv;cases hv;exact h i1 j1 e1 dd k1 k2
theorem kT0(h:∀e∈zs,∀c∈e,oS c=true):fZ (C4 zs)=true:=by
 rw[Qt];intro x hx;simp only[C4,F9,List.mem_flatten]at hx;obtain⟨d,⟨e,he,hd⟩,rfl⟩:=hx;exact h e he d hd
theorem bY0{x:Operand}{T:TypeId}(ho:o.op = .call { callee:=.builtin .append,args:=#[x,y],argTypes:=#[T,T2] })(hd:o.dst=some d)(hn:d<X.n)
  {E B:Nat} (he:l9 X.P T=some (E,B)) (h2:(X7 X.P T2).isSome=true) {b n cap:Nat} {full zs:List (List DV)} (hx:M2 X (get s) x=some (.v (iV b n cap))) (hy:(M2 X (get s) y).bind dN=some zs)
  (A5:get s (.heap b)=some (.row (C4 full))) (gI:full.length=cap) (hle:n+zs.length<=cap) (cF:∀e∈full,e.length=E) (S7:∀e∈zs,e.length=E) :
  bX X s o (L2 (L2 s (.heap b) (.row (C4 (full.take n++zs++full.drop (n+zs.length))))) (.P0 d) (.one (.v (iV b (n+zs.length) cap)))):=by
 intro G a w R next Q hK
 have hv:=(X6 (O4 R hx)).1;obtain⟨q,hq,eX⟩:=mH.1 hy;obtain⟨yb,Of,rQ,lK,-⟩:=Bi eX (O4 R hq);obtain⟨c2,g,g1,g2,g3⟩:=Gv lK S7;have ij0:n * E+(C4 zs).length<=(C4 full).length:=by
  rw[sK cF,sK S7,<- Y9,gI];exact yO _ hle
 obtain⟨w',h1,TK⟩:=R.storeRow A5 rfl (b:=b) rfl (ok0 S7 g1) (kT0 c2) ij0;have O7:=PZ (P:=X.P) (t:=T) (ty:=o.type) (t2:=T2) (w:=w) he h2 (base:=some ⟨b,0,none⟩) (len:=n) (cap:=cap) (CA (P:=X.P) lK w) (Bg (P:=X.P) g3) hle (w':=w') (by simp only[pC,G8];exact h1);rw[<- hv]at O7;refine bP (by intro c e;rw[ho]at e;cases e) ?_;have C9:(execOp a.eval o).run X.P w = .ok (.value (.slice (some ⟨b,0,none⟩) (n+zs.length) cap)) w':=by
  simp[execOp,ho,resolve,invoke,builtin,O7]
 rw[C9,fF,hd];rw[oj0 cF S7 oO]at TK;exact hK G _ w' (TK.setSlot (oU X G a w' R.nil) rfl rfl (fun _ h=>h) hn (.K0 _ tT))
theorem Rel.newArr{a:Act}(R:Rel X G s a w)(hn:d<X.n){w1:World}(Fs:w1.heap=w.heap){c:Array Value}{e:TypeId}{E:Nat}{full:List (List DV)}{n cap:Nat}
  (T':Trans X G a w G (a.put (some d) (.slice (some ⟨w.heap.size,0,none⟩) n cap)) (w1.alloc (.cells c e)) (fun _=>False))
  (hE:∀e∈full,e.length=E) (W5:∀e∈full,∀c∈e,oS c=true) (hc:full.length * E<=c.size) (d8:∀(i j:Nat) (e:List DV) (dd:DV),full[i]? = some e->e[j]? = some dd->∃v,c[i * E+j]? = some v/\RV G.D w dd v) :
  Rel X G (L2 (L2 s (.P0 d) (.one (.v (iV w.heap.size n cap)))) (.heap w.heap.size) (.row (C4 full))) (a.put (some d) (.slice (some ⟨w.heap.size,0,none⟩) n cap)) (w1.alloc (.cells c e)):=by
 have hp:=qT a (some d) (.slice (some ⟨w.heap.size,0,none⟩) n cap);refine R.step T' (fun l u=>(l = .P0 d/\u = .one (.v (iV w.heap.size n cap)))\/(l = .heap w.heap.size/\u = .row (C4 full))) (fun l u h=>?_) (fun l u h=>?_) (fun l u l' u' b h h' hb X2=>?_)
 ·rw[T5,T5]at h;by_cases h1:kI w.heap.size=l;· rw[if_pos h1]at h;cases h;exact .inl (.inr ⟨h1.symm,rfl⟩)
  ·rw[if_neg h1]at h;by_cases h3:mI d=l;· rw[if_pos h3]at h;cases h;exact .inl (.inl ⟨h3.symm,rfl⟩)
   ·rw[if_neg h3]at h;exact .inr ⟨h,fun n hn=>zC _ _ _ _ (fun e=>h3 (by rw[hn,e])),fun b hb DA=>DA.elim,fun _ _=>rfl,fun _ _=>rfl⟩
 ·rcases h with⟨rfl,rfl⟩|⟨rfl,rfl⟩
  ·refine⟨?_,fun b hb=>by cases hb⟩;show B7 G _ (.v _) _;rw[zB _ _ _ (by rw[R.size];exact hn)];exact .K0 _ tT
  ·refine⟨⟨c,e,?_,?_,fun i x hx=>?_⟩,fun b hb=>?_⟩
   ·have:=Ej w1 (.cells c e);rw[Fs]at this;exact this
   ·rw[sK hE];exact hc
   ·simp only[C4,cI]at hx;cases iF:full.flatten[i]? with
    | none=>rw[iF]at hx;cases hx
    | some dd=>
     rw[iF]at hx;cases hx;obtain⟨i1,j1,e1,k1,k2,rfl⟩:=Qm hE iF;obtain⟨v,hv,hr⟩:=d8 i1 j1 e1 dd k1 k2;exact⟨W5 e1 (uE k1) dd (uE k2),v,hv,hr.mono T'.grow⟩
   ·cases hb;exact⟨.inl (I5 _),.inl R.ext.size,fun _ o hD=>absurd (R.wf.lt hD) (vX _)⟩
 ·rcases h with⟨rfl,rfl⟩|⟨rfl,rfl⟩;· cases hb
  ·rcases h' with⟨rfl,rfl⟩|⟨rfl,rfl⟩;· cases X2
   ·rfl
theorem IW{a:Act}(R:Rel X G s a w):newB w.heap.size s:=Jt fun v hv=>by
 have hh:=R.holds _ _ hv;cases v with
 | row cs=>exact absurd (mT hh rfl) (vX _)
 | ob r=>exact absurd (mT hh rfl) (vX _)
 | mp l=>exact absurd (mT hh rfl) (vX _)
 | one x=>exact hh.elim
 | tk E n=>exact hh.elim
def Da(P:Program)(T:TypeId):Option (List DV):=
 match P.underlying T with
 | some (.slice e)=>(K7 P e).bind bZ
 | _=>none
theorem ml0{j:Nat}(hj:j<E):(i * E+j) % E=j:=by
 rw[Nat.mul_comm,Nat.mul_add_mod];exact Nat.mod_eq_of_lt hj
theorem UN{w:World}{t ty t2 B:Nat}(he:l9 P t=some (E,B))(hB:0<B/\B<=1024)(h2:(X7 P t2).isSome=true){base:Option Addr}{len cap:Nat}{x:Value}{n:Nat}{old new:Array Value}
  (hx:∀w',w'.heap=w.heap->(Builtin.lenOf x).run P w' = .ok n w') (hn:∀w',w'.heap=w.heap->(kV E n x).run P w' = .ok new w') (ho:∀w',w'.heap=w.heap->(kV E len (.slice base len cap)).run P w' = .ok old w')
  (hle:¬len+n<=cap) (d7:len+n<=M5) (h1:old.size=len * E) (h3:new.size=n * E) {zd:List DV} (hz:Da P t=some zd) :
  zd.length=E/\∃c e nc,(DO #[t,t2] ty #[.slice base len cap,x]).run P w = .ok (.slice (some ⟨w.heap.size,0,none⟩) (len+n) nc) (w.drew.alloc (.cells c e))/\len+n<=nc/\c.size=nc * E/\(∀k,k<len * E->c[k]? = old[k]?)/\(∀k,k<n * E->c[len * E+k]? = new[k]?) /\
   ∀(G:Gh) (w':World),G.τ 0=(none,0)->∀(i j:Nat) (dd:DV),i<nc - (len+n)->zd[j]? = some dd->∃v,c[(len+n+i) * E+j]? = some v/\RV G.D w' dd v:=by
 obtain⟨e,i,z,hu,hi,HV,yE,Cc,AH⟩:=LW he;obtain⟨E2,S7⟩:=Option.isSome_iff_exists.1 h2;obtain⟨e2,i2,Kx,-,-⟩:=Bo S7;have hzz:∃cs,GO z.cells.toList=some cs/\bZ cs=some zd:=by
  simp only[Da,hu,K7,hi,HV]at hz;exact mH.1 hz
 obtain⟨zcs,pZ,Q7⟩:=hzz;have pX:zd.length=E:=by
  have h0:gY { D:=fun _ _=>False,ν:=fun _=>0,τ:=fun _=>(none,0) } w zcs z.cells.toList.toArray:=LE rfl pZ;have:=(WE h0 Q7).1;rw[<- this]
  simpa using yE
 refine⟨pX,?_⟩;unfold M5 at d7;have bL:¬(Ii (len+n) cap * B > 2 ^ 48):=by
  have:=by0 (need:=len+n) (cap:=cap) oO;have:Ii (len+n) cap * B<=(2 * (len+n)+600) * 1024:=iY0 this hB.2;omega
 let q:Question:=.appendCap (len+n) cap e
 let nc:=q.cut (w.tape w.drawn q)
 have AG:len+n<=nc:=by show len+n<=_;simp[nc,q,Question.cut]
 have qD:(KW z.cells (nc - (len+n))).size=(nc - (len+n)) * E:=by simp[KW,yE]
 refine⟨old++new++KW z.cells (nc - (len+n)),e,nc,?_,AG,?_,fun k hk=>?_,fun k hk=>?_,fun G w' hG i j dd s9 hj=>?_⟩
 ·unfold DO;have dE:¬(2 ^ 48<Ii (len+n) cap * B):=bL;simp[run_underlying hu,run_underlying Kx,sizeOf,typeInfo,hi,Cc,hx w rfl,hle,AH,dE,Question.forced,ho (w.drew) rfl,hn (w.drew) rfl,zeroValue,HV,newRow,nc,q];intro h;omega
 ·simp[h1,h3,KW,yE];rw[<- Y9,<- Y9]
  congr 1;omega
 ·rw[FF (by simp[h1,h3];omega),FF oO]
 ·rw[FF (by simp[h1,h3];omega),iZ0 oO,h1]
  congr 1;omega
 ·have yD:j<E:=by rw[<- pX];exact (uA hj).1
  have I1:i * E+j<(nc - (len+n)) * E:=vD s9 yD;have A5:gY G w' zcs z.cells.toList.toArray:=LE hG pZ;have hr:=(WE A5 Q7).2 j dd;simp only[Array.toArray_toList]at hr;have hjz:j<z.cells.size:=oO;refine⟨z.cells[j],?_,hr _ hj (uG hjz)⟩;have P6:(old++new).size=(len+n) * E:=by simp[h1,h3,Y9]
  have e1:(len+n+i) * E+j=(old++new).size+(i * E+j):=by rw[P6,Y9 (len+n) i E];omega
  rw[e1,iZ0 (Nat.le_add_right _ _),Nat.add_sub_cancel_left];have W9:i * E+j<(nc - (len+n)) * z.cells.size:=by rw[yE];exact I1
  simp only[KW];rw[Array.getElem?_map,Array.getElem?_range,if_pos W9];simp only[AS,yE,ml0 yD];rw[getElem!_pos z.cells j hjz]
theorem LO{E:Nat}:∀{ys:List (List DV)},(∀e∈ys,e.length=E)->∀{i j:Nat} {e:List DV} {d:DV},ys[i]? = some e->e[j]? = some d->ys.flatten[i * E+j]? = some d
 | [],_,i,j,e,d,h,_=>by simp at h
 | y::r,hE,0,j,e,d,h,hd=>by
  simp at h;subst h;rw[FI,Nat.zero_mul,G8,cJ (uA hd).1];exact hd
 | y::r,hE,i+1,j,e,d,h,hd=>by
  have hy:=hE y sS;have ih:=LO (ys:=r) (fun e he=>hE e (iJ _ he)) (by simpa using h) hd;rw[FI,cK (by rw[hy,Y9];omega),hy];rw[show (i+1) * E+j - E=i * E+j from by rw[Y9];omega];exact ih
theorem lj0{x:Operand}{T:TypeId}(ho:o.op = .call { callee:=.builtin .append,args:=#[x,y],argTypes:=#[T,T2] })(hd:o.dst=some d)(hn:d<X.n)
  {E B:Nat} (he:l9 X.P T=some (E,B)) (hB:0<B/\B<=1024) (h2:(X7 X.P T2).isSome=true) {b n cap:Nat} {full zs:List (List DV)} {zd:List DV} (hx:M2 X (get s) x=some (.v (iV b n cap))) (hy:(M2 X (get s) y).bind dN=some zs)
  (A5:get s (.heap b)=some (.row (C4 full))) (gI:full.length=cap) (AG:n<=cap) (Cb:cap<n+zs.length) (d7:n+zs.length<=M5) (cF:∀e∈full,e.length=E) (S7:∀e∈zs,e.length=E) (hz:Da X.P T=some zd) (qD:fI zd=true)
  {G:Gh} {a:Act} {w:World} (R:Rel X G s a w) (next:Act->World->Prop) (Q:Exit->Act->World->Prop)
  (hK:∀b' s8,n+zs.length<=s8->newB b' s->X.w0.heap.size<=b'->∀G' a' w',Rel X G' (L2 (L2 s (.P0 d) (.one (.v (iV b' (n+zs.length) s8)))) (.heap b') (.row (C4 (full.take n++zs++wG (s8 - (n+zs.length)) zd)))) a' w'->next a' w') :
  o.wpIn X.F 0 X.P a w next Q:=by
 have hv:=(X6 (O4 R hx)).1;obtain⟨q,hq,eX⟩:=mH.1 hy;obtain⟨yb,Of,rQ,lK,-⟩:=Bi eX (O4 R hq);obtain⟨c2,g,g1,g2,g3⟩:=Gv lK S7;obtain⟨c0,e0,k1,k2,k3⟩:jT G w b (C4 full):=R.holds _ _ A5;rw[sK cF]at k2;have hnE:n * E<=full.length * E:=yO _ oO
 have DG:∀w':World,w'.heap=w.heap->(kV E zs.length (a.eval y)).run X.P w' = .ok (dS g (zs.length * E)) w':=fun w' hw=>by
  refine Bg (D:=G.D) ?_;rcases g3 with h|⟨b,o',cap,h,hc⟩;· exact .inl h
  ·exact .inr ⟨b,o',cap,h,fun k hk=>by rw[Ec hw];exact hc k hk⟩
 have oL:∀w':World,w'.heap=w.heap->(kV E n (.slice (some ⟨b,0,none⟩) n cap)).run X.P w' = .ok (dS (fun k=>(c0[k]?).getD undef) (n * E)) w':=fun w' hw=>by
  simp only[kV];refine UL b 0 (n * E) _ (fun k hk=>?_);have I1:k<c0.size:=oO;rw[Ec hw,G8];simp[rW,k1,I1]
 obtain⟨pX,c,e,nc,r1,r2,r3,r4,r5,r6⟩:=UN (P:=X.P) (t:=T) (ty:=o.type) (t2:=T2) (w:=w) he hB h2 (base:=some ⟨b,0,none⟩) (len:=n) (cap:=cap) (fun w' _=>CA (P:=X.P) lK w') DG oL oO d7 (Bp _ _) (Bp _ _) hz;rw[<- hv]at r1;have C9:(execOp a.eval o).run X.P w = .ok (.value (.slice (some ⟨w.heap.size,0,none⟩) (n+zs.length) nc)) (w.drew.alloc (.cells c e)):=by
  simp[execOp,ho,resolve,invoke,builtin,r1]
 refine bP (by intro c e;rw[ho]at e;cases e) ?_;rw[C9,fF,hd];have hp:=qT a (some d) (.slice (some ⟨w.heap.size,0,none⟩) (n+zs.length) nc);have T':Trans X G a w G (a.put (some d) (.slice (some ⟨w.heap.size,0,none⟩) (n+zs.length) nc)) (w.drew.alloc (.cells c e)) (fun _=>False):=by
  refine⟨hp.1,fun h=>(h.heap fun b hb=>aI w.drew _ b hb).put hp.2,rfl,rfl,rfl,sS,fun b hb _=>aI w.drew _ b hb,fun _ h=>h.elim,fun b k hD=>⟨hD,.of (aI w.drew _ _ (R.wf.lt hD))⟩,fun b k hD dV=>absurd hD dV,R.nil⟩
 refine hK w.heap.size nc r2 (IW R) R.ext.size G _ _ (R.newArr hn (w1:=w.drew) rfl T' (E:=E) ?_ ?_ ?_ ?_)
 ·intro e he;rcases t6.1 he with he|he
  ·rcases t6.1 he with he|he;· exact cF e (yN he)
   ·exact S7 e he
  ·rw[(AY.1 he).2];exact pX
 ·intro e he d hd;rcases t6.1 he with he|he
  ·rcases t6.1 he with he|he
   ·have he:=yN he;obtain⟨i,hi⟩:=FJ.1 he;obtain⟨j,hj⟩:=FJ.1 hd;exact (k3 (i * E+j) (.v d) (by simp only[C4,cI,LO cF hi hj,AS])).1
   ·exact c2 e he d hd
  ·rw[(AY.1 he).2]at hd;exact (IU zd).1 qD d hd
 ·rw[r3];simp only[mJ,rX,Jj1];exact yO _ oO
 ·intro i j e dd hi hj;have gQ:(full.take n).length=n:=by rw[rX,It oO]
  rw[yQ]at hi;rcases yP i n with h|h
  ·rw[cJ oO,tX h]at hi;have yD:j<E:=by rw[<- cF e (uE hi)];exact (uA hj).1
   have I1:=vD h yD;obtain⟨-,v,q1,q2⟩:=k3 (i * E+j) (.v dd) (by simp only[C4,cI,LO cF hi hj,AS]);refine⟨v,?_,q2⟩;rw[r4 _ I1,Bu _ _ _ I1,q1];rfl
  ·rw[cK oO,gQ]at hi;rcases yP (i - n) zs.length with h' | h'
   ·rw[cJ h']at hi;have yD:j<E:=by rw[<- S7 e (uE hi)];exact (uA hj).1
    have I1:=vD h' yD;refine⟨_,?_,g1 _ _ _ _ hi hj⟩;have e1:i * E+j=n * E+((i - n) * E+j):=by rw[<- Ie,<- Y9];congr 2;omega
    rw[e1,r5 _ I1,Bu _ _ _ I1]
   ·rw[cK h']at hi
    obtain⟨AE,kA⟩:e=zd/\i - n - zs.length<nc - (n+zs.length):=by
     have hm:=uE hi;have I1:=(uA hi).1;simp only[Jj1]at I1;exact⟨(AY.1 hm).2,I1⟩
    subst AE;obtain⟨v,q1,q2⟩:=r6 G w R.nil (i - n - zs.length) j dd kA hj;refine⟨v,?_,q2⟩;rw[show n+zs.length+(i - n - zs.length)=i from oO]at q1;exact q1
theorem cn0{L1:List Nat}{ops:Array Oper}{l:List Oper}{K:St->Prop}{d:Tmp}{x y:Operand}{T T2 ty:TypeId}{pos:String}{af:Array Edge}{q:Option (Prop × St)}
  {E B b n cap:Nat} {full zs:List (List DV)} {zd:List DV} (hx:M2 X (get s) x=some (.v (iV b n cap))) (hy:(M2 X (get s) y).bind dN=some zs) (A5:get s (.heap b)=some (.row (C4 full)))
  (he:l9 X.P T=some (E,B)) (hz:Da X.P T=some zd) (qD:fI zd=true) (hB:0<B/\B<=1024) (h2:(X7 X.P T2).isSome=true) (hn:d<X.n)
  (gI:full.length=cap) (AG:n<=cap) (d7:n+zs.length<=M5) (cF:∀e∈full,e.length=E) (S7:∀e∈zs,e.length=E) (hq:q=none)
  (h1:n+zs.length<=cap->vc X L1 ops l (L2 (L2 s (.heap b) (.row (C4 (full.take n++zs++full.drop (n+zs.length))))) (.P0 d) (.one (.v (iV b (n+zs.length) cap)))) K)
  (h3:cap<n+zs.length->∀b' s8,n+zs.length<=s8->newB b' s->X.w0.heap.size<=b'->vc X L1 ops l (L2 (L2 s (.P0 d) (.one (.v (iV b' (n+zs.length) s8)))) (.heap b') (.row (C4 (full.take n++zs++wG (s8 - (n+zs.length)) zd)))) K) :
  cB X L1 ops l K ⟨some d,.call { callee:=.builtin .append,args:=#[x,y],argTypes:=#[T,T2] },ty,pos,af,none⟩ s q:=by
 subst hq;rcases yP cap (n+zs.length) with h|h
 ·intro m hm G a w R0;obtain⟨p1,p3⟩:=pA hm;simp only[B4,qJ,wpOpsIn,p1,fD,if_true];refine lj0 (o:=⟨some d,.call { callee:=.builtin .append,args:=#[x,y],argTypes:=#[T,T2] },ty,pos,af,none⟩) rfl rfl hn he hB h2 hx hy A5 gI AG h d7 cF S7 hz qD R0 _ _ fun b' s8 hc hb hw G' a' w' R'=>?_;exact bW (h3 h b' s8 hc hb hw) (m+1) p3 G' a' w' R'
 ·exact wS rfl (bY0 (o:=⟨some d,.call { callee:=.builtin .append,args:=#[x,y],argTypes:=#[T,T2] },ty,pos,af,none⟩) rfl rfl hn he h2 hx hy A5 gI h cF S7) (bW (h1 h))
theorem re0{t len B:Nat}{parts:Array (Nat × Operand)}(ho:o.op = .buildSlice t len parts)(hd:o.dst=some d)(hn:d<X.n)(he:l9 X.P t=some (E,B)){els:List (List DV)}
  (h:mU X (get s) E 0 parts.toList=some els) (hlen:els.length=len) (hb:len * E<=16777216)
  {G:Gh} {a:Act} {w:World} (R:Rel X G s a w) (next:Act->World->Prop) (Q:Exit->Act->World->Prop)
  (hK:∀b,newB b s->X.w0.heap.size<=b->∀G' a' w',Rel X G' (L2 (L2 s (.P0 d) (.one (.v (iV b len len)))) (.heap b) (.row (C4 els))) a' w'->next a' w') :
  o.wpIn X.F 0 X.P a w next Q:=by
 obtain⟨e,i,z,hu,hi,hz,yE,Cc,AH⟩:=LW he;subst hlen;have Pb:((Pp (els.length * E)).map fun k=>(if els.length * E=0 then #[] else z.cells)[k % (if els.length * E=0 then #[] else z.cells).size]!).size=els.length * E:=sS;obtain⟨q1,q2,q3,c',f1,f2,f3,f4⟩:=Va R E parts.toList 0 els ((Pp (els.length * E)).map fun k=>(if els.length * E=0 then #[] else z.cells)[k % (if els.length * E=0 then #[] else z.cells).size]!) h (by rw[Pb,G8];exact I5 _);rw[Pb]at f2;have O7:(au0 t els.length (parts.map fun (i,x)=>(i,a.eval x))).run X.P w = .ok (.slice (some ⟨w.heap.size,0,none⟩) els.length els.length) (w.alloc (.cells c' e)):=by
  have X1:¬(els.length * E > 2 ^ 24):=oO;have hf:Instr.fill (fun k=>some (k * E,E)) ((Pp (els.length * E)).map fun k=>(if els.length * E=0 then #[] else z.cells)[k % (if els.length * E=0 then #[] else z.cells).size]!) ((parts.map fun (q:Nat × Operand)=>(q.1,a.eval q.2)).toList)=some c':=by
   rw[Array.toList_map];exact f1
  unfold au0;simp only[run_underlying hu,sizeOf,typeInfo,hi,Cc,v9,kH,run_program,cW,X1,if_false];by_cases h0:els.length * E=0
  ·simp only[if_pos h0]at hf ⊢;simp only[v9,kH,cW,hf,newRow,run_newObj];rfl
  ·simp only[if_neg h0]at hf ⊢;simp only[zeroValue,typeInfo,run_program,hi,hz,v9,kH,cW,hf,newRow,run_newObj];rfl
 refine bP (by intro c e;rw[ho]at e;cases e) ?_;have C9:(execOp a.eval o).run X.P w = .ok (.value (.slice (some ⟨w.heap.size,0,none⟩) els.length els.length)) (w.alloc (.cells c' e)):=by
  simp only[execOp,ho,v9,O7,cW,kH]
 rw[C9,fF,hd];have hp:=qT a (some d) (.slice (some ⟨w.heap.size,0,none⟩) els.length els.length);have T':Trans X G a w G (a.put (some d) (.slice (some ⟨w.heap.size,0,none⟩) els.length els.length)) (w.alloc (.cells c' e)) (fun _=>False):=by
  refine⟨hp.1,fun h=>(h.heap fun b hb=>aI w _ b hb).put hp.2,rfl,rfl,rfl,sS,fun b hb _=>aI w _ b hb,fun _ h=>h.elim,fun b k hD=>⟨hD,.of (aI w _ _ (R.wf.lt hD))⟩,fun b k hD dV=>absurd hD dV,R.nil⟩
 refine hK w.heap.size (IW R) R.ext.size G _ _ (R.newArr hn (w1:=w) rfl T' (E:=E) q1 q2 (by rw[f2];exact I5 _) fun i j e dd hi hj=>?_);obtain⟨v,hv,hr⟩:=f4 i j e dd hi hj;rw[G8]at hv;exact⟨v,hv,hr⟩
theorem vK0{L1:List Nat}{ops:Array Oper}{l:List Oper}{K:St->Prop}{d:Tmp}{t len:Nat}{parts:Array (Nat × Operand)}{ty:TypeId}{pos:String}{af:Array Edge}{q:Option (Prop × St)}{E B:Nat}{els:List (List DV)}
  (he:l9 X.P t=some (E,B)) (h:mU X (get s) E 0 parts.toList=some els) (hc:els.length=len/\len * E<=16777216) (hn:d<X.n) (hq:q=none)
  (k:∀b,newB b s->X.w0.heap.size<=b->vc X L1 ops l (L2 (L2 s (.P0 d) (.one (.v (iV b len len)))) (.heap b) (.row (C4 els))) K) :
  cB X L1 ops l K ⟨some d,.buildSlice t len parts,ty,pos,af,none⟩ s q:=by
 subst hq;intro m hm G a w R0;obtain⟨p1,p3⟩:=pA hm;simp only[B4,qJ,wpOpsIn,p1,fD,if_true];refine re0 (o:=⟨some d,.buildSlice t len parts,ty,pos,af,none⟩) rfl rfl hn he h hc.1 hc.2 R0 _ _ fun b hb hw G' a' w' R'=>?_;exact bW (k b hb hw) (m+1) p3 G' a' w' R'
end
end
section
section
variable{X:Ctx}{s s0:St}{k:List Item}
def SS(a:Option Nat)(s:St):St:=match a with|none=>s|some b=>D8 s (.heap b)
def Hb(d:Nat)(a:Option Nat)(y:SV)(b:Nat)(cs:List SV)(s:St):St:=L2 (L2 (SS a s) (.P0 d) (.one y)) (.heap b) (.row cs)
theorem vL0(a:Option Nat)(s:St)(l:Loc)(h:∀b,a=some b->l≠.heap b):get (SS a s) l=get s l:=by
 cases a with
 | none=>rfl
 | some b=>
  show get (D8 s (.heap b)) l=_;rw[nV,if_neg fun e=>h b rfl e.symm]
theorem Xt{a:Option Nat}{y:SV}{cs:List SV}{s:St}{l:Loc}(h1:l≠.P0 d)(h2:l≠.heap b)(h3:∀b',a=some b'->l≠.heap b'):get (Hb d a y b cs s) l=get s l:=by
 unfold Hb;rw[T5,if_neg fun e=>h2 e.symm,T5,if_neg fun e=>h1 e.symm,vL0 _ _ _ h3]
def Fy0(b:Nat)(a:Option Nat)(s:St):Prop:=∀h,a≠some h->get s (.heap h)≠none->b≠h
def vM0(X:Ctx)(o:Oper)(s1:St)(d:Nat)(a:Option Nat)(P:SV->Nat->List SV->Prop):Prop:=
 ∀s,iZ s1 s->∀(G:Gh) (ac:Act) (w:World),Rel X G s ac w->∀(next:Act->World->Prop) (Q:Exit->Act->World->Prop),
  (∀y b cs,P y b cs->Fy0 b a s->∀G' a' w',Rel X G' (Hb d a y b cs s) a' w'->next a' w')->o.wpIn X.F 0 X.P ac w next Q
section
variable{ops ops':Array Oper}{m q:Nat}{T0:List Nat}{evs:List Ev}{K:St->Prop}{d:Nat}{a0:Option Nat}
end
def G10(d:Nat):dR:=[(.P0 d,some (.one (.v (.K0 (.bool false)))))]
end
end
section
section
variable{X:Ctx}{s s0:St}{k:List Item}
def Db:SV->SV
 | .own 0 []=>.v (.K0 (.slice none 0 0))
 | x=>x
def sU:List SV->List SV
 | []=>[]
 | x::r=>Db x::sU r
def SF:LV->LV
 | .one x=>.one (Db x)
 | .row cs=>.row (sU cs)
 | .tk E n=>.tk E n
 | .ob r=>.ob r
 | .mp l=>.mp l
def nlz:St->St
 | []=>[]
 | (l,v)::r=>(l,SF v)::nlz r
theorem y30(s:St)(l:Loc):get (nlz s) l=(get s l).map SF:=by
 induction s with
 | nil=>rfl
 | cons p r ih=>
  obtain⟨m,v⟩:=p;simp only[nlz,get];split;· rfl
  ·exact ih
theorem cX0(cs:List SV):(sU cs).length=cs.length/\∀i:Nat,(sU cs)[i]? = cs[i]?.map Db:=by
 induction cs with
 | nil=>simp[sU]
 | cons x r ih=>
  refine⟨by simp[sU,ih.1],fun i=>?_⟩;cases i with
  | zero=>simp[sU]
  | succ i=>simp[sU,ih.2]
theorem Vp(h0:G.τ 0=(none,0)){x:SV}{v:Value}(h:B7 G w x v):B7 G w (Db x) v:=by
 unfold Db;split
 ·obtain⟨h1,-⟩:=h;rw[h0]at h1;rw[h1];exact .K0 _ ⟨rfl,rfl⟩
 ·exact h
theorem cY0{x:SV}(h:x.isCell=true):(Db x).isCell=true:=by
 unfold Db;split;· rfl
 ·exact h
theorem Rel.nlz{G:Gh}{a:Act}{w:World}(R:Rel X G s a w):Rel X G (nlz s) a w:=by
 have nP:∀l v,D5 G l (SF v)=D5 G l v:=by
  intro l v;cases v <;> cases l <;> rfl
 have d8:∀l v,get (Lift.nlz s) l=some v->∃v0,get s l=some v0/\v=SF v0:=by
  intro l v h;rw[y30]at h;obtain⟨v0,h1,h2⟩:=vV.1 h;exact⟨v0,h1,h2.symm⟩
 have A5:∀k cs,jT G w k cs->jT G w k (sU cs):=by
  rintro k cs ⟨c,e,h1,h2,h3⟩;obtain⟨f1,f2⟩:=cX0 cs;refine⟨c,e,h1,oO,fun i x hx=>?_⟩;rw[f2]at hx;obtain⟨x0,h4,rfl⟩:=vV.1 hx;obtain⟨k1,v,k2,k3⟩:=h3 i x0 h4;exact⟨cY0 k1,v,k2,Vp R.nil k3⟩
 refine⟨R.size,R.defers,R.ext,R.wf,R.nil,fun l v hg=>?_,fun l v l' v' b' hg dY hb X2=>?_,fun l v b' hg hb=>?_,fun l v b' o hg hb ht=>?_⟩
 ·obtain⟨v0,h1,rfl⟩:=d8 l v hg;have hh:=R.holds l v0 h1;cases l <;> cases v0 <;> first|exact hh.elim|exact Vp R.nil hh|exact A5 _ _ hh|exact hh
 ·obtain⟨v0,h1,rfl⟩:=d8 l v hg;obtain⟨v1,h2,rfl⟩:=d8 l' v' dY;rw[nP]at hb X2;exact R.sep l v0 l' v1 b' h1 h2 hb X2
 ·obtain⟨v0,h1,rfl⟩:=d8 l v hg;rw[nP]at hb;exact R.own l v0 b' h1 hb
 ·obtain⟨v0,h1,rfl⟩:=d8 l v hg;rw[nP]at hb;exact R.data l v0 b' o h1 hb ht
theorem eG0{cs:List SV}(hg:get s (.heap b)=some (.row cs))(h:W X kk (L2 s (.heap b) (.row (sU cs)))):W X kk s:=by
 intro G a w b' N7 hf hk hr R;have hb:jT G w b (sU cs):=by
  obtain⟨c,e,h1,h2,h3⟩:=R.holds _ _ hg;obtain⟨f1,f2⟩:=cX0 cs;refine⟨c,e,h1,oO,fun i x hx=>?_⟩;rw[f2]at hx;obtain⟨x0,h4,rfl⟩:=vV.1 hx;obtain⟨k1,v,k2,k3⟩:=h3 i x0 h4;exact⟨cY0 k1,v,k2,Vp R.nil k3⟩
 refine h G a w b' N7 hf hk hr ⟨R.size,R.defers,R.ext,R.wf,R.nil,fun l v hl=>?_,fun l v l' v' b' hl L8 V8 Z8=>?_,fun l v b' hl V8=>?_,fun l v b' o hl V8 ht=>?_⟩
 ·rw[T5]at hl;split at hl
  ·subst_vars;cases hl;exact hb
  ·exact R.holds _ _ hl
 ·have key:∀l v,get (L2 s (.heap b) (.row (sU cs))) l=some v->∃v0,get s l=some v0/\D5 G l v=D5 G l v0:=by
   intro l v hl;rw[T5]at hl;split at hl
   ·subst_vars;cases hl;exact⟨_,hg,rfl⟩
   ·exact⟨v,hl,rfl⟩
  obtain⟨v0,k1,k2⟩:=key _ _ hl;obtain⟨v1,k3,k4⟩:=key _ _ L8;rw[k2]at V8;rw[k4]at Z8;exact R.sep _ _ _ _ _ k1 k3 V8 Z8
 ·rw[T5]at hl;split at hl
  ·subst_vars;cases hl;exact R.own _ _ _ hg V8
  ·exact R.own _ _ _ hl V8
 ·rw[T5]at hl;split at hl
  ·subst_vars;cases hl;exact R.data _ _ _ o hg V8 ht
  ·exact R.data _ _ _ o hl V8 ht
abbrev xP(q:Option Nat)(n cap:Nat):DV:=.K0 (.slice (q.map fun b=>⟨b,0,none⟩) n cap)
def gS0(X:Ctx)(q:Option Nat)(E n:Nat)(old zs:List (List DV)):SV->Nat->List SV->Prop:=fun y b cs=>
 ∃cap full,y = .v (iV b (n+zs.length) cap)/\cs=C4 full/\full.length=cap/\(∀e∈full,e.length=E)/\n+zs.length<=cap/\full.take (n+zs.length)=old.take n++zs/\(q=some b\/(X.w0.heap.size<=b/\∀b',q=some b'->b≠b'))
theorem kU0{x:Operand}{T:TypeId}(ho:o.op = .call { callee:=.builtin .append,args:=#[x,y],argTypes:=#[T,T2] })(hd:o.dst=some d)(hn:d<X.n)
  {E B:Nat} (he:l9 X.P T=some (E,B)) (hB:0<B/\B<=1024) (h2:(X7 X.P T2).isSome=true) {q:Option Nat} {n cap:Nat} {full zs:List (List DV)} {zd:List DV} (hy:(M2 X (get s) y).bind dN=some zs)
  (A5:∀b,q=some b->get s (.heap b)=some (.row (C4 full))) (yH:q=none->n=0) (gI:full.length=cap) (AG:n<=cap) (Cb:cap<n+zs.length) (d7:n+zs.length<=M5) (cF:∀e∈full,e.length=E) (S7:∀e∈zs,e.length=E) (hz:Da X.P T=some zd) (qD:fI zd=true)
  {G:Gh} {a:Act} {w:World} (R:Rel X G s a w) (hv:a.eval x = .slice (q.map fun b=>⟨b,0,none⟩) n cap) (next:Act->World->Prop) (Q:Exit->Act->World->Prop)
  (hK:∀b' s8,n+zs.length<=s8->newB b' s->X.w0.heap.size<=b'->zd.length=E->∀G' a' w',Rel X G' (L2 (L2 s (.P0 d) (.one (.v (iV b' (n+zs.length) s8)))) (.heap b') (.row (C4 (full.take n++zs++wG (s8 - (n+zs.length)) zd)))) a' w'->next a' w') :
  o.wpIn X.F 0 X.P a w next Q:=by
 obtain⟨qq,hqq,eX⟩:=mH.1 hy;obtain⟨yb,Of,rQ,lK,-⟩:=Bi eX (O4 R hqq);obtain⟨c2,g,g1,g2,g3⟩:=Gv lK S7;have hnE:n * E<=full.length * E:=yO _ oO
 have DG:∀w':World,w'.heap=w.heap->(kV E zs.length (a.eval y)).run X.P w' = .ok (dS g (zs.length * E)) w':=fun w' hw=>by
  refine Bg (D:=G.D) ?_;rcases g3 with h|⟨b,o',cap,h,hc⟩;· exact .inl h
  ·exact .inr ⟨b,o',cap,h,fun k hk=>by rw[Ec hw];exact hc k hk⟩
 obtain⟨g0,oL,hold⟩:∃g0:Nat->Value,(∀w':World,w'.heap=w.heap->(kV E n (.slice (q.map fun b=>⟨b,0,none⟩) n cap)).run X.P w' = .ok (dS g0 (n * E)) w') /\
   ∀i j e dd,i<n->full[i]? = some e->e[j]? = some dd->dd.isCell=true/\RV G.D w dd (g0 (i * E+j)):=by
  cases q with
  | none=>
   have h0:=yH rfl;subst h0;refine⟨fun _=>undef,fun w' _=>?_,fun i j e dd hi=>absurd hi (Nat.not_lt_zero _)⟩;simp[kV,dS]
  | some b=>
   obtain⟨c0,e0,k1,k2,k3⟩:jT G w b (C4 full):=R.holds _ _ (A5 b rfl);rw[sK cF]at k2;refine⟨fun k=>(c0[k]?).getD undef,fun w' hw=>?_,fun i j e dd hi h1 h2=>?_⟩
   ·simp only[kV,AS];refine UL b 0 (n * E) _ (fun k hk=>?_);have I1:k<c0.size:=oO;rw[Ec hw,G8];simp[rW,k1,I1]
   ·obtain⟨q0,v,q1,q2⟩:=k3 (i * E+j) (.v dd) (by simp only[C4,cI,LO cF h1 h2,AS]);exact⟨q0,by show RV G.D w dd ((c0[i * E+j]?).getD undef);rw[q1];exact q2⟩
 obtain⟨pX,c,e,nc,r1,r2,r3,r4,r5,r6⟩:=UN (P:=X.P) (t:=T) (ty:=o.type) (t2:=T2) (w:=w) he hB h2 (base:=q.map fun b=>⟨b,0,none⟩) (len:=n) (cap:=cap) (fun w' _=>CA (P:=X.P) lK w') DG oL oO d7 (Bp _ _) (Bp _ _) hz;rw[<- hv]at r1;have C9:(execOp a.eval o).run X.P w = .ok (.value (.slice (some ⟨w.heap.size,0,none⟩) (n+zs.length) nc)) (w.drew.alloc (.cells c e)):=by
  simp[execOp,ho,resolve,invoke,builtin,r1]
 refine bP (by intro c e;rw[ho]at e;cases e) ?_;rw[C9,fF,hd];have hp:=qT a (some d) (.slice (some ⟨w.heap.size,0,none⟩) (n+zs.length) nc);have T':Trans X G a w G (a.put (some d) (.slice (some ⟨w.heap.size,0,none⟩) (n+zs.length) nc)) (w.drew.alloc (.cells c e)) (fun _=>False):=by
  refine⟨hp.1,fun h=>(h.heap fun b hb=>aI w.drew _ b hb).put hp.2,rfl,rfl,rfl,sS,fun b hb _=>aI w.drew _ b hb,fun _ h=>h.elim,fun b k hD=>⟨hD,.of (aI w.drew _ _ (R.wf.lt hD))⟩,fun b k hD dV=>absurd hD dV,R.nil⟩
 refine hK w.heap.size nc r2 (IW R) R.ext.size pX G _ _ (R.newArr hn (w1:=w.drew) rfl T' (E:=E) ?_ ?_ ?_ ?_)
 ·intro e he;rcases t6.1 he with he|he
  ·rcases t6.1 he with he|he;· exact cF e (yN he)
   ·exact S7 e he
  ·rw[(AY.1 he).2];exact pX
 ·intro e he d hd;rcases t6.1 he with he|he
  ·rcases t6.1 he with he|he
   ·obtain⟨i,hi⟩:=FJ.1 he;obtain⟨j,hj⟩:=FJ.1 hd;have V7:i<n:=by
     have:=(uA hi).1;rw[rX]at this;omega
    rw[tX V7]at hi;exact (hold i j e d V7 hi hj).1
   ·exact c2 e he d hd
  ·rw[(AY.1 he).2]at hd;exact (IU zd).1 qD d hd
 ·rw[r3];simp only[mJ,rX,Jj1];exact yO _ oO
 ·intro i j e dd hi hj;have gQ:(full.take n).length=n:=by rw[rX,It oO]
  rw[yQ]at hi;rcases yP i n with h|h
  ·rw[cJ oO,tX h]at hi;have yD:j<E:=by rw[<- cF e (uE hi)];exact (uA hj).1
   have I1:=vD h yD;refine⟨_,?_,(hold i j e dd h hi hj).2⟩;rw[r4 _ I1,Bu _ _ _ I1]
  ·rw[cK oO,gQ]at hi;rcases yP (i - n) zs.length with h' | h'
   ·rw[cJ h']at hi;have yD:j<E:=by rw[<- S7 e (uE hi)];exact (uA hj).1
    have I1:=vD h' yD;refine⟨_,?_,g1 _ _ _ _ hi hj⟩;have e1:i * E+j=n * E+((i - n) * E+j):=by rw[<- Ie,<- Y9];congr 2;omega
    rw[e1,r5 _ I1,Bu _ _ _ I1]
   ·rw[cK h']at hi
    obtain⟨AE,kA⟩:e=zd/\i - n - zs.length<nc - (n+zs.length):=by
     have hm:=uE hi;have I1:=(uA hi).1;simp only[Jj1]at I1;exact⟨(AY.1 hm).2,I1⟩
    subst AE;obtain⟨v,q1,q2⟩:=r6 G w R.nil (i - n - zs.length) j dd kA hj;refine⟨v,?_,q2⟩;rw[show n+zs.length+(i - n - zs.length)=i from oO]at q1;exact q1
theorem lk0{x:Operand}{T:TypeId}(ho:o.op = .call { callee:=.builtin .append,args:=#[x,y],argTypes:=#[T,T2] })(hd:o.dst=some d)(hn:d<X.n)
  {E B:Nat} (he:l9 X.P T=some (E,B)) (hB:0<B/\B<=1024) (h2:(X7 X.P T2).isSome=true) {q:Option Nat} {n cap:Nat} {full zs:List (List DV)} {zd:List DV} (hx:M2 X (get s) x=some (.v (xP q n cap))) (hy:(M2 X (get s) y).bind dN=some zs)
  (A5:∀b,q=some b->get s (.heap b)=some (.row (C4 full))) (yH:q=none->n=0) (gI:full.length=cap) (AG:n<=cap) (Cb:cap<n+zs.length) (d7:n+zs.length<=M5) (cF:∀e∈full,e.length=E) (S7:∀e∈zs,e.length=E) (hz:Da X.P T=some zd) (qD:fI zd=true)
  {G:Gh} {a:Act} {w:World} (R:Rel X G s a w) (next:Act->World->Prop) (Q:Exit->Act->World->Prop)
  (hK:∀b' s8,n+zs.length<=s8->newB b' s->X.w0.heap.size<=b'->zd.length=E->∀G' a' w',Rel X G' (L2 (L2 s (.P0 d) (.one (.v (iV b' (n+zs.length) s8)))) (.heap b') (.row (C4 (full.take n++zs++wG (s8 - (n+zs.length)) zd)))) a' w'->next a' w') :
  o.wpIn X.F 0 X.P a w next Q:=
 kU0 ho hd hn he hB h2 hy A5 yH gI AG Cb d7 cF S7 hz qD R (X6 (O4 R hx)).1 next Q hK
theorem Jv{b:Nat}:∀{s:St},newB b s->∀h v,get s (.heap h)=some v->h≠b
 | [],_,h,v,hg=>by cases hg
 | (.heap b',u)::r,hn,h,v,hg=>by
  simp only[get]at hg;split at hg
  ·rename_i e;cases e;exact hn.1
  ·exact Jv hn.2 h v hg
 | (.P0 n,u)::r,hn,h,v,hg=>by
  simp only[get]at hg;rw[if_neg (by intro e;cases e)]at hg;exact Jv (s:=r) hn h v hg
 | (.loc n,u)::r,hn,h,v,hg=>by
  simp only[get]at hg;rw[if_neg (by intro e;cases e)]at hg;exact Jv (s:=r) hn h v hg
 | (.tok n,u)::r,hn,h,v,hg=>by
  simp only[get]at hg;rw[if_neg (by intro e;cases e)]at hg;exact Jv (s:=r) hn h v hg
theorem mm0{x:Operand}{T:TypeId}(ho:o.op = .call { callee:=.builtin .append,args:=#[x,y],argTypes:=#[T,T2] })(hd:o.dst=some d)(hn:d<X.n)
  {E B:Nat} (he:l9 X.P T=some (E,B)) (hB:0<B/\B<=1024) (h2:(X7 X.P T2).isSome=true) {q:Option Nat} {n cap:Nat} {full zs:List (List DV)} {zd:List DV} (hx:M2 X (get s) x=some (.v (xP q n cap))) (hy:(M2 X (get s) y).bind dN=some zs)
  (A5:∀b,q=some b->get s (.heap b)=some (.row (C4 full))) (yH:q=none->n=0/\cap=0) (gI:full.length=cap) (AG:n<=cap) (gM:0<zs.length) (d7:n+zs.length<=M5) (cF:∀e∈full,e.length=E) (S7:∀e∈zs,e.length=E) (hz:Da X.P T=some zd) (qD:fI zd=true) :
  vM0 X o s d q (gS0 X q E n full zs):=by
 intro s' hs G a w R next Q hK
 have R7:=wO hs hx;have K8:=We hs hy;have hrow':∀b,q=some b->get s' (.heap b)=some (.row (C4 full)):=fun b hb=>hs _ _ (A5 b hb);rcases yP cap (n+zs.length) with h|h
 ·refine lk0 ho hd hn he hB h2 R7 K8 hrow' (fun hq=>(yH hq).1) gI AG h d7 cF S7 hz qD R next Q fun b' s8 hc hb hw pX G' a' w' R'=>?_
  have hl:(full.take n).length=n:=by rw[rX];omega
  have M7:newB b' s':=hb;refine hK _ b' _ ⟨s8,full.take n++zs++wG (s8 - (n+zs.length)) zd,rfl,rfl,?_,?_,hc,?_,.inr ⟨hw,fun b'' hq=>(Jv M7 b'' _ (hrow' b'' hq)).symm⟩⟩ ?_ G' a' w' ?_;· simp only[mJ,Jj1,hl];omega
  ·intro e he;rcases t6.1 he with he|he
   ·rcases t6.1 he with he|he;· exact cF e (yN he)
    ·exact S7 e he
   ·rw[(AY.1 he).2];exact pX
  ·rw[List.take_append_of_le_length (by rw[mJ,hl];exact I5 _),DS (by rw[mJ,hl];exact I5 _)]
  ·intro h1 _ hg e;subst e;cases dY:get s' (.heap b') with
   | none=>exact hg dY
   | some v=>exact Jv M7 b' v dY rfl
  ·refine R'.weaken fun l v hl=>?_;unfold Hb at hl;rw[T5]at hl ⊢;by_cases h1:kI b' = l;· rw[if_pos h1]at hl ⊢;exact hl
   ·rw[if_neg h1]at hl ⊢;rw[T5]at hl ⊢;by_cases h3:mI d=l;· rw[if_pos h3]at hl ⊢;exact hl
    ·rw[if_neg h3]at hl ⊢;cases q with
     | none=>exact hl
     | some b0=>
      simp only[SS]at hl;rw[nV]at hl;split at hl;· cases hl
      ·exact hl
 ·cases q with
  | none=>have:=(yH rfl);omega
  | some b=>
   have oN:=bY0 (s:=s') ho hd hn he h2 (b:=b) R7 K8 (hrow' b rfl) gI h cF S7;refine oN G a w R next Q fun G' a' w' R'=>?_
   have hl:(full.take n).length=n:=by rw[rX];omega
   refine hK _ b _ ⟨cap,full.take n++zs++full.drop (n+zs.length),rfl,rfl,?_,?_,h,?_,.inl rfl⟩ (fun h' X1 hg e=>X1 (by rw[e])) G' a' w' (R'.congr fun l=>?_);· simp only[mJ,Ui,hl];omega
   ·intro e he;rcases t6.1 he with he|he
    ·rcases t6.1 he with he|he;· exact cF e (yN he)
     ·exact S7 e he
    ·exact cF e (FB he)
   ·rw[List.take_append_of_le_length (by rw[mJ,hl];exact I5 _),DS (by rw[mJ,hl];exact I5 _)]
   ·unfold Hb SS;rw[T5,T5,T5,T5,nV];by_cases h1:mI d=l
    ·subst h1;rw[if_neg (by intro e;cases e),if_pos rfl,if_pos rfl]
    ·by_cases h3:kI b=l;· rw[if_pos h3,if_neg h1,if_pos h3]
     ·rw[if_neg h3,if_neg h1,if_neg h1,if_neg h3,if_neg h3]
def qL:Option Nat->List Loc
 | none=>[]
 | some b=>[.heap b]
theorem kV0{φ:G3}(hn:(φ.map (·.1)).Nodup){cs:List DV}(h:(b,cs)∈φ):get (U3 φ) (.heap b)=some (.row (cs.map b7)):=Bh hn b cs h
theorem UQ(s:St){m:Loc}(hm:∀b,m≠.heap b):∀φ:G3,get (aX s φ) m=get s m
 | []=>rfl
 | (b,cs)::r=>by rw[aX,T5,if_neg (fun e=>hm b e.symm),UQ s hm r]
theorem UR{m:Loc}(hm:∀b,m≠.heap b):∀(φ:G3) (s:St),get (dJ s φ) m=get s m
 | [],s=>rfl
 | (b,cs)::r,s=>by rw[dJ,UR hm r,nV,if_neg (fun e=>hm b e.symm)]
theorem kI0{φ:G3}(hn:(φ.map (·.1)).Nodup)(s:St):v7 (get (aX s φ)) φ:=by
 induction φ with
 | nil=>intro b cs h;cases h
 | cons p r ih=>
  obtain⟨b0,c0⟩:=p;simp only[G4,Ck]at hn;intro b cs h;rw[aX,T5];rcases u5.1 h with e|h;· cases e;rw[if_pos rfl]
  ·rw[if_neg (fun e=>by cases e;exact hn.1 (F9.2 ⟨_,h,rfl⟩))];exact ih hn.2 b cs h
theorem kW0(σ:Nat->Nat)(n:Nat)(v:LV)(s:St)(ψ:G3):eO σ ((.P0 n,v)::s) (U3 ψ)=eO σ s (U3 ψ):=by
 induction ψ with
 | nil=>rfl
 | cons p r ih=>obtain⟨b,cs⟩:=p;simp only[U3,eO,ih,By,get,reduceCtorEq,if_false]
theorem ll0(σ:Nat->Nat)(n:Nat)(v:LV)(s:St)(ψ:G3):eO σ ((.loc n,v)::s) (U3 ψ)=eO σ s (U3 ψ):=by
 induction ψ with
 | nil=>rfl
 | cons p r ih=>obtain⟨b,cs⟩:=p;simp only[U3,eO,ih,By,get,reduceCtorEq,if_false]
theorem Rx(σ:Nat->Nat)(l:List DV):lX σ (l.map b7) (l.map b7):=by
 induction l with
 | nil=>simp[lX]
 | cons x r ih=>simp[lX,nC,ih]
theorem cZ0(σ:Nat->Nat){s:St}:∀{ψ:G3},v7 (get s) ψ->eO σ s (U3 ψ)
 | [],_=>trivial
 | (b,cs)::r,h=>by
  refine⟨?_,cZ0 σ fun b' N7 hm=>h b' N7 (iJ _ hm)⟩;simp only[By];rw[h b cs sS];exact Rx σ cs
theorem kX0(σ:Nat->Nat){ψ:G3}(hn:(ψ.map (·.1)).Nodup):eO σ (U3 ψ) (U3 ψ)=True:=by
 rw[eq_iff_iff,iff_true];exact cZ0 σ (Bh hn)
attribute [go_sem] kW0 ll0
structure RS where
 q:Option Nat
 n:Nat
 cap:Nat
 full:List (List DV)
abbrev RS.v(x:RS):DV:=xP x.q x.n x.cap
def RS.objs(x:RS):G3:=match x.q with
 | none=>[]
 | some b=>[(b,x.full.flatten)]
theorem RS.mem_objs{x:RS}{cs:List DV}:(b,cs)∈x.objs↔x.q=some b/\cs=x.full.flatten:=by
 unfold RS.objs;cases x.q with
 | none=>simp
 | some b0=>simp[eq_comm]
structure RS.is (x:RS)(E:Nat)(ys:List (List DV)):Prop where
 nil:x.q=none->x.n=0/\x.cap=0
 len:x.full.length=x.cap
 wid:∀e∈x.full,e.length=E
 le:x.n<=x.cap
 els:x.full.take x.n=ys
theorem RS.is.n_eq{x:RS}(h:x.is E ys):x.n=ys.length:=by
 rw[<- h.els,rX,h.len,It h.le]
theorem RS.is.app{x:RS}(h:x.is E ys){y:SV}{cs:List SV}(ha:gS0 X x.q E x.n x.full zs y b cs):∃x':RS,x'.q=some b/\y = .v x'.v/\cs=C4 x'.full/\x'.is E (ys++zs):=by
 obtain⟨cap,full,rfl,rfl,h3,h4,h5,h6,-⟩:=ha;refine⟨⟨some b,x.n+zs.length,cap,full⟩,rfl,rfl,rfl,⟨(fun h=>by cases h),h3,h4,h5,?_⟩⟩;show full.take (x.n+zs.length)=_;rw[h6,h.els]
theorem rf0{full:List (List DV)}(n:Nat)(A5:get s (.heap b)=some (.row (C4 full)))(hE:∀e∈full,e.length=E)(hn:n<=full.length)(d7:n<=M5)(K1:X.ids=[])(h:W X kk (xV b (full.take n) (D8 s (.heap b)))):W X kk s:=by
 intro G a w b' cs hf nO hr R;have hw:X.w0.heap.size<=b:=by
  rcases R.own _ _ b A5 rfl with h|⟨h,-⟩;· exact h
  ·rw[K1]at h;cases h
 have qB:C4 full=C4 (full.take n)++C4 (full.drop n):=by rw[<- IE,FK]
 have R1:Rel X G (L2 s (.heap b) (.row (C4 (full.take n)))) a w:=by
  have hb:jT G w b (C4 (full.take n)):=by
   obtain⟨c,e,h1,h2,h3⟩:=R.holds _ _ A5;rw[qB,mJ]at h2;refine⟨c,e,h1,oO,fun i x hx=>?_⟩;have I1:=(uA hx).1;exact h3 i x (by rw[qB,cJ I1];exact hx)
  refine⟨R.size,R.defers,R.ext,R.wf,R.nil,fun l v hl=>?_,fun l v l' v' b' hl L8 V8 Z8=>?_,fun l v b' hl V8=>?_,fun l v b' o hl V8 ht=>?_⟩
  ·rw[T5]at hl;split at hl
   ·subst_vars;cases hl;exact hb
   ·exact R.holds _ _ hl
  ·have key:∀l v,get (L2 s (.heap b) (.row (C4 (full.take n)))) l=some v->∃v0,get s l=some v0/\D5 G l v=D5 G l v0:=by
    intro l v hl;rw[T5]at hl;split at hl
    ·subst_vars;cases hl;exact⟨_,A5,rfl⟩
    ·exact⟨v,hl,rfl⟩
   obtain⟨v0,k1,k2⟩:=key _ _ hl;obtain⟨v1,k3,k4⟩:=key _ _ L8;rw[k2]at V8;rw[k4]at Z8;exact R.sep _ _ _ _ _ k1 k3 V8 Z8
  ·rw[T5]at hl;split at hl
   ·subst_vars;cases hl;exact R.own _ _ _ A5 V8
   ·exact R.own _ _ _ hl V8
  ·rw[T5]at hl;split at hl
   ·subst_vars;cases hl;exact R.data _ _ _ o A5 V8 ht
   ·exact R.data _ _ _ o hl V8 ht
 obtain⟨G',R'⟩:=R1.freeze (ys:=full.take n) (fun e he=>hE e (yN he)) (by rw[rX];omega) hw (by rw[T5,if_pos rfl]);refine h G' a w b' cs hf nO hr (R'.congr fun l=>?_);rw[Xq,Xq,nV,nV,T5];by_cases h1:kI b=l;· rw[if_pos h1,if_pos h1]
 ·rw[if_neg h1,if_neg h1,if_neg h1]
theorem Eg(σ:Nat->Nat)(ys:List (List DV)):lX σ (C4 ys) (C4 ys):=Rx σ _
end
end
section
section
variable{X:Ctx}{s s0:St}{k:List Item}
def xM:List (Int × DV)->Int->Option DV
 | [],_=>none
 | (k,d)::r,n=>if n=k then some d else xM r n
def Ag(P:Program)(T:TypeId):Bool:=
 match P.underlying T with
 | some (.map key _)=>match P.underlying key with
  | some (.int .i64)=>true
  | _=>false
 | _=>false
theorem QQ{T:TypeId}(h:Ag P T=true):∃key e,P.underlying T=some (.map key e)/\P.underlying key=some (.int .i64):=by
 unfold Ag at h;split at h
 ·rename_i key e hu;split at h;· rename_i hk;exact⟨key,e,hu,hk⟩
  ·cases h
 ·cases h
theorem QR{G:Gh}{w:World}(n:Int):∀(ml:List (Int × DV)) (es:List MapEntry) (j:Nat),es.length=ml.length->(∀(i:Nat) (k:Int) (d:DV) (e:MapEntry),ml[i]? = some (k,d)->es[i]? = some e->e.key = .int .i64 k/\RV G.D w d e.val) ->
  (∀d,xM ml n=some d->∃r v,Lo (.int .i64) (.int .i64 n) es j=some (some (r,v))/\RV G.D w d v)/\(xM ml n=none->Lo (.int .i64) (.int .i64 n) es j=some none)
 | [],[],j,_,_=>⟨fun d h=>(by cases h),fun _=>rfl⟩
 | [],e::es,j,h,_=>by simp at h
 | (k,d)::ml,[],j,h,_=>by simp at h
 | (k,d)::ml,e::es,j,hl,h=>by
  obtain⟨h1,h2⟩:=h 0 k d e rfl rfl;have ih:=QR n ml es (j+1) (by simpa using hl) fun i k d e hi he=>h (i+1) k d e (by simpa using hi) (by simpa using he);unfold Lo;simp only[h1,Instr.sameNow,if_true,xM];by_cases hk:n=k
  ·subst hk;rw[if_pos rfl];simp only[beq_self_eq_true];exact⟨fun d' hd=>(by cases hd;exact⟨j,e.val,rfl,h2⟩),fun hd=>by cases hd⟩
  ·rw[if_neg hk];have:(n==k)=false:=by simpa using hk
   rw[this];exact ih
theorem Qy{r:Nat}{es:Array MapEntry}{clock:Nat}(hb:w.heap[r]? = some (.map es clock)):(getObj r).run P w = .ok (.map es clock) w:=by
 simp[getObj,Sem.run,hb]
theorem c00{r:Nat}{es:Array MapEntry}{clock:Nat}(o:Obj)(hb:w.heap[r]? = some (.map es clock)):(setObj r o).run P w = .ok () { w with heap:=w.heap.setIfInBounds r o }:=by
 simp[setObj,Sem.run,hb]
theorem ol0(hk:P.underlying key=some (.int .i64))(e:Bool)(n:Int)(m:Nat):(ji0 e (m+1) key (.int .i64 n)).run P w = .ok () w:=by
 unfold ji0;simp only[v9,run_underlying hk,Lp,kH]
theorem Vc(hk:P.underlying key=some (.int .i64))(e:Bool)(n:Int):(ji0 e 10000 key (.int .i64 n)).run P w = .ok () w:=ol0 hk e n 9999
theorem Vq{k:Value}{l:List MapEntry}{a:Option (Nat × Value)}(hd:P.underlying key=some (.int .i64))(h:Lo (.int .i64) k l 0=some a):(Instr.findKey key k l).run P w = .ok a w:=by
 simp[Instr.findKey,run_underlying hd,Lp,h]
theorem lm0{T:TypeId}(ho:o.op = .makeMap T none)(hd:o.dst=some d)(hn:d<X.n){a:Act}(R:Rel X G s a w)(next:Act->World->Prop)(Q:Exit->Act->World->Prop)
  (hK:∀b,newB b s->X.w0.heap.size<=b->∀G' a' w',Rel X G' (L2 (L2 s (.P0 d) (.one (.v (.K0 (.map (some b)))))) (.heap b) (.mp [])) a' w'->next a' w'):o.wpIn X.F 0 X.P a w next Q:=by
 refine bP (by intro c e;rw[ho]at e;cases e) ?_;have C9:(execOp a.eval o).run X.P w = .ok (.value (.map (some w.heap.size))) (w.alloc (.map #[] 0)):=by
  simp[execOp,ho,Instr.makeMap]
 rw[C9,fF,hd];have hp:=qT a (some d) (.map (some w.heap.size))
 have T':Trans X G a w G (a.put (some d) (.map (some w.heap.size))) (w.alloc (.map #[] 0)) (fun _=>False):=
  ⟨hp.1,fun h=>(h.heap fun b hb=>aI w _ b hb).put hp.2,rfl,rfl,rfl,sS,fun b hb _=>aI w _ b hb,fun _ h=>h.elim,fun b k hD=>⟨hD,.of (aI w _ _ (R.wf.lt hD))⟩,fun b k hD dV=>absurd hD dV,R.nil⟩
 refine hK w.heap.size (IW R) R.ext.size G _ _ ?_;refine R.step T' (fun l u=>(l = .P0 d/\u = .one (.v (.K0 (.map (some w.heap.size)))))\/(l = .heap w.heap.size/\u = .mp [])) (fun l u h=>?_) (fun l u h=>?_) (fun l u l' u' b h h' hb X2=>?_)
 ·rw[T5,T5]at h;by_cases h1:kI w.heap.size=l;· rw[if_pos h1]at h;cases h;exact .inl (.inr ⟨h1.symm,rfl⟩)
  ·rw[if_neg h1]at h;by_cases h3:mI d=l;· rw[if_pos h3]at h;cases h;exact .inl (.inl ⟨h3.symm,rfl⟩)
   ·rw[if_neg h3]at h;exact .inr ⟨h,fun n hn=>zC _ _ _ _ (fun e=>h3 (by rw[hn,e])),fun b hb DA=>DA.elim,fun _ _=>rfl,fun _ _=>rfl⟩
 ·rcases h with⟨rfl,rfl⟩|⟨rfl,rfl⟩
  ·refine⟨?_,fun b hb=>by cases hb⟩;show B7 G _ (.v _) _;rw[zB _ _ _ (by rw[R.size];exact hn)];exact .K0 _ tT
  ·refine⟨⟨#[],0,Ej w _,rfl,fun i k d e hi=>by simp at hi,rfl,fun i e he=>by simp at he⟩,fun b hb=>?_⟩;cases hb;exact⟨.inl (I5 _),.inl R.ext.size,fun _ o hD=>absurd (R.wf.lt hD) (vX _)⟩
 ·rcases h with⟨rfl,rfl⟩|⟨rfl,rfl⟩;· cases hb
  ·rcases h' with⟨rfl,rfl⟩|⟨rfl,rfl⟩;· cases X2
   ·rfl
theorem Vr{L1:List Nat}{ops:Array Oper}{l:List Oper}{K:St->Prop}{d:Tmp}{T ty:TypeId}{pos:String}{af:Array Edge}{q:Option (Prop × St)}(hn:d<X.n)(hq:q=none)
  (h:∀b,newB b s->X.w0.heap.size<=b->vc X L1 ops l (L2 (L2 s (.P0 d) (.one (.v (.K0 (.map (some b)))))) (.heap b) (.mp [])) K):cB X L1 ops l K ⟨some d,.makeMap T none,ty,pos,af,none⟩ s q:=by
 subst hq;intro m hm G a w R0;obtain⟨p1,p3⟩:=pA hm;simp only[B4,qJ,wpOpsIn,p1,fD,if_true];exact lm0 (o:=⟨some d,.makeMap T none,ty,pos,af,none⟩) rfl rfl hn R0 _ _ fun b hb hw G' a' w' R'=>bW (h b hb hw) (m+1) p3 G' a' w' R'
theorem bG0{T:TypeId}{x i:Operand}(ho:o.op = .mapUpdate T x i y\/o.op = .insert T x i y)(hd:o.dst=none)(hT:Ag X.P T=true){b:Nat}{n:Int}{ml:List (Int × DV)}{dv:DV}
  (hx:M2 X (get s) x=some (.v (.K0 (.map (some b))))) (hi:M2 X (get s) i=some (.v (.K0 (.int .i64 n)))) (hy:M2 X (get s) y=some (.v dv)) (hm:get s (.heap b)=some (.mp ml)) (hl:xM ml n=none):bX X s o (L2 s (.heap b) (.mp (ml++[(n,dv)]))):=by
 intro G a w R next Q hK
 have hv:=(X6 (O4 R hx)).1;have HA:=(X6 (O4 R hi)).1;have rQ:RV G.D w dv (a.eval y):=O4 R hy;obtain⟨key,e,h1,h2⟩:=QQ hT;obtain⟨es,cl,m1,m2,m3,mc,mb⟩:=R.holds _ _ hm;have f1:=(QR (G:=G) (w:=w) n ml es.toList 0 (by simpa using m2) fun i k d e hi he=>m3 i k d e hi (by simpa using he)).2 hl;refine bP (by intro c e;rcases ho with ho|ho <;> (rw[ho]at e;cases e)) ?_;have C9:(execOp a.eval o).run X.P w = .ok .skip { w with heap:=w.heap.setIfInBounds b (.map (es.push { key:=.int .i64 n,val:=a.eval y,born:=cl }) (cl+1)) }:=by
  rcases ho with ho|ho <;> simp[execOp,ho,hv,HA,Instr.mapUpdate,run_underlying h1,Qy m1,Vc h2,Vq h2 f1,c00 _ m1]
 rw[C9,Mj,hd];have qA:b<w.heap.size:=(fB.1 m1).1;have A4:∀o,¬G.D b o:=fun o=>R.data _ _ b o hm rfl rfl;have As:∀b',b'≠b->(w.heap.setIfInBounds b (.map (es.push { key:=.int .i64 n,val:=a.eval y,born:=cl }) (cl+1)))[b']? = w.heap[b']?:=fun b' X2=>Array.getElem?_setIfInBounds_ne (Ne.symm X2);have T':Trans X G a w G a { w with heap:=w.heap.setIfInBounds b (.map (es.push { key:=.int .i64 n,val:=a.eval y,born:=cl }) (cl+1)) } (fun b'=>b' = b):=by
  refine⟨rfl,fun h=>h.keep rfl fun D hD=>?_,rfl,rfl,rfl,sS,fun b' X2 hn=>As b' hn,fun b' X2=>?_,fun b' o hD=>⟨hD,.of (As b' fun e=>by subst e;exact A4 o hD)⟩,fun _ _ h k=>absurd h k,R.nil⟩
  ·refine (As D fun e=>?_).trans hD;subst e;rw[m1]at hD;cases hD
  ·subst X2;exact (R.own _ _ b' hm rfl).imp id fun h=>.inl h.1
 refine hK G a _ ?_;refine R.step T' (fun l u=>l = .heap b/\u = .mp (ml++[(n,dv)])) (fun l u h=>?_) (fun l u h=>?_) (fun l u l' u' b' h h' _ _=>h.1.trans h'.1.symm)
 ·rw[T5]at h;by_cases L8:kI b=l;· rw[if_pos L8]at h;cases h;exact .inl ⟨L8.symm,rfl⟩
  ·rw[if_neg L8]at h;refine .inr ⟨h,fun _ _=>rfl,fun b' X2 he=>?_,fun _ _=>rfl,fun _ _=>rfl⟩;subst he;exact L8 (R.sep _ _ _ _ b' hm h rfl X2)
 ·obtain⟨rfl,rfl⟩:=h;refine⟨⟨es.push { key:=.int .i64 n,val:=a.eval y,born:=cl },cl+1,?_,by simp[m2],fun i' k d e s9 he=>?_,by simp[mc],fun i' e he=>?_⟩,fun b' X2=>?_⟩;· simp[qA]
  ·rcases yP i' ml.length with I1|Fv
   ·rw[cJ I1]at s9;rw[as0,if_neg oO]at he;obtain⟨q1,q2⟩:=m3 i' k d e s9 he;exact⟨q1,q2.mono T'.grow⟩
   ·rw[cK Fv]at s9;have:i' - ml.length=0:=by
     have:=(uA s9).1
     simpa using this
    have cG:i' = es.size:=oO;rw[this]at s9;simp only[List.getElem?_cons_zero,uC,uD]at s9;obtain⟨rfl,rfl⟩:=s9;rw[as0,if_pos cG]at he;cases he;exact⟨rfl,rQ.mono T'.grow⟩
  ·rw[as0]at he;split at he;· rename_i cG;cases he;show cl=i';omega
   ·exact mb i' e he
  ·cases X2;exact⟨.inr rfl,R.own _ _ b hm rfl,fun _ o=>A4 o⟩
theorem kY0{L1:List Nat}{ops:Array Oper}{l:List Oper}{K:St->Prop}{T ty:TypeId}{x i y:Operand}{pos:String}{af:Array Edge}{q:Option (Prop × St)}{b:Nat}{n:Int}{ml:List (Int × DV)}{dv:DV}(hT:Ag X.P T=true)
  (hx:M2 X (get s) x=some (.v (.K0 (.map (some b))))) (hi:M2 X (get s) i=some (.v (.K0 (.int .i64 n)))) (hy:M2 X (get s) y=some (.v dv)) (hm:get s (.heap b)=some (.mp ml)) (hl:xM ml n=none) (hq:q=none)
  (h:vc X L1 ops l (L2 s (.heap b) (.mp (ml++[(n,dv)]))) K):cB X L1 ops l K ⟨none,.mapUpdate T x i y,ty,pos,af,none⟩ s q:=by
 subst hq;exact wS rfl (bG0 (o:=⟨none,.mapUpdate T x i y,ty,pos,af,none⟩) (.inl rfl) rfl hT hx hi hy hm hl) (bW h)
theorem om0{L1:List Nat}{ops:Array Oper}{l:List Oper}{K:St->Prop}{T ty:TypeId}{x i y:Operand}{pos:String}{af:Array Edge}{q:Option (Prop × St)}{b:Nat}{n:Int}{ml:List (Int × DV)}{dv:DV}(hT:Ag X.P T=true)
  (hx:M2 X (get s) x=some (.v (.K0 (.map (some b))))) (hi:M2 X (get s) i=some (.v (.K0 (.int .i64 n)))) (hy:M2 X (get s) y=some (.v dv)) (hm:get s (.heap b)=some (.mp ml)) (hl:xM ml n=none) (hq:q=none)
  (h:vc X L1 ops l (L2 s (.heap b) (.mp (ml++[(n,dv)]))) K):cB X L1 ops l K ⟨none,.insert T x i y,ty,pos,af,none⟩ s q:=by
 subst hq;exact wS rfl (bG0 (o:=⟨none,.insert T x i y,ty,pos,af,none⟩) (.inr rfl) rfl hT hx hi hy hm hl) (bW h)
theorem RS.nodup(x:RS):(x.objs.map (·.1)).Nodup:=by
 unfold RS.objs;cases x.q <;> simp
end
end
section
section
variable{X:Ctx}{s s0:St}{k:List Item}
def BD:List (Int × Value)->Int->Option FuncId
 | [],_=>none
 | (k,.func (.func f) fi ca)::r,n=>if n=k then if fi.size=0/\ca.size=0 then some f else none else BD r n
 | (k,_)::r,n=>if n=k then none else BD r n
theorem co0{n:Int}{f:FuncId}:∀{l:List (Int × Value)},BD l n=some f->xM (l.map fun p=>(p.1,DV.K0 p.2)) n=some (.K0 (.func (.func f) #[] #[]))
 | [],h=>by cases h
 | (k,v)::r,h=>by
  simp only[G4,xM];by_cases hk:n=k
  ·rw[if_pos hk];unfold BD at h;split at h <;> simp_all
  ·rw[if_neg hk];refine co0 ?_;unfold BD at h;split at h <;> simp_all
theorem on0{T:TypeId}{x i:Operand}(ho:o.op = .lookup T x i false)(hd:o.dst=some d)(hn:d<X.n)(hT:Ag X.P T=true){n:Int}{l:List (Int × Value)}{f:FuncId}
  (hx:M2 X (get s) x=some (.v (.mpd l))) (hi:M2 X (get s) i=some (.v (.K0 (.int .i64 n)))) (hl:BD l n=some f):bX X s o (L2 s (.P0 d) (.one (.v (.m6 f [])))):=by
 intro G a w R next Q hK
 have HA:=(X6 (O4 R hi)).1;obtain⟨key,e,h1,h2⟩:=QQ hT;have hr:=O4 R hx;generalize hv:a.eval x=xv at hr;cases hr with
 | mpd _ b es cl o' hD m1 m2 m3=>
  obtain⟨r,v,f1,f2⟩:=(QR (G:=G) (w:=w) n (l.map fun p=>(p.1,DV.K0 p.2)) es.toList 0 (by simpa using m2) (fun i k d e hi he=>by
   rw[cI]at hi;cases TW:l[i]? with
   | none=>rw[TW]at hi;cases hi
   | some p=>
    rw[TW]at hi;cases hi;obtain⟨q1,q2,q3⟩:=m3 i p.1 p.2 e TW (by simpa using he);exact⟨q1,by rw[q2];exact .K0 _ q3⟩)).1 _ (co0 hl)
  have OB:=(X6 f2).1;subst OB;refine bP (by intro c e;rw[ho]at e;cases e) ?_;have C9:(execOp a.eval o).run X.P w = .ok (.value (.func (.func f) #[] #[])) w:=by
   simp[execOp,ho,hv,HA,Instr.lookup,run_underlying h1,Qy m1,Vc h2,Vq h2 f1]
  rw[C9,fF,hd];exact hK G _ w (R.setSlot (oU X G a w R.nil) rfl rfl (fun _ h=>h) hn (.m6 f [] #[] rfl fun i c v hc=>by simp at hc))
theorem oo0{ops:Array Oper}{K:St->Prop}{l:List Oper}{k:St->List Ev->Prop}{ev:List Ev}{fp wr:List Loc}{d:Tmp}{T ty:TypeId}{x i:Operand}{pos:String}{af:Array Edge}{q:Option (Prop × St)}{n:Int}{ml:List (Int × Value)}{f:FuncId}
  (hk:∀s ev,k s ev->VD X ops s0 l s ev K) (hn:d<X.n) (hT:Ag X.P T=true)
  (hx:M2 X (get s) x=some (.v (.mpd ml))) (hi:M2 X (get s) i=some (.v (.K0 (.int .i64 n)))) (hl:BD ml n=some f) (hq:q=none)
  (g:rM k ev s (S6 [x,i]) [] [(.P0 d,some (.one (.v (.m6 f []))))]) :
  Ae X ops s0 l K k ⟨some d,.lookup T x i false,ty,pos,af,none⟩ ev s fp wr q:=by
 subst hq;show VD X ops s0 _ s ev K;have fS:∀z:Operand,z=x\/z=i->∀t,z = .tmp t->mI t∈S6 [x,i]:=by
  intro z hz t ht;subst ht;rcases hz with rfl|rfl;· simp[S6]
  ·cases x <;> simp[S6]
 refine Bv ⟨S6 [x,i],[(.P0 d,some (.one (.v (.m6 f []))))],[]⟩ (fun s' hs _=>zN (.inl rfl) ?_) (hk _ _ (by exact g));exact on0 (o:=⟨some d,.lookup T x i false,ty,pos,af,none⟩) rfl rfl hn hT (LZ (fS x (.inl rfl)) hs hx) (LZ (fS i (.inr rfl)) hs hi) hl
theorem op0{L1:List Nat}{s1:St}{ops:Array Oper}{K:St->Prop}{l:List Oper}{k:St->List Ev->Prop}{ev:List Ev}{fp wr:List Loc}{d:Tmp}{x:Operand}{f:FuncId}{args:Array Operand}{X5:Array TypeId}{ty:TypeId}{pos:String}{af:Array Edge}
  (hk:∀s ev,k s ev->VD X ops s0 l s ev K) {P:Program} {gl:X8} (hP:X.P=P) (G0:X.gl=gl) {ds:List DV} {φ I2:G3} {r:DV} (hc:P8 P gl f ds φ r I2) (hx:M2 X (get s) x=some (.v (.K0 (.func (.func f) #[] #[])))) (V2:aZ X (get s) args.toList=some ds) (S4:v7 (get s) φ) (A4:(φ.map (·.1)).Nodup) (C7:d<X.n)
  (h:rM k ev s (S6 (x::args.toList)++pK φ) [] ((.P0 d,some (.one (.v r)))::(BK φ++BL I2))) :
  Ae X ops s0 l K k ⟨some d,.call { callee:=.value x,args:=args,argTypes:=X5 },ty,pos,af,none⟩ ev s fp wr (H4 X L1 s1 ⟨some d,.call { callee:=.value x,args:=args,argTypes:=X5 },ty,pos,af,none⟩):=by
 have e:H4 X L1 s1 ⟨some d,.call { callee:=.value x,args:=args,argTypes:=X5 },ty,pos,af,none⟩=none:=by
  simp only[H4,dA,N8,oB,A9];split <;> rfl
 rw[e];show VD X ops s0 _ s ev K;have fS:∀m∈S6 args.toList,m∈S6 (x::args.toList)++pK φ:=fun m hm=>t6.2 (.inl (by cases x <;> simp[S6,hm]));refine Bv ⟨S6 (x::args.toList)++pK φ,_,[]⟩ (fun s' hs _=>zN (.inl rfl) ?_) (hk _ _ h);refine bX.congr (s':=aX (dJ (L2 s' (.P0 d) (.one (.v r))) φ) I2) ?_ fun m=>?_
 ·intro G a w R0 next Q hK
  refine Mm (o:=⟨some d,.call { callee:=.value x,args:=args,argTypes:=X5 },ty,pos,af,none⟩) (fi:=#[]) (ca:=#[]) (ds:=ds) rfl (LZ (fun t ht=>t6.2 (.inl (by subst ht;simp[S6]))) hs hx) ⟨ds,Gb hs fS V2,sS⟩ sS (by rw[hP,G0];exact hc) ?_ A4 rfl C7 R0 next Q ?_
  ·intro b cs hm;exact hs _ _ (Cv (t6.2 (.inr (QO hm))) (S4 b cs hm))
  ·rintro r' ψ G' a' w' ⟨rfl,rfl⟩ _ R';exact hK G' a' w' R'
 ·simp only[apply,LA,Qv,Qw]
theorem y40{L1:List Nat}{ops:Array Oper}{l:List Oper}{K:St->Prop}{d:Tmp}{T ty:TypeId}{x:Operand}{pos:String}{af:Array Edge}{q:Option (Prop × St)}{kd:IntKind}(hx:M2 X (get s) x=some (.v (.K0 (.int kd n))))(hn:d<X.n)(hq:q=none)
  (h:vc X L1 ops l (L2 s (.P0 d) (.one (.v (.K0 (.int kd (kd.wrap (0 - n))))))) K):cB X L1 ops l K ⟨some d,.unOp .neg T x,ty,pos,af,none⟩ s q:=by
 subst hq;refine wS rfl (s':=L2 s (.P0 d) (.one (.v (.K0 (.int kd (kd.wrap (0 - n))))))) (fun G a w R next Q hK=>?_) (bW h);have HA:=(X6 (O4 R hx)).1;refine bP (by intro c e;cases e) ?_;have C9:(execOp a.eval ⟨some d,.unOp .neg T x,ty,pos,af,none⟩).run X.P w = .ok (.value (.int kd (kd.wrap (0 - n)))) w:=by
  simp[execOp,HA,Op.unary,Op.intArith,-Int.zero_sub]
 rw[C9,fF];exact hK G _ w (R.setSlot (oU X G a w R.nil) rfl rfl (fun _ h=>h) hn (.K0 _ (RK kd _)))
theorem y50{L1:List Nat}{ops:Array Oper}{l:List Oper}{K:St->Prop}{d:Tmp}{T T2 ty:TypeId}{x:Operand}{pos:String}{af:Array Edge}{q:Option (Prop × St)}{kd kd2:IntKind}{m:Int}(hx:M2 X (get s) x=some (.v (.K0 (.int kd m))))(hy:M2 X (get s) y=some (.v (.K0 (.int kd2 n))))
  (hc:0<=n/\y6 kd (BI kd m n)) (hn:d<X.n) (hq:q=none) (h:vc X L1 ops l (L2 s (.P0 d) (.one (.v (.K0 (.int kd (BI kd m n)))))) K):cB X L1 ops l K ⟨some d,.binOp .shr T x y T2,ty,pos,af,none⟩ s q:=by
 subst hq;refine wS rfl (s':=L2 s (.P0 d) (.one (.v (.K0 (.int kd (BI kd m n)))))) (fun G a w R next Q hK=>?_) (bW h);have Dv:=(X6 (O4 R hx)).1;have rQ:=(X6 (O4 R hy)).1;obtain⟨v,h1,h2⟩:=cE0 (X:=X) (G:=G) (w:=w) (op:=.shr) (k':=kd2) rfl hc T;refine bP (by intro c e;cases e) ?_;have C9:(execOp a.eval ⟨some d,.binOp .shr T x y T2,ty,pos,af,none⟩).run X.P w = .ok (.value v) w:=by
  simp[execOp,Dv,rQ,Vj,h1]
 rw[C9,fF];exact hK G _ w (R.setSlot (oU X G a w R.nil) rfl rfl (fun _ h=>h) hn h2)
theorem JV(m:Nat){cs:List DV}{kk:List Item}(hm:get s (.P0 m)=some (.one (.v (.K0 (.pointer (some ⟨b,0,none⟩))))))(A5:get s (.heap b)=some (.row (cs.map b7)))(K1:b∉X.ids)
  (h:W X kk (L2 (D8 s (.heap b)) (.P0 m) (.one (.v (.ref cs))))):W X kk s:=by
 intro G a w b' N7 hf nO hr R;obtain⟨c,e,h1,h2,h3⟩:=R.holds _ _ A5;have hw:X.w0.heap.size<=b:=by
  rcases R.own _ _ _ A5 rfl with h|⟨h,-⟩;· exact h
  ·exact absurd h K1
 have P6:cs.length<=c.size:=by simpa using h2
 have W5:∀j,w.cell? ⟨b,j,none⟩=c[j]?:=fun j=>by simp[rW,h1]
 let G':Gh:={ D:=fun b1 o=>G.D b1 o\/(b1=b/\o<cs.length),ν:=G.ν,τ:=G.τ }
 have T:Trans X G a w G' a w (fun b1=>b1=b):=by
  refine⟨rfl,fun h=>h,rfl,rfl,rfl,I5 _,fun _ _ _=>rfl,fun b hb=>by subst hb;exact .inl hw,fun _ _ hD=>⟨.inl hD,.refl _ _ _⟩,fun b1 o hD dV=>?_,R.nil⟩;rcases hD with hD|⟨rfl,hD⟩;· exact absurd hD dV
  ·exact⟨.inr ⟨rfl,hw,R.unsoft A5 rfl⟩,.inl ⟨_,(W5 o).trans (uG oO)⟩⟩
 refine h G' a w b' N7 hf nO hr (R.step T (fun l' u=>l' = .P0 m/\u = .one (.v (.ref cs))) (fun l' u hg=>?_) (fun l' u hq=>?_) fun l u l' u' b h h' hb X2=>by obtain⟨rfl,rfl⟩:=h;cases hb)
 ·rw[T5,nV]at hg;by_cases q1:mI m=l';· rw[if_pos q1]at hg;cases hg;exact .inl ⟨q1.symm,rfl⟩
  ·rw[if_neg q1]at hg;by_cases q2:kI b=l';· rw[if_pos q2]at hg;cases hg
   ·rw[if_neg q2]at hg;refine .inr ⟨hg,fun _ _=>rfl,fun b1 hb he=>?_,fun _ _=>rfl,fun _ _=>rfl⟩;subst he;exact q2 (R.sep _ _ _ _ _ A5 hg rfl hb)
 ·obtain⟨rfl,rfl⟩:=hq;refine⟨?_,fun b hb=>by cases hb⟩;have hv:a.tmps.getD m undef = .pointer (some ⟨b,0,none⟩):=(X6 (R.holds _ _ hm)).1;show RV G'.D w (.ref cs) _;rw[hv];refine .ref cs b 0 (fun j=>(c[j]?).getD undef) (fun x hx=>?_) (fun j hj=>?_) (fun j hj=>.inr ⟨rfl,oO⟩) fun j x hx=>?_
  ·obtain⟨j,hj⟩:=FJ.1 hx;exact (h3 j (.v x) (by rw[cI,hj];rfl)).1
  ·rw[G8,W5,uG oO];rfl
  ·obtain⟨-,v,hv,hr⟩:=h3 j (.v x) (by rw[cI,hx];rfl);rw[hv];exact RV.mono T.grow hr
end
end
section
def Tm.cs(t:Tm):List DV:=[j0 t.o0,j0 t.O0,j0 t.I0.o0,.sl (t.I0.B0.map P1),.sl (t.B0.map E3)]
@[go_sem] theorem Tm.cs_eq (t:Tm):t.cs=[j0 t.o0,j0 t.O0,j0 t.I0.o0,.sl (t.I0.B0.map P1),.sl (t.B0.map E3)]:=rfl
def Tm.ow(t:Tm)(n:Nat)(l:List (List DV)):List SV:=[.v (j0 t.o0),.v (j0 t.O0),.v (j0 t.I0.o0),.v (.sl (t.I0.B0.map P1)),.own n l]
@[go_sem] theorem Tm.ow_eq (t:Tm) (n:Nat) (l:List (List DV)):t.ow n l=[.v (j0 t.o0),.v (j0 t.O0),.v (j0 t.I0.o0),.v (.sl (t.I0.B0.map P1)),.own n l]:=rfl
def zR(n:Nat):List SV:=[.v (j0 0),.v (j0 0),.v (j0 0),.own 0 [],.own 0 []]
@[go_sem] theorem GC0 (n:Nat):zR n=[.v (j0 0),.v (j0 0),.v (j0 0),.own 0 [],.own 0 []]:=rfl
theorem vN0(t:Tm):cU 135 [t.dv] t.dv:=by
 induction t using m7 with
 | h t ih=>
 refine H2 Tryz.func135 ?_;intro X hP G0 hf X0 hn hR K1 G1;have hlen:=kM (G1 t.dv sS);refine E4 (bx [1000001]) tT ?_;refine V3 H0 (M0 (IN t.I0)) ?_;refine Q1 ?_;refine G2 [(1003,0)] tT (y7 (t.B0) (fun done rest=>[sV 17 (j0 done.length),sV 16 (j0 t.B0.length),sV 15 (.sl (t.B0.map E3)),sP 3,sL 3 (t.ow 1003 (done.map E3)),(.tok 1003,.tk 5 done.length),sP 2,sL 2 (zR 0)]) ?_ ?_)
 ·intro done x rest hL hg Z1;have I1:=E5 hL;refine N1 @hg (M0 (ih x (uE hg))) ?_;refine W3 (wr [(1003,26)]) tT tT Z1
 ·exact P4 H0 H0
theorem mn0(a b:Tm):cU 392 [a.dv,b.dv] (O2 (a.same b)):=by
 induction a using m7 generalizing b with
 | h a ih=>
 refine H2 Tryz.func392 ?_;intro X hP G0 hf X0 hn hR K1 G1;have KH:=kM (G1 a.dv sS);have o8:=kM (G1 b.dv sS);have hq:=Tm.same_eq a b;have hz:=Tm.sames_iff a.B0 b.B0;refine E4 (bx [1000002,1000003]) tT ?_;by_cases hk:a.o0=b.o0;rotate_left;· exact O1 (j2 @hk @hq) H0
 by_cases hi:a.O0=b.O0;rotate_left;· exact O1 (j3 @hk @hi @hq) H0
 by_cases ht:a.I0.same b.I0=true;rotate_left
 ·have ht:a.I0.same b.I0=false:=by simpa using ht
  exact O1 (j4 @hk @hi @ht @hq) (M0 (Cw a.I0 b.I0))
 by_cases hl:a.B0.length=b.B0.length;rotate_left
 ·refine V3 (j4 @hk @hi @ht @hl) (M0 (Cw a.I0 b.I0)) ?_;refine N3 ?_;simp[go_sem,hP,G0,hn] <;> (try omega);refine AT.2 fun h=>?_;rw[hq,uH,hz]at h;exact hl h.2.1
 refine V3 (j4 @hk @hi @ht @hl) (M0 (Cw a.I0 b.I0)) ?_;refine Q1 ?_;refine G2 [] tT (xF (a.B0.length) (fun i=>∀(j:Nat) (x y:Tm),j<i->a.B0[j]? = some x->b.B0[j]? = some y->x.same y=true) (fun i=>[sV 39 (j0 i),sV 38 (j0 a.B0.length),sV 37 (.sl (a.B0.map E3)),sV 3 (.ref b.cs)]) (by intro j x y h;omega) ?_ ?_)
 ·intro i I1 hI Z1;obtain⟨x,hx⟩:∃x,a.B0[i]? = some x:=⟨_,uB I1⟩;obtain⟨y,hy⟩:∃y,b.B0[i]? = some y:=⟨_,uB oO⟩;refine N1 (j2 @hx @hy) (M0 (ih x (uE hx) y)) ?_;by_cases hs:x.same y=true
  ·refine W3 (wr []) tT @hs (Z1 ?_);intro j x' y' hj R7 K8;by_cases vS:j=i;· subst vS;rw[hx]at R7;rw[hy]at K8;cases R7;cases K8;exact hs
   ·exact hI j x' y' oO R7 K8
  ·refine U1 @hs ?_;refine N3 ?_;simp[go_sem,hP,G0,hn] <;> (try omega);refine AT.2 fun h=>?_;rw[hq,uH,hz]at h;exact hs (h.2.2 i x y hx hy)
 ·intro hI;refine N2 ?_;refine N3 ?_;simp[go_sem,hP,G0,hn] <;> (try omega);rw[hq,uH,hz];exact⟨by simp[hk,hi,ht],hl,fun i x y hx hy=>hI i x y (uA hx).1 hx hy⟩
theorem Ge(k:Int):(k=2/\W2 k=1)\/(k≠2/\W2 k=0):=by unfold W2;split <;> simp_all
abbrev Km(b:Nat)(f:FuncId)(cs:List DV):DV:=.m6 340 [.ref [.m6 f cs],M3 b]
theorem mo0{f:FuncId}{cs:List DV}{R:Tm->Int->Tm}{P:Tm->Int->Prop}(pn:∀t d,t.o0≠1->R t d = .mk t.o0 t.O0 t.I0 (t.B0.map fun a=>R a (d+W2 t.o0)))(pP:∀t d,P t d->∀a∈t.B0,P a (d+W2 t.o0))
  (hv:∀t d,t.o0=1->0<=d->P t d->cT f ([j0 t.O0,j0 d]++cs) [] (R t d).dv []) (b:Nat) (t:Tm) (d:Int) (hd:0<=d) (hc:d+t.A0<=1099511627776) (ht:P t d) :
  cT 340 [t.dv,j0 d,.ref [.m6 f cs],M3 b] [(b,[Km b f cs])] (R t d).dv [(b,[Km b f cs])]:=by
 induction t using m7 generalizing d with
 | h t ih=>
 have N4:=V6 t;have kE:=lT t.o0;by_cases h1:t.o0=1
 ·have w:=hv t d h1 hd ht;refine H2 Tryz.func340 ?_;intro X hP G0 hf X0 hn hR K1 G1;refine E4 (bx [1000004]) tT ?_;exact v8 [(b,[Km b f cs])] @h1 (M0 w)
 rw[pn t d h1];refine H2 Tryz.func340 ?_;intro X hP G0 hf X0 hn hR K1 G1;have hlen:=kM (G1 t.dv sS);refine E4 (bx [1000004]) tT ?_;rcases Ge t.o0 with⟨h2,hb⟩|⟨h2,hb⟩
 all_goals
  refine V3 (j2 @h1 @h2) (M0 (IN t.I0)) ?_;refine Q1 ?_;refine G2 [(1007,0)] @hb (y7 (t.B0) (fun done rest=>[sV 34 (j0 done.length),sV 33 (j0 t.B0.length),sV 32 (.sl (t.B0.map E3)),sV 1 (j0 (d+W2 t.o0)),sV 3 (M3 b),sP 7,sL 7 (t.ow 1007 (done.map fun a=>(R a (d+W2 t.o0)).E0)),(.tok 1007,.tk 5 done.length),sP 6,sL 6 (zR 0),sB  b [.v (Km b f cs)]]) ?_ ?_)
  ·intro done x rest hL hg Z1;have I1:=E5 hL;have U2:=uE hg;have gJ:=L9 U2;have w:=ih x U2 (d+W2 t.o0) oO oO (pP t d ht x U2);refine N1 @hg (M0 w) ?_;refine W3 (wr [(1007,45)]) tT tT Z1
  ·refine N2 ?_;refine Q1 ?_;first|refine gA hP hf X0 _ ([(b,[Km b f cs])]) (by first|(simp[go_sem,hP,G0,hn];done)|(simp[go_sem,hP,G0,hn];rfl)) sH sS ?_ hR.2|refine XQ hP hf X0 _ ([(b,[Km b f cs])]) (by first|(simp[go_sem,hP,G0,hn];done)|(simp[go_sem,hP,G0,hn];rfl)) sH sS ?_ hR.2
   rw[hR.1];refine⟨?_,sS⟩;try simp
   try all_goals exact f9
theorem c10{f:FuncId}{cs:List DV}{R:Tm->Int->Tm}{P:Tm->Int->Prop}(pn:∀t d,t.o0≠1->R t d = .mk t.o0 t.O0 t.I0 (t.B0.map fun a=>R a (d+W2 t.o0)))(pP:∀t d,P t d->∀a∈t.B0,P a (d+W2 t.o0))
  (hv:∀t d,t.o0=1->0<=d->P t d->cT f ([j0 t.O0,j0 d]++cs) [] (R t d).dv []) (t:Tm) (hc:t.A0<=1000000) (ht:P t 0) :
  cU 277 [t.dv,.m6 f cs] (R t 0).dv:=by
 have w:=fun b=>mo0 pn pP hv b t 0 dD oO ht;refine A3 Tryz.func277 fun X zX=>?_;refine E4 (bx [1000002,1000003]) tT ?_;refine K2 ?_;refine fG 5 (by simp[go_sem];rfl) ?_;intro b hb;simp[go_sem]at hb ⊢;refine K2 ?_;exact O1 H0 (M0 (w b))
theorem Qn:∀n:Nat,(g8 n).A0=n+1
 | 0=>rfl
 | n+1=>by rw[g8,V6];simp[J5,D3.Z0,Qn n];omega
theorem dO0:∀n:Nat,(g8 n).shape=true
 | 0=>rfl
 | n+1=>by
  rw[g8,Lj];simp[W6,wH,FU,J5,DR.shapes,dO0 n,qZ,cP,C5,Io,qM,yT]
end
section
inductive T where
 | C0|list|Z4
 | pair (a b:T)
 | fn (a b:T)
 deriving DecidableEq
namespace T
def ty:T->Ty
 | C0=>L0 1 []
 | list=>L0 2 []
 | Z4=>L0 5 []
 | pair a b=>L0 3 [a.ty,b.ty]
 | fn a b=>L0 4 [a.ty,b.ty]
def V:T->Type
 | C0=>Nat
 | list=>List Nat
 | Z4=>Unit
 | pair a b=>a.V × b.V
 | fn a b=>a.V->b.V
def size:T->Nat
 | C0=>1
 | list=>1
 | Z4=>1
 | pair a b=>1+a.size+b.size
 | fn a b=>1+a.size+b.size
theorem ty_count(a:T):a.ty.A0=a.size:=by
 induction a with
 | C0=>rfl
 | list=>rfl
 | Z4=>rfl
 | pair a b OM eB=>show 1+(a.ty.A0+(b.ty.A0+0))=_;simp only[size];omega
 | fn a b OM eB=>show 1+(a.ty.A0+(b.ty.A0+0))=_;simp only[size];omega
theorem ty_shape(a:T):a.ty.shape=true:=by
 induction a with
 | C0=>rfl
 | list=>rfl
 | Z4=>rfl
 | pair a b OM eB=>simp[ty,wD,wD.shapes,mV,OM,eB]
 | fn a b OM eB=>simp[ty,wD,wD.shapes,mV,OM,eB]
def ok(a:T):Prop:=a.size<=64
theorem ok_ty{a:T}(h:a.ok):a.ty.ok:=⟨a.ty_shape,by rw[ty_count];exact h⟩
theorem ty_ok{a:T}(h:a.ty.ok):a.ok:=by have:=h.2;rw[ty_count]at this;exact this
theorem of_shape(s:Ty)(h:s.shape=true):∃a:T,a.ty=s:=by
 induction s using yS with
 | h s ih=>
 cases s with
 | mk k ts=>
  have h1:=h;rw[Pz,uH,Ty.shapes_iff]at h1;obtain⟨h2,h3⟩:=h1;unfold mV at h2;simp[qM,yT]at h2;rcases h2 with⟨h2,rfl⟩|⟨h2,h4⟩
  ·rcases of_decide_eq_true h2 with rfl|rfl|rfl;· exact⟨C0,rfl⟩
   ·exact⟨list,rfl⟩
   ·exact⟨Z4,rfl⟩
  ·match ts,h4,ih,h3 with
   | [x,y],_,ih,h3=>
    obtain⟨a,rfl⟩:=ih x (by simp[yT]) (h3 x (by simp[yT]));obtain⟨b,rfl⟩:=ih y (by simp[yT]) (h3 y (by simp[yT]));rcases of_decide_eq_true h2 with rfl|rfl;· exact⟨pair a b,rfl⟩
    ·exact⟨fn a b,rfl⟩
theorem ty_inj:∀{a b:T},a.ty=b.ty->a=b:=by
 intro a
 induction a with
 | C0=>intro b h;cases b <;> simp[ty]at h <;> rfl
 | list=>intro b h;cases b <;> simp[ty]at h <;> rfl
 | Z4=>intro b h;cases b <;> simp[ty]at h <;> rfl
 | pair x y D9 rS=>intro b h;cases b <;> simp[ty]at h;rw[D9 h.1,rS h.2]
 | fn x y D9 rS=>intro b h;cases b <;> simp[ty]at h;rw[D9 h.1,rS h.2]
def dflt:(a:T)->a.V
 | C0=>(0:Nat)
 | list=>([]:List Nat)
 | Z4=>()
 | pair a b=>(a.dflt,b.dflt)
 | fn _ b=>fun _=>b.dflt
end T
def Q0:List T->Type
 | []=>Unit
 | a::Γ=>a.V × Q0 Γ
inductive At:(Γ:List T)->Nat->(a:T)->(Q0 Γ->a.V)->Prop
 | zero {a:T} {Γ:List T}:At (a::Γ) 0 a (fun e=>e.1)
 | succ {a b:T} {Γ:List T} {i:Nat} {p:Q0 Γ->a.V} (h:At Γ i a p):At (b::Γ) (i+1) a (fun e=>p e.2)
theorem At.of:∀{Γ:List T} {i:Nat} {a:T},Γ[i]? = some a->∃p,At Γ i a p
 | [],_,_,h=>by simp at h
 | b::Γ,0,a,h=>by simp at h;subst h;exact⟨_,.zero⟩
 | b::Γ,i+1,a,h=>by
  obtain⟨p,hp⟩:=At.of (Γ:=Γ) (i:=i) (a:=a) (by simpa using h);exact⟨_,.succ hp⟩
theorem At.get{Γ:List T}{a:T}{p:Q0 Γ->a.V}(h:At Γ i a p):Γ[i]? = some a:=by
 induction h with
 | zero=>rfl
 | succ h ih=>simpa using ih
def xI{α:Type}(b:α)(f:Nat->α->α):Nat->α
 | 0=>b
 | n+1=>f n (xI b f n)
def Jw{α:Type}(b:α)(f:Nat->List Nat->α->α):List Nat->α
 | []=>b
 | x::l=>f x l (Jw b f l)
def N6(a:T)(b:Tm):Tm:=U0 2 0 a.ty [b]
inductive Dn:(Γ:List T)->Tm->(a:T)->(Q0 Γ->a.V)->Prop
 | var {Γ:List T} {i:Nat} {a:T} {p:Q0 Γ->a.V} (h:At Γ i a p):Dn Γ (vT i) a p
 | lam {Γ:List T} {a r:T} {b:Tm} {f:Q0 (a::Γ)->r.V} (ha:a.ok) (h:Dn (a::Γ) b r f):Dn Γ (N6 a b) (.fn a r) (fun e v=>f (v,e))
 | app {Γ:List T} {a b:T} {f x:Tm} {F:Q0 Γ->(T.fn a b).V} {X:Q0 Γ->a.V} (hf:Dn Γ f (.fn a b) F) (hx:Dn Γ x a X):Dn Γ (nT 3 [f,x]) b (fun e=>F e (X e))
 | zero {Γ:List T}:Dn Γ (nT 4 []) .C0 (fun _=>(0:Nat))
 | succ {Γ:List T} {x:Tm} {X:Q0 Γ->T.C0.V} (hx:Dn Γ x .C0 X):Dn Γ (nT 5 [x]) .C0 (fun e=>Nat.succ (X e))
 | rc {Γ:List T} {a:T} {b f n:Tm} {B:Q0 Γ->a.V} {F:Q0 Γ->(T.fn .C0 (.fn a a)).V} {N:Q0 Γ->T.C0.V} (ha:a.ok) (hb:Dn Γ b a B) (hf:Dn Γ f (.fn .C0 (.fn a a)) F) (hn:Dn Γ n .C0 N) :
   Dn Γ (U0 6 0 a.ty [b,f,n]) a (fun e=>xI (B e) (F e) (N e))
 | nil {Γ:List T}:Dn Γ (nT 7 []) .list (fun _=>([]:List Nat))
 | cons {Γ:List T} {x l:Tm} {X:Q0 Γ->T.C0.V} {L:Q0 Γ->T.list.V} (hx:Dn Γ x .C0 X) (hl:Dn Γ l .list L):Dn Γ (nT 8 [x,l]) .list (fun e=>List.cons (X e) (L e))
 | fold {Γ:List T} {a:T} {b f n:Tm} {B:Q0 Γ->a.V} {F:Q0 Γ->(T.fn .C0 (.fn .list (.fn a a))).V} {N:Q0 Γ->T.list.V} (ha:a.ok) (hb:Dn Γ b a B) (hf:Dn Γ f (.fn .C0 (.fn .list (.fn a a))) F) (hn:Dn Γ n .list N) :
   Dn Γ (U0 9 0 a.ty [b,f,n]) a (fun e=>Jw (B e) (F e) (N e))
 | pair {Γ:List T} {a b:T} {x y:Tm} {X:Q0 Γ->a.V} {Y:Q0 Γ->b.V} (hx:Dn Γ x a X) (hy:Dn Γ y b Y):Dn Γ (nT 10 [x,y]) (.pair a b) (fun e=>Prod.mk (X e) (Y e))
 | fst {Γ:List T} {a b:T} {x:Tm} {X:Q0 Γ->(T.pair a b).V} (hx:Dn Γ x (.pair a b) X):Dn Γ (nT 11 [x]) a (fun e=>Prod.fst (X e))
 | snd {Γ:List T} {a b:T} {x:Tm} {X:Q0 Γ->(T.pair a b).V} (hx:Dn Γ x (.pair a b) X):Dn Γ (nT 12 [x]) b (fun e=>Prod.snd (X e))
 | Z4 {Γ:List T}:Dn Γ (nT 13 []) .Z4 (fun _=>())
theorem CS(t:Tm){i:Int}{y:Ty}{a:List Tm}(h1:t.o0=k)(h2:t.O0=i)(h3:t.I0=y)(h4:t.B0=a):t=U0 k i y a:=by
 subst h1 h2 h3 h4;exact (Tm.eta t).symm
theorem MM{y:Ty}(h:y.zero=true):y=L0 0 []:=by
 unfold Io at h;rw[uH]at h;have h1:=of_decide_eq_true h.1;have h2:=List.eq_nil_of_length_eq_zero (of_decide_eq_true h.2);rw[<- Ty.eta y,h1,h2]
theorem EK{l:List Ty}{x:Ty}(h:l[0]? = some x):l.getD 0 I4=x:=by rw[jO,h];rfl
theorem Nh{l:List Ty}{x:Ty}(h:l[1]? = some x):l.getD 1 I4=x:=by rw[jO,h];rfl
theorem gG0{l:List Ty}{x:Ty}(h:l[2]? = some x):l.getD 2 I4=x:=by rw[jO,h];rfl
theorem mp0(t:Tm):∀(g:List T),t.shape=true->(t.V1 (g.map T.ty)).2=0->∃(a:T) (F:Q0 g.reverse->a.V),(t.V1 (g.map T.ty)).1=a.ty/\Dn g.reverse t a F:=by
 induction t using m7 with
 | h t ih=>
 intro g hs h;obtain⟨hlen,hi,hv,C6,V9⟩:=Tm.shape_node hs;rw[Tm.inferN_eq]at h ⊢;by_cases h1:t.o0=1
 ·rw[if_pos h1]at h ⊢;by_cases h2:((g.map T.ty).length:Int)<=t.O0;· rw[if_pos h2]at h;cases h
  rw[if_neg h2];have hl:t.O0.toNat<g.length:=by simp at h2;omega
  rw[if_neg oO]at C6;have ha:t.B0=[]:=by rw[h1]at hlen;simp[C5]at hlen;exact hlen
  have ht:t=vT (t.O0.toNat:Int):=CS t h1 oO (MM C6) ha;obtain⟨a,hga⟩:∃a,g[g.length - 1 - t.O0.toNat]? = some a:=⟨_,uB oO⟩;have FV0:g.reverse[t.O0.toNat]? = some a:=by rw[aV0 hl,hga]
  obtain⟨p,hp⟩:=At.of FV0;refine⟨a,p,?_,by rw[ht];exact .var hp⟩;simp only[fV,jO,cI,hga,AS,Cj]
 rw[if_neg h1]at h ⊢;have Fx:t.O0=0:=by rcases hv with hv|hv;exact absurd hv h1;exact hv
 by_cases h2:t.o0=2
 ·rw[if_pos h2]at h ⊢;rw[if_pos (.inl h2)]at C6;obtain⟨a,tU⟩:=T.of_shape t.I0 C6.1
  obtain⟨b,hb⟩:∃b,t.B0=[b]:=by
   rw[h2]at hlen;simp[C5]at hlen;exact aR0.1 oO
  have FM0:g.map T.ty++[t.I0]=(g++[a]).map T.ty:=by simp[tU]
  rw[FM0,hb]at h ⊢;simp only[Tm.V1.Y4]at h ⊢;by_cases dF:(b.V1 ((g++[a]).map T.ty)).2=0
  ·obtain⟨r,F,e1,e2⟩:=ih b (by rw[hb];simp) (g++[a]) (V9 b (by rw[hb];simp)) dF;simp only[dF,if_true]at h ⊢;have Du:(g++[a]).reverse=a::g.reverse:=sS;have ht:t=N6 a b:=CS t h2 Fx tU.symm hb;have O8:(g7 t.o0 t.I0 [(b.V1 ((g++[a]).map T.ty)).1])=eT (L0 4 [a.ty,r.ty]):=by
    unfold g7;rw[if_pos h2,e1,tU];rfl
   rw[O8]at h ⊢;obtain⟨o1,o2⟩:=JL _ h;have xY:a.ok:=T.ty_ok (by rw[tU];exact C6)
   revert F e2
   rw[Du];intro F e2;refine⟨.fn a r,_,by rw[o2];rfl,by rw[ht];exact .lam xY e2⟩
  ·simp only[dF,if_false]at h
 ·rw[if_neg h2]at h ⊢;by_cases yB:(Tm.V1.Y4 t.B0 (g.map T.ty)).2=0;rotate_left;· rw[if_neg yB]at h;exact absurd h yB
  rw[if_pos yB]at h ⊢;obtain⟨hl,hx⟩:=Tm.infers_all _ _ yB;have get:∀(i:Nat) (x:Tm),t.B0[i]? = some x->∃(a:T) (F:Q0 g.reverse->a.V),(Tm.V1.Y4 t.B0 (g.map T.ty)).1[i]? = some a.ty/\Dn g.reverse x a F:=by
   intro i x aQ;obtain⟨x1,x2⟩:=hx i x aQ;have hm:=uE aQ;obtain⟨a,F,e1,e2⟩:=ih x hm g (V9 x hm) x1;exact⟨a,F,by rw[x2,e1],e2⟩
  generalize (Tm.V1.Y4 t.B0 (g.map T.ty)).1=l at h get ⊢;have zt:¬(t.o0=2\/t.o0=6\/t.o0=9)->t.I0=L0 0 []:=fun hk=>by rw[if_neg hk]at C6;exact MM C6
  have node:∀(k:Int) (a:List Tm),¬(k=2\/k=6\/k=9)->t.o0=k->t.B0=a->t=nT k a:=fun k a hk e1 e2=>CS t e1 Fx (zt (by rw[e1];exact hk)) e2;have aj0:C5 t.o0=1->∃x,t.B0=[x]:=fun ha=>aR0.1 oO;have ah0:C5 t.o0=2->∃x y,t.B0=[x,y]:=by
   intro ha;have:t.B0.length=2:=oO
   match hq:t.B0,this with
   | [x,y],_=>exact⟨x,y,rfl⟩
  have h50:C5 t.o0=3->∃x y z,t.B0=[x,y,z]:=by
   intro ha;have:t.B0.length=3:=oO
   match hq:t.B0,this with
   | [x,y,z],_=>exact⟨x,y,z,rfl⟩
  unfold g7 at h ⊢;rw[if_neg h2]at h ⊢;by_cases h3:t.o0=3
  ·rw[if_pos h3]at h ⊢;obtain⟨f,x,ha⟩:=ah0 (by rw[h3];rfl);obtain⟨p,F,e1,d1⟩:=get 0 f (by rw[ha];rfl);obtain⟨q,X,e2,d2⟩:=get 1 x (by rw[ha];rfl);rw[EK e1,Nh e2]at h ⊢;by_cases hc:p.ty.o0=4/\(p.ty.arg 0).same q.ty=true
   ·rw[if_pos hc];cases p with
    | fn a b=>
     have hq:a=q:=T.ty_inj ((y9 _ _).1 hc.2);subst hq;exact⟨b,_,rfl,by rw[node 3 [f,x] dD h3 ha];exact .app d1 d2⟩
    | C0=>exact absurd hc.1 dD
    | list=>exact absurd hc.1 dD
    | Z4=>exact absurd hc.1 dD
    | pair a b=>exact absurd hc.1 (by simp[T.ty,qM])
   ·rw[if_neg hc]at h;cases h
  rw[if_neg h3]at h ⊢;by_cases h4:t.o0=4
  ·rw[if_pos h4];have ha:t.B0=[]:=by rw[h4]at hlen;simp[C5]at hlen;exact hlen
   exact⟨.C0,_,rfl,by rw[node 4 [] dD h4 ha];exact .zero⟩
  rw[if_neg h4]at h ⊢;by_cases h5:t.o0=5
  ·rw[if_pos h5]at h ⊢;obtain⟨x,ha⟩:=aj0 (by rw[h5];rfl);obtain⟨p,X,e1,d1⟩:=get 0 x (by rw[ha];rfl);rw[EK e1]at h ⊢;by_cases hc:p.ty.same (L0 1 [])=true
   ·rw[if_pos hc];have hp:p = .C0:=T.ty_inj ((y9 _ _).1 hc);subst hp;exact⟨.C0,_,rfl,by rw[node 5 [x] dD h5 ha];exact .succ d1⟩
   ·rw[if_neg hc]at h;cases h
  rw[if_neg h5]at h ⊢;by_cases h6:t.o0=6
  ·rw[if_pos h6]at h ⊢;rw[if_pos (by simp[h6])]at C6;obtain⟨a,tU⟩:=T.of_shape t.I0 C6.1;obtain⟨x,y,z,ha⟩:=h50 (by rw[h6];rfl);obtain⟨p,X,e1,d1⟩:=get 0 x (by rw[ha];rfl);obtain⟨q,Y,e2,d2⟩:=get 1 y (by rw[ha];rfl);obtain⟨r,Z,e3,d3⟩:=get 2 z (by rw[ha];rfl);rw[EK e1,Nh e2,gG0 e3]at h ⊢;split at h
   ·rename_i hc;rw[if_pos hc];obtain⟨c1,c2,c3⟩:=hc;rw[<- tU]at c1 c2;have hp:p=a:=T.ty_inj ((y9 _ _).1 c1);have hq:q = .fn .C0 (.fn a a):=T.ty_inj ((y9 _ _).1 c2);have hr:r = .C0:=T.ty_inj ((y9 _ _).1 c3);subst hp hq hr;have ht:t=U0 6 0 p.ty [x,y,z]:=CS t h6 Fx tU.symm ha;exact⟨p,_,tU.symm,by rw[ht];exact .rc (T.ty_ok (by rw[tU];exact C6)) d1 d2 d3⟩
   ·cases h
  rw[if_neg h6]at h ⊢;by_cases h7:t.o0=7
  ·rw[if_pos h7];have ha:t.B0=[]:=by rw[h7]at hlen;simp[C5]at hlen;exact hlen
   exact⟨.list,_,rfl,by rw[node 7 [] dD h7 ha];exact .nil⟩
  rw[if_neg h7]at h ⊢;by_cases h8:t.o0=8
  ·rw[if_pos h8]at h ⊢;obtain⟨x,y,ha⟩:=ah0 (by rw[h8];rfl);obtain⟨p,X,e1,d1⟩:=get 0 x (by rw[ha];rfl);obtain⟨q,Y,e2,d2⟩:=get 1 y (by rw[ha];rfl);rw[EK e1,Nh e2]at h ⊢;split at h
   ·rename_i hc;rw[if_pos hc];have hp:p = .C0:=T.ty_inj ((y9 _ _).1 hc.1);have hq:q = .list:=T.ty_inj ((y9 _ _).1 hc.2);subst hp hq;exact⟨.list,_,rfl,by rw[node 8 [x,y] dD h8 ha];exact .cons d1 d2⟩
   ·cases h
  rw[if_neg h8]at h ⊢;by_cases h9:t.o0=9
  ·rw[if_pos h9]at h ⊢;rw[if_pos (by simp[h9])]at C6;obtain⟨a,tU⟩:=T.of_shape t.I0 C6.1;obtain⟨x,y,z,ha⟩:=h50 (by rw[h9];rfl);obtain⟨p,X,e1,d1⟩:=get 0 x (by rw[ha];rfl);obtain⟨q,Y,e2,d2⟩:=get 1 y (by rw[ha];rfl);obtain⟨r,Z,e3,d3⟩:=get 2 z (by rw[ha];rfl);rw[EK e1,Nh e2,gG0 e3]at h ⊢;split at h
   ·rename_i hc;rw[if_pos hc];obtain⟨c1,c2,c3⟩:=hc;rw[<- tU]at c1 c2;have hp:p=a:=T.ty_inj ((y9 _ _).1 c1);have hq:q = .fn .C0 (.fn .list (.fn a a)):=T.ty_inj ((y9 _ _).1 c2);have hr:r = .list:=T.ty_inj ((y9 _ _).1 c3);subst hp hq hr;have ht:t=U0 9 0 p.ty [x,y,z]:=CS t h9 Fx tU.symm ha;exact⟨p,_,tU.symm,by rw[ht];exact .fold (T.ty_ok (by rw[tU];exact C6)) d1 d2 d3⟩
   ·cases h
  rw[if_neg h9]at h ⊢;by_cases jN:t.o0=10
  ·rw[if_pos jN]at h ⊢;obtain⟨x,y,ha⟩:=ah0 (by rw[jN];rfl);obtain⟨p,X,e1,d1⟩:=get 0 x (by rw[ha];rfl);obtain⟨q,Y,e2,d2⟩:=get 1 y (by rw[ha];rfl);rw[EK e1,Nh e2]at h ⊢;obtain⟨o1,o2⟩:=JL _ h;exact⟨.pair p q,_,by rw[o2];rfl,by rw[node 10 [x,y] dD jN ha];exact .pair d1 d2⟩
  rw[if_neg jN]at h ⊢;by_cases I7:t.o0=11
  ·rw[if_pos I7]at h ⊢;obtain⟨x,ha⟩:=aj0 (by rw[I7];rfl);obtain⟨p,X,e1,d1⟩:=get 0 x (by rw[ha];rfl);rw[EK e1]at h ⊢;split at h
   ·rename_i hc;rw[if_pos hc];cases p with
    | pair a b=>exact⟨a,_,rfl,by rw[node 11 [x] dD I7 ha];exact .fst d1⟩
    | C0=>exact absurd hc dD
    | list=>exact absurd hc dD
    | Z4=>exact absurd hc dD
    | fn a b=>exact absurd hc (by simp[T.ty,qM])
   ·cases h
  rw[if_neg I7]at h ⊢;by_cases U8:t.o0=12
  ·rw[if_pos U8]at h ⊢;obtain⟨x,ha⟩:=aj0 (by rw[U8];rfl);obtain⟨p,X,e1,d1⟩:=get 0 x (by rw[ha];rfl);rw[EK e1]at h ⊢;split at h
   ·rename_i hc;rw[if_pos hc];cases p with
    | pair a b=>exact⟨b,_,rfl,by rw[node 12 [x] dD U8 ha];exact .snd d1⟩
    | C0=>exact absurd hc dD
    | list=>exact absurd hc dD
    | Z4=>exact absurd hc dD
    | fn a b=>exact absurd hc (by simp[T.ty,qM])
   ·cases h
  rw[if_neg U8];have DE:t.o0=13:=by
   have:0<=C5 t.o0:=oO;unfold C5 at this;split at this;· omega
   split at this;· omega
   split at this;· omega
   split at this;· omega
   ·omega
  have ha:t.B0=[]:=by rw[DE]at hlen;simp[C5]at hlen;exact hlen
  exact⟨.Z4,_,rfl,by rw[node 13 [] dD DE ha];exact .Z4⟩
end
variable{a s:T}{Γ Θ:List T}
section
def Q0.drop{Γ:List T}:(Ξ:List T)->Q0 (Ξ++Γ)->Q0 Γ
 | [],e=>e
 | _::Ξ,e=>Q0.drop Ξ e.2
def Q0.wk{Γ:List T}:(Δ Ξ:List T)->Q0 (Δ++(Ξ++Γ))->Q0 (Δ++Γ)
 | [],Ξ,e=>Q0.drop Ξ e
 | _::Δ,Ξ,e=>(e.1,Q0.wk Δ Ξ e.2)
def Q0.ins{Γ:List T}{s:T}(X:Q0 Γ->s.V):(Δ:List T)->Q0 (Δ++Γ)->Q0 (Δ++s::Γ)
 | [],e=>(X e,e)
 | _::Δ,e=>(e.1,Q0.ins X Δ e.2)
theorem At.drop{Γ:List T}{i:Nat}{a:T}{p:Q0 Γ->a.V}(h:At Γ i a p):∀Ξ:List T,At (Ξ++Γ) (i+Ξ.length) a (fun e=>p (Q0.drop Ξ e))
 | []=>h
 | _::Ξ=>.succ (At.drop h Ξ)
theorem At.wk{Γ Ξ:List T}{a:T}:∀(Δ:List T) {i:Nat} {p:Q0 (Δ++Γ)->a.V},At (Δ++Γ) i a p->At (Δ++(Ξ++Γ)) (if i<Δ.length then i else i+Ξ.length) a (fun e=>p (Q0.wk Δ Ξ e))
 | [],i,p,h=>by rw[if_neg sS];exact At.drop h Ξ
 | b::Δ,i,p,h=>by
  cases h with
  | zero=>rw[if_pos sS];exact At.zero
  | succ h=>
   rename_i j q;have:=At.succ (b:=b) (At.wk (Ξ:=Ξ) Δ h);have e:(if j+1<(b::Δ).length then j+1 else j+1+Ξ.length)=(if j<Δ.length then j else j+Ξ.length)+1:=by
    simp only[B4];split <;> split <;> omega
   rw[e];exact this
theorem zO(hk:k≠1/\k≠2)(i:Int)(y:Ty)(a:List Tm)(f b:Int):(U0 k i y a).V0 f b=U0 k i y (a.map fun x=>x.V0 f b):=by
 rw[Tm.upN_eq];simp[W6,wH,FU,J5,hk.1,hk.2,W2]
theorem CM0(a:T)(t:Tm)(f b:Int):(N6 a t).V0 f b=N6 a (t.V0 (f+1) b):=by
 rw[N6,Tm.upN_eq];simp[W6,wH,FU,J5,W2,N6]
theorem EC(i:Int)(f b:Int):(vT i).V0 f b=vT (if f<=i then i+b else i):=by
 rw[vT,Tm.upN_eq];simp[W6,wH,FU,J5,vT]
theorem Jx(t:Tm)(f:Int):t.V0 f 0=t:=by
 induction t using m7 generalizing f with
 | h t ih=>
 rw[Tm.upN_eq];have h1:(if t.o0=1/\f<=t.O0 then t.O0+0 else t.O0)=t.O0:=by split <;> omega
 have h2:(t.B0.map fun x=>x.V0 (f+W2 t.o0) 0)=t.B0:=by
  conv=>rhs;rw[<- List.map_id t.B0]
  exact kW fun x hx=>ih x hx _
 rw[h1,h2];exact Tm.eta t
theorem Ys(t:Tm)(f b c:Int)(hb:0<=b):(t.V0 f b).V0 f c=t.V0 f (b+c):=by
 induction t using m7 generalizing f with
 | h t ih=>
 rw[Tm.upN_eq t f b,Tm.upN_eq,Tm.upN_eq t f (b+c)];rw[Z9,fE,kL,M8,List.map_map];have e1:(if t.o0=1/\f<=(if t.o0=1/\f<=t.O0 then t.O0+b else t.O0) then (if t.o0=1/\f<=t.O0 then t.O0+b else t.O0)+c else (if t.o0=1/\f<=t.O0 then t.O0+b else t.O0))=(if t.o0=1/\f<=t.O0 then t.O0+(b+c) else t.O0):=by
  by_cases h1:t.o0=1/\f<=t.O0;· rw[if_pos h1,if_pos ⟨h1.1,oO⟩,if_pos h1];omega
  ·rw[if_neg h1,if_neg h1,if_neg h1]
 rw[e1]
 congr 1
 exact kW fun x hx=>ih x hx _
theorem SG{Ξ:List T}{F:Q0 Θ->a.V}(h:Dn Θ t a F):∀(Δ:List T) (H5:Θ=Δ++Γ),Dn (Δ++(Ξ++Γ)) (t.V0 Δ.length Ξ.length) a (fun e=>F (cast (congrArg Q0 H5.symm) (Q0.wk Δ Ξ e))):=by
 induction h with
 | var h=>
  intro Δ H5;subst H5;rename_i i a p;have:=Dn.var (At.wk (Ξ:=Ξ) Δ h);rw[EC];have e:(if (Δ.length:Int)<=(i:Nat) then ((i:Nat):Int)+Ξ.length else (i:Nat))=((if i<Δ.length then i else i+Ξ.length:Nat):Int):=by
   split <;> split <;> omega
  rw[e];exact this
 | lam ha h ih=>
  intro Δ H5;subst H5;rw[CM0];have:=ih (_::Δ) rfl;simp only[B4,PG,Int.cast_ofNat_Int]at this;exact .lam ha this
 | app hf hx aS D9=>intro Δ H5;subst H5;rw[nT,zO dD];exact .app (aS Δ rfl) (D9 Δ rfl)
 | zero=>intro Δ H5;subst H5;rw[nT,zO dD];exact .zero
 | succ hx ih=>intro Δ H5;subst H5;rw[nT,zO dD];exact .succ (ih Δ rfl)
 | rc ha hb hf hn eB aS F8=>intro Δ H5;subst H5;rw[zO dD];exact .rc ha (eB Δ rfl) (aS Δ rfl) (F8 Δ rfl)
 | nil=>intro Δ H5;subst H5;rw[nT,zO dD];exact .nil
 | cons hx hl D9 Az=>intro Δ H5;subst H5;rw[nT,zO dD];exact .cons (D9 Δ rfl) (Az Δ rfl)
 | fold ha hb hf hn eB aS F8=>intro Δ H5;subst H5;rw[zO dD];exact .fold ha (eB Δ rfl) (aS Δ rfl) (F8 Δ rfl)
 | pair hx hy D9 rS=>intro Δ H5;subst H5;rw[nT,zO dD];exact .pair (D9 Δ rfl) (rS Δ rfl)
 | fst hx ih=>intro Δ H5;subst H5;rw[nT,zO dD];exact .fst (ih Δ rfl)
 | snd hx ih=>intro Δ H5;subst H5;rw[nT,zO dD];exact .snd (ih Δ rfl)
 | Z4=>intro Δ H5;subst H5;rw[nT,zO dD];exact .Z4
theorem xN{F:Q0 Γ->a.V}(h:Dn Γ t a F)(Ξ:List T):Dn (Ξ++Γ) (t.V0 0 Ξ.length) a (fun e=>F (Q0.drop Ξ e)):=SG (Ξ:=Ξ) h [] rfl
theorem zP(hk:k≠1/\k≠2)(i:Int)(y:Ty)(a:List Tm)(p d:Int)(s:Tm):(U0 k i y a).Y1 p d s=U0 k i y (a.map fun x=>x.Y1 p d s):=by
 rw[Tm.inN_eq];simp[W6,wH,FU,J5,hk.1,hk.2,W2]
theorem CN0(a:T)(t:Tm)(p d:Int)(s:Tm):(N6 a t).Y1 p d s=N6 a (t.Y1 p (d+1) s):=by
 rw[N6,Tm.inN_eq];simp[W6,wH,FU,J5,W2,N6]
theorem BA(i p d:Int)(s:Tm):(vT i).Y1 p d s=if i=p+d then s.V0 0 (p+d) else if p+d<i then vT (i - 1) else vT i:=by
 rw[vT,Tm.inN_eq,Z9,if_pos rfl];rfl
theorem gH0{Γ:List T}{s:T}{x:Tm}{X:Q0 Γ->s.V}(hx:Dn Γ x s X){a:T}:∀(Δ:List T) {i:Nat} {p:Q0 (Δ++s::Γ)->a.V},At (Δ++s::Γ) i a p->Dn (Δ++Γ) ((vT i).Y1 0 Δ.length x) a (fun e=>p (Q0.ins X Δ e))
 | [],i,p,h=>by
  rw[BA];cases h with
  | zero=>
   rw[if_pos sS];simp only[fC,Int.natCast_zero,sE,Jx];exact hx
  | succ h=>
   rename_i j q;rw[if_neg (by simp only[fC];omega),if_pos (by simp only[fC];omega)];have e:(((j+1:Nat):Int) - 1)=(j:Nat):=oO;rw[e];exact .var h
 | b::Δ,i,p,h=>by
  cases h with
  | zero=>
   rw[BA,if_neg (by simp only[B4];omega),if_neg (by simp only[B4];omega)];exact .var .zero
  | succ h=>
   rename_i j q;have ih:=xN (gH0 hx Δ h) [b];have e:(vT ((j+1:Nat):Int)).Y1 0 ((b::Δ).length:Nat) x=((vT (j:Nat)).Y1 0 (Δ.length:Nat) x).V0 0 ([b]:List T).length:=by
    rw[BA,BA];simp only[B4,fC];by_cases h1:j=Δ.length
    ·rw[if_pos oO,if_pos oO,Ys _ _ _ _ oO]
     congr 1
    ·by_cases h2:Δ.length<j
     ·rw[if_neg oO,if_pos oO,if_neg oO,if_pos oO,EC,if_pos oO]
      congr 1;omega
     ·rw[if_neg oO,if_neg oO,if_neg oO,if_neg oO,EC,if_pos oO]
      congr 1
   rw[e];exact ih
theorem Yt{X:Q0 Γ->s.V}(hx:Dn Γ x s X){F:Q0 Θ->a.V}(h:Dn Θ t a F):
  ∀(Δ:List T) (H5:Θ=Δ++s::Γ),Dn (Δ++Γ) (t.Y1 0 Δ.length x) a (fun e=>F (cast (congrArg Q0 H5.symm) (Q0.ins X Δ e))):=by
 induction h with
 | var h=>intro Δ H5;subst H5;exact gH0 hx Δ h
 | lam ha h ih=>
  intro Δ H5;subst H5;rw[CN0];have:=ih (_::Δ) rfl;simp only[B4,PG,Int.cast_ofNat_Int]at this;exact .lam ha this
 | app hf hx aS D9=>intro Δ H5;subst H5;rw[nT,zP dD];exact .app (aS Δ rfl) (D9 Δ rfl)
 | zero=>intro Δ H5;subst H5;rw[nT,zP dD];exact .zero
 | succ hx ih=>intro Δ H5;subst H5;rw[nT,zP dD];exact .succ (ih Δ rfl)
 | rc ha hb hf hn eB aS F8=>intro Δ H5;subst H5;rw[zP dD];exact .rc ha (eB Δ rfl) (aS Δ rfl) (F8 Δ rfl)
 | nil=>intro Δ H5;subst H5;rw[nT,zP dD];exact .nil
 | cons hx hl D9 Az=>intro Δ H5;subst H5;rw[nT,zP dD];exact .cons (D9 Δ rfl) (Az Δ rfl)
 | fold ha hb hf hn eB aS F8=>intro Δ H5;subst H5;rw[zP dD];exact .fold ha (eB Δ rfl) (aS Δ rfl) (F8 Δ rfl)
 | pair hx hy D9 rS=>intro Δ H5;subst H5;rw[nT,zP dD];exact .pair (D9 Δ rfl) (rS Δ rfl)
 | fst hx ih=>intro Δ H5;subst H5;rw[nT,zP dD];exact .fst (ih Δ rfl)
 | snd hx ih=>intro Δ H5;subst H5;rw[nT,zP dD];exact .snd (ih Δ rfl)
 | Z4=>intro Δ H5;subst H5;rw[nT,zP dD];exact .Z4
theorem CO0{X:Q0 Γ->s.V}{F:Q0 (s::Γ)->a.V}(hx:Dn Γ x s X)(ht:Dn (s::Γ) t a F):Dn Γ (t.Y1 0 0 x) a (fun e=>F (X e,e)):=Yt hx ht [] rfl
theorem Dn.eq{F G:Q0 Γ->a.V}(h:Dn Γ t a F)(e:∀ρ,F ρ=G ρ):Dn Γ t a G:=by
 have:F=G:=funext e;rw[<- this];exact h
end
section
namespace Tm
def T3:Tm->Int->Tm × Bool × Bool
 | .mk k i ty a,room=>
  match (U0 k i ty a).rootN with
  | true=>if room<(U0 k i ty a).growthN then (M6,true,false) else ((U0 k i ty a).reducedN,true,true)
  | false=>match nexts a room with
   | (l,true,f)=>(.mk k i ty l,true,f)
   | (_,false,_)=>(.mk k i ty a,false,true)
where
 nexts:List Tm->Int->List Tm × Bool × Bool
  | [],_=>([],false,true)
  | x::r,room=>match x.T3 room with
   | (y,true,f)=>(y::r,true,f)
   | (_,false,_)=>match nexts r room with
    | (l,b,f)=>(x::l,b,f)
def loopN:Nat->Tm->Int->Tm × Int × Int
 | 0,t,n=>match t.T3 (4096 - t.A0) with
  | (_,false,_)=>(t,n,0)
  | (_,true,_)=>(M6,0,5)
 | s+1,t,n=>match t.T3 (4096 - t.A0) with
  | (_,false,_)=>(t,n,0)
  | (_,true,false)=>(M6,0,4)
  | (x,true,true)=>loopN s x (n+1)
end Tm
end
section
theorem Tm.nextN_root(t:Tm)(room:Int)(h:t.rootN=true):t.T3 room=if room<t.growthN then (M6,true,false) else (t.reducedN,true,true):=by
 cases t;rw[T3,h]
theorem Tm.nextN_args(t:Tm)(room:Int)(h:t.rootN=false):t.T3 room=match T3.nexts t.B0 room with
  | (l,true,f)=>(.mk t.o0 t.O0 t.I0 l,true,f)
  | (_,false,_)=>(t,false,true):=by
 cases t;rw[T3,h];rfl
theorem Tm.nexts_found{room:Int}{x y:Tm}{f:Bool}(hx:x.T3 room=(y,true,f))(rest:List Tm):∀done:List Tm,(T3.nexts done room).2.1=false->T3.nexts (done++x::rest) room=(done++y::rest,true,f)
 | [],_=>by simp[T3.nexts,hx]
 | a::r,h=>by
  simp only[T3.nexts]at h;simp only[R6,T3.nexts];rcases ha:a.T3 room with⟨z,b,g⟩;rw[ha]at h;cases b with
  | true=>simp at h
  | false=>
   simp only at h ⊢;have hr:(T3.nexts r room).2.1=false:=by
    rcases hq:T3.nexts r room with⟨u,v,w⟩;rw[hq]at h;exact h
   rw[nexts_found hx rest r hr]
theorem Tm.nexts_none{room:Int}{x:Tm}(hx:(x.T3 room).2.1=false):∀done:List Tm,(T3.nexts done room).2.1=false->(T3.nexts (done++[x]) room).2.1=false
 | [],_=>by
  rcases hq:x.T3 room with⟨u,v,w⟩;rw[hq]at hx;simp only at hx;subst hx;simp[T3.nexts,hq]
 | a::r,h=>by
  simp only[T3.nexts]at h;simp only[R6,T3.nexts];rcases ha:a.T3 room with⟨z,b,g⟩;rw[ha]at h;cases b with
  | true=>simp at h
  | false=>
   simp only at h ⊢;have hr:(T3.nexts r room).2.1=false:=by
    rcases hq:T3.nexts r room with⟨u,v,w⟩;rw[hq]at h;exact h
   have:=nexts_none hx r hr;rcases hq:T3.nexts (r++[x]) room with⟨u,v,w⟩;rw[hq]at this;exact this
theorem VG(b:Nat)(ys:List (List DV))(k:IntKind)(n:Int):dK b ys (.v (.K0 (.int k n))) = .v (.K0 (.int k n)):=rfl
theorem VH(b:Nat)(ys:List (List DV))(n:Int):dK b ys (.v (j0 n)) = .v (j0 n):=rfl
theorem VI(b:Nat)(ys:List (List DV))(n:Bool):dK b ys (.v (.K0 (.bool n))) = .v (.K0 (.bool n)):=rfl
theorem Vs(b:Nat)(ys:List (List DV))(n:Bool):dK b ys (.v (O2 n)) = .v (O2 n):=rfl
theorem WK(b:Nat)(ys els:List (List DV)):dK b ys (.v (.sl els)) = .v (.sl els):=rfl
theorem Wk(b:Nat)(ys:List (List DV))(cs:List DV):dK b ys (.v (.agg cs)) = .v (.agg cs):=rfl
theorem Wl(b:Nat)(ys:List (List DV))(cs:List DV):dK b ys (.v (.H1 cs)) = .v (.H1 cs):=rfl
theorem eH0(b:Nat)(ys:List (List DV))(t:Tm):dK b ys (.v t.dv) = .v t.dv:=rfl
theorem Wm(b:Nat)(ys:List (List DV))(k o:Nat):dK b ys (.loc k o) = .loc k o:=rfl
theorem WL(b:Nat)(ys els:List (List DV))(k o:Nat):dK b ys (.dp els k o) = .dp els k o:=rfl
theorem Wn(b:Nat)(ys els:List (List DV))(k:Nat):dK b ys (.own k els) = .own k els:=rfl
theorem Wo(b:Nat)(ys:List (List DV))(p:Option Addr):dK b ys (.v (.K0 (.pointer p))) = .v (.K0 (.pointer p)):=rfl
theorem WM{n cap:Nat}(h1:n=ys.length)(h2:n<=cap):dK b ys (.v (.K0 (.slice (some ⟨b,0,none⟩) n cap))) = .v (.sl ys):=by
 show (if b=b/\n=ys.length/\n<=cap then _ else _)=_;rw[if_pos ⟨rfl,h1,h2⟩]
theorem vO0(t:Tm)(room:Int)(ht:t.shape=true)(hi:t.idx 549755813888)(hc:t.A0<=1048576):cU 387 [t.dv,j0 room] (.H1 [(t.T3 room).1.dv,O2 (t.T3 room).2.1,O2 (t.T3 room).2.2]):=by
 induction t using m7 with
 | h t ih=>
 have hs:=(Tm.shape_node ht).2.2.2.2;have kA:=((Tm.idx_eq t _).1 hi).2;refine H2 Tryz.func387 ?_;intro X hP G0 hf X0 hn hR K1 G1;have hlen:=kM (G1 t.dv sS);refine N1 H0 (M0 (y10 t ht)) ?_;by_cases dW:t.rootN=true
 ·refine N1 @dW (M0 (rc0 t ht dW hc)) ?_;by_cases hg:room<t.growthN;· exact P4 (j3 @hg (Tm.nextN_root t room dW) @M6.eq_1) H0
  ·exact P4 (j2 @hg (Tm.nextN_root t room dW)) (M0 (oh0 t ht dW hi hc))
 have hr:t.rootN=false:=by simpa using dW
 have N4:=V6 t;refine U1 @hr ?_;refine Q1 ?_;refine G2 [] tT (dB (t.B0) (fun done=>(Tm.T3.nexts done room).2.1=false) (fun done rest=>[sV 1 (j0 room),sV 25 (j0 done.length),sV 24 (j0 t.B0.length),sV 23 (.sl (t.B0.map E3)),sL 4 [.v (j0 0),.v (j0 0),.v (j0 0),.own 0 [],.own 0 []],sP 4,sL 2 (gG t),sP 2]) (rfl) ?_ ?_)
 ·intro done x rest hL B3 hI Z1;have I1:=E5 hL;have U2:=uE B3;have aF:=L9 U2;refine K5 ?_;refine N1 @B3 (M0 (ih x U2 (hs x U2) (kA x U2) oO)) ?_;by_cases B6:(x.T3 room).2.1=true
  ·refine R4 @B6 ?_;refine Kl @B6 ?_;refine K2 ?_;refine Q1 ?_;refine O9 [42] fun K hK=>?_;simp[go_sem,hP,G0,hn];refine cg0 (E:=5) (ys:=t.B0.map E3) sG sG (by simp[go_sem,hP];rfl) dD (by simp[go_sem,hP]) nN (by simp[mM]) (by simp;omega) (by simp[M5];omega) (by rfl) ?_;intro b cap bL M7 hw0;have BS:(C4 (t.B0.map E3)).length=t.B0.length * 5:=by rw[sK (E:=5) (by simp[mM])];simp
   simp[go_sem,hP,G0,hn];refine K4 ?_;clear hK K;have Tp:t.B0.length<=M5:=by simp[M5];omega
   have cV:done.length<t.B0.length:=I1;refine U6 (j4 @BS @cV @Tp @I1) fun K hK=>?_;refine K4 ?_;clear hK K;have BY:=Xr (ys:=t.B0.map E3) (E:=5) (by simp[mM]) (i:=done.length) (by simpa using I1) (z:=(x.T3 room).1.E0) (mM _);have hz:(x.T3 room).1.E0.map b7=[b7 (j0 (x.T3 room).1.o0),b7 (j0 (x.T3 room).1.O0),b7 (j0 (x.T3 room).1.I0.o0),b7 (.sl ((x.T3 room).1.I0.B0.map P1)),b7 (.sl ((x.T3 room).1.B0.map E3))]:=by rw[O3];rfl
   rw[hz]at BY;obtain⟨L',DJ⟩:∃L',L' = done++(x.T3 room).1::rest:=⟨_,rfl⟩;have KF:(t.B0.map E3).set done.length (x.T3 room).1.E0=L'.map E3:=by rw[DJ,hL];simp
   rw[BY,KF];have kD:t.B0.length=(L'.map E3).length:=by rw[DJ,hL];simp
   have AB:L'.length<=2147483648:=by
    have:=congrArg jh0 hL;rw[DJ];simp at this ⊢;omega
   have ag0:t.B0.length<=cap:=by simpa using bL
   have Aw:x.T3 room=((x.T3 room).1,true,(x.T3 room).2.2):=by rw[<- B6]
   have hN:t.T3 room=(U0 t.o0 t.O0 t.I0 L',true,(x.T3 room).2.2):=by
    rw[Tm.nextN_args t room hr,hL,Tm.nexts_found Aw rest done hI,DJ]
   refine WI (b:=b) (E:=5) (ys:=L'.map E3) sG (fun e he=>?_) (by simp[M5];omega) hw0 ?_;· obtain⟨q,_,rfl⟩:=F9.1 he;exact mM q
   simp[go_sem,xV,EI,vE,VG,VH,VI,Vs,WK,Wk,Wl,eH0,Wm,WL,Wn,Wo,WM kD ag0];exact P4 @hN H0
  ·have T4:(x.T3 room).2.1=false:=by simpa using B6
   refine W3 (wr []) tT @T4 (Z1 (Tm.nexts_none T4 done hI))
 ·intro hI;have hN:t.T3 room=(t,false,true):=by
   rw[Tm.nextN_args t room hr];rcases hq:Tm.T3.nexts t.B0 room with⟨u,v,w⟩;rw[hq]at hI;simp only at hI;subst hI;rfl
  refine T7 ?_;exact P4 @hN H0
def Tm.runOK:Nat->Tm->Bool
 | 0,t=>decide (t.L4=0)&&t.leastN 549755813888
 | s+1,t=>decide (t.L4=0)&&t.leastN 549755813888&&match t.T3 (4096 - t.A0) with
  | (x,true,true)=>runOK s x
  | _=>true
theorem Tm.idx_of(t:Tm)(m:Int)(h:t.shape=true)(hm:t.leastN m=true):t.idx m:=by
 induction t using m7 with
 | h t ih=>
 have hs:=Tm.shape_node h;rw[leastN_eq,uH]at hm;have key:∀l:List Tm,leastN.leasts l m=true->∀a∈l,a.leastN m=true:=by
  intro l
  induction l with
  | nil=>simp
  | cons a r l6=>
   intro hl x hx;simp only[leastN.leasts,uH]at hl;rcases u5.1 hx with rfl|hx;· exact hl.1
   ·exact l6 hl.2 x hx
 rw[idx_eq];refine⟨⟨hs.2.1,?_⟩,fun a ha=>ih a ha (hs.2.2.2.2 a ha) (key _ hm.2 a ha)⟩;have:=hm.1;simp at this;exact this
theorem Tm.runOK_head{n:Nat}(h:t.runOK n=true):t.L4=0/\t.leastN 549755813888=true:=by
 cases n with
 | zero=>simpa [runOK] using h
 | succ n=>simp only[runOK,uH,decide_eq_true_eq]at h;exact h.1
theorem Tm.runOK_next{n:Nat}(h:t.runOK (n+1)=true)(hx:t.T3 (4096 - t.A0)=(x,true,true)):x.runOK n=true:=by
 simp only[runOK,uH]at h;rw[hx]at h;exact h.2
theorem Tm.loopN_end{k:Nat}(h:(t.T3 (4096 - t.A0)).2.1=false):loopN k t n=(t,n,0):=by
 rcases hq:t.T3 (4096 - t.A0) with⟨u,v,w⟩;rw[hq]at h;simp only at h;subst h;cases k <;> simp[loopN,hq]
theorem Tm.loopN_zero(h:(t.T3 (4096 - t.A0)).2.1=true):loopN 0 t n=(M6,0,5):=by
 rcases hq:t.T3 (4096 - t.A0) with⟨u,v,w⟩;rw[hq]at h;simp only at h;subst h;simp[loopN,hq]
theorem Tm.loopN_big{k:Nat}(h:(t.T3 (4096 - t.A0)).2.1=true)(h2:(t.T3 (4096 - t.A0)).2.2=false):loopN (k+1) t n=(M6,0,4):=by
 rcases hq:t.T3 (4096 - t.A0) with⟨u,v,w⟩;rw[hq]at h h2;simp only at h h2;subst h h2;simp[loopN,hq]
theorem Tm.loopN_on{k:Nat}(h:(t.T3 (4096 - t.A0)).2.1=true)(h2:(t.T3 (4096 - t.A0)).2.2=true):loopN (k+1) t n=loopN k (t.T3 (4096 - t.A0)).1 (n+1):=by
 rcases hq:t.T3 (4096 - t.A0) with⟨u,v,w⟩;rw[hq]at h h2;simp only at h h2;subst h h2;simp[loopN,hq]
theorem dP0(t:Tm)(n:Nat)(ht:t.tys)(hm:t.leastN 536870912=true)(dG:n<=65536)(O7:t.runOK n=true):cU 367 [t.dv,j0 n] (.H1 [(Tm.loopN n t 0).1.dv,j0 (Tm.loopN n t 0).2.1,j0 (Tm.loopN n t 0).2.2]):=by
 have hk:=(Tm.runOK_head O7).1;have hck:=(Tm.checkN_iff t).1 hk;refine A3 Tryz.func367 fun X zX=>?_;refine N1 H0 (M0 (IB t ht oO)) ?_;have e1:¬(n:Int)<0:=oO;have e2:¬65536<(n:Int):=oO;refine V3 (j4 @hk @e1 @e2 @hm) (M0 (WJ t 536870912)) ?_;refine Q1 ?_;refine G2 [] tT (mQ (fun x:Tm × Nat=>x.2<=n/\Tm.loopN x.2 x.1 ((n:Int) - x.2)=Tm.loopN n t 0/\x.1.runOK x.2=true) (fun x:Tm × Nat=>[sV 1 (j0 n),sV 8 (j0 ((n:Int) - x.2)),sL 4 [.v (j0 0),.v (j0 0),.v (j0 0),.own 0 [],.own 0 []],sP 4,sL 2 (gG x.1),sP 2]) (fun x:Tm × Nat=>x.2) (t,n) (⟨I5 _,sS,O7⟩) ?_);rintro⟨u,k⟩ ⟨Dx,hl,hu⟩ T8;simp only at Dx hl hu ⊢;obtain⟨u1,u2⟩:=Tm.runOK_head hu;have uck:=(Tm.checkN_iff u).1 u1;have uix:=Tm.idx_of u _ uck.1 u2;refine N1 H0 (P3 (lR u oO) (vO0 u (4096 - u.A0) uck.1 uix oO)) ?_;by_cases aG:(u.T3 (4096 - u.A0)).2.1=true
 ·cases k with
  | zero=>
   rw[Tm.loopN_zero aG]at hl;exact P4 (j3 @aG (hl).symm @M6.eq_1) H0
  | succ k=>
   have X1:¬(n:Int) - ((k+1:Nat):Int)=n:=oO;by_cases hg:(u.T3 (4096 - u.A0)).2.2=true
   ·rw[Tm.loopN_on aG hg]at hl;have HO:u.T3 (4096 - u.A0)=((u.T3 (4096 - u.A0)).1,true,true):=Prod.ext rfl (Prod.ext aG hg);have hrx:=Tm.runOK_next hu HO;refine W3 (wr []) tT (j3 @aG @hg @X1) (T8 ((u.T3 (4096 - u.A0)).1,k) ⟨oO,by rw[<- hl];congr 1;simp only;omega,hrx⟩ (by simp only;omega))
   ·have dY:(u.T3 (4096 - u.A0)).2.2=false:=by simpa using hg
    rw[Tm.loopN_big aG dY]at hl;exact P4 (j5 @aG @dY @X1 (hl).symm @M6.eq_1) H0
 ·have ig0:(u.T3 (4096 - u.A0)).2.1=false:=by simpa using aG
  rw[Tm.loopN_end ig0]at hl;exact P4 (j2 @ig0 (hl).symm) (M0 (Lx u))
theorem LP{F:Q0 Γ->a.V}(h:Dn Γ t a F)(hr:t.rootN=true):Dn Γ t.reducedN a F:=by
 cases h with
 | app hf hx=>
  have hk:((nT 3 _).argN 0).o0=2:=of_decide_eq_true hr;cases hf with
  | lam ha hb=>exact CO0 hx hb
  | var h=>simp[Tm.argN,J5,W6,vT,nT,N6,Tm.rootN]at hk
  | app h1 h2=>simp[Tm.argN,J5,W6,vT,nT,N6,Tm.rootN]at hk
  | rc h1 h2 h3 h4=>simp[Tm.argN,J5,W6,vT,nT,N6,Tm.rootN]at hk
  | fold h1 h2 h3 h4=>simp[Tm.argN,J5,W6,vT,nT,N6,Tm.rootN]at hk
  | fst h1=>simp[Tm.argN,J5,W6,vT,nT,N6,Tm.rootN]at hk
  | snd h1=>simp[Tm.argN,J5,W6,vT,nT,N6,Tm.rootN]at hk
 | rc ha hb hf hn=>
  rename_i b f n B F N;have hk:n.o0=4\/n.o0=5:=by
   have:(decide (n.o0=4)||decide (n.o0=5))=true:=hr;rcases aY0.1 this with h|h;· exact .inl (of_decide_eq_true h)
   ·exact .inr (of_decide_eq_true h)
  cases hn with
  | zero=>exact hb
  | succ hx=>exact .app (.app hf hx) (.rc ha hb hf hx)
  | var h=>simp[Tm.argN,J5,W6,vT,nT,N6,Tm.rootN]at hk
  | app h1 h2=>simp[Tm.argN,J5,W6,vT,nT,N6,Tm.rootN]at hk
  | rc h1 h2 h3 h4=>simp[Tm.argN,J5,W6,vT,nT,N6,Tm.rootN]at hk
  | fold h1 h2 h3 h4=>simp[Tm.argN,J5,W6,vT,nT,N6,Tm.rootN]at hk
  | fst h1=>simp[Tm.argN,J5,W6,vT,nT,N6,Tm.rootN]at hk
  | snd h1=>simp[Tm.argN,J5,W6,vT,nT,N6,Tm.rootN]at hk
 | fold ha hb hf hn=>
  rename_i b f n B F N;have hk:n.o0=7\/n.o0=8:=by
   have:(decide (n.o0=7)||decide (n.o0=8))=true:=hr;rcases aY0.1 this with h|h;· exact .inl (of_decide_eq_true h)
   ·exact .inr (of_decide_eq_true h)
  cases hn with
  | nil=>exact hb
  | cons hx hl=>exact .app (.app (.app hf hx) hl) (.fold ha hb hf hl)
  | var h=>simp[Tm.argN,J5,W6,vT,nT,N6,Tm.rootN]at hk
  | app h1 h2=>simp[Tm.argN,J5,W6,vT,nT,N6,Tm.rootN]at hk
  | rc h1 h2 h3 h4=>simp[Tm.argN,J5,W6,vT,nT,N6,Tm.rootN]at hk
  | fold h1 h2 h3 h4=>simp[Tm.argN,J5,W6,vT,nT,N6,Tm.rootN]at hk
  | fst h1=>simp[Tm.argN,J5,W6,vT,nT,N6,Tm.rootN]at hk
  | snd h1=>simp[Tm.argN,J5,W6,vT,nT,N6,Tm.rootN]at hk
 | fst hx=>
  rename_i b x X;have hk:x.o0=10:=of_decide_eq_true hr;cases hx with
  | pair h1 h2=>exact h1
  | var h=>simp[Tm.argN,J5,W6,vT,nT,N6,Tm.rootN]at hk
  | app h1 h2=>simp[Tm.argN,J5,W6,vT,nT,N6,Tm.rootN]at hk
  | rc h1 h2 h3 h4=>simp[Tm.argN,J5,W6,vT,nT,N6,Tm.rootN]at hk
  | fold h1 h2 h3 h4=>simp[Tm.argN,J5,W6,vT,nT,N6,Tm.rootN]at hk
  | fst h1=>simp[Tm.argN,J5,W6,vT,nT,N6,Tm.rootN]at hk
  | snd h1=>simp[Tm.argN,J5,W6,vT,nT,N6,Tm.rootN]at hk
 | snd hx=>
  rename_i b x X;have hk:x.o0=10:=of_decide_eq_true hr;cases hx with
  | pair h1 h2=>exact h2
  | var h=>simp[Tm.argN,J5,W6,vT,nT,N6,Tm.rootN]at hk
  | app h1 h2=>simp[Tm.argN,J5,W6,vT,nT,N6,Tm.rootN]at hk
  | rc h1 h2 h3 h4=>simp[Tm.argN,J5,W6,vT,nT,N6,Tm.rootN]at hk
  | fold h1 h2 h3 h4=>simp[Tm.argN,J5,W6,vT,nT,N6,Tm.rootN]at hk
  | fst h1=>simp[Tm.argN,J5,W6,vT,nT,N6,Tm.rootN]at hk
  | snd h1=>simp[Tm.argN,J5,W6,vT,nT,N6,Tm.rootN]at hk
 | var h=>simp[Tm.argN,J5,W6,vT,nT,N6,Tm.rootN]at hr
 | lam ha hb=>simp[Tm.argN,J5,W6,vT,nT,N6,Tm.rootN]at hr
 | zero=>simp[Tm.argN,J5,W6,vT,nT,N6,Tm.rootN]at hr
 | succ h1=>simp[Tm.argN,J5,W6,vT,nT,N6,Tm.rootN]at hr
 | nil=>simp[Tm.argN,J5,W6,vT,nT,N6,Tm.rootN]at hr
 | cons h1 h2=>simp[Tm.argN,J5,W6,vT,nT,N6,Tm.rootN]at hr
 | pair h1 h2=>simp[Tm.argN,J5,W6,vT,nT,N6,Tm.rootN]at hr
 | Z4=>simp[Tm.argN,J5,W6,vT,nT,N6,Tm.rootN]at hr
theorem Tm.next_root(h:t.rootN=true):t.T3 room=if room<t.growthN then (M6,true,false) else (t.reducedN,true,true):=by
 cases t;rw[T3,h]
theorem Tm.next_no(h:t.rootN=false):t.T3 room=match T3.nexts t.B0 room with
  | (l,true,f)=>(U0 t.o0 t.O0 t.I0 l,true,f)
  | (_,false,_)=>(t,false,true):=by
 cases t;rw[T3,h];rfl
theorem Tm.nexts_some{l:List Tm}{m:List Tm}(h:T3.nexts l room=(m,true,true)):∃l1 x y l2,l=l1++x::l2/\m=l1++y::l2/\x.T3 room=(y,true,true):=by
 induction l generalizing m with
 | nil=>simp[T3.nexts]at h
 | cons a r ih=>
  simp only[T3.nexts]at h;rcases ha:a.T3 room with⟨y,b,f⟩;rw[ha]at h;cases b with
  | true=>
   simp only[uD,true_and]at h;obtain⟨rfl,rfl⟩:=h;exact⟨[],a,y,r,rfl,rfl,ha⟩
  | false=>
   rcases hr:T3.nexts r room with⟨m',b,f'⟩;rw[hr]at h;simp only[uD]at h;obtain⟨rfl,rfl,rfl⟩:=h;obtain⟨l1,x,y',l2,e1,e2,e3⟩:=ih hr;exact⟨a::l1,x,y',l2,by rw[e1];rfl,by rw[e2];rfl,e3⟩
theorem Tm.nexts_noN{l:List Tm}(h:(T3.nexts l room).2.1=false):∀x∈l,(x.T3 room).2.1=false:=by
 induction l with
 | nil=>intro x hx;cases hx
 | cons a r ih=>
  simp only[T3.nexts]at h;rcases ha:a.T3 room with⟨y,b,f⟩;rw[ha]at h;cases b with
  | true=>simp at h
  | false=>
   rcases hr:T3.nexts r room with⟨m',b,f'⟩;rw[hr]at h;simp only at h;subst h;intro x hx;rcases u5.1 hx with rfl|hx;· rw[ha]
   ·exact ih (by rw[hr]) x hx
theorem Tm.next_split(h:t.T3 room=(x,true,true)):(t.rootN=true/\x=t.reducedN/\t.growthN<=room)\/(t.rootN=false/\∃l1 u v l2,t.B0=l1++u::l2/\x=U0 t.o0 t.O0 t.I0 (l1++v::l2)/\u.T3 room=(v,true,true)):=by
 cases hr:t.rootN with
 | true=>
  rw[next_root hr]at h;split at h;· simp at h
  ·rename_i I1;simp only[uD,and_true]at h;exact .inl ⟨rfl,h.symm,oO⟩
 | false=>
  rw[next_no hr]at h;rcases hn:T3.nexts t.B0 room with⟨m,b,f⟩;rw[hn]at h;cases b with
  | false=>simp at h
  | true=>
   simp only[uD,true_and]at h;obtain⟨rfl,rfl⟩:=h;obtain⟨l1,u,v,l2,e1,e2,e3⟩:=nexts_some hn;exact .inr ⟨rfl,l1,u,v,l2,e1,by rw[e2],e3⟩
theorem Tm.next_none(h:(t.T3 room).2.1=false):t.rootN=false/\∀x∈t.B0,(x.T3 room).2.1=false:=by
 cases hr:t.rootN with
 | true=>
  rw[next_root hr]at h;split at h <;> simp at h
 | false=>
  rw[next_no hr]at h;rcases hn:T3.nexts t.B0 room with⟨m,b,f⟩;rw[hn]at h;cases b with
  | true=>simp at h
  | false=>exact⟨rfl,nexts_noN (by rw[hn])⟩
theorem MR{a:Tm}(h:[a]=l1++u::l2):l1=[]/\u=a/\l2=[]:=by
 cases l1 with
 | nil=>simp at h;exact⟨rfl,h.1.symm,h.2⟩
 | cons b r=>simp at h
theorem Sr{a b:Tm}(h:[a,b]=l1++u::l2):(l1=[]/\u=a/\l2=[b])\/(l1=[a]/\u=b/\l2=[]):=by
 cases l1 with
 | nil=>simp at h;exact .inl ⟨rfl,h.1.symm,h.2.symm⟩
 | cons c r=>
  simp at h;obtain⟨rfl,h⟩:=h;obtain⟨rfl,h2,h3⟩:=MR h;exact .inr ⟨rfl,h2,h3⟩
theorem f70{a b c:Tm}(h:[a,b,c]=l1++u::l2):(l1=[]/\u=a/\l2=[b,c])\/(l1=[a]/\u=b/\l2=[c])\/(l1=[a,b]/\u=c/\l2=[]):=by
 cases l1 with
 | nil=>simp at h;exact .inl ⟨rfl,h.1.symm,h.2.symm⟩
 | cons d r=>
  simp at h;obtain⟨rfl,h⟩:=h;rcases Sr h with⟨rfl,h2,h3⟩|⟨rfl,h2,h3⟩;· exact .inr (.inl ⟨rfl,h2,h3⟩)
  ·exact .inr (.inr ⟨rfl,h2,h3⟩)
theorem QS{p:Prop}(h:t.T3 room=(x,true,true))(h1:t.rootN=false)(h2:t.B0=[]):p:=by
 rcases Tm.next_split h with⟨hr,-,-⟩|⟨-,l1,u,v,l2,e1,-,-⟩;· rw[h1]at hr;cases hr
 ·rw[h2]at e1;cases l1 <;> simp at e1
theorem y60{F:Q0 Γ->a.V}(h:Dn Γ t a F):∀{room:Int} {x:Tm},t.T3 room=(x,true,true)->Dn Γ x a F:=by
 induction h with
 | var h=>intro room x hx;exact QS hx rfl rfl
 | zero=>intro room x hx;exact QS hx rfl rfl
 | nil=>intro room x hx;exact QS hx rfl rfl
 | Z4=>intro room x hx;exact QS hx rfl rfl
 | lam ha hb ih=>
  intro room x hx;rcases Tm.next_split hx with⟨hr,-,-⟩|⟨-,l1,u,v,l2,e1,rfl,e3⟩;· simp[Tm.argN,J5,W6,vT,nT,N6,Tm.rootN]at hr
  ·obtain⟨rfl,rfl,rfl⟩:=MR e1;exact .lam ha (ih e3)
 | app hf hx aS D9=>
  intro room x hn;rcases Tm.next_split hn with⟨hr,rfl,-⟩|⟨-,l1,u,v,l2,e1,rfl,e3⟩;· exact LP (.app hf hx) hr
  ·rcases Sr e1 with⟨rfl,rfl,rfl⟩|⟨rfl,rfl,rfl⟩;· exact .app (aS e3) hx
   ·exact .app hf (D9 e3)
 | succ hx ih=>
  intro room x hn;rcases Tm.next_split hn with⟨hr,-,-⟩|⟨-,l1,u,v,l2,e1,rfl,e3⟩;· simp[Tm.argN,J5,W6,vT,nT,N6,Tm.rootN]at hr
  ·obtain⟨rfl,rfl,rfl⟩:=MR e1;exact .succ (ih e3)
 | rc ha hb hf hn eB aS F8=>
  intro room x hx;rcases Tm.next_split hx with⟨hr,rfl,-⟩|⟨-,l1,u,v,l2,e1,rfl,e3⟩;· exact LP (.rc ha hb hf hn) hr
  ·rcases f70 e1 with⟨rfl,rfl,rfl⟩|⟨rfl,rfl,rfl⟩|⟨rfl,rfl,rfl⟩;· exact .rc ha (eB e3) hf hn
   ·exact .rc ha hb (aS e3) hn
   ·exact .rc ha hb hf (F8 e3)
 | cons hx hl D9 Az=>
  intro room x hn;rcases Tm.next_split hn with⟨hr,-,-⟩|⟨-,l1,u,v,l2,e1,rfl,e3⟩;· simp[Tm.argN,J5,W6,vT,nT,N6,Tm.rootN]at hr
  ·rcases Sr e1 with⟨rfl,rfl,rfl⟩|⟨rfl,rfl,rfl⟩;· exact .cons (D9 e3) hl
   ·exact .cons hx (Az e3)
 | fold ha hb hf hn eB aS F8=>
  intro room x hx;rcases Tm.next_split hx with⟨hr,rfl,-⟩|⟨-,l1,u,v,l2,e1,rfl,e3⟩;· exact LP (.fold ha hb hf hn) hr
  ·rcases f70 e1 with⟨rfl,rfl,rfl⟩|⟨rfl,rfl,rfl⟩|⟨rfl,rfl,rfl⟩;· exact .fold ha (eB e3) hf hn
   ·exact .fold ha hb (aS e3) hn
   ·exact .fold ha hb hf (F8 e3)
 | pair hx hy D9 rS=>
  intro room x hn;rcases Tm.next_split hn with⟨hr,-,-⟩|⟨-,l1,u,v,l2,e1,rfl,e3⟩;· simp[Tm.argN,J5,W6,vT,nT,N6,Tm.rootN]at hr
  ·rcases Sr e1 with⟨rfl,rfl,rfl⟩|⟨rfl,rfl,rfl⟩;· exact .pair (D9 e3) hy
   ·exact .pair hx (rS e3)
 | fst hx ih=>
  intro room x hn;rcases Tm.next_split hn with⟨hr,rfl,-⟩|⟨-,l1,u,v,l2,e1,rfl,e3⟩;· exact LP (.fst hx) hr
  ·obtain⟨rfl,rfl,rfl⟩:=MR e1;exact .fst (ih e3)
 | snd hx ih=>
  intro room x hn;rcases Tm.next_split hn with⟨hr,rfl,-⟩|⟨-,l1,u,v,l2,e1,rfl,e3⟩;· exact LP (.snd hx) hr
  ·obtain⟨rfl,rfl,rfl⟩:=MR e1;exact .snd (ih e3)
def T.plain:T->Prop
 | .C0=>True
 | .list=>True
 | .Z4=>True
 | .pair a b=>a.plain/\b.plain
 | .fn _ _=>False
def bB:(a:T)->a.V->Val
 | .C0,n=>dH 1 (gS n) [] []
 | .list,l=>dH 2 0 (Y3 gS l) []
 | .Z4,_=>dH 4 0 [] []
 | .pair a b,p=>dH 3 0 [] [bB a p.1,bB b p.2]
 | .fn _ _,_=>dH 4 0 [] []
def H9(l:List Int):Nat->Nat->Ty × Nat
 | 0,p=>
  if (Y2 l p 7).1=3 then (L0 2 [],(Y2 l p 7).2) else if (Y2 l p 7).1=4 then (L0 5 [],(Y2 l p 7).2) else (L0 1 [],(Y2 l p 7).2)
 | n+1,p=>
  if (Y2 l p 7).1=3 then (L0 2 [],(Y2 l p 7).2) else if (Y2 l p 7).1=4 then (L0 5 [],(Y2 l p 7).2)
  else if (Y2 l p 7).1=5 then (L0 3 [(H9 l n (Y2 l p 7).2).1,(H9 l n (H9 l n (Y2 l p 7).2).2).1],(H9 l n (H9 l n (Y2 l p 7).2).2).2)
  else if (Y2 l p 7).1=6 then (L0 4 [(H9 l n (Y2 l p 7).2).1,(H9 l n (H9 l n (Y2 l p 7).2).2).1],(H9 l n (H9 l n (Y2 l p 7).2).2).2)
  else (L0 1 [],(Y2 l p 7).2)
def gZ(g:List Ty)(i:Nat):Ty:=g.getD (g.length - 1 - i) I4
def bC(g:List Ty)(t:Ty):List Nat:=(oT g.length).filter fun i=>(gZ g i).same t
def Hc(g:List Ty)(t:Ty):Option Nat:=(oT g.length).find? fun i=>decide ((gZ g i).o0=4)&&((gZ g i).arg 1).same t
def rG(l:List Int)(t:Ty)(g:List Ty)(p:Nat):Option Tm × Nat:=
 if (bC g t).length=0 then (none,p)
 else if (Y2 l p 3).1=0 then (none,(Y2 l p 3).2)
 else (some (vT ((bC g t).getD (Y2 l (Y2 l p 3).2 (bC g t).length).1.toNat 0:Nat)),(Y2 l (Y2 l p 3).2 (bC g t).length).2)
def Ah(l:List Int)(p:Nat):Tm × Nat:=(g8 (Y2 l p 3).1.toNat,(Y2 l p 3).2)
def dC(l:List Int)(t:Ty)(g:List Ty)(p:Nat):Tm × Nat:=
 match rG l t g p with
 | (some x,q)=>(x,q)
 | (none,q)=>
  match t with
  | .mk k ts=>
   if k=1 then Ah l q
   else if k=2 then (nT 7 [],q)
   else match ts with
    | [a,b]=>
     if k=3 then (nT 10 [(dC l a g q).1,(dC l b g (dC l a g q).2).1],(dC l b g (dC l a g q).2).2)
     else if k=4 then (U0 2 0 a [(dC l b (g++[a]) q).1],(dC l b (g++[a]) q).2)
     else (nT 13 [],q)
    | _=>(nT 13 [],q)
termination_by SizeOf.sizeOf t
def Df(l:List Int)(F:Ty->List Ty->Nat->Tm × Nat)(t:Ty)(g:List Ty)(q:Nat):Tm × Nat:=
 if t.o0=1 then
  if (Y2 l q 5).1=0 then (nT 5 [(F t g (Y2 l q 5).2).1],(F t g (Y2 l q 5).2).2)
  else if (Y2 l q 5).1=1 then (m9 Y6 [(F t g (Y2 l q 5).2).1,(F t g (F t g (Y2 l q 5).2).2).1],(F t g (F t g (Y2 l q 5).2).2).2)
  else if (Y2 l q 5).1=2 then (m9 Q8 [(F t g (Y2 l q 5).2).1,(F t g (F t g (Y2 l q 5).2).2).1],(F t g (F t g (Y2 l q 5).2).2).2)
  else Ah l (Y2 l q 5).2
 else if t.o0=2 then
  if (Y2 l q 2).1=0 then (nT 8 [(F (L0 1 []) g (Y2 l q 2).2).1,(F t g (F (L0 1 []) g (Y2 l q 2).2).2).1],(F t g (F (L0 1 []) g (Y2 l q 2).2).2).2)
  else (nT 7 [],(Y2 l q 2).2)
 else if t.o0=3 then (nT 10 [(F (t.arg 0) g q).1,(F (t.arg 1) g (F (t.arg 0) g q).2).1],(F (t.arg 1) g (F (t.arg 0) g q).2).2)
 else if t.o0=4 then (U0 2 0 (t.arg 0) [(F (t.arg 1) (g++[t.arg 0]) q).1],(F (t.arg 1) (g++[t.arg 0]) q).2)
 else (nT 13 [],q)
def stepD(l:List Int)(F:Ty->List Ty->Nat->Tm × Nat)(t:Ty)(g:List Ty)(k:Int)(q:Nat):Tm × Nat:=
 if k=0 then
  let s:=H9 l 0 q
  let x:=F t (g++[s.1]) s.2
  let y:=F s.1 g x.2
  (nT 3 [U0 2 0 s.1 [x.1],y.1],y.2)
 else if k=1 then
  let s:=H9 l 0 q
  let x:=F t g s.2
  let y:=F s.1 g x.2
  (nT 11 [nT 10 [x.1,y.1]],y.2)
 else if k=2 then
  let x:=F t (g++[L0 1 [],t]) q
  let y:=F t g x.2
  let z:=Ah l y.2
  (U0 6 0 t [y.1,U0 2 0 (L0 1 []) [U0 2 0 t [x.1]],z.1],z.2)
 else if k=3 then
  let x:=F t (g++[L0 1 [],L0 2 [],t]) q
  let y:=F t g x.2
  let z:=F (L0 2 []) g y.2
  (U0 9 0 t [y.1,U0 2 0 (L0 1 []) [U0 2 0 (L0 2 []) [U0 2 0 t [x.1]]],z.1],z.2)
 else if k=4 then
  let s:=H9 l 0 q
  let x:=F s.1 g s.2
  let y:=F t g x.2
  (nT 12 [nT 10 [x.1,y.1]],y.2)
 else if k=5 then
  match Hc g t with
  | some i=>(nT 3 [vT i,(F ((gZ g i).arg 0) g q).1],(F ((gZ g i).arg 0) g q).2)
  | none=>Df l F t g q
 else Df l F t g q
def l8(l:List Int):Nat->Ty->List Ty->Nat->Tm × Nat
 | 0,t,g,p=>dC l t g p
 | n+1,t,g,p=>
  match rG l t g p with
  | (some x,q)=>(x,q)
  | (none,q)=>stepD l (l8 l n) t g (Y2 l q 8).1 (Y2 l q 8).2
theorem WN(l:List Int)(t:Ty)(g:List Ty)(p:Nat)(ht:t.ok):dC l t g p =
  match rG l t g p with
  | (some x,q)=>(x,q)
  | (none,q)=>
   if t.o0=1 then Ah l q
   else if t.o0=2 then (nT 7 [],q)
   else if t.o0=3 then (nT 10 [(dC l (t.arg 0) g q).1,(dC l (t.arg 1) g (dC l (t.arg 0) g q).2).1],(dC l (t.arg 1) g (dC l (t.arg 0) g q).2).2)
   else if t.o0=4 then (U0 2 0 (t.arg 0) [(dC l (t.arg 1) (g++[t.arg 0]) q).1],(dC l (t.arg 1) (g++[t.arg 0]) q).2)
   else (nT 13 [],q):=by
 rw[dC.eq_def];rcases rG l t g p with⟨_|x,q⟩
 ·cases t with
  | mk k ts=>
   simp only[qM];by_cases h1:k=1;· simp[h1]
   by_cases h2:k=2;· simp[h2]
   simp only[h1,h2,if_false];by_cases Zz:k=3\/k=4
   ·obtain⟨a,b,e,-,-,e0,e1⟩:=Ty.ok_args ht Zz;simp only[yT]at e;subst e;rw[e0,e1];rfl
   ·have h3:k≠3:=fun e=>Zz (.inl e);have h4:k≠4:=fun e=>Zz (.inr e);simp only[h3,h4,if_false]
    match ts with
    | [a,b]=>rfl
    | []=>rfl
    | [_]=>rfl
    | _::_::_::_=>rfl
 ·rfl
theorem GI{a b:Ty}(hk:k=3\/k=4)(ha:a.shape=true)(hb:b.shape=true):(L0 k [a,b]).shape=true:=by
 rcases hk with rfl|rfl <;> simp[wD,wD.shapes,mV,ha,hb]
theorem Qo(l:List Int):∀(n p:Nat),p<=l.length->(H9 l n p).2<=l.length/\(H9 l n p).1.shape=true/\(H9 l n p).1.A0+1<=2 ^ (n+1)
 | 0,p,hp=>by
  have hq:=fH (n:=7) hp;unfold H9;split;· exact⟨hq,rfl,I5 2⟩
  ·split;· exact⟨hq,rfl,I5 2⟩
   ·exact⟨hq,rfl,I5 2⟩
 | n+1,p,hp=>by
  have hq:=fH (n:=7) hp;obtain⟨a1,a2,a3⟩:=Qo l n _ hq;obtain⟨b1,b2,b3⟩:=Qo l n _ a1;have h2:2<=2 ^ (n+1):=Ux (n:=2) dD (show 1<=n+1 from oO);have h3:2 ^ (n+1+1)=2 ^ (n+1) * 2:=Nat.pow_succ ..;have hc:∀(k:Int) (a b:Ty),(L0 k [a,b]).A0=1+(a.A0+(b.A0+0)):=fun _ _ _=>rfl;unfold H9;split;· exact⟨hq,rfl,by show 1+0+1<=_;omega⟩
  split;· exact⟨hq,rfl,by show 1+0+1<=_;omega⟩
  split;· exact⟨b1,GI (.inl rfl) a2 b2,by rw[hc];omega⟩
  split;· exact⟨b1,GI (.inr rfl) a2 b2,by rw[hc];omega⟩
  ·exact⟨hq,rfl,by show 1+0+1<=_;omega⟩
def Ty.small(t:Ty):Prop:=t.shape=true/\t.A0<=15
theorem Ty.small.ok{t:Ty}(h:t.small):t.ok:=⟨h.1,by have:=h.2;omega⟩
theorem Ty.small.arg{t:Ty}(h:t.small)(hk:t.o0=3\/t.o0=4):(t.arg 0).small/\(t.arg 1).small/\(t.arg 0).A0+(t.arg 1).A0<t.A0:=by
 obtain⟨a,b,e,oa,ob,e0,e1⟩:=Ty.ok_args h.ok hk;have hc:t.A0=1+(a.A0+(b.A0+0)):=by rw[sA,e];rfl
 have:=h.2;rw[e0,e1];exact⟨⟨oa.1,oO⟩,⟨ob.1,oO⟩,oO⟩
theorem LF(l:List Int){n:Nat}(hp:p<=l.length)(hn:n<=3):(H9 l n p).2<=l.length/\(H9 l n p).1.small:=by
 obtain⟨h1,h2,h3⟩:=Qo l n p hp;have:2 ^ (n+1)<=2 ^ 4:=Ux dD oO;exact⟨h1,h2,oO⟩
theorem aJ:(L0 1 []).small:=⟨rfl,dD⟩
theorem Bj:(L0 2 []).small:=⟨rfl,dD⟩
theorem Mb(h:i<g.length):gZ g i∈g/\g[g.length - 1 - i]? = some (gZ g i):=by
 have hl:g.length - 1 - i<g.length:=oO;unfold gZ;rw[jO,uB hl];exact⟨vY _,rfl⟩
theorem rg0{t:Ty}(h:i∈bC g t):i<g.length/\gZ g i=t:=by
 simp only[bC,List.mem_filter,DP,y9]at h;exact h
theorem dQ0{t:Ty}(h:Hc g t=some i):i<g.length/\(gZ g i).o0=4/\(gZ g i).arg 1=t:=by
 have h1:=List.find?_some h;have h2:=List.mem_of_find?_eq_some h;simp only[uH,decide_eq_true_eq,y9]at h1;exact⟨DP.1 h2,h1.1,h1.2⟩
theorem Mq{t:Ty}(hp:p<=l.length):(rG l t g p).2<=l.length:=by
 unfold rG;split;· exact hp
 ·split;· exact fH hp
  ·exact fH (fH hp)
theorem VJ{t:Ty}(h:rG l t g p=(some x,q)):∃i:Nat,x=vT i/\i<g.length/\gZ g i=t:=by
 unfold rG at h;split at h;· cases h
 ·rename_i X1;split at h;· cases h
  ·simp only[uD,uC]at h;generalize hk:(Y2 l (Y2 l p 3).2 (bC g t).length).1.toNat=k at h;have hb:=lA (l:=l) (p:=(Y2 l p 3).2) (n:=(bC g t).length) oO;have I1:k<(bC g t).length:=oO;refine⟨(bC g t)[k],?_,rg0 (vY I1)⟩;rw[<- h.1,jO,uB I1,Cj]
theorem fo0:(vT i).shape=true:=by
 unfold vT;rw[Lj];simp[W6,wH,FU,J5,DR.shapes,qZ,cP,C5,Io,qM,yT]
theorem sN{a:List Tm}(h:(a.length:Int)=C5 k)(hk:¬(k=2\/k=6\/k=9))(ha:∀x∈a,x.shape=true):(nT k a).shape=true:=by
 unfold nT;rw[Lj];have hz:cP k (L0 0 [])=true:=by unfold cP;rw[if_neg hk];rfl
 simp only[W6,wH,FU,J5,(je0 a).2 ha,qZ,hz,h];simp
theorem zQ{s:Ty}{a:List Tm}(h:(a.length:Int)=C5 k)(hk:k=2\/k=6\/k=9)(hs:s.ok)(ha:∀x∈a,x.shape=true):(U0 k 0 s a).shape=true:=by
 rw[Lj];simp only[W6,wH,FU,J5,(je0 a).2 ha,qZ,cP,if_pos hk,h,(Ty.checkN_iff s).2 hs];simp
def EL(l:List Int)(F:Ty->List Ty->Nat->Tm × Nat)(Q:Ty->List Ty->Tm->Prop):Prop:=
 ∀t g p,t.small->(∀x∈g,x.small)->p<=l.length->(F t g p).2<=l.length/\Q t g (F t g p).1
structure DrawOK (Q:Ty->List Ty->Tm->Prop):Prop where
 var:∀g i,i<g.length->Q (gZ g i) g (vT (i:Nat))
 Z3:∀g n,n<3->Q (L0 1 []) g (g8 n)
 app:∀g s t f x,s.small->t.small->Q (L0 4 [s,t]) g f->Q s g x->Q t g (nT 3 [f,x])
 lam:∀g s t x,s.small->t.small->Q t (g++[s]) x->Q (L0 4 [s,t]) g (U0 2 0 s [x])
 lam2:∀g s t r x,s.small->t.small->r.small->Q r (g++[s,t]) x->Q (L0 4 [s,L0 4 [t,r]]) g (U0 2 0 s [U0 2 0 t [x]])
 lam3:∀g s t u r x,s.small->t.small->u.small->r.small->Q r (g++[s,t,u]) x->Q (L0 4 [s,L0 4 [t,L0 4 [u,r]]]) g (U0 2 0 s [U0 2 0 t [U0 2 0 u [x]]])
 pair:∀g s t x y,s.small->t.small->Q s g x->Q t g y->Q (L0 3 [s,t]) g (nT 10 [x,y])
 fst:∀g s t x,s.small->t.small->Q (L0 3 [s,t]) g x->Q s g (nT 11 [x])
 snd:∀g s t x,s.small->t.small->Q (L0 3 [s,t]) g x->Q t g (nT 12 [x])
 rc:∀g t x f n,t.small->Q t g x->Q (L0 4 [L0 1 [],L0 4 [t,t]]) g f->Q (L0 1 []) g n->Q t g (U0 6 0 t [x,f,n])
 fold:∀g t x f n,t.small->Q t g x->Q (L0 4 [L0 1 [],L0 4 [L0 2 [],L0 4 [t,t]]]) g f->Q (L0 2 []) g n->Q t g (U0 9 0 t [x,f,n])
 succ:∀g x,Q (L0 1 []) g x->Q (L0 1 []) g (nT 5 [x])
 plus:∀g x y,Q (L0 1 []) g x->Q (L0 1 []) g y->Q (L0 1 []) g (m9 Y6 [x,y])
 sub:∀g x y,Q (L0 1 []) g x->Q (L0 1 []) g y->Q (L0 1 []) g (m9 Q8 [x,y])
 nil:∀g,Q (L0 2 []) g (nT 7 [])
 cons:∀g x y,Q (L0 1 []) g x->Q (L0 2 []) g y->Q (L0 2 []) g (nT 8 [x,y])
 Z4:∀g,Q (L0 5 []) g (nT 13 [])
theorem VK{Q:Ty->List Ty->Tm->Prop}(hQ:DrawOK Q)(hp:p<=l.length)(g:List Ty):(Ah l p).2<=l.length/\Q (L0 1 []) g (Ah l p).1:=by
 have:=lA (l:=l) (p:=p) (n:=3) dD;exact⟨fH hp,hQ.Z3 g _ oO⟩
theorem IK{t:Ty}(h:t.small):(t.o0=1/\t=L0 1 [])\/(t.o0=2/\t=L0 2 [])\/(t.o0=5/\t=L0 5 [])\/(t.o0=3/\t=L0 3 [t.arg 0,t.arg 1])\/(t.o0=4/\t=L0 4 [t.arg 0,t.arg 1]):=by
 cases t with
 | mk k ts=>
  have h1:=h.1;rw[Pz,uH]at h1;have hk:=h1.1;unfold mV at hk;simp[qM,yT]at hk;rcases hk with⟨h2,rfl⟩|⟨h2,h3⟩;· rcases of_decide_eq_true h2 with rfl|rfl|rfl <;> simp[qM]
  ·match ts,h3 with
   | [a,b],_=>rcases of_decide_eq_true h2 with rfl|rfl <;> simp[qM,Ty.arg,yT]
theorem c20{F:Ty->List Ty->Nat->Tm × Nat}{Q:Ty->List Ty->Tm->Prop}(hQ:DrawOK Q)(hF:EL l F Q):EL l (Df l F) Q:=by
 intro t g p ht hg hp;unfold Df;have h5:=fH (n:=5) hp;have h2:=fH (n:=2) hp;rcases IK ht with⟨h,e⟩|⟨h,e⟩|⟨h,e⟩|⟨h,e⟩|⟨h,e⟩
 ·rw[if_pos h];obtain⟨a1,a2⟩:=hF t g _ ht hg h5;obtain⟨b1,b2⟩:=hF t g _ ht hg a1;rw[e]at a1 a2 b1 b2 ⊢;split;· exact⟨a1,hQ.succ g _ a2⟩
  split;· exact⟨b1,hQ.plus g _ _ a2 b2⟩
  split;· exact⟨b1,hQ.sub g _ _ a2 b2⟩
  ·exact VK hQ h5 g
 ·rw[if_neg oO,if_pos h];obtain⟨a1,a2⟩:=hF _ g _ aJ hg h2;obtain⟨b1,b2⟩:=hF t g _ ht hg a1;rw[e]at b1 b2 ⊢;split;· exact⟨b1,hQ.cons g _ _ a2 b2⟩
  ·exact⟨h2,hQ.nil g⟩
 ·rw[if_neg oO,if_neg oO,if_neg oO,if_neg oO];rw[e];exact⟨hp,hQ.Z4 g⟩
 ·rw[if_neg oO,if_neg oO,if_pos h];obtain⟨s0,s1,_⟩:=ht.arg (.inl h);obtain⟨a1,a2⟩:=hF _ g _ s0 hg hp;obtain⟨b1,b2⟩:=hF _ g _ s1 hg a1;refine⟨b1,?_⟩;rw[e];exact hQ.pair g _ _ _ _ s0 s1 a2 b2
 ·rw[if_neg oO,if_neg oO,if_neg oO,if_pos h];obtain⟨s0,s1,_⟩:=ht.arg (.inr h);obtain⟨a1,a2⟩:=hF (t.arg 1) (g++[t.arg 0]) _ s1 (by intro x hx;rcases t6.1 hx with hx|hx;exact hg x hx;rw[bM.1 hx];exact s0) hp;refine⟨a1,?_⟩;rw[e];exact hQ.lam g _ _ _ s0 s1 a2
theorem mq0{F:Ty->List Ty->Nat->Tm × Nat}{Q:Ty->List Ty->Tm->Prop}(hQ:DrawOK Q)(hF:EL l F Q)(k:Int):EL l (fun t g p=>stepD l F t g k p) Q:=by
 intro t g p ht hg hp;have fT:∀a:List Ty,(∀x∈a,x.small)->∀x∈g++a,x.small:=by
  intro a ha x hx;rcases t6.1 hx with hx|hx;· exact hg x hx
  ·exact ha x hx
 have vQ:∀s:Ty,s.small->∀x∈g++[s],x.small:=fun s hs=>fT [s] (by simpa using hs);obtain⟨s1,s2⟩:=LF l (n:=0) hp dD;show (stepD l F t g k p).2<=l.length/\Q t g (stepD l F t g k p).1;unfold stepD;split
 ·obtain⟨a1,a2⟩:=hF t _ _ ht (vQ _ s2) s1;obtain⟨b1,b2⟩:=hF _ g _ s2 hg a1;exact⟨b1,hQ.app g _ _ _ _ s2 ht (hQ.lam g _ _ _ s2 ht a2) b2⟩
 split
 ·obtain⟨a1,a2⟩:=hF t g _ ht hg s1;obtain⟨b1,b2⟩:=hF _ g _ s2 hg a1;exact⟨b1,hQ.fst g _ _ _ ht s2 (hQ.pair g _ _ _ _ ht s2 a2 b2)⟩
 split
 ·obtain⟨a1,a2⟩:=hF t _ _ ht (fT [L0 1 [],t] (by intro x hx;simp at hx;rcases hx with rfl|rfl;exact aJ;exact ht)) hp;obtain⟨b1,b2⟩:=hF t g _ ht hg a1;obtain⟨c1,c2⟩:=VK hQ b1 g;exact⟨c1,hQ.rc g _ _ _ _ ht b2 (hQ.lam2 g _ _ _ _ aJ ht ht a2) c2⟩
 split
 ·obtain⟨a1,a2⟩:=hF t _ _ ht (fT [L0 1 [],L0 2 [],t] (by intro x hx;simp at hx;rcases hx with rfl|rfl|rfl;exact aJ;exact Bj;exact ht)) hp;obtain⟨b1,b2⟩:=hF t g _ ht hg a1;obtain⟨c1,c2⟩:=hF _ g _ Bj hg b1;exact⟨c1,hQ.fold g _ _ _ _ ht b2 (hQ.lam3 g _ _ _ _ _ aJ Bj ht ht a2) c2⟩
 split
 ·obtain⟨a1,a2⟩:=hF _ g _ s2 hg s1;obtain⟨b1,b2⟩:=hF t g _ ht hg a1;exact⟨b1,hQ.snd g _ _ _ s2 ht (hQ.pair g _ _ _ _ s2 ht a2 b2)⟩
 split
 ·split
  ·rename_i i hi;obtain⟨f1,f2,f3⟩:=dQ0 hi;have iH:=hg _ (Mb f1).1;obtain⟨c0,c1,-⟩:=iH.arg (.inr f2);obtain⟨a1,a2⟩:=hF _ g _ c0 hg hp;have hv:=hQ.var g i f1;rcases IK iH with⟨h,e⟩|⟨h,e⟩|⟨h,e⟩|⟨h,e⟩|⟨h,e⟩;· omega
   ·omega
   ·omega
   ·omega
   ·rw[e,f3]at hv;exact⟨a1,hQ.app g _ _ _ _ c0 ht hv a2⟩
  ·exact c20 hQ hF t g p ht hg hp
 ·exact c20 hQ hF t g p ht hg hp
theorem cp0{Q:Ty->List Ty->Tm->Prop}(hQ:DrawOK Q):EL l (dC l) Q:=by
 intro t;generalize hn:t.A0=n
 induction n using Pu generalizing t with
 | _ n ih=>
 intro g p ht hg hp;rw[WN l t g p ht.ok];have hq:=Mq (t:=t) (g:=g) hp;split
 ·rename_i x q hx;obtain⟨i,rfl,h1,h2⟩:=VJ hx;rw[hx]at hq;have:=hQ.var g i h1;rw[h2]at this;exact⟨hq,this⟩
 ·rename_i q hx;rw[hx]at hq;rcases IK ht with⟨h,e⟩|⟨h,e⟩|⟨h,e⟩|⟨h,e⟩|⟨h,e⟩;· rw[if_pos h,e];exact VK hQ hq g
  ·rw[if_neg oO,if_pos h,e];exact⟨hq,hQ.nil g⟩
  ·rw[if_neg oO,if_neg oO,if_neg oO,if_neg oO,e];exact⟨hq,hQ.Z4 g⟩
  ·rw[if_neg oO,if_neg oO,if_pos h];obtain⟨s0,s1,hc⟩:=ht.arg (.inl h);have p0:=sA (t.arg 0);have p1:=sA (t.arg 1);obtain⟨a1,a2⟩:=ih _ oO (t.arg 0) rfl g _ s0 hg hq;obtain⟨b1,b2⟩:=ih _ oO (t.arg 1) rfl g _ s1 hg a1;refine⟨b1,?_⟩;have:=hQ.pair g _ _ _ _ s0 s1 a2 b2;rw[<- e]at this;exact this
  ·rw[if_neg oO,if_neg oO,if_neg oO,if_pos h];obtain⟨s0,s1,hc⟩:=ht.arg (.inr h);have p0:=sA (t.arg 0);have p1:=sA (t.arg 1);obtain⟨a1,a2⟩:=ih _ oO (t.arg 1) rfl (g++[t.arg 0]) _ s1 (by intro x hx;rcases t6.1 hx with hx|hx;exact hg x hx;rw[bM.1 hx];exact s0) hq;refine⟨a1,?_⟩;have:=hQ.lam g _ _ _ s0 s1 a2;rw[<- e]at this;exact this
theorem Ef{l:List Int}{Q:Ty->List Ty->Tm->Prop}(hQ:DrawOK Q):∀n,EL l (l8 l n) Q
 | 0=>cp0 hQ
 | n+1=>by
  intro t g p ht hg hp;have hq:=Mq (t:=t) (g:=g) hp;unfold l8;split
  ·rename_i x q hx;obtain⟨i,rfl,h1,h2⟩:=VJ hx;rw[hx]at hq;have:=hQ.var g i h1;rw[h2]at this;exact⟨hq,this⟩
  ·rename_i q hx;rw[hx]at hq;exact mq0 hQ (Ef hQ n) _ t g _ ht hg (fH hq)
theorem c30{f y:Tm}(hf:f.shape=true)(hx:x.shape=true)(hy:y.shape=true):(m9 f [x,y]).shape=true:=by
 show (nT 3 [nT 3 [f,x],y]).shape=true;exact sN rfl dD (by intro z hz;simp at hz;rcases hz with rfl|rfl;exact sN rfl dD (by intro z hz;simp at hz;rcases hz with rfl|rfl;exact hf;exact hx);exact hy)
theorem Vd:DrawOK (fun _ _ x=>x.shape=true) where
 var _ _ _:=fo0
 Z3 _ n _:=dO0 n
 app _ _ _ _ _ _ _ hf hx:=sN rfl dD (by intro z hz;simp at hz;rcases hz with rfl|rfl;exact hf;exact hx)
 lam _ _ _ _ hs _ hx:=zQ rfl (.inl rfl) hs.ok (by intro z hz;simp at hz;rw[hz];exact hx)
 lam2 _ _ _ _ _ hs ht _ hx:=zQ rfl (.inl rfl) hs.ok (by intro z hz;simp at hz;rw[hz];exact zQ rfl (.inl rfl) ht.ok (by intro z hz;simp at hz;rw[hz];exact hx))
 lam3 _ _ _ _ _ _ hs ht hu _ hx:=zQ rfl (.inl rfl) hs.ok (by intro z hz;simp at hz;rw[hz];exact zQ rfl (.inl rfl) ht.ok (by intro z hz;simp at hz;rw[hz];exact zQ rfl (.inl rfl) hu.ok (by intro z hz;simp at hz;rw[hz];exact hx)))
 pair _ _ _ _ _ _ _ hf hx:=sN rfl dD (by intro z hz;simp at hz;rcases hz with rfl|rfl;exact hf;exact hx)
 fst _ _ _ _ _ _ hx:=sN rfl dD (by intro z hz;simp at hz;rw[hz];exact hx)
 snd _ _ _ _ _ _ hx:=sN rfl dD (by intro z hz;simp at hz;rw[hz];exact hx)
 rc _ _ _ _ _ ht hx hf hn:=zQ rfl (.inr (.inl rfl)) ht.ok (by intro z hz;simp at hz;rcases hz with rfl|rfl|rfl;exact hx;exact hf;exact hn)
 fold _ _ _ _ _ ht hx hf hn:=zQ rfl (.inr (.inr rfl)) ht.ok (by intro z hz;simp at hz;rcases hz with rfl|rfl|rfl;exact hx;exact hf;exact hn)
 succ _ _ hx:=sN rfl dD (by intro z hz;simp at hz;rw[hz];exact hx)
 plus _ _ _ hx hy:=c30 dD hx hy
 sub _ _ _ hx hy:=c30 dD hx hy
 nil _:=rfl
 cons _ _ _ hf hx:=sN rfl dD (by intro z hz;simp at hz;rcases hz with rfl|rfl;exact hf;exact hx)
 Z4 _:=rfl
theorem Val.nodes_flat{v:Val}(h:v.B0=[]):v.nodesN.2=v.okB:=by rw[nodesN_eq,h];rfl
theorem Val.nodes_pair{v a b:Val}(h:v.B0=[a,b]):v.nodesN.2=(v.okB&&(a.nodesN.2&&b.nodesN.2)):=by
 rw[nodesN_eq,h];cases ho:v.okB <;> simp[nodesN.nodesL];cases ha:a.nodesN.2 <;> simp
theorem Val.nodes_count(v:Val)(h:v.nodesN.2=true):v.nodesN.1=v.A0:=by
 induction v using Il with
 | h v ih=>
 have key:∀l:List Val,(∀a∈l,a.nodesN.2=true->a.nodesN.1=a.A0)->∀(n:Int) (ok:Bool),(nodesN.nodesL l (n,ok)).2=true->(nodesN.nodesL l (n,ok)).1=n+A0.Z0 l:=by
  intro l
  induction l with
  | nil=>intro _ n ok _;simp[nodesN.nodesL,A0.Z0]
  | cons a r l6=>
   intro hl n ok O8;cases ok with
   | false=>rw[nodesL_no]at O8;cases O8
   | true=>
    simp only[nodesN.nodesL,if_true]at O8 ⊢;have ha:a.nodesN.2=true:=(nodesL_ok O8).1;rw[l6 (fun b hb=>hl b (iJ _ hb)) _ _ O8,hl a sS ha];simp only[A0.Z0];omega
 rw[nodesN_eq]at h ⊢;rw[key v.B0 ih _ _ h,count_eq];omega
theorem Z5{F:Q0 Γ->a.V}(h:Dn Γ t a F):t.shape=true:=by
 have one:∀{x:Tm},x.shape=true->∀z∈[x],z.shape=true:=by intro x hx z hz;rw[bM.1 hz];exact hx
 have two:∀{x y:Tm},x.shape=true->y.shape=true->∀z∈[x,y],z.shape=true:=by
  intro x y hx hy z hz;simp at hz;rcases hz with rfl|rfl;exact hx;exact hy
 have three:∀{x y w:Tm},x.shape=true->y.shape=true->w.shape=true->∀z∈[x,y,w],z.shape=true:=by
  intro x y w hx hy hw z hz;simp at hz;rcases hz with rfl|rfl|rfl;exact hx;exact hy;exact hw
 induction h with
 | var h=>exact fo0
 | lam ha hb ih=>exact zQ rfl (.inl rfl) (T.ok_ty ha) (one ih)
 | app hf hx aS D9=>exact sN rfl dD (two aS D9)
 | zero=>rfl
 | succ hx ih=>exact sN rfl dD (one ih)
 | rc ha hb hf hn eB aS F8=>exact zQ rfl (.inr (.inl rfl)) (T.ok_ty ha) (three eB aS F8)
 | nil=>rfl
 | cons hx hl D9 Az=>exact sN rfl dD (two D9 Az)
 | fold ha hb hf hn eB aS F8=>exact zQ rfl (.inr (.inr rfl)) (T.ok_ty ha) (three eB aS F8)
 | pair hx hy D9 rS=>exact sN rfl dD (two D9 rS)
 | fst hx ih=>exact sN rfl dD (one ih)
 | snd hx ih=>exact sN rfl dD (one ih)
 | Z4=>rfl
theorem At.lt{p:Q0 Γ->a.V}(h:At Γ i a p):i<Γ.length:=by
 have:=h.get;exact (uA this).1
theorem gW{F:Q0 Γ->a.V}(h:Dn Γ t a F):∀m:Int,(Γ.length:Int)+t.A0<=m->t.leastN m=true:=by
 have al0:∀(k:Int) (y:Ty) (m:Int),0<=m->(U0 k 0 y []).leastN m=true:=by
  intro k y m hm;rw[Tm.leastN_eq];have h9:decide (m<(0:Int))=false:=decide_eq_false oO;simp[wH,J5,Tm.leastN.leasts,h9] <;> exact decide_eq_false oO
 have node1:∀(k:Int) (y:Ty) (x:Tm) (m:Int),0<=m->x.leastN m=true->(U0 k 0 y [x]).leastN m=true:=by
  intro k y x m hm h1;rw[Tm.leastN_eq];have h9:decide (m<(0:Int))=false:=decide_eq_false oO;simp[wH,J5,Tm.leastN.leasts,h9,h1] <;> exact decide_eq_false oO
 have node2:∀(k:Int) (y:Ty) (x z:Tm) (m:Int),0<=m->x.leastN m=true->z.leastN m=true->(U0 k 0 y [x,z]).leastN m=true:=by
  intro k y x z m hm h1 h2;rw[Tm.leastN_eq];have h9:decide (m<(0:Int))=false:=decide_eq_false oO;simp[wH,J5,Tm.leastN.leasts,h9,h1,h2] <;> exact decide_eq_false oO
 have node3:∀(k:Int) (y:Ty) (x z w:Tm) (m:Int),0<=m->x.leastN m=true->z.leastN m=true->w.leastN m=true->(U0 k 0 y [x,z,w]).leastN m=true:=by
  intro k y x z w m hm h1 h2 h3;rw[Tm.leastN_eq];have h9:decide (m<(0:Int))=false:=decide_eq_false oO;simp[wH,J5,Tm.leastN.leasts,h9,h1,h2,h3] <;> exact decide_eq_false oO
 induction h with
 | var h=>
  intro m hm;have:=h.lt;rename_i Γ i a p;have h9:decide (m<((i:Nat):Int))=false:=decide_eq_false oO;rw[vT,Tm.leastN_eq];simp[wH,J5,Tm.leastN.leasts,h9] <;> exact decide_eq_false oO
 | lam ha hb ih=>
  intro m hm;rename_i Γ a r b f;have hc:(N6 a b).A0=1+(b.A0+0):=rfl;rw[hc]at hm;exact node1 _ _ _ _ oO (ih m (by simp only[B4];omega))
 | app hf hx aS D9=>
  intro m hm;rename_i Γ a b f x F X;have hc:(nT 3 [f,x]).A0=1+(f.A0+(x.A0+0)):=rfl;rw[hc]at hm;exact node2 _ _ _ _ _ oO (aS m oO) (D9 m oO)
 | zero=>intro m hm;exact al0 _ _ _ oO
 | succ hx ih=>
  intro m hm;rename_i Γ x X;have hc:(nT 5 [x]).A0=1+(x.A0+0):=rfl;rw[hc]at hm;exact node1 _ _ _ _ oO (ih m oO)
 | rc ha hb hf hn eB aS F8=>
  intro m hm;rename_i Γ a b f n B F N;have hc:(U0 6 0 a.ty [b,f,n]).A0=1+(b.A0+(f.A0+(n.A0+0))):=rfl;rw[hc]at hm;exact node3 _ _ _ _ _ _ oO (eB m oO) (aS m oO) (F8 m oO)
 | nil=>intro m hm;exact al0 _ _ _ oO
 | cons hx hl D9 Az=>
  intro m hm;rename_i Γ x l X L;have hc:(nT 8 [x,l]).A0=1+(x.A0+(l.A0+0)):=rfl;rw[hc]at hm;exact node2 _ _ _ _ _ oO (D9 m oO) (Az m oO)
 | fold ha hb hf hn eB aS F8=>
  intro m hm;rename_i Γ a b f n B F N;have hc:(U0 9 0 a.ty [b,f,n]).A0=1+(b.A0+(f.A0+(n.A0+0))):=rfl;rw[hc]at hm;exact node3 _ _ _ _ _ _ oO (eB m oO) (aS m oO) (F8 m oO)
 | pair hx hy D9 rS=>
  intro m hm;rename_i Γ a b x y X Y;have hc:(nT 10 [x,y]).A0=1+(x.A0+(y.A0+0)):=rfl;rw[hc]at hm;exact node2 _ _ _ _ _ oO (D9 m oO) (rS m oO)
 | fst hx ih=>
  intro m hm;rename_i Γ a b x X;have hc:(nT 11 [x]).A0=1+(x.A0+0):=rfl;rw[hc]at hm;exact node1 _ _ _ _ oO (ih m oO)
 | snd hx ih=>
  intro m hm;rename_i Γ a b x X;have hc:(nT 12 [x]).A0=1+(x.A0+0):=rfl;rw[hc]at hm;exact node1 _ _ _ _ oO (ih m oO)
 | Z4=>intro m hm;exact al0 _ _ _ oO
theorem iO(t:Tm)(f b:Int):(t.V0 f b).A0=t.A0:=by
 induction t using m7 generalizing f with
 | h t ih=>
 rw[Tm.upN_eq,V6,V6 t,M8];have key:∀l:List Tm,(∀a∈l,a∈t.B0)->D3.Z0 (l.map fun x=>x.V0 (f+W2 t.o0) b)=D3.Z0 l:=by
  intro l
  induction l with
  | nil=>intro _;rfl
  | cons a r l6=>intro h;simp only[G4,D3.Z0,ih a (h a sS),l6 fun b hb=>h b (by simp[hb])]
 rw[key t.B0 fun _ h=>h]
theorem Ry(t:Tm)(p d:Int)(s:Tm)(ht:t.shape=true):((t.Y1 p d s).A0:Int)=t.A0+t.R2 (p+d) * ((s.A0:Int) - 1):=by
 induction t using m7 generalizing d with
 | h t ih=>
 obtain⟨hlen,-,-,-,V9⟩:=Tm.shape_node ht;rw[Tm.inN_eq];by_cases h1:t.o0=1
 ·have ha:t.B0=[]:=by rw[h1]at hlen;simp[C5]at hlen;exact hlen
  have hc:t.A0=1:=by rw[V6,ha];rfl
  have TB:t.R2 (p+d)=if t.O0=p+d then 1 else 0:=by
   rw[Tm.timesN_eq,ha];by_cases h2:t.O0=p+d <;> simp[h1,h2,Tm.R2.B5]
  rw[if_pos h1,hc,TB];by_cases h2:t.O0=p+d;· rw[if_pos h2,if_pos h2,iO];omega
  ·rw[if_neg h2,if_neg h2];split;· show ((1+0:Nat):Int)=_;omega
   ·rw[hc];omega
 ·rw[if_neg h1,V6,M8,V6 t,Tm.timesN_eq,if_neg (fun h=>h1 h.1)];have key:∀l:List Tm,(∀a∈l,a∈t.B0)->(D3.Z0 (l.map fun x=>x.Y1 p (d+W2 t.o0) s):Int)=D3.Z0 l+Tm.R2.B5 l (p+d+W2 t.o0) * ((s.A0:Int) - 1):=by
   intro l
   induction l with
   | nil=>intro _;simp[D3.Z0,Tm.R2.B5]
   | cons a r l6=>
    intro h;have h3:=ih a (h a sS) (d+W2 t.o0) (V9 a (h a sS));have h4:=l6 fun b hb=>h b (by simp[hb]);have e:p+(d+W2 t.o0)=p+d+W2 t.o0:=oO;rw[e]at h3;simp only[G4,D3.Z0,Tm.R2.B5,PG,Int.add_mul];omega
  have:=key t.B0 fun _ h=>h;simp only[PG,G8];omega
theorem UY(t:Tm)(ht:t.shape=true)(hr:t.rootN=true):(t.reducedN.A0:Int)=t.A0+t.growthN:=by
 obtain⟨-,-,-,-,V9⟩:=Tm.shape_node ht;unfold Tm.rootN at hr;by_cases h3:t.o0=3
 ·rw[if_pos h3]at hr;obtain⟨f,x,ha⟩:=Tm.parts2 ht (by rw[h3];rfl);have hf:t.argN 0=f:=by unfold Tm.argN;rw[ha];rfl
  have hx:t.argN 1=x:=by unfold Tm.argN;rw[ha];rfl
  rw[hf]at hr;have iH:=V9 f (by rw[ha];simp);obtain⟨b,hb⟩:=Tm.parts1 iH (by rw[of_decide_eq_true hr];rfl);have dF:f.argN 0=b:=by unfold Tm.argN;rw[hb];rfl
  have hbs:=(Tm.shape_node iH).2.2.2.2 b (by rw[hb];simp);unfold Tm.reducedN Tm.growthN;rw[if_pos h3,if_pos h3,hf,hx,dF,Ry b 0 0 x hbs];simp only[sE];omega
 rw[if_neg h3]at hr;by_cases h6:t.o0=6
 ·obtain⟨b,f,n,ha⟩:=Tm.parts3 ht (by rw[h6];rfl);have e0:t.argN 0=b:=by unfold Tm.argN;rw[ha];rfl
  have e1:t.argN 1=f:=by unfold Tm.argN;rw[ha];rfl
  have e2:t.argN 2=n:=by unfold Tm.argN;rw[ha];rfl
  have hc:t.A0=1+(b.A0+(f.A0+(n.A0+0))):=by rw[V6,ha];rfl
  rw[if_pos h6,e2]at hr;unfold Tm.reducedN Tm.growthN;rw[if_neg h3,if_pos h6,if_neg h3,if_pos h6,e0,e1,e2];by_cases hz:n.o0=4;· rw[if_pos hz,if_pos hz];omega
  ·rw[if_neg hz,if_neg hz];have h5:n.o0=5:=by
    rcases aY0.1 hr with h|h;· exact absurd (of_decide_eq_true h) hz
    ·exact of_decide_eq_true h
   obtain⟨m,hm⟩:=Tm.parts1 (V9 n (by rw[ha];simp)) (by rw[h5];rfl);have em:n.argN 0=m:=by unfold Tm.argN;rw[hm];rfl
   have g9:n.A0=1+(m.A0+0):=by rw[V6,hm];rfl
   rw[em];have KG:(gE (gE f m) (U0 6 0 t.I0 [b,f,m])).A0=1+((1+(f.A0+(m.A0+0)))+((1+(b.A0+(f.A0+(m.A0+0))))+0)):=rfl;rw[KG];omega
 rw[if_neg h6]at hr;by_cases h9:t.o0=9
 ·obtain⟨b,f,n,ha⟩:=Tm.parts3 ht (by rw[h9];rfl);have e0:t.argN 0=b:=by unfold Tm.argN;rw[ha];rfl
  have e1:t.argN 1=f:=by unfold Tm.argN;rw[ha];rfl
  have e2:t.argN 2=n:=by unfold Tm.argN;rw[ha];rfl
  have hc:t.A0=1+(b.A0+(f.A0+(n.A0+0))):=by rw[V6,ha];rfl
  rw[if_pos h9,e2]at hr;unfold Tm.reducedN Tm.growthN;rw[if_neg h3,if_neg h6,if_pos h9,if_neg h3,if_neg h6,if_pos h9,e0,e1,e2];by_cases hz:n.o0=7;· rw[if_pos hz,if_pos hz];omega
  ·rw[if_neg hz,if_neg hz];have h5:n.o0=8:=by
    rcases aY0.1 hr with h|h;· exact absurd (of_decide_eq_true h) hz
    ·exact of_decide_eq_true h
   obtain⟨m,r,hm⟩:=Tm.parts2 (V9 n (by rw[ha];simp)) (by rw[h5];rfl);have em:n.argN 0=m:=by unfold Tm.argN;rw[hm];rfl
   have er:n.argN 1=r:=by unfold Tm.argN;rw[hm];rfl
   have g9:n.A0=1+(m.A0+(r.A0+0)):=by rw[V6,hm];rfl
   rw[em,er];have KG:(gE (gE (gE f m) r) (U0 9 0 t.I0 [b,f,r])).A0=1+((1+((1+(f.A0+(m.A0+0)))+(r.A0+0)))+((1+(b.A0+(f.A0+(r.A0+0))))+0)):=rfl;rw[KG];omega
 rw[if_neg h9]at hr;have GW0:∀x:Tm,t.B0=[x]->x.o0=10->∃u v,x.argN 0=u/\x.argN 1=v:=fun x _ _=>⟨_,_,rfl,rfl⟩;by_cases I7:t.o0=11
 ·unfold Tm.reducedN Tm.growthN;rw[if_neg h3,if_neg h6,if_neg h9,if_pos I7,if_neg h3,if_neg h6,if_neg h9,if_pos I7];omega
 ·unfold Tm.reducedN Tm.growthN;rw[if_neg h3,if_neg h6,if_neg h9,if_neg I7,if_neg h3,if_neg h6,if_neg h9,if_neg I7];omega
theorem c40(l1 l2:List Tm)(u:Tm):D3.Z0 (l1++u::l2)=D3.Z0 l1+u.A0+D3.Z0 l2:=by
 rw[gR];simp only[D3.Z0];omega
theorem c50(t:Tm):t.shape=true->∀{room:Int} {x:Tm},t.T3 room=(x,true,true)->(x.A0:Int)<=t.A0+room:=by
 induction t using m7 with
 | h t ih=>
 intro ht room x hx;rcases Tm.next_split hx with⟨hr,rfl,hg⟩|⟨-,l1,u,v,l2,e1,rfl,e3⟩;· have:=UY t ht hr;omega
 ·have hu:u∈t.B0:=by rw[e1];simp
  have:=ih u hu ((Tm.shape_node ht).2.2.2.2 u hu) e3;rw[V6,M8,V6 t,e1,c40,c40];omega
theorem MN{Γ:List T}{a:T}(N5:Γ.length<=1000000):∀(n:Nat) {t:Tm} {F:Q0 Γ->a.V},Dn Γ t a F->t.A0<=4096->t.runOK n=true
 | 0,t,F,h,hc=>by
  have h1:=(Tm.checkN_iff t).2 ⟨Z5 h,hc⟩;have h2:=gW h 549755813888 oO;simp[Tm.runOK,h1,h2]
 | n+1,t,F,h,hc=>by
  have h1:=(Tm.checkN_iff t).2 ⟨Z5 h,hc⟩;have h2:=gW h 549755813888 oO;rcases hx:t.T3 (4096 - t.A0) with⟨x,b,f⟩;simp only[Tm.runOK,h1,h2,hx];cases b with
  | false=>simp
  | true=>
   cases f with
   | false=>simp
   | true=>
    have:=c50 t (Z5 h) hx;simp[MN N5 n (y60 h hx) oO]
theorem Qp:∀(a:T) (v:a.V),a.plain->(bB a v).nodesN.2=true/\(bB a v).A0<=a.size
 | .C0,n,_=>⟨by rw[Val.nodes_flat rfl];simp[bB,Val.okB,Val.o0,Val.Z3,Val.list,Val.B0];exact decide_eq_true (jw0 _),I5 _⟩
 | .list,l,_=>⟨by rw[Val.nodes_flat rfl];simp[bB,Val.okB,Val.o0,Val.Z3,Val.list,Val.B0];intro x hx;obtain⟨n,_,rfl⟩:=F9.1 hx;exact jw0 _,I5 _⟩
 | .Z4,_,_=>⟨rfl,I5 _⟩
 | .pair a b,p,h=>by
  obtain⟨a1,a2⟩:=Qp a p.1 h.1;obtain⟨b1,b2⟩:=Qp b p.2 h.2;refine⟨?_,?_⟩;· rw[Val.nodes_pair (v:=bB (.pair a b) p) rfl,a1,b1];rfl
  ·show 1+((bB a p.1).A0+((bB b p.2).A0+0))<=1+a.size+b.size;omega
 | .fn _ _,_,h=>h.elim
def Gd(t:Tm):Prop:=t.shape=true/\t.idx 1099511627776
theorem Gd.arg(h:Gd t):∀a∈t.B0,Gd a:=fun a ha=>⟨(Tm.shape_node h.1).2.2.2.2 a ha,((Tm.idx_eq t _).1 h.2).2 a ha⟩
theorem Gd.var(h:Gd t)(h1:t.o0=1):t=U0 1 t.O0 (L0 0 []) []/\0<=t.O0/\t.O0<=1099511627776:=by
 obtain⟨hlen,-,-,hz,-⟩:=Tm.shape_node h.1;have hi:=((Tm.idx_eq t _).1 h.2).1;have ha:t.B0=[]:=by rw[h1]at hlen;simp[C5]at hlen;exact hlen
 exact⟨CS t h1 rfl (MM (by simpa [h1] using hz)) ha,hi⟩
theorem vP0(i d p k:Int)(hi:0<=i/\i<=1099511627776)(hd:0<=d/\d<=1099511627776)(hk:-1099511627776<=k/\k<=1099511627776):cU 278 [j0 i,j0 d,.ref [j0 p],.ref [j0 k]] (U0 1 (if p+d<=i then i+k else i) (L0 0 []) []).dv:=by
 refine A3 Tryz.func278 fun X zX=>?_;by_cases h:p+d<=i
 ·have h':p<=i - d:=oO;exact P4 (j2 @h' @h) (M0 (Gc (i+k)))
 ·have h':¬p<=i - d:=oO;exact P4 (j2 @h' @h) (M0 (Gc i))
theorem dR0(t:Tm)(p k:Int)(ht:Gd t)(hc:t.A0<=1000000)(hp:0<=p/\p<=1073741824)(hk:0<=k/\k<=1073741824):cU 195 [t.dv,j0 p,j0 k] (t.V0 p k).dv:=by
 have w:=c10 (f:=278) (cs:=[.ref [j0 p],.ref [j0 k]]) (R:=fun t d=>t.V0 (p+d) k) (P:=fun t d=>Gd t/\d+t.A0<=1000000) (fun t d h=>by rw[Tm.upN_eq,if_neg fun q=>h q.1,DW]) (fun t d h a ha=>⟨h.1.arg a ha,by have:=V6 t;have:=L9 ha;have:=lT t.o0;omega⟩) (fun t d h1 hd h=>by
  obtain⟨e,hi⟩:=h.1.var h1;have w:=vP0 t.O0 d p k hi ⟨hd,by have:=h.2;omega⟩ oO;generalize t.O0=i at *;subst e;simp only[Tm.upN_eq (U0 1 i (L0 0 []) []),Z9,fE,kL,M8,true_and,O5];exact w) t hc ⟨ht,oO⟩
 simp only[sE]at w;generalize t.V0 p k=u at *;refine A3 Tryz.func195 fun X zX=>?_;refine E4 (bx [1000003,1000004,1000005]) tT ?_;exact O1 H0 (M0 w)
theorem y70(i d p:Int)(s:Tm)(hi:0<=i/\i<=1099511627776)(hd:0<=d/\d<=1000000)(hp:0<=p/\p<=1000000)(hs:i=p+d->Gd s/\s.A0<=1000000):cU 374 [j0 i,j0 d,.ref [j0 p],.ref s.cs] ((vT i).Y1 p d s).dv:=by
 have e:=BA i p d s;by_cases h:i=p+d
 ·obtain⟨q1,q2⟩:=hs h;have w:=dR0 s 0 (p+d) q1 q2 oO ⟨oO,oO⟩;rw[if_pos h]at e;rw[e];generalize s.V0 0 (p+d)=u at *;have h':i - d=p:=oO;exact B2 jx0 @h' (M0 w)
 rw[if_neg h]at e;have h2:¬i - d=p:=oO;by_cases h3:p+d<i
 ·have h':p<i - d:=oO;rw[if_pos h3]at e;rw[e,show vT (i - 1)=U0 1 (i - 1) (L0 0 []) [] from rfl];exact G7 jx0 (j2 @h2 @h') (M0 (Gc (i - 1)))
 ·have h':¬p<i - d:=oO;rw[if_neg h3]at e;rw[e,show vT i=U0 1 i (L0 0 []) [] from rfl];exact G7 jx0 (j2 @h2 @h') (M0 (Gc i))
theorem vQ0(t s:Tm)(p:Int)(ht:Gd t)(hc:t.A0<=1000000)(hp:0<=p/\p<=1000000)(hs:(Gd s/\s.A0<=1000000)\/t.R2 p=0):cU 345 [t.dv,j0 p,s.dv] (t.Y1 p 0 s).dv:=by
 have w:=c10 (f:=374) (cs:=[.ref [j0 p],.ref s.cs]) (R:=fun t d=>t.Y1 p d s) (P:=fun t d=>Gd t/\d+t.A0<=1000000/\((Gd s/\s.A0<=1000000)\/t.R2 (p+d)=0)) (fun t d h=>by rw[Tm.inN_eq,if_neg h]) (fun t d h a ha=>⟨h.1.arg a ha,by have:=V6 t;have:=L9 ha;have:=lT t.o0;omega,h.2.2.imp id fun h0=>by
   rw[Tm.timesN_eq]at h0;have key:∀l:List Tm,Tm.R2.B5 l (p+d+W2 t.o0)=0->∀a∈l,a.R2 (p+d+W2 t.o0)=0:=by
    intro l
    induction l with
    | nil=>intro _ a ha;cases ha
    | cons x r ih=>
     intro h a ha;simp only[Tm.R2.B5]at h;rcases u5.1 ha with rfl|ha;· omega
     ·exact ih oO a ha
   rw[<- DW];exact key _ oO a ha⟩) (fun t d h1 hd h=>by
  obtain⟨e,hi⟩:=h.1.var h1
  have w:=y70 t.O0 d p s hi ⟨hd,by have:=h.2.1;omega⟩ oO (fun hq=>by
   rcases h.2.2 with h|h;· exact h
   ·rw[Tm.timesN_eq,if_pos ⟨h1,hq⟩]at h;omega)
  rw[show vT t.O0=t from e.symm]at w;exact w) t hc ⟨ht,oO,by simpa using hs⟩
 rw[Tm.cs_eq]at w;generalize t.Y1 p 0 s=u at *;refine A3 Tryz.func345 fun X zX=>?_;refine E4 (bx [1000003,1000004,1000005]) tT ?_;exact O1 H0 (M0 w)
abbrev NF(b:Nat)(f:FuncId)(cs:List DV):DV:=.m6 339 [.ref [.m6 f cs],M3 b]
def tC{σ:Type}(S0:Tm->Int->σ->σ):Tm->Int->σ->σ
 | .mk k i y a,d,x=>go a (d+W2 k) (S0 (.mk k i y a) d x)
where
 go:List Tm->Int->σ->σ
  | [],_,x=>x
  | a::r,d,x=>go r d (tC S0 a d x)
abbrev pF{σ:Type}(S0:Tm->Int->σ->σ):=tC.go S0
theorem WO{σ:Type}(S0:Tm->Int->σ->σ)(t:Tm)(d:Int)(x:σ):tC S0 t d x=pF S0 t.B0 (d+W2 t.o0) (S0 t d x):=by cases t;rfl
@[go_sem] theorem Gr0 {σ:Type} (S0:Tm->Int->σ->σ) (d:Int) (x:σ):pF S0 [] d x=x:=rfl
theorem oq0{σ:Type}(S0:Tm->Int->σ->σ)(l m:List Tm)(d:Int)(x:σ):pF S0 (l++m) d x=pF S0 m d (pF S0 l d x):=by
 induction l generalizing x with
 | nil=>rfl
 | cons a r ih=>exact ih _
theorem mr0{σ:Type}(S0:Tm->Int->σ->σ)(l:List Tm)(a:Tm)(d:Int)(x:σ):pF S0 (l++[a]) d x=tC S0 a d (pF S0 l d x):=oq0 S0 l [a] d x
theorem vR0{f:FuncId}{cs:List DV}{n:Nat}{σ:Type}{enc:σ->DV}{S0:Tm->Int->σ->σ}{P:Tm->Int->σ->Prop}(p0:∀t d x,t.o0≠1->S0 t d x=x)
  (pP:∀t d x,P t d x->∀l a r,t.B0=l++a::r->P a (d+W2 t.o0) (pF S0 l (d+W2 t.o0) (S0 t d x)))
  (hv:∀t d x,t.o0=1->0<=d->P t d x->cT f ([j0 t.O0,j0 d]++cs) [(n,[enc x])] (.H1 []) [(n,[enc (S0 t d x)])]) (b:Nat) (hb:b≠n) (t:Tm) (d:Int) (x:σ) (hd:0<=d) (hc:d+t.A0<=1099511627776) (ht:P t d x) :
  cT 339 [t.dv,j0 d,.ref [.m6 f cs],M3 b] [(n,[enc x]),(b,[NF b f cs])] (.H1 []) [(n,[enc (tC S0 t d x)]),(b,[NF b f cs])]:=by
 induction t using m7 generalizing d x with
 | h t ih=>
 have N4:=V6 t;have kE:=lT t.o0;have X2:n≠b:=fun h=>hb h.symm;have e:=WO S0 t d x;refine H2 Tryz.func339 ?_;intro X hP G0 hf X0 hn hR K1 G1;have hlen:=kM (G1 t.dv sS);refine E4 (bx [1000004]) tT ?_;apply vF [sV 24 (j0 0),sV 23 (j0 t.B0.length),sV 22 (.sl (t.B0.map E3)),sV 1 (j0 (d+W2 t.o0)),sV 3 (M3 b),sB  n [.v (enc (S0 t d x))],sB  b [.v (NF b f cs)]]
 ·intro Q3;rcases Ge t.o0 with⟨h2,h3⟩|⟨h2,h3⟩
  ·have h1:t.o0≠1:=oO;have h4:=p0 t d x h1;refine U1 (j4 @h1 @h2 @hb @X2) ?_;refine m5 ?_;refine G2 [] (j4 @h3 @h4 @hb @X2) Q3
  by_cases h1:t.o0=1
  ·have w:=hv t d x h1 hd ht;have J0:=j3 @h1 @hb @X2;refine U1 J0 ?_;refine YF J0 w ?_;refine U1 J0 ?_;refine m5 ?_;refine G2 [] (j3 @h3 @hb @X2) Q3
  ·have h4:=p0 t d x h1;refine U1 (j4 @h1 @h2 @hb @X2) ?_;refine m5 ?_;refine G2 [] (j4 @h3 @h4 @hb @X2) Q3
 refine Q1 ?_;have J1:=j2 @hb @X2;refine G2 [] J1 (y7 (t.B0) (fun done rest=>[sV 24 (j0 done.length),sV 23 (j0 t.B0.length),sV 22 (.sl (t.B0.map E3)),sV 1 (j0 (d+W2 t.o0)),sV 3 (M3 b),sB  n [.v (enc (pF S0 done (d+W2 t.o0) (S0 t d x)))],sB  b [.v (NF b f cs)]]) ?_ ?_)
 ·intro done y rest hL hg Z1;have I1:=E5 hL;have U2:=uE hg;have gJ:=L9 U2;have w:=ih y U2 (d+W2 t.o0) _ oO oO (pP t d x ht done y rest hL);have hq:=mr0 S0 done y (d+W2 t.o0) (S0 t d x);refine U1 (j3 @hg @hb @X2) ?_;refine YF J1 w ?_;refine W3 (wr []) (j3 @hq @hb @X2) J1 Z1
 ·exact v8 [(n,[enc (tC S0 t d x)]),(b,[NF b f cs])] (j3 @hb @X2 @e) H0
theorem Xu{f:FuncId}{cs:List DV}{n:Nat}{σ:Type}{enc:σ->DV}{S0:Tm->Int->σ->σ}{P:Tm->Int->σ->Prop}(p0:∀t d x,t.o0≠1->S0 t d x=x)
  (pP:∀t d x,P t d x->∀l a r,t.B0=l++a::r->P a (d+W2 t.o0) (pF S0 l (d+W2 t.o0) (S0 t d x)))
  (hv:∀t d x,t.o0=1->0<=d->P t d x->cT f ([j0 t.O0,j0 d]++cs) [(n,[enc x])] (.H1 []) [(n,[enc (S0 t d x)])]) (t:Tm) (x:σ) (hc:t.A0<=1000000) (ht:P t 0 x) :
  cT 275 [t.dv,.m6 f cs] [(n,[enc x])] (.H1 []) [(n,[enc (tC S0 t 0 x)])]:=by
 have w:=fun b hb=>vR0 (enc:=enc) p0 pP hv b hb t 0 x dD oO ht;refine A3 Tryz.func275 fun X zX=>?_;refine E4 (bx [1000002,1000003]) tT ?_;refine K2 ?_;refine fG 4 (by simp[go_sem];rfl) ?_;intro b hb;simp[go_sem]at hb ⊢;have X2:b≠n:=fun h=>hb h.symm;refine K2 ?_;refine YF (j2 @hb @X2) (w b X2) ?_;exact s7 [(n,[enc (tC S0 t 0 x)])] (j2 @hb @X2)
def Nv(t:Tm)(g:List Ty)(a:T):Prop:=t.V1 g=(a.ty,0)\/(t.V1 g).2=4
def XR(g:List Ty):List Tm->List T->Prop
 | [],[]=>True
 | t::r,a::s=>Nv t g a/\XR g r s
 | _,_=>False
theorem c60{g:List Ty}:∀{l:List Tm} {ts:List T},XR g l ts->(Tm.V1.Y4 l g=(ts.map T.ty,0))\/(Tm.V1.Y4 l g).2=4
 | [],[],_=>.inl rfl
 | [],_::_,h=>h.elim
 | _::_,[],h=>h.elim
 | t::r,a::s,⟨h,hr⟩=>by
  simp only[Tm.V1.Y4];rcases h with h|h
  ·rw[h];rcases c60 hr with h2|h2;· rw[h2];exact .inl rfl
   ·right;rw[if_pos rfl,if_neg (by rw[h2];decide)];exact h2
  ·right;rw[if_neg (by rw[h];decide)];exact h
theorem wN{y:Ty}{l:List Tm}{ts:List T}{a:T}(hk:¬k=1)(h:XR (if k=2 then g++[y] else g) l ts)
  (hr:g7 k y (ts.map T.ty)=(a.ty,0)\/(g7 k y (ts.map T.ty)).2=4):Nv (U0 k 0 y l) g a:=by
 have e0:(U0 k 0 y l).V1 g=if (Tm.V1.Y4 l (if k=2 then g++[y] else g)).2=0 then g7 k y (Tm.V1.Y4 l (if k=2 then g++[y] else g)).1 else (I4,(Tm.V1.Y4 l (if k=2 then g++[y] else g)).2):=by
  rw[Tm.inferN_eq,if_neg (show ¬(U0 k 0 y l).o0=1 from hk)];rfl
 unfold Nv;rw[e0];rcases c60 h with e|e
 ·rw[e,if_pos rfl];exact hr
 ·right
  rw[if_neg (by rw[e];decide)];exact e
theorem fp0(y:Ty):eT y=(y,0)\/(eT y).2=4:=by
 unfold eT;split;· exact .inl rfl
 ·exact .inr rfl
theorem Vt{F:Q0 Γ->a.V}(h:Dn Γ t a F):Nv t (Γ.reverse.map T.ty) a:=by
 induction h with
 | @var Γ i a p h=>
  left
  have hg:=At.get h;have I1:i<Γ.length:=(uA hg).1;rw[Tm.inferN_eq,if_pos (show (vT i).o0=1 from rfl)];rw[if_neg (by show ¬(((Γ.reverse.map T.ty).length:Int)<=(i:Int));simp;omega)];have hi:(vT i).O0.toNat=i:=rfl;rw[hi,jO,cI];have:Γ.reverse[(Γ.reverse.map T.ty).length - 1 - i]? = some a:=by
   rw[aV0 (by simp;omega)];simp only[fV,List.length_reverse];rw[show Γ.length - 1 - (Γ.length - 1 - i)=i from oO];exact hg
  rw[this];rfl
 | @lam Γ a r b f ha h ih=>
  refine wN (ts:=[r]) dD ⟨?_,trivial⟩ (fp0 _);rw[if_pos rfl]
  simpa using ih
 | @app Γ a b f x F X hf hx E9 T8=>
  refine wN (ts:=[.fn a b,a]) dD ⟨E9,T8,trivial⟩ (.inl ?_);show (if (4:Int)=4/\a.ty.same a.ty=true then (b.ty,(0:Int)) else (I4,7))=(b.ty,0);rw[if_pos ⟨rfl,(y9 _ _).2 rfl⟩]
 | zero=>exact wN (ts:=[]) dD tT (.inl rfl)
 | succ hx ih=>exact wN (ts:=[.C0]) dD ⟨ih,trivial⟩ (.inl rfl)
 | @rc Γ a b f n B F N ha hb hf hn E9 T8 Hq=>
  refine wN (ts:=[a,.fn .C0 (.fn a a),.C0]) dD ⟨E9,T8,Hq,trivial⟩ (.inl ?_);show (if a.ty.same a.ty=true/\(T.fn .C0 (.fn a a)).ty.same (L0 4 [L0 1 [],L0 4 [a.ty,a.ty]])=true/\(T.ty .C0).same (L0 1 [])=true then (a.ty,(0:Int)) else (I4,7))=(a.ty,0);rw[if_pos ⟨(y9 _ _).2 rfl,(y9 _ _).2 rfl,(y9 _ _).2 rfl⟩]
 | nil=>exact wN (ts:=[]) dD tT (.inl rfl)
 | cons hx hl E9 T8=>exact wN (ts:=[.C0,.list]) dD ⟨E9,T8,trivial⟩ (.inl rfl)
 | @fold Γ a b f n B F N ha hb hf hn E9 T8 Hq=>
  refine wN (ts:=[a,.fn .C0 (.fn .list (.fn a a)),.list]) dD ⟨E9,T8,Hq,trivial⟩ (.inl ?_);show (if a.ty.same a.ty=true/\(T.fn .C0 (.fn .list (.fn a a))).ty.same (L0 4 [L0 1 [],L0 4 [L0 2 [],L0 4 [a.ty,a.ty]]])=true/\(T.ty .list).same (L0 2 [])=true then (a.ty,(0:Int)) else (I4,7))=(a.ty,0);rw[if_pos ⟨(y9 _ _).2 rfl,(y9 _ _).2 rfl,(y9 _ _).2 rfl⟩]
 | @pair Γ a b x y X Y hx hy E9 T8=>exact wN (ts:=[a,b]) dD ⟨E9,T8,trivial⟩ (fp0 _)
 | @fst Γ a b x X hx ih=>exact wN (ts:=[.pair a b]) dD ⟨ih,trivial⟩ (.inl rfl)
 | @snd Γ a b x X hx ih=>exact wN (ts:=[.pair a b]) dD ⟨ih,trivial⟩ (.inl rfl)
 | Z4=>exact wN (ts:=[]) dD tT (.inl rfl)
end
section
def H3(k:Int):Int:=if k=4\/k=5\/k=6\/k=7 then 1 else 0
theorem rA(k:Int):0<=H3 k/\H3 k<=1:=by unfold H3;split <;> omega
def Tm.leasts(ts:List Tm)(m:Int):Bool:=Tm.leastN.leasts ts m
def Tm.natE(t:Tm)(g:List Ty):Int:=if (t.typedE g).2=0 then if (t.typedE g).1.o0=1 then 0 else 7 else (t.typedE g).2
def Tm.natEs:List Tm->List Ty->Int
 | [],_=>0
 | a::r,g=>if a.natE g=0 then Tm.natEs r g else a.natE g
theorem Tm.natEs_append(l r:List Tm)(g:List Ty):Tm.natEs (l++r) g=if Tm.natEs l g=0 then Tm.natEs r g else Tm.natEs l g:=by
 induction l with
 | nil=>rfl
 | cons a l ih=>
  simp only[R6,Tm.natEs,ih];by_cases h:a.natE g=0;· simp[h]
  ·simp[h]
namespace Fm
def A0:Fm->Nat
 | .mk _ _ ts a=>1+D3.Z0 ts+Z0 a
where
 Z0:List Fm->Nat
  | []=>0
  | a::r=>a.A0+Z0 r
theorem count_eq(t:Fm):t.A0=1+D3.Z0 t.M1+A0.Z0 t.B0:=by cases t;rfl
theorem counts_append(l m:List Fm):A0.Z0 (l++m)=A0.Z0 l+A0.Z0 m:=by
 induction l with
 | nil=>simp[A0.Z0]
 | cons a r ih=>simp[A0.Z0,ih];omega
theorem count_mem{l:List Fm}{a:Fm}(h:a∈l):a.A0<=A0.Z0 l:=by
 induction l with
 | nil=>cases h
 | cons b r ih=>
  simp only[A0.Z0];rcases u5.1 h with rfl|h;· omega
  ·have:=ih h;omega
def chk(f:Fm):Int:=if 4096<f.A0 then 4 else 0
def V0:Fm->Int->Int->Fm
 | .mk k y ts a,f,b=>.mk k y (ts.map fun t=>t.V0 f b) (ups a (f+H3 k) b)
where
 ups:List Fm->Int->Int->List Fm
  | [],_,_=>[]
  | x::r,f,b=>x.V0 f b::ups r f b
theorem ups_map(l:List Fm)(f b:Int):V0.ups l f b=l.map fun x=>x.V0 f b:=by
 induction l with
 | nil=>rfl
 | cons a r ih=>simp[V0.ups,ih]
theorem upN_eq(t:Fm)(f b:Int):t.V0 f b = .mk t.o0 t.I0 (t.M1.map fun x=>x.V0 f b) (t.B0.map fun x=>x.V0 (f+H3 t.o0) b):=by
 cases t;rw[V0,ups_map];rfl
def Y1:Fm->Int->Int->Tm->Fm
 | .mk k y ts a,p,d,s=>.mk k y (ts.map fun t=>t.Y1 p d s) (ins a p (d+H3 k) s)
where
 ins:List Fm->Int->Int->Tm->List Fm
  | [],_,_,_=>[]
  | x::r,p,d,s=>x.Y1 p d s::ins r p d s
theorem ins_map(l:List Fm)(p d:Int)(s:Tm):Y1.ins l p d s=l.map fun x=>x.Y1 p d s:=by
 induction l with
 | nil=>rfl
 | cons a r ih=>simp[Y1.ins,ih]
theorem inN_eq(t:Fm)(p d:Int)(s:Tm):t.Y1 p d s = .mk t.o0 t.I0 (t.M1.map fun x=>x.Y1 p d s) (t.B0.map fun x=>x.Y1 p (d+H3 t.o0) s):=by
 cases t;rw[Y1,ins_map];rfl
def R2:Fm->Int->Nat
 | .mk k _ ts a,p=>Tm.R2.B5 ts p+B5 a (p+H3 k)
where
 B5:List Fm->Int->Nat
  | [],_=>0
  | x::r,p=>x.R2 p+B5 r p
theorem timesN_eq(t:Fm)(p:Int):t.R2 p=Tm.R2.B5 t.M1 p+R2.B5 t.B0 (p+H3 t.o0):=by cases t;rfl
theorem timess_append(l m:List Fm)(p:Int):R2.B5 (l++m) p=R2.B5 l p+R2.B5 m p:=by
 induction l with
 | nil=>simp[R2.B5]
 | cons a r ih=>simp[R2.B5,ih];omega
theorem timesN_le(t:Fm)(p:Int):t.R2 p<=t.A0:=by
 induction t using aU generalizing p with
 | h t ih=>
 have key:∀l:List Fm,(∀a∈l,a∈t.B0)->R2.B5 l (p+H3 t.o0)<=A0.Z0 l:=by
  intro l
  induction l with
  | nil=>intro _;exact I5 _
  | cons a r l6=>
   intro h;have h1:=ih a (h a sS) (p+H3 t.o0);have h2:=l6 fun b hb=>h b (by simp[hb]);simp only[R2.B5,A0.Z0];omega
 have:=key t.B0 fun _ h=>h;have h3:=Tm.timess_le t.M1 p;rw[timesN_eq,count_eq];omega
theorem timess_le(l:List Fm)(p:Int):R2.B5 l p<=A0.Z0 l:=by
 induction l with
 | nil=>exact I5 _
 | cons a r ih=>have:=timesN_le a p;simp only[R2.B5,A0.Z0];omega
def leastN:Fm->Int->Bool
 | .mk _ _ ts a,m=>Tm.leastN.leasts ts m&&leasts a m
where
 leasts:List Fm->Int->Bool
  | [],_=>true
  | a::r,m=>a.leastN m&&leasts r m
theorem leastN_eq(t:Fm)(m:Int):t.leastN m=(Tm.leastN.leasts t.M1 m&&leastN.leasts t.B0 m):=by cases t;rfl
theorem leasts_append(l r:List Fm)(m:Int):leastN.leasts (l++r) m=(leastN.leasts l m&&leastN.leasts r m):=by
 induction l with
 | nil=>simp[leastN.leasts]
 | cons a r ih=>simp[leastN.leasts,ih,Ut]
def typedN:Fm->List Ty->Int
 | .mk k y ts a,g=>if Tm.natEs ts g=0 then typeds a (if H3 k=1 then g++[y] else g) else Tm.natEs ts g
where
 typeds:List Fm->List Ty->Int
  | [],_=>0
  | a::r,g=>if a.typedN g=0 then typeds r g else a.typedN g
theorem typedN_eq(t:Fm)(g:List Ty):t.typedN g=if Tm.natEs t.M1 g=0 then typedN.typeds t.B0 (if H3 t.o0=1 then g++[t.I0] else g) else Tm.natEs t.M1 g:=by cases t;rfl
theorem typeds_append(l r:List Fm)(g:List Ty):typedN.typeds (l++r) g=if typedN.typeds l g=0 then typedN.typeds r g else typedN.typeds l g:=by
 induction l with
 | nil=>rfl
 | cons a l ih=>
  simp only[R6,typedN.typeds,ih];by_cases h:a.typedN g=0;· simp[h]
  ·simp[h]
def good:Fm->Int->Prop
 | .mk k y ts a,m=>(∀t∈ts,t.shape=true/\t.idx m)/\(H3 k=1->y.ok)/\y.A0<=64/\goods a m
where
 goods:List Fm->Int->Prop
  | [],_=>True
  | a::r,m=>a.good m/\goods r m
theorem rh0(l:List Fm)(m:Int):good.goods l m↔∀a∈l,a.good m:=by
 induction l with
 | nil=>simp[good.goods]
 | cons a r ih=>simp[good.goods,ih]
theorem good_eq(t:Fm)(m:Int):t.good m↔(∀x∈t.M1,x.shape=true/\x.idx m)/\(H3 t.o0=1->t.I0.ok)/\t.I0.A0<=64/\∀a∈t.B0,a.good m:=by cases t;simp only[good,rh0,o0,I0,M1,B0]
end Fm
def I3(s t:Tm):Fm:=.mk 1 (L0 0 []) [s,t] []
def U5(k:Int)(a b:Fm):Fm:=.mk k (L0 0 []) [] [a,b]
def qF(k:Int)(y:Ty)(f:Fm):Fm:=.mk k y [] [f]
inductive FDn:List T->Fm->Prop
 | eq {Γ:List T} {s t:Tm} {F G:Q0 Γ->T.C0.V} (h1:Dn Γ s .C0 F) (h2:Dn Γ t .C0 G):FDn Γ (I3 s t)
 | two {Γ:List T} {k:Int} {a b:Fm} (hk:k=2\/k=3) (h1:FDn Γ a) (h2:FDn Γ b):FDn Γ (U5 k a b)
 | q {Γ:List T} {k:Int} {a:T} {f:Fm} (hk:k=4\/k=5\/k=6\/k=7) (ha:a.ok) (h:FDn (a::Γ) f):FDn Γ (qF k a.ty f)
theorem lU(h:FDn Γ f):∀m:Int,(Γ.length:Int)+f.A0<=m->f.good m:=by
 induction h with
 | @eq Γ s t F G h1 h2=>
  intro m hm;have hc:(I3 s t).A0=1+(s.A0+(t.A0+0))+0:=rfl;rw[Fm.good_eq];refine⟨fun x hx=>?_,fun h=>by simp[I3,cM,H3]at h,by show 1<=64;decide,fun a ha=>by simp[I3,lP]at ha⟩;simp only[I3,mN,u5,mL,or_false]at hx;rcases hx with rfl|rfl;· exact⟨Z5 h1,Tm.idx_of _ _ (Z5 h1) (gW h1 m oO)⟩
  ·exact⟨Z5 h2,Tm.idx_of _ _ (Z5 h2) (gW h2 m oO)⟩
 | @two Γ k a b hk h1 h2 E9 T8=>
  intro m hm;have hc:(U5 k a b).A0=1+0+(a.A0+(b.A0+0)):=rfl;rw[Fm.good_eq];refine⟨fun x hx=>by simp[U5,mN]at hx,fun h=>?_,by show 1<=64;decide,fun x hx=>?_⟩;· rcases hk with rfl|rfl <;> simp[U5,cM,H3]at h
  ·simp only[U5,lP,u5,mL,or_false]at hx;rcases hx with rfl|rfl;· exact E9 m oO
   ·exact T8 m oO
 | @q Γ k a f hk ha h ih=>
  intro m hm;have hc:(qF k a.ty f).A0=1+0+(f.A0+0):=rfl;rw[Fm.good_eq];refine⟨fun x hx=>by simp[qF,mN]at hx,fun _=>T.ok_ty ha,(T.ok_ty ha).2,fun x hx=>?_⟩;simp only[qF,lP,u5,mL,or_false]at hx;subst hx;exact ih m (by simp only[B4];omega)
theorem CU{Ξ:List T}(h:FDn Θ f):∀(Δ:List T) (_:Θ=Δ++Γ),FDn (Δ++(Ξ++Γ)) (f.V0 Δ.length Ξ.length):=by
 induction h with
 | eq h1 h2=>intro Δ e;subst e;rw[Fm.upN_eq];exact .eq (SG h1 Δ rfl) (SG h2 Δ rfl)
 | @two Θ k a b hk h1 h2 E9 T8=>
  intro Δ e;have e0:(U5 k a b).V0 Δ.length Ξ.length=U5 k (a.V0 Δ.length Ξ.length) (b.V0 Δ.length Ξ.length):=by
   rw[Fm.upN_eq];rcases hk with rfl|rfl <;> simp[U5,cM,aZ0,mN,lP,H3]
  rw[e0];exact .two hk (E9 Δ e) (T8 Δ e)
 | @q Θ k a f hk ha h ih=>
  intro Δ e;subst e;have e0:(qF k a.ty f).V0 Δ.length Ξ.length=qF k a.ty (f.V0 ((a::Δ).length:Nat) Ξ.length):=by
   rw[Fm.upN_eq];rcases hk with rfl|rfl|rfl|rfl <;> simp[qF,cM,aZ0,mN,lP,H3]
  rw[e0];exact .q hk ha (ih (a::Δ) rfl)
theorem f80(h:FDn Γ f)(Ξ:List T):FDn (Ξ++Γ) (f.V0 0 Ξ.length):=CU (Ξ:=Ξ) h [] rfl
theorem CP0{X:Q0 Γ->s.V}(hx:Dn Γ x s X)(h:FDn Θ f):∀(Δ:List T) (_:Θ=Δ++s::Γ),FDn (Δ++Γ) (f.Y1 0 Δ.length x):=by
 induction h with
 | eq h1 h2=>intro Δ e;subst e;rw[Fm.inN_eq];exact .eq (Yt hx h1 Δ rfl) (Yt hx h2 Δ rfl)
 | @two Θ k a b hk h1 h2 E9 T8=>
  intro Δ e;have e0:(U5 k a b).Y1 0 Δ.length x=U5 k (a.Y1 0 Δ.length x) (b.Y1 0 Δ.length x):=by
   rw[Fm.inN_eq];rcases hk with rfl|rfl <;> simp[U5,cM,aZ0,mN,lP,H3]
  rw[e0];exact .two hk (E9 Δ e) (T8 Δ e)
 | @q Θ k a f hk ha h ih=>
  intro Δ e;subst e;have e0:(qF k a.ty f).Y1 0 Δ.length x=qF k a.ty (f.Y1 0 ((a::Δ).length:Nat) x):=by
   rw[Fm.inN_eq];rcases hk with rfl|rfl|rfl|rfl <;> simp[qF,cM,aZ0,mN,lP,H3]
  rw[e0];exact .q hk ha (ih (a::Δ) rfl)
theorem wT{X:Q0 Γ->s.V}(hx:Dn Γ x s X)(h:FDn (s::Γ) f):FDn Γ (f.Y1 0 0 x):=CP0 hx h [] rfl
def Tm.matchE(a b:Tm)(n:Nat):Int:=
 if a.L4=0 then if b.L4=0 then if a.same b=true then 0
  else if (Tm.loopN n a 0).2.2=0 then if (Tm.loopN n b 0).2.2=0 then if (Tm.loopN n a 0).1.same (Tm.loopN n b 0).1=true then 0 else 11 else (Tm.loopN n b 0).2.2 else (Tm.loopN n a 0).2.2
 else b.L4 else a.L4
end
section
theorem Fm.fit_len{t:Fm}(h:t.dv.fit):t.M1.length<=2147483648/\t.B0.length<=2147483648:=by
 have:=(Fm.fit_eq t).1 ((Fm.dv_fit t).1 h);exact⟨this.2.2.1.1,this.2.2.2.1⟩
theorem Lz(k:Int):cU 320 [j0 k] (O2 (decide (H3 k=1))):=by
 refine H2 Tryz.func320 ?_;intro X hP G0 hf X0 hn hR K1 G1;by_cases h4:k=4
 ·refine U1 @h4 ?_;refine N3 ?_;simp[go_sem,hP,G0,hn,h4,H3] <;> (try omega)
 by_cases h5:k=5
 ·refine U1 (j2 @h4 @h5) ?_;refine N3 ?_;simp[go_sem,hP,G0,hn,h5,H3] <;> (try omega)
 by_cases h6:k=6
 ·refine U1 (j3 @h4 @h5 @h6) ?_;refine N3 ?_;simp[go_sem,hP,G0,hn,h6,H3] <;> (try omega)
 by_cases h7:k=7
 ·refine U1 (j4 @h4 @h5 @h6 @h7) ?_;refine N3 ?_;simp[go_sem,hP,G0,hn,h7,H3] <;> (try omega)
 ·refine U1 (j4 @h4 @h5 @h6 @h7) ?_;refine N3 ?_;simp[go_sem,hP,G0,hn,h4,h5,h6,h7,H3] <;> (try omega)
theorem QT(t:Fm):cU 371 [t.dv] (j0 (H3 t.o0)):=by
 refine A3 Tryz.func371 fun X zX=>?_;by_cases h:H3 t.o0=1;· exact O1 @h (M0 (Lz t.o0))
 ·have h0:H3 t.o0=0:=by have:=rA t.o0;omega
  exact O1 (j2 @h @h0) (M0 (Lz t.o0))
theorem QU(t:Fm)(hc:t.A0<=1073741824):cU 247 [t.dv] (j0 t.A0):=by
 induction t using aU with
 | h t ih=>
 have N4:=Fm.count_eq t;have kE:=rA t.o0;refine H2 Tryz.func247 ?_;intro X hP G0 hf X0 hn hR K1 G1;have hlen:=Fm.fit_len (G1 t.dv sS);refine N2 ?_;refine Q1 ?_;refine G2 [] (j2 @D3.Z0.eq_1 @D3.Z0.eq_2) (y7 (t.M1) (fun done rest=>[sV 3 (j0 (1+D3.Z0 done:Nat)),sP 1,sL 1 (mB t),sV 2 (j0 0),sV 9 (.sl (t.M1.map E3)),sV 10 (j0 t.M1.length),sV 11 (j0 done.length)]) ?_ ?_)
 ·intro done x rest hL B3 Z1;have I1:=E5 hL;have U2:=uE B3;have I8:=L9 U2;have aF:D3.Z0 t.M1=D3.Z0 done+(x.A0+D3.Z0 rest):=by rw[hL,gR];rfl
  refine K5 ?_;refine N1 @B3 (M0 (lR x oO)) ?_;refine W3 (wr []) (j3 @gR @D3.Z0.eq_1 @D3.Z0.eq_2) tT Z1
 ·refine K2 ?_;refine Z6 ?_;refine N2 ?_;refine Q1 ?_;refine G2 [] (j2 @Fm.A0.Z0.eq_1 @Fm.A0.Z0.eq_2) (y7 (t.B0) (fun done rest=>[sV 3 (j0 (1+D3.Z0 t.M1+Fm.A0.Z0 done:Nat)),sV 2 (j0 0),sV 21 (.sl (t.B0.map L3)),sV 22 (j0 t.B0.length),sV 23 (j0 done.length)]) ?_ ?_)
  ·intro done x rest hL B3 Z1;have I1:=E5 hL;have U2:=uE B3;have I8:=Fm.count_mem U2;have aF:Fm.A0.Z0 t.B0=Fm.A0.Z0 done+(x.A0+Fm.A0.Z0 rest):=by rw[hL,Fm.counts_append];rfl
   refine K5 ?_;refine N1 @B3 (M0 (ih x U2 oO)) ?_;refine W3 (wr []) (j3 @Fm.counts_append @Fm.A0.Z0.eq_1 @Fm.A0.Z0.eq_2) tT Z1
  ·refine K2 ?_;refine Z6 ?_;exact O1 @N4 H0
theorem Mr(t:Fm):cU 107 [t.dv] (t.dv):=by
 induction t using aU with
 | h t ih=>
 have N4:=Fm.count_eq t;have kE:=rA t.o0;refine H2 Tryz.func107 ?_;intro X hP G0 hf X0 hn hR K1 G1;have hlen:=Fm.fit_len (G1 t.dv sS);refine V3 H0 (M0 (yZ t.I0)) ?_;refine Q1 ?_;refine G2 [(1003,0)] tT (y7 (t.M1) (fun done rest=>[sP 1,sL 1 (mB t),sP 2,sL 2 [.v (j0 0),.v (j0 0),.own 0 [],.own 0 [],.own 0 []],sP 3,sL 3 [.v (j0 t.o0),.v (j0 t.I0.o0),.v (.sl (t.I0.B0.map P1)),.own 1003 (done.map E3),.own 0 []],(.tok 1003,.tk 5 done.length),sV 15 (.sl (t.M1.map E3)),sV 16 (j0 t.M1.length),sV 17 (j0 done.length)]) ?_ ?_)
 ·intro done x rest hL B3 Z1;have I1:=E5 hL;have U2:=uE B3;have I8:=L9 U2;have aF:D3.Z0 t.M1=D3.Z0 done+(x.A0+D3.Z0 rest):=by rw[hL,gR];rfl
  refine K5 ?_;refine N1 @B3 (M0 (Lx x)) ?_;refine W3 (wr [(1003,26)]) (O3 x) tT Z1
 ·refine K2 ?_;refine Z6 ?_;refine N2 ?_;refine Q1 ?_;refine G2 [(1004,0)] tT (y7 (t.B0) (fun done rest=>[sP 2,sL 2 [.v (j0 0),.v (j0 0),.own 0 [],.own 0 [],.own 0 []],sP 3,sL 3 [.v (j0 t.o0),.v (j0 t.I0.o0),.v (.sl (t.I0.B0.map P1)),.v (.sl (t.M1.map E3)),.own 1004 (done.map L3)],(.tok 1004,.tk 5 done.length),sV 30 (.sl (t.B0.map L3)),sV 31 (j0 t.B0.length),sV 32 (j0 done.length)]) ?_ ?_)
  ·intro done x rest hL B3 Z1;have I1:=E5 hL;have U2:=uE B3;have I8:=Fm.count_mem U2;have aF:Fm.A0.Z0 t.B0=Fm.A0.Z0 done+(x.A0+Fm.A0.Z0 rest):=by rw[hL,Fm.counts_append];rfl
   refine K5 ?_;refine N1 @B3 (M0 (ih x U2)) ?_;refine W3 (wr [(1004,41)]) (aA x) tT Z1
  ·refine K2 ?_;refine Z6 ?_;exact O1 H0 H0
theorem MS(t:Fm)(f b:Int)(hi:t.good 1073741824)(V8:-1073741824<=b)(Z8:b<=1073741824)(B6:0<=f)(gL:f+t.A0<=1073741824):cU 337 [t.dv,j0 f,j0 b] ((t.V0 f b).dv):=by
 induction t using aU generalizing f with
 | h t ih=>
 have N4:=Fm.count_eq t;have kE:=rA t.o0;have aQ:=(Fm.good_eq t _).1 hi;refine H2 Tryz.func337 ?_;intro X hP G0 hf X0 hn hR K1 G1;have hlen:=Fm.fit_len (G1 t.dv sS);refine N2 ?_;refine Q1 ?_;refine G2 [(1007,0)] tT (y7 (t.M1) (fun done rest=>[sV 1 (j0 f),sV 2 (j0 b),sP 3,sL 3 (mB t),sP 6,sL 6 [.v (j0 0),.v (j0 0),.own 0 [],.own 0 [],.own 0 []],sP 7,sL 7 [.v (j0 t.o0),.v (j0 t.I0.o0),.v (.sl (t.I0.B0.map P1)),.own 1007 (done.map fun x=>(x.V0 f b).E0),.own 0 []],(.tok 1007,.tk 5 done.length),sV 18 (.sl (t.M1.map E3)),sV 19 (j0 t.M1.length),sV 20 (j0 done.length)]) ?_ ?_)
 ·intro done x rest hL B3 Z1;have I1:=E5 hL;have U2:=uE B3;have I8:=L9 U2;have aF:D3.Z0 t.M1=D3.Z0 done+(x.A0+D3.Z0 rest):=by rw[hL,gR];rfl
  refine K5 ?_;refine N1 @B3 (M0 (Yq x f b (Tm.idx_mono dD (aQ.1 x U2).2) oO oO B6 oO)) ?_;refine W3 (wr [(1007,31)]) (O3 (x.V0 f b)) tT Z1
 ·refine K2 ?_;refine Z6 ?_;refine N2 ?_;refine Q1 ?_;refine G2 [(1008,0)] tT (y7 (t.B0) (fun done rest=>[sV 1 (j0 f),sV 2 (j0 b),sP 3,sL 3 (mB t),sP 6,sL 6 [.v (j0 0),.v (j0 0),.own 0 [],.own 0 [],.own 0 []],sP 7,sL 7 [.v (j0 t.o0),.v (j0 t.I0.o0),.v (.sl (t.I0.B0.map P1)),.v (.sl (t.M1.map fun x=>(x.V0 f b).E0)),.own 1008 (done.map fun x=>(x.V0 (f+H3 t.o0) b).E0)],(.tok 1008,.tk 5 done.length),sV 35 (.sl (t.B0.map L3)),sV 36 (j0 t.B0.length),sV 37 (j0 done.length)]) ?_ ?_)
  ·intro done x rest hL B3 Z1;have I1:=E5 hL;have U2:=uE B3;have I8:=Fm.count_mem U2;have aF:Fm.A0.Z0 t.B0=Fm.A0.Z0 done+(x.A0+Fm.A0.Z0 rest):=by rw[hL,Fm.counts_append];rfl
   refine K5 ?_;refine N1 @B3 (P3 (QT t) (ih x U2 (f+H3 t.o0) (aQ.2.2.2 x U2) oO oO)) ?_;refine W3 (wr [(1008,51)]) (aA (x.V0 (f+H3 t.o0) b)) tT Z1
  ·refine K2 ?_;refine Z6 ?_;refine N2 ?_;refine N3 ?_;simp[go_sem,hP,G0,hn] <;> (try omega);rw[Fm.upN_eq t];simp[Fm.dv,aA,Ik,Le,FN,FO];exact fun a _=>(O3 _).symm
theorem CQ0(t:Fm)(p d:Int)(s:Tm)(hi:t.good 1073741824)(hs:s.idx 1073741824)(hp:0<=p)(hd:0<=d)(hpd:p+d+t.A0+s.A0<=1073741824):cU 391 [t.dv,j0 p,j0 d,s.dv] ((t.Y1 p d s).dv):=by
 induction t using aU generalizing d with
 | h t ih=>
 have N4:=Fm.count_eq t;have kE:=rA t.o0;have aQ:=(Fm.good_eq t _).1 hi;refine H2 Tryz.func391 ?_;intro X hP G0 hf X0 hn hR K1 G1;have hlen:=Fm.fit_len (G1 t.dv sS);refine N2 ?_;refine Q1 ?_;refine G2 [(1009,0)] tT (y7 (t.M1) (fun done rest=>[sV 1 (j0 p),sV 2 (j0 d),sP 4,sL 4 (mB t),sP 7,sL 7 (gG s),sP 8,sL 8 [.v (j0 0),.v (j0 0),.own 0 [],.own 0 [],.own 0 []],sP 9,sL 9 [.v (j0 t.o0),.v (j0 t.I0.o0),.v (.sl (t.I0.B0.map P1)),.own 1009 (done.map fun x=>(x.Y1 p d s).E0),.own 0 []],(.tok 1009,.tk 5 done.length),sV 20 (.sl (t.M1.map E3)),sV 21 (j0 t.M1.length),sV 22 (j0 done.length)]) ?_ ?_)
 ·intro done x rest hL B3 Z1;have I1:=E5 hL;have U2:=uE B3;have I8:=L9 U2;have aF:D3.Z0 t.M1=D3.Z0 done+(x.A0+D3.Z0 rest):=by rw[hL,gR];rfl
  refine K5 ?_;refine N1 @B3 (M0 (gE0 x p d s (Tm.idx_mono dD (aQ.1 x U2).2) (Tm.idx_mono dD hs) hp hd oO)) ?_;refine W3 (wr [(1009,34)]) (O3 (x.Y1 p d s)) tT Z1
 ·refine K2 ?_;refine Z6 ?_;refine N2 ?_;refine Q1 ?_;refine G2 [(1010,0)] tT (y7 (t.B0) (fun done rest=>[sV 1 (j0 p),sV 2 (j0 d),sP 4,sL 4 (mB t),sP 7,sL 7 (gG s),sP 8,sL 8 [.v (j0 0),.v (j0 0),.own 0 [],.own 0 [],.own 0 []],sP 9,sL 9 [.v (j0 t.o0),.v (j0 t.I0.o0),.v (.sl (t.I0.B0.map P1)),.v (.sl (t.M1.map fun x=>(x.Y1 p d s).E0)),.own 1010 (done.map fun x=>(x.Y1 p (d+H3 t.o0) s).E0)],(.tok 1010,.tk 5 done.length),sV 38 (.sl (t.B0.map L3)),sV 39 (j0 t.B0.length),sV 40 (j0 done.length)]) ?_ ?_)
  ·intro done x rest hL B3 Z1;have I1:=E5 hL;have U2:=uE B3;have I8:=Fm.count_mem U2;have aF:Fm.A0.Z0 t.B0=Fm.A0.Z0 done+(x.A0+Fm.A0.Z0 rest):=by rw[hL,Fm.counts_append];rfl
   refine K5 ?_;refine N1 @B3 (P3 (QT t) (ih x U2 (d+H3 t.o0) (aQ.2.2.2 x U2) oO oO)) ?_;refine W3 (wr [(1010,55)]) (aA (x.Y1 p (d+H3 t.o0) s)) tT Z1
  ·refine K2 ?_;refine Z6 ?_;refine N2 ?_;refine N3 ?_;simp[go_sem,hP,G0,hn] <;> (try omega);rw[Fm.inN_eq t];simp[Fm.dv,aA,Ik,Le,FN,FO];exact fun a _=>(O3 _).symm
theorem ri0(t:Fm)(p:Int)(hc:t.A0<=1073741824)(lL:0<=p)(hp:p+t.A0<=2147483648):cU 390 [t.dv,j0 p] (j0 (t.R2 p)):=by
 induction t using aU generalizing p with
 | h t ih=>
 have N4:=Fm.count_eq t;have kE:=rA t.o0;refine H2 Tryz.func390 ?_;intro X hP G0 hf X0 hn hR K1 G1;have hlen:=Fm.fit_len (G1 t.dv sS);refine N2 ?_;refine Q1 ?_;refine G2 [] (j2 @Tm.R2.B5.eq_1 @Tm.R2.B5.eq_2) (y7 (t.M1) (fun done rest=>[sV 1 (j0 p),sP 2,sL 2 (mB t),sV 4 (j0 0),sV 5 (j0 (Tm.R2.B5 done p:Nat)),sV 11 (.sl (t.M1.map E3)),sV 12 (j0 t.M1.length),sV 13 (j0 done.length)]) ?_ ?_)
 ·intro done x rest hL B3 Z1;have I1:=E5 hL;have U2:=uE B3;have I8:=L9 U2;have aF:D3.Z0 t.M1=D3.Z0 done+(x.A0+D3.Z0 rest):=by rw[hL,gR];rfl
  have h1:=Tm.timess_le done p;have h2:=Tm.timesN_le x p;refine K5 ?_;refine N1 @B3 (M0 (eE0 x p oO lL oO)) ?_;refine W3 (wr []) (j3 @Tm.timess_append @Tm.R2.B5.eq_1 @Tm.R2.B5.eq_2) tT Z1
 ·refine K2 ?_;refine Z6 ?_;refine N2 ?_;refine Q1 ?_;refine G2 [] (j2 @Fm.R2.B5.eq_1 @Fm.R2.B5.eq_2) (y7 (t.B0) (fun done rest=>[sV 1 (j0 p),sP 2,sL 2 (mB t),sV 4 (j0 0),sV 5 (j0 (Tm.R2.B5 t.M1 p+Fm.R2.B5 done (p+H3 t.o0):Nat)),sV 24 (.sl (t.B0.map L3)),sV 25 (j0 t.B0.length),sV 26 (j0 done.length)]) ?_ ?_)
  ·intro done x rest hL B3 Z1;have I1:=E5 hL;have U2:=uE B3;have I8:=Fm.count_mem U2;have aF:Fm.A0.Z0 t.B0=Fm.A0.Z0 done+(x.A0+Fm.A0.Z0 rest):=by rw[hL,Fm.counts_append];rfl
   have h1:=Tm.timess_le t.M1 p;have h2:=Fm.timesN_le x (p+H3 t.o0);have h3:=Fm.timess_le done (p+H3 t.o0);refine K5 ?_;refine N1 @B3 (P3 (QT t) (ih x U2 (p+H3 t.o0) oO oO oO)) ?_;refine W3 (wr []) (j3 @Fm.timess_append @Fm.R2.B5.eq_1 @Fm.R2.B5.eq_2) tT Z1
  ·refine K2 ?_;refine Z6 ?_;exact O1 (Fm.timesN_eq t) H0
theorem or0(n:Nat):cU 180 [j0 n] (g8 n).dv:=by
 refine H2 Tryz.func180 ?_;intro X hP G0 hf X0 hn hR K1 G1;have Ce:y6 .i64 n:=G1 (j0 n) sS;rw[LU]at Ce;refine N1 H0 (M0 (dI 4 [])) ?_;refine Q1 ?_;refine G2 [] (j2 @g8.eq_1 @g8.eq_2) (mQ (fun x:Nat=>x<=n) (fun x:Nat=>[sV 0 (j0 x),sL 3 ((g8 (n - x)).E0.map .v),sP 3,sL 2 [.v (j0 0),.v (j0 0),.v (j0 0),.own 0 [],.own 0 []],sP 2]) (fun x:Nat=>x) n (I5 n) ?_);intro x hx ih;cases x with
 | zero=>
  refine T7 ?_;exact O1 H0 H0
 | succ x=>
  have hs:n - x=(n - (x+1))+1:=oO;refine K5 ?_;refine K2 ?_;refine K2 ?_;refine m5 ?_;refine G2 [] (j3 @hs @g8.eq_1 @g8.eq_2) (ih x oO oO)
theorem kz0(n:Nat)(hn4:n<4096):cU 101 [j0 n] (.H1 [(g8 n).dv,j0 0]):=by
 refine A3 Tryz.func101 fun X zX=>?_;have h1:¬(n:Int)<0:=oO;have h2:¬(4096:Int)<=n:=oO;exact O1 (j2 @h1 @h2) (M0 (or0 n))
theorem Gl(n:Nat)(hn4:n<4096):cU 24 [j0 n] (g8 n).dv:=by
 exact G7 Tryz.func24 H0 (M0 (kz0 n hn4))
theorem y80(t:Tm):cU 175 [t.dv] (U0 2 0 (L0 1 []) [t]).dv:=by
 exact G7 Tryz.func175 @tB (P3 iM (sJ 2 (L0 1 []) [t]))
theorem y90(a b c:Tm):cU 176 [a.dv,b.dv,c.dv] (U0 6 0 (L0 1 []) [a,b,c]).dv:=by
 exact G7 Tryz.func176 @tB (P3 iM (sJ 6 (L0 1 []) [a,b,c]))
def aD(t:Tm):Tm:=U0 2 0 (L0 1 []) [t]
def Dg(a b c:Tm):Tm:=U0 6 0 (L0 1 []) [a,b,c]
theorem vI(t:Tm):cU 175 [t.dv] (aD t).dv:=y80 t
theorem Yu(a b c:Tm):cU 176 [a.dv,b.dv,c.dv] (Dg a b c).dv:=y90 a b c
theorem xQ(i:Int):cU 168 [j0 i] (vT i).dv:=Ed i
theorem n5(k:Int)(l:List Tm):cU 170 [j0 k,.sl (l.map E3)] (nT k l).dv:=dI k l
theorem za0:aD (Dg (nT 4 []) (aD (aD (vT 1))) (vT 0))=xL:=rfl
theorem zb0:aD (aD (Dg (vT 1) (aD (aD (nT 5 [vT 0]))) (vT 0)))=Y6:=rfl
theorem CR0:aD (aD (Dg (vT 1) (aD (aD (nT 3 [xL,vT 0]))) (vT 0)))=Q8:=rfl
theorem kZ0:cU 177 [] xL.dv:=by
 exact B2 Tryz.func177 @za0 (vM (n5 4 []) (xQ 1) (vI (vT 1)) (vI (aD (vT 1))) (xQ 0) (Yu (nT 4 []) (aD (aD (vT 1))) (vT 0)) (vI (Dg (nT 4 []) (aD (aD (vT 1))) (vT 0))))
theorem Qe:cU 93 [] Y6.dv:=by
 exact B2 Tryz.func93 @zb0 (cC (xQ 1) (xQ 0) (n5 5 [vT 0]) (vI (nT 5 [vT 0])) (vI (aD (nT 5 [vT 0]))) (xQ 0) (Yu (vT 1) (aD (aD (nT 5 [vT 0]))) (vT 0)) (vI (Dg (vT 1) (aD (aD (nT 5 [vT 0]))) (vT 0))) (M0 ((vI (aD (Dg (vT 1) (aD (aD (nT 5 [vT 0]))) (vT 0)))))))
theorem Qj:cU 91 [] Q8.dv:=by
 exact B2 Tryz.func91 @CR0 (cC (xQ 1) kZ0 (xQ 0) (n5 3 [xL,vT 0]) (vI (nT 3 [xL,vT 0])) (vI (aD (nT 3 [xL,vT 0]))) (xQ 0) (Yu (vT 1) (aD (aD (nT 3 [xL,vT 0]))) (vT 0)) (P3 ((vI (Dg (vT 1) (aD (aD (nT 3 [xL,vT 0]))) (vT 0)))) ((vI (aD (Dg (vT 1) (aD (aD (nT 3 [xL,vT 0]))) (vT 0)))))))
theorem Xv(f a b:Tm):cU 178 [f.dv,a.dv,b.dv] (m9 f [a,b]).dv:=by
 exact G7 Tryz.func178 (j2 @m9.eq_1 @gE.eq_1) (P3 (dI 3 [f,a]) (dI 3 [U0 3 0 (L0 0 []) [f,a],b]))
theorem zc0:aD (aD (m9 Y6 [m9 Q8 [vT 1,vT 0],m9 Q8 [vT 0,vT 1]]))=H7:=rfl
theorem bN0:cU 92 [] H7.dv:=by
 exact B2 Tryz.func92 @zc0 (cC Qe Qj (xQ 1) (xQ 0) (Xv Q8 (vT 1) (vT 0)) Qj (xQ 0) (xQ 1) (cQ ((Xv Q8 (vT 0) (vT 1))) ((Xv Y6 (m9 Q8 [vT 1,vT 0]) (m9 Q8 [vT 0,vT 1]))) ((vI (m9 Y6 [m9 Q8 [vT 1,vT 0],m9 Q8 [vT 0,vT 1]]))) ((vI (aD (m9 Y6 [m9 Q8 [vT 1,vT 0],m9 Q8 [vT 0,vT 1]]))))))
theorem VM(n:Nat)(b:Nat)(l:List Int)(p:Nat)(hl:l.length<=500)(hp:p<=l.length)(Ph:n<=3) :
  cT 169 [M3 b,j0 n] [(b,R5 l p)] (H9 l n p).1.dv [(b,R5 l (H9 l n p).2)]:=by
 induction n generalizing p with
 | zero=>
  refine H2 Tryz.func169 ?_;intro X hP G0 hf X0 hn hR K1 G1;rw[H9]at hR;have OE:=lA (l:=l) (p:=p) (n:=7) dD;refine N1 H0 (M0 (fX b l p 7 dD oO)) ?_;generalize hd:Y2 l p 7=d at *;obtain⟨k,q⟩:=d;simp only at OE hR;by_cases h3:k=3;· exact v8 [(b,R5 l q)] @h3 (M0 Eb)
  by_cases h4:k=4;· exact v8 [(b,R5 l q)] @h4 (M0 UW)
  by_cases h0:k=0;· exact v8 [(b,R5 l q)] @h0 (M0 iM)
  by_cases h1:k=1;· exact v8 [(b,R5 l q)] @h1 (M0 iM)
  by_cases h2:k=2;· exact v8 [(b,R5 l q)] @h2 (M0 iM)
  by_cases h5:k=5;· exact v8 [(b,R5 l q)] @h5 (M0 iM)
  have h6:k=6:=oO;exact v8 [(b,R5 l q)] @h6 (M0 iM)
 | succ n ih=>
  refine H2 Tryz.func169 ?_;intro X hP G0 hf X0 hn hR K1 G1;rw[H9]at hR;have OE:=lA (l:=l) (p:=p) (n:=7) dD;have hq:=fH (n:=7) hp;refine N1 H0 (M0 (fX b l p 7 dD oO)) ?_;generalize hd:Y2 l p 7=d at *;obtain⟨k,q⟩:=d;simp only at OE hR hq;have gM:(0:Int)<((n+1:Nat):Int):=oO;have rV:((n+1:Nat):Int) - 1=(n:Int):=oO;obtain⟨a1,-⟩:=Qo l n q hq;by_cases h3:k=3;· exact v8 [(b,R5 l q)] @h3 (M0 Eb)
  by_cases h4:k=4;· exact v8 [(b,R5 l q)] @h4 (M0 UW)
  by_cases h0:k=0;· exact v8 [(b,R5 l q)] @h0 (M0 iM)
  by_cases h1:k=1;· exact v8 [(b,R5 l q)] @h1 (M0 iM)
  by_cases h2:k=2;· exact v8 [(b,R5 l q)] @h2 (M0 iM)
  by_cases h5:k=5;· exact v8 [(b,R5 l (H9 l n (H9 l n q).2).2)] (j3 @h5 @gM @rV) (E8 (ih q hq oO) (ih _ a1 oO) (bV0 (H9 l n q).1 (H9 l n (H9 l n q).2).1))
  have h6:k=6:=oO;exact v8 [(b,R5 l (H9 l n (H9 l n q).2).2)] (j3 @h6 @gM @rV) (E8 (ih q hq oO) (ih _ a1 oO) (wL (H9 l n q).1 (H9 l n (H9 l n q).2).1))
def BE(g:List Ty)(t:Ty)(n:Nat):List Nat:=(oT n).filter fun i=>(gZ g i).same t
theorem os0(g:List Ty)(t:Ty)(n:Nat):BE g t (n+1)=if (gZ g n).same t=true then BE g t n++[n] else BE g t n:=by
 unfold BE;rw[List.range_succ,List.filter_append];split <;> simp_all
theorem WP(g:List Ty)(t:Ty)(n:Nat):(BE g t n).length<=n:=by
 have:=Ur (fun i=>(gZ g i).same t) (oT n)
 simpa [BE] using this
def xR(l:List Nat):List Int:=l.map gS
theorem El(l:List Nat):(xR l).length=l.length:=by simp[xR]
theorem rj0(l:List Nat)(n:Nat):xR (l++[n])=xR l++[(n:Int)]:=by simp[xR]
theorem Qz(g:List Ty)(t:Ty)(nK:g.length<=1000000) :
  cU 167 [.sl (g.map P1),t.dv] (.sl (P2 (xR (bC g t)))):=by
 refine A3 Tryz.func167 fun X zX=>?_;refine N2 ?_;refine Q1 ?_;refine G2 [(1005,0)] (j3 @xR.eq_1 @BE.eq_1 @c7) (xF (g.length) (fun i=>True) (fun i=>[sV 9 (j0 i),sV 8 (j0 g.length),(.P0 5,.one (.own 1005 (P2 (xR (BE g t i))))),(.tok 1005,.tk 1 (BE g t i).length),sV 0 (.sl (g.map P1)),sL 3 (tM t),sP 3,(.P0 4,.one (.own 0 []))]) (trivial) ?_ ?_)
 ·intro i hi _ Z1;have TW:=WP g t i;have Tx:=(Mb hi).2;have aQ:(g.length:Int) - 1 - i=((g.length - 1 - i:Nat):Int):=oO;refine K5 ?_;refine N1 (j2 @aQ @Tx) (M0 (gU (gZ g i) t)) ?_;have TO:=os0 g t i;by_cases hs:(gZ g i).same t=true
  ·rw[if_pos hs]at TO;rw[TO]at Z1;refine W3 (wr [(1005,25)]) (j4 @El @rj0 @Wj @c7) (j2 @hs @El) (Z1 tT)
  ·rw[if_neg hs]at TO;rw[TO]at Z1;refine W3 (wr []) tT @hs (Z1 tT)
 ·intro _;refine T7 ?_;exact O1 (j2 @bC.eq_1 @BE.eq_1) H0
theorem LB(g h:List Ty)(nK:g.length+h.length<=1000000) :
  cU 172 [.sl (g.map P1),.sl (h.map P1)] (.sl ((g++h).map P1)):=by
 refine A3 Tryz.func172 fun X zX=>?_;have gQ:g.length<=1000000:=oO;exact O1 H0 H0
theorem c70{t:Ty}(h:rG l t g p=(none,q)):((bC g t).length=0/\q=p)\/((bC g t).length≠0/\(Y2 l p 3).1=0/\q=(Y2 l p 3).2):=by
 unfold rG at h;split at h;· rename_i h0;cases h;exact .inl ⟨h0,rfl⟩
 ·rename_i h0;split at h;· rename_i h1;cases h;exact .inr ⟨h0,h1,rfl⟩
  ·cases h
theorem cq0{t:Ty}(h:rG l t g p=(some x,q)):(bC g t).length≠0/\(Y2 l p 3).1≠0/\∃k i:Nat,(Y2 l (Y2 l p 3).2 (bC g t).length).1=k/\(bC g t)[k]? = some i/\x=vT i/\q=(Y2 l (Y2 l p 3).2 (bC g t).length).2:=by
 unfold rG at h;split at h;· cases h
 ·rename_i h0;split at h;· cases h
  ·rename_i h1;have hb:=lA (l:=l) (p:=(Y2 l p 3).2) (n:=(bC g t).length) oO;cases h;obtain⟨k,hk⟩:∃k:Nat,(Y2 l (Y2 l p 3).2 (bC g t).length).1=k:=⟨_,(If hb.1).symm⟩;rw[hk]at hb;have I1:k<(bC g t).length:=oO;refine⟨h0,h1,k,(bC g t)[k],hk,uB I1,?_,rfl⟩;rw[hk,aO0,jO,uB I1,Cj]
theorem ln0(b:Nat)(l:List Int)(hl:l.length<=500)(t:Ty):∀(z:Int) (g:List Ty) (p:Nat),z<=0->t.A0<=z+1000->t.small->(∀x∈g,x.small)->g.length+t.A0<=1000000->p<=l.length ->
  cT 88 [M3 b,.sl (g.map P1),t.dv,j0 z] [(b,R5 l p)] (dC l t g p).1.dv [(b,R5 l (dC l t g p).2)]:=by
 induction t using yS with
 | h t ih=>
 intro z g p hz pZ ht hg DB hp;refine H2 Tryz.func88 ?_;intro X hP G0 hf X0 hn hR K1 G1;rw[WN l t g p ht.ok]at hR;have NU:(bC g t).length<=g.length:=WP g t g.length;have Oh:=fH (n:=3) hp;have BZ:=lA (l:=l) (p:=p) (n:=3) dD;rcases AO:rG l t g p with⟨_|x,q⟩
 ·rw[AO]at hR;simp only at hR;have hq:q<=l.length:=by have:=Mq (t:=t) (g:=g) hp;rw[AO]at this;exact this
  apply vF [sV 215 (O2 (decide (t.o0=1))),sV 214 (j0 t.o0),sV 0 (M3 b),sV 1 (.sl (g.map P1)),sV 3 (j0 z),sP 6,sL 6 (tM t),sP 8,sL 8 [.v (j0 0),.v (j0 0),.v (j0 0),.own 0 [],.own 0 []],sB  b [.v (.sl (P2 l)),.v (j0 q)]]
  ·intro Q3;refine N1 H0 (M0 (Qz g t oO)) ?_;rcases c70 AO with⟨h0,rfl⟩|⟨h0,h1,rfl⟩
   ·refine U1 (j2 @El @h0) ?_;refine m5 ?_;refine G2 [] tT Q3
   ·have gM:0<(bC g t).length:=oO;refine V3 (j3 @El @gM @h1) (M0 (fX b l p 3 dD oO)) ?_;refine m5 ?_;refine G2 [] tT Q3
  ·have Q7:¬0<z:=oO;rcases IK ht with⟨h,e⟩|⟨h,e⟩|⟨h,e⟩|⟨h,e⟩|⟨h,e⟩
   ·rw[if_pos h]at hR;have hb:=lA (l:=l) (p:=q) (n:=3) dD;obtain⟨k,hk⟩:∃k:Nat,(Y2 l q 3).1=k:=⟨_,(If hb.1).symm⟩;rw[hk]at hb;exact v8 [(b,R5 l (Y2 l q 3).2)] (j4 @Q7 @h @hk @Ah.eq_1) (P3 (fX b l q 3 dD oO) (Gl k oO))
   ·rw[if_neg oO,if_pos h]at hR;exact v8 [(b,R5 l q)] (j3 @Q7 @h @nT.eq_1) (M0 (dI 7 []))
   ·rw[if_neg oO,if_neg oO,if_neg oO,if_neg oO]at hR;exact v8 [(b,R5 l q)] (j3 @Q7 @h @nT.eq_1) (M0 (dI 13 []))
   ·rw[if_neg oO,if_neg oO,if_pos h]at hR;obtain⟨s0,s1,hc⟩:=ht.arg (.inl h);have p0:=sA (t.arg 0);have p1:=sA (t.arg 1);have ha:t.B0=[t.arg 0,t.arg 1]:=by rw[e];rfl
    obtain⟨a1,-⟩:=cp0 Vd (t.arg 0) g q s0 hg hq;exact v8 [(b,R5 l (dC l (t.arg 1) g (dC l (t.arg 0) g q).2).2)] (j4 @Q7 @h @ha @nT.eq_1) (E8 (ih (t.arg 0) (by rw[ha];simp) (z - 1) g q oO oO s0 hg oO hq) (ih (t.arg 1) (by rw[ha];simp) (z - 1) g (dC l (t.arg 0) g q).2 oO oO s1 hg oO a1) (dI 10 [(dC l (t.arg 0) g q).1,(dC l (t.arg 1) g (dC l (t.arg 0) g q).2).1]))
   ·rw[if_neg oO,if_neg oO,if_neg oO,if_pos h]at hR;obtain⟨s0,s1,hc⟩:=ht.arg (.inr h);have p0:=sA (t.arg 0);have p1:=sA (t.arg 1);have ha:t.B0=[t.arg 0,t.arg 1]:=by rw[e];rfl
    have ZM:∀x∈g++[t.arg 0],x.small:=by intro x hx;rcases t6.1 hx with hx|hx;exact hg x hx;rw[bM.1 hx];exact s0
    exact v8 [(b,R5 l (dC l (t.arg 1) (g++[t.arg 0]) q).2)] (j3 @Q7 @h @ha) (E8 (LB g [t.arg 0] (by simp;omega)) (ih (t.arg 1) (by rw[ha];simp) (z - 1) (g++[t.arg 0]) q oO oO s1 ZM (by simp;omega) hq) (sJ 2 (t.arg 0) [(dC l (t.arg 1) (g++[t.arg 0]) q).1]))
 ·rw[AO]at hR;simp only at hR;obtain⟨h0,h1,k,i,hk,hi,rfl,rfl⟩:=cq0 AO;have gM:0<(bC g t).length:=oO;have Zt:0<(Y2 l p 3).1:=oO;have vR:=zL (l:=xR (bC g t)) (i:=k) (n:=i) (by simp[xR,hi]);have hkl:=(uA hi).1;exact v8 [(b,R5 l (Y2 l (Y2 l p 3).2 (bC g t).length).2)] (j6 @El @gM @Zt @hk @vR @vT.eq_1) (cQ (Qz g t oO) (fX b l p 3 dD oO) (fX b l (Y2 l p 3).2 (bC g t).length oO oO) (Ed i))
end
end Go.Proofs.YtmilnfebjgkkcaaGreatDoor.Lift
