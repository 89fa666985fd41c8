import Derived.Test.YtmilnfebjgkkcaaGreatDoorQz6
import Derived.Lib.LaidTab
set_option maxHeartbeats 8000000
set_option maxRecDepth 100000
set_option linter.all false
namespace Go.Proofs.YtmilnfebjgkkcaaGreatDoor.Lift
open BitVec renaming ofInt->yL
open DataW renaming trod->mP
open Fm renaming E0->L3,cells_eq->aA,v6->Iz,fold->DQ,o0->cM,mk->oV,nb->Cs,nb_fr->Cr,nb_in->bp0
open Int renaming add_zero->sE,eq_ofNat_of_zero_le->bt0
open List renaming cons_append->R6,getElem?_map->cI,getElem?_of_mem->Iw,length_cons->B4,length_nil->fC,lookup_cons->Iy,map->Y3,map_cons->G4,map_flatten->br0,map_nil->O5,mem_singleton->bM,nil_append->aT
open List.cons renaming injEq->FG
open Nat renaming le_refl->I5,le_trans->cH
open Ne renaming symm->f8
open Option renaming map_eq_some_iff->vV
open Option.some renaming inj->Iq
open Pf renaming E0->lN,cells_eq->rZ,fold->Cm,mk->Im
open RS renaming objs->H8
open T renaming fn->y8,C0->N0,ok_ty->M9,ty_inj->eN
open Tm renaming args_mk->M8,E0->E3,cells_eq->O3,fold->P5,idx_of->sF,index_mk->fE,kind_mk->Z9,mk->U0,type_mk->kL
open _root_.Go.Proofs.Tryz renaming func122->kb0,func18->km0,func20->PX,func21->kn0,func22->bu0,func224->Cu,func23->bv0,func27->UH,func297->bs0,func33->kl0,prog->W0
open Ty renaming E0->P1,cells_eq->mK,fold->qK,mk->L0
open Val renaming E0->vZ
open World renaming var?_cell->ko0
open Go
variable{a a2 p pb:Pf}{b c g t x:Tm}{c2 cw:Bool}{e k:Int}{f fa fb:Fm}{hs:List Fm}{i n u:Nat}{s:T}{v v2 vw:DV}{y:Ty}{ys:List (List DV)}{Γ Θ:List T}
section
abbrev EZ(b:Nat)(p:Pf)(hs:List Fm)(ys:List (List DV))(φ:G3):Prop:=∃P:RS,P.is 1 ys/\(∃b',P.q=some b'/\b'≠b)/\φ=pO b p hs P
def GM{b:Nat}{φ:G3}(h:EZ b p hs ys φ):(φ.map (·.1)).Nodup:=by
 obtain⟨P,-,⟨b1,hq,X1⟩,rfl⟩:=h;exact Yy fun b' e=>by rw[hq]at e;cases e;exact X1
def zI(d:Nat)(F:List (List DV)):eH d (F.map (Y3 SV.v)).flatten=false:=by
 rw[<- br0]
 induction F.flatten with
 | nil=>rfl
 | cons x r ih=>simp[eH,jS,ih]
def zJ(d:Nat)(F:List (List DV)):qY d (F.map (Y3 SV.v)).flatten=false:=by
 rw[<- br0]
 induction F.flatten with
 | nil=>rfl
 | cons x r ih=>simp[qY,pE,ih]
def Gt(σ:Nat->Nat)(F:List (List DV)):lX σ (F.map (Y3 SV.v)).flatten (F.map (Y3 SV.v)).flatten=True:=by
 rw[<- br0];exact eq_true (Rx σ _)
def zV{y:Pf}{hs bH:List Fm}{c:Bool}(b:Nat)(hy:p.B0[0]? = some y)(w:cU 137 [.sl [],.sl (bH.map L3),y.dv] (.ref (g6 y f bH c v))):
  lF W0 gl 292 [lI b hs,.sl (bH.map L3)] [(b,xC p hs eR)] (EY b p hs f [[.ref (g6 y f bH c v)]]):=fe0 b [] rs0 hy C80 dD (fun b' h=>by cases h) w
def MY{y:Pf}{hs bH:List Fm}{c:Bool}(b:Nat){z:List DV}{b1 n1 k1:Nat}{F1:List (List DV)}(h:RS.is ⟨some b1,n1,k1,F1⟩ 1 [z])(X1:b1≠b)(hy:p.B0[1]? = some y)(w:cU 137 [.sl [],.sl (bH.map L3),y.dv] (.ref (g6 y f bH c v))):
  lF W0 gl 292 [lI b hs,.sl (bH.map L3)] [(b,xC p hs (xP (some b1) n1 k1)),(b1,F1.flatten)] (EY b p hs f [z,[.ref (g6 y f bH c v)]]):=fe0 b [z] _ hy h sS (fun b' e=>by cases e;exact X1) w
def zV0(hk:p.o0=4)(ha:p.B0=[a])(w:cU 137 [.sl [],.sl ((hs).map L3),a.dv] (.ref (g6 a (U5 2 fa fb) (hs) cw vw))):JF p hs fa [[.ref (g6 a (U5 2 fa fb) hs cw vw)]]:=by
 have O6:=aA fa;have nH:=aA fb;intro b;refine H2 Cu ?_;intro X hP G0 hf X0 hn hR K1 G1;simp only[entry,bA,R6,aT];refine E4 (bx [1000001]) tT ?_;refine U1 @hk ?_;refine U6 tT fun K hK=>?_;refine Ai hk (zV (p:=p) (hs:=hs) b (by rw[ha];rfl) w) ?_;rintro rr φ ⟨rfl,⟨q1,n1,k1,F1⟩,hP1,⟨b1,rfl,X1⟩,rfl⟩ -;have hne2:=f8 X1;simp[go_sem,hP,G0,hn,pO,H8,U3,X1,hne2,hk,zI,zJ,wU,O6,nH];refine K4 ?_;clear hK K;refine Q1 ?_;refine gA hP hf X0 fa.dv (pO b p hs ⟨some b1,n1,k1,F1⟩) sH (fun b2 cs h2=>by simp[pO,H8]at h2;rcases h2 with⟨rfl,rfl⟩|⟨rfl,rfl⟩ <;> simp[go_sem,X1,hne2,hk]) (by simp[pO,H8,X1,hne2]) ?_ hR.2;rw[hR.1];exact⟨rfl,_,hP1,⟨b1,rfl,X1⟩,rfl⟩
def zW0(hk:p.o0=5)(ha:p.B0=[a])(w:cU 137 [.sl [],.sl ((hs).map L3),a.dv] (.ref (g6 a (U5 2 fa fb) (hs) cw vw))):JF p hs fb [[.ref (g6 a (U5 2 fa fb) hs cw vw)]]:=by
 have O6:=aA fa;have nH:=aA fb;intro b;refine H2 Cu ?_;intro X hP G0 hf X0 hn hR K1 G1;simp only[entry,bA,R6,aT];refine E4 (bx [1000001]) tT ?_;refine U1 @hk ?_;refine U6 tT fun K hK=>?_;refine Ai hk (zV (p:=p) (hs:=hs) b (by rw[ha];rfl) w) ?_;rintro rr φ ⟨rfl,⟨q1,n1,k1,F1⟩,hP1,⟨b1,rfl,X1⟩,rfl⟩ -;have hne2:=f8 X1;simp[go_sem,hP,G0,hn,pO,H8,U3,X1,hne2,hk,zI,zJ,wU,O6,nH];refine K4 ?_;clear hK K;refine Q1 ?_;refine gA hP hf X0 fb.dv (pO b p hs ⟨some b1,n1,k1,F1⟩) sH (fun b2 cs h2=>by simp[pO,H8]at h2;rcases h2 with⟨rfl,rfl⟩|⟨rfl,rfl⟩ <;> simp[go_sem,X1,hne2,hk]) (by simp[pO,H8,X1,hne2]) ?_ hR.2;rw[hR.1];exact⟨rfl,_,hP1,⟨b1,rfl,X1⟩,rfl⟩
def C90(hk:p.o0=1)(hi:p.O0=i)(hl:hs.length<=1000)(hf:hs[hs.length - 1 - i]? = some f)(I1:i<hs.length)(b:Nat):cT 224 [lI b hs] [(b,xC p hs eR)] f.dv [(b,xC p hs eR)]:=by
 have hg:=hf;refine H2 Cu ?_;intro X hP G0 hf X0 hn hR K1 G1;simp only[entry,bA,R6,aT];refine E4 (bx [1000001]) tT ?_;refine U1 (j2 @hk @hi) ?_;refine U1 (j2 @hg @hi) ?_;refine Q1 ?_;refine gA hP hf X0 f.dv [(b,xC p hs eR)] (by simp[go_sem,hP,G0,hn,hk,hi]) (fun b2 cs h2=>by simp at h2;obtain⟨rfl,rfl⟩:=h2;simp[go_sem,hk,hi]) sS ?_ hR.2;rw[hR.1];exact⟨rfl,rfl⟩
def fW0(hk:p.o0=18)(ht:p.M1=[t])(b:Nat):cT 297 [lI b hs] [(b,xC p hs eR)] (I3 t t).dv [(b,xC p hs eR)]:=by
 have N4:=O3 t;refine H2 bs0 ?_;intro X hP G0 hf X0 hn hR K1 G1;simp only[entry,bA,R6,aT];refine E4 (bx [1000001]) tT ?_;refine U1 (j3 @hk @ht @N4) ?_;refine Q1 ?_;refine gA hP hf X0 (I3 t t).dv [(b,xC p hs eR)] (by simp[go_sem,hP,G0,hn,hk,ht,sW,N4]) (fun b2 cs h2=>by simp at h2;obtain⟨rfl,rfl⟩:=h2;simp[go_sem,hk,ht,sW,N4]) sS ?_ hR.2;rw[hR.1];exact⟨rfl,rfl⟩
def fX0(hk:16<=p.o0)(b:Nat)(w:cT 297 [lI b hs] [(b,xC p hs eR)] f.dv [(b,xC p hs eR)]):cT 224 [lI b hs] [(b,xC p hs eR)] f.dv [(b,xC p hs eR)]:=by
 have Y5:¬p.o0=1/\¬p.o0=2/\¬p.o0=3/\¬p.o0=4/\¬p.o0=5/\¬p.o0=6/\¬p.o0=7/\¬p.o0=8/\¬p.o0=9/\¬p.o0=10/\¬p.o0=11/\¬p.o0=12/\¬p.o0=13/\¬p.o0=14/\¬p.o0=15:=oO;have kF:=aA f;refine H2 Cu ?_;intro X hP G0 hf X0 hn hR K1 G1;simp only[entry,bA,R6,aT];refine E4 (bx [1000001]) tT ?_;refine N1 (j2 @Y5 @kF) (M0 w) ?_;refine Q1 ?_;refine gA hP hf X0 f.dv [(b,xC p hs eR)] (by simp[go_sem,hP,G0,hn,kF]) (fun b2 cs h2=>by simp at h2;obtain⟨rfl,rfl⟩:=h2;simp[go_sem,kF]) sS ?_ hR.2;rw[hR.1];exact⟨rfl,rfl⟩
def Yd(hk:16<=p.o0)(w:∀b,lF W0 gl 297 [lI b hs] [(b,xC p hs eR)] (EY b p hs f ys)):JF p hs f ys:=by
 have Y5:¬p.o0=1/\¬p.o0=2/\¬p.o0=3/\¬p.o0=4/\¬p.o0=5/\¬p.o0=6/\¬p.o0=7/\¬p.o0=8/\¬p.o0=9/\¬p.o0=10/\¬p.o0=11/\¬p.o0=12/\¬p.o0=13/\¬p.o0=14/\¬p.o0=15:=oO;have kF:=aA f;replace hk:=kF;intro b;refine H2 Cu ?_;intro X hP G0 hf X0 hn hR K1 G1;simp only[entry,bA,R6,aT];refine E4 (bx [1000001]) tT ?_;refine U1 @Y5 ?_;refine U6 tT fun K hK=>?_;refine Ai hk (w b) ?_;rintro rr φ ⟨rfl,⟨q1,n1,k1,F1⟩,hP1,⟨b1,rfl,X1⟩,rfl⟩ -;have hne2:=f8 X1;simp[go_sem,hP,G0,hn,pO,H8,U3,X1,hne2,hk,zI,zJ,kF];refine K4 ?_;clear hK K;refine Q1 ?_;refine gA hP hf X0 f.dv (pO b p hs ⟨some b1,n1,k1,F1⟩) sH (fun b2 cs h2=>by simp[pO,H8]at h2;rcases h2 with⟨rfl,rfl⟩|⟨rfl,rfl⟩ <;> simp[go_sem,X1,hne2,hk]) (by simp[pO,H8,X1,hne2]) ?_ hR.2;rw[hR.1];exact⟨rfl,_,hP1,⟨b1,rfl,X1⟩,rfl⟩
def go0(hk:p.o0=10)(ha:p.B0=[a])(B6:p.V4=[f])(w:cU 137 [.sl [],.sl ((hs).map L3),a.dv] (.ref (g6 a fa (hs) cw vw))):JF p hs f [[.ref (g6 a fa hs cw vw)]]:=by
 have kF:=aA f;intro b;refine H2 Cu ?_;intro X hP G0 hf X0 hn hR K1 G1;simp only[entry,bA,R6,aT];refine E4 (bx [1000001]) tT ?_;refine U1 @hk ?_;refine U6 tT fun K hK=>?_;refine Ai hk (zV (p:=p) (hs:=hs) b (by rw[ha];rfl) w) ?_;rintro rr φ ⟨rfl,⟨q1,n1,k1,F1⟩,hP1,⟨b1,rfl,X1⟩,rfl⟩ -;have hne2:=f8 X1;simp[go_sem,hP,G0,hn,pO,H8,U3,X1,hne2,hk,zI,zJ,B6,kF];refine K4 ?_;clear hK K;refine U1 (j2 @B6 @kF) ?_;refine Q1 ?_;refine gA hP hf X0 f.dv (pO b p hs ⟨some b1,n1,k1,F1⟩) (by simp[go_sem,hP,G0,hn,B6,kF]) (fun b2 cs h2=>by simp[pO,H8]at h2;rcases h2 with⟨rfl,rfl⟩|⟨rfl,rfl⟩ <;> simp[go_sem,X1,hne2,hk,B6,kF]) (by simp[pO,H8,X1,hne2]) ?_ hR.2;rw[hR.1];exact⟨rfl,_,hP1,⟨b1,rfl,X1⟩,rfl⟩
def XK(K3:D6 gl 2=some A7){s:Ty}(hk:p.o0=8)(hy:p.I0=s)(ha:p.B0=[a])(k:CK Γ hs 1 0)(w:cU 137 [.sl [],.sl ((Q5 hs 1).map L3),a.dv] (.ref (g6 a fa (Q5 hs 1) cw vw))):JF p hs (qF 4 s fa) [[.ref (g6 a fa (Q5 hs 1) cw vw)]]:=by
 have O6:=aA fa;have iH:=qK s;have wb:=Mh K3 (Γ:=Γ) (by have:=k.1;omega) hs 1 oO k.2.2.2 (by have:=k.2.1;omega);intro b;refine H2 Cu ?_;intro X hP G0 hf X0 hn hR K1 G1;simp only[entry,bA,R6,aT];refine E4 (bx [1000001]) tT ?_;refine U1 @hk ?_;refine Q1 ?_;refine aM [] sG ?_ sG (GJ (s:=[sV 1 (.ref [.sl [],.sl (hs.map L3),M3 b]),sP 3,sL 3 (nF p),sP 2,sL 2 [.v (j0 0),.v (j0 0),.own 0 [],.own 0 [],.own 0 []]]++U3 [(b,xC p hs eR)]) (sv:=[sV 1 (.ref [.sl [],.sl (hs.map L3),M3 b]),sP 3,sL 3 (nF p),sP 2,sL 2 [.v (j0 0),.v (j0 0),.own 0 [],.own 0 [],.own 0 []]]++[sV 105 fa.dv]) (by rw[hP];exact kO) hP G0 6 105 (1+2 ^ 102+2 ^ 105) [sV 101 (lI b hs),sV 104 (.sl ((Q5 hs 1).map L3))] (E:=EZ b p hs [[.ref (g6 a fa (Q5 hs 1) cw vw)]]) (by rfl) (zV (p:=p) (hs:=hs) b (by rw[ha];rfl) w) sG sS (fun _ h=>GM h) nN (fun l v h=>h) (by rfl) (by rfl) [] fun K hK=>?_);· simp[go_sem,Gt,hk,hy,iH,O6]
 simp[go_sem,hP,G0,hn,dO,tJ,Iy,hk,hy,iH,O6];refine Z7 (j2 @iH @O6) (wb) ?_;refine⟨by rfl,hK _ (fun l v hl=>by simp only[get]at hl;(repeat' split at hl);all_goals first|(cases hl;done)|(rename_i e;subst e;cases hl;first|rfl|(simp[get,Q5];done)|(simp[get,Q5,hk,hy,iH,O6];done))) (by simp[go_sem,hk,hy,iH,O6]) fun ψ kS=>?_⟩;clear hK K;obtain⟨⟨q1,n1,k1,F1⟩,hP1,⟨b1,rfl,X1⟩,rfl⟩:=kS;have hne2:=f8 X1;simp[go_sem,iW,cA,pO,H8,U3,X1,hne2];refine Q1 ?_;refine gA hP hf X0 (qF 4 s fa).dv (pO b p hs ⟨some b1,n1,k1,F1⟩) (by simp[go_sem,hP,G0,hn,dL]) (fun b2 cs h2=>by simp[pO,H8]at h2;rcases h2 with⟨rfl,rfl⟩|⟨rfl,rfl⟩ <;> simp[go_sem,X1,hne2,hk,dL]) (by simp[pO,H8,X1,hne2]) ?_ hR.2;rw[hR.1];exact⟨rfl,_,hP1,⟨b1,rfl,X1⟩,rfl⟩
def zX0(K3:D6 gl 2=some A7){X:Q0 Γ->s.V}(hk:p.o0=9)(hy:p.M1=[t])(ha:p.B0=[a])(N5:Γ.length<=1000)(Q6:FDn (s::Γ) fa)(ht:Dn Γ t s X)(hp:I6 fa t=0)(w:cU 137 [.sl [],.sl ((hs).map L3),a.dv] (.ref (g6 a (qF 4 s.ty fa) (hs) cw vw))):JF p hs (fa.Y1 0 0 t) [[.ref (g6 a (qF 4 s.ty fa) hs cw vw)]]:=by
 have O6:=aA fa;have N4:=O3 t;have wb:=Sj K3 Q6 ht N5 hp;intro b;refine H2 Cu ?_;intro X hP G0 hf X0 hn hR K1 G1;simp only[entry,bA,R6,aT];refine E4 (bx [1000001]) tT ?_;refine U1 @hk ?_;refine Q1 ?_;refine aM [] sG ?_ sG (GJ (s:=[sV 1 (.ref [.sl [],.sl (hs.map L3),M3 b]),sP 3,sL 3 (nF p),sP 2,sL 2 [.v (j0 0),.v (j0 0),.own 0 [],.own 0 [],.own 0 []]]++U3 [(b,xC p hs eR)]) (sv:=[sV 1 (.ref [.sl [],.sl (hs.map L3),M3 b]),sP 3,sL 3 (nF p),sP 2,sL 2 [.v (j0 0),.v (j0 0),.own 0 [],.own 0 [],.own 0 []]]++[sV 125 (qF 4 s.ty fa).dv]) (by rw[hP];exact kO) hP G0 3 125 (1+2 ^ 123+2 ^ 125) [sV 122 (lI b hs),sV 124 (.sl (hs.map L3))] (E:=EZ b p hs [[.ref (g6 a (qF 4 s.ty fa) hs cw vw)]]) (by rfl) (zV (p:=p) (hs:=hs) b (by rw[ha];rfl) w) sG sS (fun _ h=>GM h) nN (fun l v h=>h) (by rfl) (by rfl) [] fun K hK=>?_);· simp[go_sem,Gt,hk,hy,O6,N4,dL]
 simp[go_sem,hP,G0,hn,dO,tJ,Iy,hk,hy,O6,N4,dL];generalize fa.Y1 0 0 t=fr at *;refine Z7 tT (wb) ?_;refine⟨by rfl,hK _ (fun l v hl=>by simp only[get]at hl;(repeat' split at hl);all_goals first|(cases hl;done)|(rename_i e;subst e;cases hl;first|rfl|(simp[get,Q5];done)|(simp[get,Q5,hk,hy,O6,N4,dL];done))) (by simp[go_sem,hk,hy,O6,N4,dL]) fun ψ kS=>?_⟩;clear hK K;obtain⟨⟨q1,n1,k1,F1⟩,hP1,⟨b1,rfl,X1⟩,rfl⟩:=kS;have hne2:=f8 X1;simp[go_sem,iW,cA,pO,H8,U3,X1,hne2];refine Q1 ?_;refine gA hP hf X0 fr.dv (pO b p hs ⟨some b1,n1,k1,F1⟩) sH (fun b2 cs h2=>by simp[pO,H8]at h2;rcases h2 with⟨rfl,rfl⟩|⟨rfl,rfl⟩ <;> simp[go_sem,X1,hne2,hk]) (by simp[pO,H8,X1,hne2]) ?_ hR.2;rw[hR.1];exact⟨rfl,_,hP1,⟨b1,rfl,X1⟩,rfl⟩
def zY0(hk:p.o0=3)(ha:p.B0=[a,a2])(w:cU 137 [.sl [],.sl ((hs).map L3),a.dv] (.ref (g6 a fa (hs) cw vw)))(w2:cU 137 [.sl [],.sl ((hs).map L3),a2.dv] (.ref (g6 a2 fb (hs) c2 v2))):JF p hs (U5 2 fa fb) [[.ref (g6 a fa hs cw vw)],[.ref (g6 a2 fb hs c2 v2)]]:=by
 have O6:=aA fa;have nH:=aA fb;have Q6:=DQ fa;intro b;refine H2 Cu ?_;intro X hP G0 hf X0 hn hR K1 G1;simp only[entry,bA,R6,aT];refine E4 (bx [1000001]) tT ?_;refine U1 @hk ?_;refine U6 tT fun K hK=>?_;refine Ai hk (zV (p:=p) (hs:=hs) b (by rw[ha];rfl) w) ?_;rintro rr φ ⟨rfl,⟨q1,n1,k1,F1⟩,hP1,⟨b1,rfl,X1⟩,rfl⟩ -;have hne2:=f8 X1;simp[go_sem,hP,G0,hn,pO,H8,U3,X1,hne2,hk,zI,zJ,O6];refine K4 ?_;clear hK K;refine Q1 ?_;refine aM [] sG ?_ sG (GJ (s:=[sV 1 (.ref [.sl [],.sl (hs.map L3),M3 b]),sP 4,sL 4 (mB fa),sP 2,sL 2 [.v (j0 0),.v (j0 0),.own 0 [],.own 0 [],.own 0 []]]++U3 [(b,xC p hs (xP (some b1) n1 k1)),(b1,F1.flatten)]) (sv:=[sV 1 (.ref [.sl [],.sl (hs.map L3),M3 b]),sP 4,sL 4 (mB fa),sP 2,sL 2 [.v (j0 0),.v (j0 0),.own 0 [],.own 0 [],.own 0 []]]++[sV 45 fb.dv]) (by rw[hP];exact kO) hP G0 4 45 (1+2 ^ 43+2 ^ 45) [sV 42 (lI b hs),sV 44 (.sl (hs.map L3))] (E:=EZ b p hs [[.ref (g6 a fa hs cw vw)],[.ref (g6 a2 fb hs c2 v2)]]) (by rfl) (MY (p:=p) (hs:=hs) b hP1 X1 (by rw[ha];rfl) w2) sG (by simp[X1,hne2]) (fun _ h=>GM h) nN (fun l v h=>h) (by rfl) (by rfl) [] fun K hK=>?_);· simp[go_sem,Gt,hk,O6,nH,Q6,X1,hne2]
 simp[go_sem,hP,G0,hn,dO,tJ,Iy,hk,O6,nH,Q6,X1,hne2];refine⟨by rfl,hK _ (fun l v hl=>by simp only[get]at hl;(repeat' split at hl);all_goals first|(cases hl;done)|(rename_i e;subst e;cases hl;first|rfl|(simp[get,Q5];done)|(simp[get,Q5,hk,O6,nH,Q6,X1,hne2];done))) (by simp[go_sem,hk,O6,nH,Q6,X1,hne2]) fun ψ kS=>?_⟩;clear hK K;clear X1 hne2 hP1;obtain⟨⟨q1,n1,k1,F1⟩,hP1,⟨b1,rfl,X1⟩,rfl⟩:=kS;have hne2:=f8 X1;simp[go_sem,iW,cA,pO,H8,U3,X1,hne2];refine Q1 ?_;refine gA hP hf X0 (U5 2 fa fb).dv (pO b p hs ⟨some b1,n1,k1,F1⟩) (by simp[go_sem,hP,G0,hn,wU]) (fun b2 cs h2=>by simp[pO,H8]at h2;rcases h2 with⟨rfl,rfl⟩|⟨rfl,rfl⟩ <;> simp[go_sem,X1,hne2,hk,wU]) (by simp[pO,H8,X1,hne2]) ?_ hR.2;rw[hR.1];exact⟨rfl,_,hP1,⟨b1,rfl,X1⟩,rfl⟩
def Da0(K3:D6 gl 2=some A7){s s':Tm}{X:Q0 Γ->N0.V}(hk:p.o0=19)(B6:p.V4=[f])(ha:p.B0=[a,a2])(N5:Γ.length<=1000)(Q6:FDn (.C0::Γ) f)(ht:Dn Γ s' .C0 X)(hp:I6 f s' = 0)(w:cU 137 [.sl [],.sl ((hs).map L3),a.dv] (.ref (g6 a (I3 s s') (hs) cw vw)))(w2:cU 137 [.sl [],.sl ((hs).map L3),a2.dv] (.ref (g6 a2 fb (hs) c2 v2)))(b:Nat):lF W0 gl 297 [lI b hs] [(b,xC p hs eR)] (EY b p hs (f.Y1 0 0 s') [[.ref (g6 a (I3 s s') hs cw vw)],[.ref (g6 a2 fb hs c2 v2)]]):=by
 have O6:=aA f;have kF:=aA fb;have N4:=O3 s';have aF:=O3 s;have wb:=Sj K3 Q6 ht N5 hp;generalize f.Y1 0 0 s' = fr at *;refine H2 bs0 ?_;intro X hP G0 hf X0 hn hR K1 G1;simp only[entry,bA,R6,aT];refine E4 (bx [1000001]) tT ?_;refine U1 @hk ?_;refine U6 tT fun K hK=>?_;refine Ai hk (zV (p:=p) (hs:=hs) b (by rw[ha];rfl) w) ?_;rintro rr φ ⟨rfl,⟨q0,n0,k0,F0⟩,hP0,⟨b0,rfl,hneA⟩,rfl⟩ -;have hneB:=f8 hneA;simp[go_sem,hP,G0,hn,pO,H8,U3,hneA,hneB,hk,zI,zJ,sW,N4,aF];refine K4 ?_;clear hK K;refine U6 tT fun K hK=>?_;refine Ai (And.intro hk (And.intro hneA hneB)) (MY (p:=p) (hs:=hs) b hP0 hneA (by rw[ha];rfl) w2) ?_;rintro rr φ ⟨rfl,⟨q1,n1,k1,F1⟩,hP1,⟨b1,rfl,X1⟩,rfl⟩ -;have hne2:=f8 X1;simp[go_sem,hP,G0,hn,pO,H8,U3,X1,hne2,hk,zI,zJ,kF,hneA,hneB];refine K4 ?_;clear hK K;refine N1 (j3 @B6 @O6 @N4) (M0 wb) ?_;refine Q1 ?_;refine gA hP hf X0 fr.dv (pO b p hs ⟨some b1,n1,k1,F1⟩) (by simp[go_sem,hP,G0,hn,B6,O6]) (fun b2 cs h2=>by simp[pO,H8]at h2;rcases h2 with⟨rfl,rfl⟩|⟨rfl,rfl⟩ <;> simp[go_sem,X1,hne2,hk,B6,O6]) (by simp[pO,H8,X1,hne2]) ?_ hR.2;rw[hR.1];exact⟨rfl,_,hP1,⟨b1,rfl,X1⟩,rfl⟩
def sh0(K3:D6 gl 2=some A7)(h:FDn Γ f)(N5:Γ.length<=999)(hu:FDn (s::Γ) (f.V0 0 1))(hc:f.A0<=4096):cU 296 [(f.V0 0 1).dv] f.dv:=by
 have oQ:=Bm f 0 1;have w:=r20 K3 hu (by simp only[B4];omega) oO (Xc f 0 dD).1;rw[gj0 h M6 0 dD]at w;generalize f.V0 0 1=v at *;refine A3 Tryz.func296 fun X zX=>?_;refine E4 (bx [1000001]) tT ?_;exact O1 H0 (M0 w)
def Db0(K3:D6 gl 2=some A7){fo:Fm}(hk:p.o0=11)(ha:p.B0=[a,a2])(k:CK Γ hs 1 1)(aG:FDn Γ fo)(hu:FDn (s::Γ) (fo.V0 0 1))(hc:fo.A0<=4096)(w:cU 137 [.sl [],.sl ((hs).map L3),a.dv] (.ref (g6 a (qF 5 s.ty fa) (hs) cw vw)))(w2:cU 137 [.sl [],.sl ((Q5 hs 1++[fa]).map L3),a2.dv] (.ref (g6 a2 (fo.V0 0 1) (Q5 hs 1++[fa]) c2 v2))):JF p hs fo [[.ref (g6 a (qF 5 s.ty fa) hs cw vw)],[.ref (g6 a2 (fo.V0 0 1) (Q5 hs 1++[fa]) c2 v2)]]:=by
 have Y5:¬p.o0=10:=oO;have O6:=aA fa;have Q6:=DQ fa;have wb:=Mh K3 (Γ:=Γ) (by have:=k.1;omega) hs 1 oO k.2.2.2 (by have:=k.2.1;omega);have ww:=Xg (Q5 hs 1) fa (by have:=k.2.1;simp;omega);have wl:=sh0 K3 aG (by have:=k.1;omega) hu hc;generalize Q5 hs 1=tV at *;generalize fo.V0 0 1=fu at *;intro b;refine H2 Cu ?_;intro X hP G0 hf X0 hn hR K1 G1;simp only[entry,bA,R6,aT];refine E4 (bx [1000001]) tT ?_;refine U1 @hk ?_;refine U6 tT fun K hK=>?_;refine Ai hk (zV (p:=p) (hs:=hs) b (by rw[ha];rfl) w) ?_;rintro rr φ ⟨rfl,⟨q1,n1,k1,F1⟩,hP1,⟨b1,rfl,X1⟩,rfl⟩ -;have hne2:=f8 X1;simp[go_sem,hP,G0,hn,pO,H8,U3,X1,hne2,hk,zI,zJ,dL,O6];refine K4 ?_;clear hK K;refine Q1 ?_
 refine aM [] sG ?_ sG (GJ (s:=[sV 1 (.ref [.sl [],.sl (hs.map L3),M3 b]),sP 3,sL 3 (nF p),sP 6,sL 6 [.v (j0 5),.v (j0 s.ty.o0),.v (.sl (s.ty.B0.map P1)),.v (.sl []),.v (.sl [fa.E0])],sP 2,sL 2 [.v (j0 0),.v (j0 0),.own 0 [],.own 0 [],.own 0 []]]++U3 [(b,xC p hs (xP (some b1) n1 k1)),(b1,F1.flatten)]) (sv:=[sV 1 (.ref [.sl [],.sl (hs.map L3),M3 b]),sP 3,sL 3 (nF p),sP 6,sL 6 [.v (j0 5),.v (j0 s.ty.o0),.v (.sl (s.ty.B0.map P1)),.v (.sl []),.v (.sl [fa.E0])],sP 2,sL 2 [.v (j0 0),.v (j0 0),.own 0 [],.own 0 [],.own 0 []]]++[sV 161 fu.dv]) (by rw[hP];exact kO) hP G0 9 161 (1+2 ^ 153+2 ^ 161) [sV 152 (lI b hs),sV 160 (.sl ((tV++[fa]).map L3))] (E:=EZ b p hs [[.ref (g6 a (qF 5 s.ty fa) hs cw vw)],[.ref (g6 a2 fu (tV++[fa]) c2 v2)]]) (by rfl) (MY (p:=p) (hs:=hs) b hP1 X1 (by rw[ha];rfl) w2) sG (by simp[X1,hne2]) (fun _ h=>GM h) nN (fun l v h=>h) (by rfl) (by rfl) [] fun K hK=>?_);· simp[go_sem,Gt,hk,O6,Q6,X1,hne2]
 simp[go_sem,hP,G0,hn,dO,tJ,Iy,hk,O6,Q6,X1,hne2];refine Z7 (j2 @O6 @Q6) (wb) ?_;refine Z7 (j2 @O6 @Q6) (ww) ?_;refine Z7 tT (wl) ?_;refine⟨by rfl,hK _ (fun l v hl=>by simp only[get]at hl;(repeat' split at hl);all_goals first|(cases hl;done)|(rename_i e;subst e;cases hl;first|rfl|(simp[get,Q5];done)|(simp[get,Q5,hk,O6,Q6,X1,hne2];done))) (by simp[go_sem,hk,O6,Q6,X1,hne2]) fun ψ kS=>?_⟩;clear hK K;clear X1 hne2 hP1;obtain⟨⟨q1,n1,k1,F1⟩,hP1,⟨b1,rfl,X1⟩,rfl⟩:=kS;have hne2:=f8 X1;simp[go_sem,iW,cA,pO,H8,U3,X1,hne2];refine Q1 ?_;refine gA hP hf X0 fo.dv (pO b p hs ⟨some b1,n1,k1,F1⟩) sH (fun b2 cs h2=>by simp[pO,H8]at h2;rcases h2 with⟨rfl,rfl⟩|⟨rfl,rfl⟩ <;> simp[go_sem,X1,hne2,hk]) (by simp[pO,H8,X1,hne2]) ?_ hR.2;rw[hR.1];exact⟨rfl,_,hP1,⟨b1,rfl,X1⟩,rfl⟩
def Dc0(K3:D6 gl 2=some A7){X:Q0 Γ->N0.V}(hk:p.o0=16)(B6:p.V4=[f])(hy:p.M1=[t])(ha:p.B0=[a,a2])(k:CK Γ hs 1 1)(mE:FDn (.C0::Γ) f)(ht:Dn Γ t .C0 X)(hp:I6 f t=0)(w:cU 137 [.sl [],.sl ((hs).map L3),a.dv] (.ref (g6 a fa (hs) cw vw)))(w2:cU 137 [.sl [],.sl ((Q5 hs 1++[f]).map L3),a2.dv] (.ref (g6 a2 fb (Q5 hs 1++[f]) c2 v2)))(b:Nat):lF W0 gl 297 [lI b hs] [(b,xC p hs eR)] (EY b p hs (f.Y1 0 0 t) [[.ref (g6 a fa hs cw vw)],[.ref (g6 a2 fb (Q5 hs 1++[f]) c2 v2)]]):=by
 have O6:=aA f;have Q6:=DQ f;have I8:=aA fa;have N4:=O3 t;have wb:=Mh K3 (Γ:=Γ) (by have:=k.1;omega) hs 1 oO k.2.2.2 (by have:=k.2.1;omega);have ww:=Xg (Q5 hs 1) f (by have:=k.2.1;simp;omega);have wp:=Sj K3 mE ht (by have:=k.1;omega) hp;generalize f.Y1 0 0 t=fr at *;generalize Q5 hs 1=tV at *;refine H2 bs0 ?_;intro X hP G0 hf X0 hn hR K1 G1;simp only[entry,bA,R6,aT];refine E4 (bx [1000001]) tT ?_;refine U1 @hk ?_;refine U6 tT fun K hK=>?_;refine Ai hk (zV (p:=p) (hs:=hs) b (by rw[ha];rfl) w) ?_;rintro rr φ ⟨rfl,⟨q1,n1,k1,F1⟩,hP1,⟨b1,rfl,X1⟩,rfl⟩ -;have hne2:=f8 X1;simp[go_sem,hP,G0,hn,pO,H8,U3,X1,hne2,hk,zI,zJ,I8,B6,hy];refine K4 ?_;clear hK K;refine Q1 ?_
 refine aM [] sG ?_ sG (GJ (s:=[sV 1 (.ref [.sl [],.sl (hs.map L3),M3 b]),sP 3,sL 3 (nF p),sP 2,sL 2 [.v (j0 0),.v (j0 0),.own 0 [],.own 0 [],.own 0 []]]++U3 [(b,xC p hs (xP (some b1) n1 k1)),(b1,F1.flatten)]) (sv:=[sV 1 (.ref [.sl [],.sl (hs.map L3),M3 b]),sP 3,sL 3 (nF p),sP 2,sL 2 [.v (j0 0),.v (j0 0),.own 0 [],.own 0 [],.own 0 []]]++[sV 33 fb.dv]) (by rw[hP];exact kO) hP G0 9 33 (1+2 ^ 25+2 ^ 33) [sV 24 (lI b hs),sV 32 (.sl ((tV++[f]).map L3))] (E:=EZ b p hs [[.ref (g6 a fa hs cw vw)],[.ref (g6 a2 fb (tV++[f]) c2 v2)]]) (by rfl) (MY (p:=p) (hs:=hs) b hP1 X1 (by rw[ha];rfl) w2) sG (by simp[X1,hne2]) (fun _ h=>GM h) nN (fun l v h=>h) (by rfl) (by rfl) [] fun K hK=>?_);· simp[go_sem,Gt,hk,B6,hy,O6,Q6,N4,X1,hne2]
 simp[go_sem,hP,G0,hn,dO,tJ,Iy,hk,B6,hy,O6,Q6,N4,X1,hne2];refine Z7 (j2 @O6 @Q6) (wb) ?_;refine Z7 (j2 @O6 @Q6) (ww) ?_;refine⟨by rfl,hK _ (fun l v hl=>by simp only[get]at hl;(repeat' split at hl);all_goals first|(cases hl;done)|(rename_i e;subst e;cases hl;first|rfl|(simp[get,Q5];done)|(simp[get,Q5,hk,B6,hy,O6,Q6,N4,X1,hne2];done))) (by simp[go_sem,hk,B6,hy,O6,Q6,N4,X1,hne2]) fun ψ kS=>?_⟩;clear hK K;clear X1 hne2 hP1;obtain⟨⟨q1,n1,k1,F1⟩,hP1,⟨b1,rfl,X1⟩,rfl⟩:=kS;have hne2:=f8 X1;simp[go_sem,iW,cA,pO,H8,U3,X1,hne2];refine N1 (j5 @B6 @hy @O6 @N4 @Q6) (M0 wp) ?_;refine Q1 ?_;refine gA hP hf X0 fr.dv (pO b p hs ⟨some b1,n1,k1,F1⟩) (by simp[go_sem,hP,G0,hn,B6,hy,O6,N4]) (fun b2 cs h2=>by simp[pO,H8]at h2;rcases h2 with⟨rfl,rfl⟩|⟨rfl,rfl⟩ <;> simp[go_sem,X1,hne2,hk,B6,hy,O6,N4]) (by simp[pO,H8,X1,hne2]) ?_ hR.2;rw[hR.1];exact⟨rfl,_,hP1,⟨b1,rfl,X1⟩,rfl⟩
def w30(K3:D6 gl 2=some A7){X:Q0 Γ->T.list.V}(hk:p.o0=17)(B6:p.V4=[f])(hy:p.M1=[t])(ha:p.B0=[a,a2])(k:CK Γ hs 2 1)(mE:FDn (.list::Γ) f)(hc:f.A0<=4096)(ht:Dn Γ t .list X)(hp:I6 f t=0)(w:cU 137 [.sl [],.sl ((hs).map L3),a.dv] (.ref (g6 a fa (hs) cw vw)))(w2:cU 137 [.sl [],.sl ((Q5 hs 2++[f.V0 1 1]).map L3),a2.dv] (.ref (g6 a2 fb (Q5 hs 2++[f.V0 1 1]) c2 v2)))(b:Nat):lF W0 gl 297 [lI b hs] [(b,xC p hs eR)] (EY b p hs (f.Y1 0 0 t) [[.ref (g6 a fa hs cw vw)],[.ref (g6 a2 fb (Q5 hs 2++[f.V0 1 1]) c2 v2)]]):=by
 have O6:=aA f;have Q6:=DQ f;have I8:=aA fa;have N4:=O3 t;have wb:=Mh K3 (Γ:=Γ) (by have:=k.1;omega) hs 2 oO k.2.2.2 (by have:=k.2.1;omega);have wf:=dt0 K3 mE (by have:=k.1;simp only[B4];omega) hc 1 1 dD dD;have ww:=Xg (Q5 hs 2) (f.V0 1 1) (by have:=k.2.1;simp;omega);have wp:=Sj K3 mE ht (by have:=k.1;omega) hp;have oQ:=aA (f.V0 1 1);have AK:=DQ (f.V0 1 1);generalize f.Y1 0 0 t=fr at *;generalize Q5 hs 2=tV at *;generalize f.V0 1 1=fu at *;refine H2 bs0 ?_;intro X hP G0 hf X0 hn hR K1 G1;simp only[entry,bA,R6,aT];refine E4 (bx [1000001]) tT ?_;refine U1 @hk ?_;refine U6 tT fun K hK=>?_;refine Ai hk (zV (p:=p) (hs:=hs) b (by rw[ha];rfl) w) ?_;rintro rr φ ⟨rfl,⟨q1,n1,k1,F1⟩,hP1,⟨b1,rfl,X1⟩,rfl⟩ -;have hne2:=f8 X1;simp[go_sem,hP,G0,hn,pO,H8,U3,X1,hne2,hk,zI,zJ,I8,B6,hy];refine K4 ?_;clear hK K;refine V3 (j6 @B6 @O6 @Q6 @oQ @zI @zJ) (M0 wf) ?_;refine Q1 ?_
 refine aM [] sG ?_ sG (GJ (s:=[sV 1 (.ref [.sl [],.sl (hs.map L3),M3 b]),sP 3,sL 3 (nF p),sP 4,sL 4 (mB fu),sP 2,sL 2 [.v (j0 0),.v (j0 0),.own 0 [],.own 0 [],.own 0 []]]++U3 [(b,xC p hs (xP (some b1) n1 k1)),(b1,F1.flatten)]) (sv:=[sV 1 (.ref [.sl [],.sl (hs.map L3),M3 b]),sP 3,sL 3 (nF p),sP 4,sL 4 (mB fu),sP 2,sL 2 [.v (j0 0),.v (j0 0),.own 0 [],.own 0 [],.own 0 []]]++[sV 63 fb.dv]) (by rw[hP];exact kO) hP G0 6 63 (1+2 ^ 58+2 ^ 63) [sV 57 (lI b hs),sV 62 (.sl ((tV++[fu]).map L3))] (E:=EZ b p hs [[.ref (g6 a fa hs cw vw)],[.ref (g6 a2 fb (tV++[fu]) c2 v2)]]) (by rfl) (MY (p:=p) (hs:=hs) b hP1 X1 (by rw[ha];rfl) w2) sG (by simp[X1,hne2]) (fun _ h=>GM h) nN (fun l v h=>h) (by rfl) (by rfl) [] fun K hK=>?_);· simp[go_sem,Gt,hk,B6,hy,O6,Q6,N4,oQ,AK,X1,hne2]
 simp[go_sem,hP,G0,hn,dO,tJ,Iy,hk,B6,hy,O6,Q6,N4,oQ,AK,X1,hne2];refine Z7 (j2 @O6 @Q6) (wb) ?_;refine Z7 (j2 @oQ @AK) (ww) ?_;refine⟨by rfl,hK _ (fun l v hl=>by simp only[get]at hl;(repeat' split at hl);all_goals first|(cases hl;done)|(rename_i e;subst e;cases hl;first|rfl|(simp[get,Q5];done)|(simp[get,Q5,hk,B6,hy,O6,Q6,N4,oQ,AK,X1,hne2];done))) (by simp[go_sem,hk,B6,hy,O6,Q6,N4,oQ,AK,X1,hne2]) fun ψ kS=>?_⟩;clear hK K;clear X1 hne2 hP1;obtain⟨⟨q1,n1,k1,F1⟩,hP1,⟨b1,rfl,X1⟩,rfl⟩:=kS;have hne2:=f8 X1;simp[go_sem,iW,cA,pO,H8,U3,X1,hne2];refine N1 (j5 @B6 @hy @O6 @N4 @Q6) (M0 wp) ?_;refine Q1 ?_;refine gA hP hf X0 fr.dv (pO b p hs ⟨some b1,n1,k1,F1⟩) (by simp[go_sem,hP,G0,hn,B6,hy,O6,N4]) (fun b2 cs h2=>by simp[pO,H8]at h2;rcases h2 with⟨rfl,rfl⟩|⟨rfl,rfl⟩ <;> simp[go_sem,X1,hne2,hk,B6,hy,O6,N4]) (by simp[pO,H8,X1,hne2]) ?_ hR.2;rw[hR.1];exact⟨rfl,_,hP1,⟨b1,rfl,X1⟩,rfl⟩
def fY0(K3:D6 gl 2=some A7){s:Ty}(hk:p.o0=12)(hy:p.I0=s)(ha:p.B0=[a])(k:CK Γ hs 1 0)(w:cU 137 [.sl [],.sl ((Q5 hs 1).map L3),a.dv] (.ref (g6 a fa (Q5 hs 1) cw vw))):JF p hs (qF 6 s fa) [[.ref (g6 a fa (Q5 hs 1) cw vw)]]:=by
 have O6:=aA fa;have iH:=qK s;have wb:=Mh K3 (Γ:=Γ) (by have:=k.1;omega) hs 1 oO k.2.2.2 (by have:=k.2.1;omega);intro b;refine H2 Cu ?_;intro X hP G0 hf X0 hn hR K1 G1;simp only[entry,bA,R6,aT];refine E4 (bx [1000001]) tT ?_;refine U1 @hk ?_;refine Q1 ?_;refine aM [] sG ?_ sG (GJ (s:=[sV 1 (.ref [.sl [],.sl (hs.map L3),M3 b]),sP 3,sL 3 (nF p),sP 2,sL 2 [.v (j0 0),.v (j0 0),.own 0 [],.own 0 [],.own 0 []]]++U3 [(b,xC p hs eR)]) (sv:=[sV 1 (.ref [.sl [],.sl (hs.map L3),M3 b]),sP 3,sL 3 (nF p),sP 2,sL 2 [.v (j0 0),.v (j0 0),.own 0 [],.own 0 [],.own 0 []]]++[sV 116 fa.dv]) (by rw[hP];exact kO) hP G0 6 116 (1+2 ^ 113+2 ^ 116) [sV 112 (lI b hs),sV 115 (.sl ((Q5 hs 1).map L3))] (E:=EZ b p hs [[.ref (g6 a fa (Q5 hs 1) cw vw)]]) (by rfl) (zV (p:=p) (hs:=hs) b (by rw[ha];rfl) w) sG sS (fun _ h=>GM h) nN (fun l v h=>h) (by rfl) (by rfl) [] fun K hK=>?_);· simp[go_sem,Gt,hk,hy,iH,O6]
 simp[go_sem,hP,G0,hn,dO,tJ,Iy,hk,hy,iH,O6];refine Z7 (j2 @iH @O6) (wb) ?_;refine⟨by rfl,hK _ (fun l v hl=>by simp only[get]at hl;(repeat' split at hl);all_goals first|(cases hl;done)|(rename_i e;subst e;cases hl;first|rfl|(simp[get,Q5];done)|(simp[get,Q5,hk,hy,iH,O6];done))) (by simp[go_sem,hk,hy,iH,O6]) fun ψ kS=>?_⟩;clear hK K;obtain⟨⟨q1,n1,k1,F1⟩,hP1,⟨b1,rfl,X1⟩,rfl⟩:=kS;have hne2:=f8 X1;simp[go_sem,iW,cA,pO,H8,U3,X1,hne2];refine Q1 ?_;refine gA hP hf X0 (qF 6 s fa).dv (pO b p hs ⟨some b1,n1,k1,F1⟩) (by simp[go_sem,hP,G0,hn,dL]) (fun b2 cs h2=>by simp[pO,H8]at h2;rcases h2 with⟨rfl,rfl⟩|⟨rfl,rfl⟩ <;> simp[go_sem,X1,hne2,hk,dL]) (by simp[pO,H8,X1,hne2]) ?_ hR.2;rw[hR.1];exact⟨rfl,_,hP1,⟨b1,rfl,X1⟩,rfl⟩
end
section
theorem S8:D6 gl 2=some A7:=rfl
theorem NH:D6 gl 1=some CZ:=rfl
theorem Th:D6 gl 0=some EJ:=rfl
def dv0(g:Fm->Fm)(k:Int)(y:Ty)(ts t0:List Tm)(a:List Fm)(ih:∀x∈a,(g x).v6=x.v6):(oV k y ts (a.map g)).v6=(oV k y t0 a).v6:=by
 have h:Iz.any (a.map g)=Iz.any a/\Iz.last (a.map g)=Iz.last a:=by
  induction a with
  | nil=>exact⟨rfl,rfl⟩
  | cons x r l6=>
   have h1:=l6 fun z hz=>ih z (by simp[hz]);have h2:=ih x sS;refine⟨by simp only[G4,Iz.any,h1,h2],?_⟩;cases r with
   | nil=>simpa [Iz.last] using h2
   | cons z r=>simpa [Iz.last] using h1.2
 simp only[Iz,h]
def VW(f:Fm):∀p b:Int,(f.V0 p b).v6=f.v6:=by
 induction f using Fm.ind with
 | h f ih=>
 intro p b;rw[Fm.upN_eq];cases f with
 | mk k y t a=>exact dv0 _ k y _ t a fun x hx=>ih x hx _ _
def Gf(f:Fm)(s:Tm):∀p d:Int,(f.Y1 p d s).v6=f.v6:=by
 induction f using Fm.ind with
 | h f ih=>
 intro p d;rw[Fm.inN_eq];cases f with
 | mk k y t a=>exact dv0 _ k y _ t a fun x hx=>ih x hx _ _
def MP{a:T}(h:Ct f a):(f.o0=1\/f.o0=2)/\f.fr=true/\a = .Z4\/(∃g,f=qF 5 a.ty g)\/(∃s r g,f=qF 4 s.ty g/\Ct g r/\a = .fn s r)\/∃(s:T) (g:Fm),f=qF 6 s.ty g/\Ct g a:=by
 cases h with
 | fr h=>exact .inl ⟨(Cr h).2,h,rfl⟩
 | ex=>exact .inr (.inl ⟨_,rfl⟩)
 | all h=>exact .inr (.inr (.inl ⟨_,_,_,rfl,h,rfl⟩))
 | allu h=>exact .inr (.inr (.inr ⟨_,_,rfl,h⟩))
def Dd0{a:T}(h:Ct f a):∀{Γ:List T} {g:Fm} {b:T},Ct g b->FDn Γ f->FDn Γ g->f.matE g=0->a=b/\f.v6=g.v6:=by
 have mk:∀{f g:Fm},f.matE g=0->f.o0=g.o0/\f.I0=g.I0/\zE Fm.matE f.B0 g.B0=0:=fun {f g} h=>by
  rw[Fm.matE_eq]at h;split at h;· rename_i q;exact⟨q.1,(Ty.same_iff _ _).1 q.2,(aW h).2⟩
  ·simp at h
 induction h with
 | @fr f h=>
  intro Γ g b hb hf hg hm;have:=(mk hm).1;have h2:=(Cr h).2;rcases MP hb with⟨-,q2,q3⟩|⟨x,rfl⟩|⟨s,r,x,rfl,-⟩|⟨s,x,rfl,-⟩;· exact⟨q3.symm,by rw[IS hf h,IS hg q2]⟩
  all_goals rw[this]at h2;simp[qF,cM]at h2
 | @ex s f=>
  intro Γ g b hb hf hg hm;obtain⟨m1,m2,-⟩:=mk hm;rcases MP hb with⟨q1,-⟩|⟨x,rfl⟩|⟨s,r,x,rfl,-⟩|⟨s,x,rfl,-⟩;· simp only[qF,cM]at m1 q1;omega
  ·exact⟨eN m2,rfl⟩
  all_goals simp[qF,cM]at m1
 | @all s a f h ih=>
  intro Γ g b hb hf hg hm;obtain⟨m1,m2,m3⟩:=mk hm;rcases MP hb with⟨q1,-⟩|⟨x,rfl⟩|⟨s2,r,x,rfl,hx,rfl⟩|⟨s2,x,rfl,-⟩;· simp only[qF,cM]at m1 q1;omega
  ·simp[qF,cM]at m1
  ·have e:s=s2:=eN m2;subst e;obtain⟨r1,r2⟩:=ih hx (nB hf).2 (nB hg).2 (aW m3).1;exact⟨by rw[r1],by rw[zD _ _ sS,zD _ _ sS,r2]⟩
  ·simp[qF,cM]at m1
 | @allu s a f h ih=>
  intro Γ g b hb hf hg hm;obtain⟨m1,m2,m3⟩:=mk hm;rcases MP hb with⟨q1,-⟩|⟨x,rfl⟩|⟨s2,r,x,rfl,-⟩|⟨s2,x,rfl,hx⟩;· simp only[qF,cM]at m1 q1;omega
  ·simp[qF,cM]at m1
  ·simp[qF,cM]at m1
  ·have e:s=s2:=eN m2;subst e;obtain⟨r1,r2⟩:=ih hx (nB hf).2 (nB hg).2 (aW m3).1;exact⟨r1,by rw[zD _ _ sS,zD _ _ sS,r2]⟩
def De0{b:T}{F:Q0 Θ->b.V}{s:Sco}{pi:List DV}{r:List DV}{x1 x2 x3 x4 x5 x6 x7 x8 x9 y0 y1 y2 y3:DV}(h:Mk 140 [bD,.ref pi,s.dv] Θ b F):
  Mk 234 [bD,.ref [j0 19,x1,x2,x3,x4,x5,x6,x7,x8,x9,y0,y1,y2,y3,.sl [r,[.ref pi]]],s.dv] Θ b F:=by
 obtain⟨u,e,h1,h2,h3,w⟩:=h;refine⟨u,e,h1,h2,h3,?_⟩;refine A3 Tryz.func234 fun X zX=>?_;refine E4 (bx [1000003,1000004,1000005]) tT ?_;refine iA 18 ?_;refine iA 19 ?_;exact O1 H0 (M0 w)
def JA(Γ:List T)(hs:List Fm)(p:Pf)(f:Fm):Prop:=JT Γ hs p f/\FDn Γ f/\f.A0<=4096/\f.nb=true
section
variable{Γ:List T}{hs:List Fm}
def XL(hd:FDn Γ f)(hn:f.nb=true)(hc:f.A0<=4096)(hy:ys.length<=2)(h:JF p hs f ys)(hf:f.fr=true):JT Γ hs p f:=
 ⟨_,vC S8 hd hn hc hy h,fun Δ hΔ fR=>by rw[IS hd hf]at fR;cases fR⟩
def Df0(k:CK Γ hs 0 0)(hi:hs[hs.length - 1 - i]? = some f)(I1:i<hs.length)(hd:FDn Γ f)(hn:f.nb=true)(hc:f.A0<=4096):JT Γ hs (fM i) f:=by
 refine⟨_,XJ S8 hd hn hc (C90 (i:=i) rfl rfl (by have:=k.2.1;omega) hi I1),fun Δ hΔ fR=>?_⟩;obtain⟨a,p,h1,h2⟩:=hΔ.at I1 hi;have hl:=hΔ.len;exact⟨a,fun X Y=>p Y,h2,fun Θ s X Y hS=>zR0 hS (by have:=k.1;omega) (by have:=k.2.1;omega) h1 (h2.ne hd hn fR) hl⟩
def zZ0(hd:FDn Γ (I3 t t))(hn:(I3 t t).nb=true)(hc:(I3 t t).A0<=4096):JT Γ hs (c9 t) (I3 t t):=
 ⟨_,XJ S8 hd hn hc fun b=>fX0 (by show (16:Int)<=18;decide) b (fW0 rfl rfl b),fun Δ hΔ fR=>by cases fR⟩
def z00{b:Pf}(ha:JA Γ hs a fa)(hb:JA Γ hs b fb)(hd:FDn Γ (U5 2 fa fb))(hn:(U5 2 fa fb).nb=true)(hc:(U5 2 fa fb).A0<=4096):JT Γ hs (tF a b) (U5 2 fa fb):=by
 obtain⟨⟨v,w,-⟩,-⟩:=ha;obtain⟨⟨v2,w2,-⟩,-⟩:=hb;obtain⟨-,h1,h2⟩:=Fm.nb_two sS hn;exact XL hd hn hc sS (zY0 rfl rfl w w2) (by simp[U5,Fm.fr,Fm.fr.frs,h1,h2])
def Dg0(i:Bool)(ha:JA Γ hs a (U5 2 fa fb)):JT Γ hs (xT (if i then 5 else 4) a) (if i then fb else fa):=by
 obtain⟨⟨v,w,-⟩,hd,hc,hn⟩:=ha;obtain⟨-,h1,h2⟩:=Fm.nb_two sS hn;have hq:(U5 2 fa fb).A0=1+0+(fa.A0+(fb.A0+0)):=rfl;cases i with
 | false=>exact XL (XE hd).1 (Cr h1).1 (by simp only[Bool.false_eq_true,if_false];omega) sS (zV0 rfl rfl w) h1
 | true=>exact XL (XE hd).2 (Cr h2).1 (by simp only[if_true];omega) sS (zW0 rfl rfl w) h2
def fZ0(k:CK Γ hs 1 0)(bH:s.ok)(ha:JA (s::Γ) (Q5 hs 1) a fa)(hd:FDn Γ (qF 4 s.ty fa))(hn:(qF 4 s.ty fa).nb=true)(hc:(qF 4 s.ty fa).A0<=4096):JT Γ hs (bO s.ty a) (qF 4 s.ty fa):=by
 obtain⟨⟨v,w,wb⟩,-⟩:=ha;refine⟨_,vC S8 hd hn hc sS (XK S8 rfl rfl rfl k w),fun Δ hΔ fR=>?_⟩;have hl:=hΔ.len;have h1:=k.1;have h2:=k.2.1;obtain⟨c,D,k1,k2⟩:=wb Δ (hΔ.up 1) (by rwa [zD _ _ sS]at fR);refine⟨.fn s c,fun X Y v=>D (v,X) Y,.all k1,fun Θ sc X Y hS=>?_⟩;have hr:=hS.room oO oO;exact wZ (by show (8:Int)<=8;decide) (gn0 bH ⟨oO,oO,oO,oO⟩ ⟨oO,oO⟩ (k2 _ _ _ _ (hS.all oO s)))
def E30{c:T}(h:Ct (qF 4 s.ty f) c):∃r,Ct f r/\c = .fn s r:=by
 rcases MP h with⟨q1,-⟩|⟨x,hx⟩|⟨s2,r,x,hx,h2,rfl⟩|⟨s2,x,hx,-⟩;· simp[qF,cM]at q1
 ·simp[qF]at hx
 ·simp only[qF,oV.injEq,FG,and_true,true_and]at hx;obtain⟨h3,rfl⟩:=hx;exact⟨r,h2,by rw[eN h3]⟩
 ·simp[qF]at hx
def z10(k:CK Γ hs 0 0){F:Q0 Γ->s.V}(ht:Dn Γ t s F)(N4:t.A0<=4096)(ha:JA Γ hs a (qF 4 s.ty fa))(hp:I6 fa t=0)(hd:FDn Γ (fa.Y1 0 0 t))(hn:(fa.Y1 0 0 t).nb=true)(hc:(fa.Y1 0 0 t).A0<=4096):JT Γ hs (jW t a) (fa.Y1 0 0 t):=by
 obtain⟨⟨v,w,wb⟩,iF,-⟩:=ha;refine⟨_,vC S8 hd hn hc sS (zX0 S8 rfl rfl rfl (by have:=k.1;omega) (nB iF).2 ht hp w),fun Δ hΔ fR=>?_⟩;have hl:=hΔ.len;have h1:=k.1;have h2:=k.2.1;rw[Gf]at fR;obtain⟨c,D,k1,k2⟩:=wb Δ hΔ (by rwa [zD _ _ sS]);obtain⟨r,k3,rfl⟩:=E30 k1;refine⟨r,fun X Y=>D X Y (F X),k3.put 0 0 t,fun Θ sc X Y hS=>?_⟩;exact wZ (by show (8:Int)<=9;decide) (zQ0 hS oO oO ht N4 (k2 _ _ _ _ hS))
def Dh0(k:CK Γ hs 0 0)(hf:FDn Γ (qF 5 s.ty f)){F:Q0 Γ->s.V}(ht:Dn Γ t s F)(N4:t.A0<=4096)(ha:JA Γ hs a fa)(gK:fa.fr=true)(hn:(qF 5 s.ty f).nb=true)(hc:(qF 5 s.ty f).A0<=4096):JT Γ hs (d9 (qF 5 s.ty f) t a) (qF 5 s.ty f):=by
 obtain⟨⟨v,w,-⟩,hda,-⟩:=ha;rw[IS hda gK]at w;refine⟨_,vC S8 hf hn hc sS (go0 rfl rfl rfl w),fun Δ hΔ fR=>?_⟩;have hl:=hΔ.len;have h1:=k.1;have h2:=k.2.1;exact⟨s,fun X Y=>F X,.ex,fun Θ sc X Y hS=>wZ (by show (8:Int)<=10;decide) (C60 hS oO oO ht N4)⟩
def Di0(k:CK Γ hs 1 1){b:Pf}{fo:Fm}(ha:JA Γ hs a (qF 5 s.ty fa))(hb:JA (s::Γ) (Q5 hs 1++[fa]) b (fo.V0 0 1))(hd:FDn Γ fo)(hn:fo.nb=true)(hc:fo.A0<=4096):JT Γ hs (dP a b) fo:=by
 obtain⟨⟨v,w,wb⟩,hda,O6,yI⟩:=ha;obtain⟨⟨v2,w2,Ib⟩,hdb,-⟩:=hb;have eZ:=(Fm.nb_ex yI).1;have hqc:(qF 5 s.ty fa).A0=1+0+(fa.A0+0):=rfl;refine⟨_,vC S8 hd hn hc sS (Db0 S8 rfl rfl k hd hdb hc w w2),fun Δ hΔ fR=>?_⟩;have hl:=hΔ.len;have h1:=k.1;have h2:=k.2.1;obtain⟨c1,D1,k1,m1⟩:=wb Δ hΔ rfl;obtain rfl:=Ct.uniq .ex k1;obtain⟨c2,D2,k2,m2⟩:=Ib (.Z4::Δ) (.snoc (hΔ.up 1) (.fr eZ)) (by rw[VW];exact fR);obtain⟨c3,k3⟩:=YA hd hn;obtain rfl:=(k3.up 0 1).uniq k2;refine⟨_,fun X Y=>D2 (D1 X Y,X) ((),Y),k3,fun Θ sc X Y hS=>?_⟩;have hr:=hS.room oO oO;exact wZ (by show (8:Int)<=11;decide) (zU0 S8 ⟨oO,oO,oO,oO⟩ ⟨oO,oO⟩ (nB hda).1 (nB hda).2 eZ oO (m1 _ _ _ _ hS) (m2 _ _ _ _ (hS.exe oO _)))
def gp0(h:FDn Γ f)(h5:f.o0=5):∃(c:T) (g:Fm),f=qF 5 c.ty g:=by
 cases h with
 | eq=>simp[I3,cM]at h5
 | two hk=>simp only[U5,cM]at h5;omega
 | @q _ k s f hk=>simp only[qF,cM]at h5;subst h5;exact⟨s,f,rfl⟩
def MZ{g:Fm}{c:T}(h:Ct f c)(hf:FDn Γ f)(hg:FDn Γ g)(hn:g.nb=true)(hm:f.MatE g=0):Ct g c/\f.v6=g.v6:=by
 obtain⟨b,hb⟩:=YA hg hn;obtain⟨rfl,h2⟩:=Dd0 h hb hf hg (aW (aW hm).2).2;exact⟨hb,h2⟩
def Dj0(k:CK Γ hs 1 1)(hf:FDn (.C0::Γ) f)(gL:f.A0<=4096){F:Q0 Γ->T.V .C0}(ht:Dn Γ t .C0 F)(N4:t.A0<=4096){b:Pf}(ha:JA Γ hs a fa)(hm:(f.Y1 0 0 (nT 4 [])).MatE fa=0)(hb:JA (.C0::Γ) (Q5 hs 1++[f]) b fb)(iH:FDn (.C0::Γ) ((f.V0 1 1).Y1 0 0 (nT 5 [vT (0:Nat)])))(Fc:((f.V0 1 1).Y1 0 0 (nT 5 [vT (0:Nat)])).MatE fb=0)(hr:I6 f t=0)(h5:f.o0=5)
  (hd:FDn Γ (f.Y1 0 0 t)) (hn:(f.Y1 0 0 t).nb=true) (hc:(f.Y1 0 0 t).A0<=4096):JT Γ hs (fN 16 f t a b) (f.Y1 0 0 t):=by
 obtain⟨⟨v,w,wb⟩,hda,-,yI⟩:=ha;obtain⟨⟨v2,w2,Ib⟩,hdb,-,M7⟩:=hb;refine⟨_,vC S8 hd hn hc sS (Yd (by show (16:Int)<=16;decide) (Dc0 S8 rfl rfl rfl rfl k hf ht hr w w2)),fun Δ hΔ fR=>?_⟩;have hl:=hΔ.len;have h1:=k.1;have h2:=k.2.1;obtain⟨c,g,rfl⟩:=gp0 hf h5;have dU:(qF 5 c.ty g).nb=true:=by rw[(bp0 _ 0 0 t).2]at hn;exact hn
 have hct0:Ct (qF 5 c.ty g) c:=.ex;obtain⟨ka,ea⟩:=MZ (hct0.put 0 0 _) (wT .zero hf) hda yI hm;obtain⟨kb,eb⟩:=MZ ((hct0.up 1 1).put 0 0 _) iH hdb M7 Fc;obtain⟨c1,D1,k1,m1⟩:=wb Δ hΔ (by rw[<- ea,Gf];rfl);obtain rfl:=ka.uniq k1;obtain⟨c2,D2,k2,m2⟩:=Ib (c::Δ) (.snoc (hΔ.up 1) hct0) (by rw[<- eb,Gf,VW];rfl);obtain rfl:=kb.uniq k2;refine⟨c,fun X Y=>xI (D1 X Y) (fun n v=>D2 (n,X) (v,Y)) (F X),hct0.put 0 0 t,fun Θ sc X Y hS=>?_⟩;have hr:=hS.room oO oO;exact wZ (by show (8:Int)<=16;decide) (C70 hS oO oO ht N4 fun u hu oQ=>pe0 S8 ⟨oO,oO,oO,oO⟩ ⟨oO,oO,oO,oO⟩ (nB hf).1 hf dU gL (m1 _ _ _ _ hS) (m2 _ _ _ _ (hS.ind oO .C0 c)) hu oQ)
def w40(k:CK Γ hs 2 1)(hf:FDn (.list::Γ) f)(gL:f.A0<=4096){F:Q0 Γ->T.V .list}(ht:Dn Γ t .list F)(N4:t.A0<=4096){b:Pf}(ha:JA Γ hs a fa)(hm:(f.Y1 0 0 (nT 7 [])).MatE fa=0)(hb:JA (.list::.C0::Γ) (Q5 hs 2++[f.V0 1 1]) b fb)(iH:FDn (.list::.C0::Γ) ((f.V0 1 2).Y1 0 0 (nT 8 [vT (1:Nat),vT (0:Nat)])))(Fc:((f.V0 1 2).Y1 0 0 (nT 8 [vT (1:Nat),vT (0:Nat)])).MatE fb=0)(hr:I6 f t=0)(h5:f.o0=5)
  (hd:FDn Γ (f.Y1 0 0 t)) (hn:(f.Y1 0 0 t).nb=true) (hc:(f.Y1 0 0 t).A0<=4096):JT Γ hs (fN 17 f t a b) (f.Y1 0 0 t):=by
 obtain⟨⟨v,w,wb⟩,hda,-,yI⟩:=ha;obtain⟨⟨v2,w2,Ib⟩,hdb,-,M7⟩:=hb;refine⟨_,vC S8 hd hn hc sS (Yd (by show (16:Int)<=17;decide) (w30 S8 rfl rfl rfl rfl k hf gL ht hr w w2)),fun Δ hΔ fR=>?_⟩;have hl:=hΔ.len;have h1:=k.1;have h2:=k.2.1;obtain⟨c,g,rfl⟩:=gp0 hf h5;have dU:(qF 5 c.ty g).nb=true:=by rw[(bp0 _ 0 0 t).2]at hn;exact hn
 have hct0:Ct (qF 5 c.ty g) c:=.ex;obtain⟨ka,ea⟩:=MZ (hct0.put 0 0 _) (wT .nil hf) hda yI hm;obtain⟨kb,eb⟩:=MZ ((hct0.up 1 2).put 0 0 _) iH hdb M7 Fc;obtain⟨c1,D1,k1,m1⟩:=wb Δ hΔ (by rw[<- ea,Gf];rfl);obtain rfl:=ka.uniq k1;obtain⟨c2,D2,k2,m2⟩:=Ib (c::Δ) (.snoc (hΔ.up 2) (hct0.up 1 1)) (by rw[<- eb,Gf,VW];rfl);obtain rfl:=kb.uniq k2;refine⟨c,fun X Y=>Jw (D1 X Y) (fun n l v=>D2 (l,n,X) (v,Y)) (F X),hct0.put 0 0 t,fun Θ sc X Y hS=>?_⟩;have hr:=hS.room oO oO;exact wZ (by show (8:Int)<=17;decide) (w20 hS oO oO ht N4 fun u hu oQ=>lz0 S8 ⟨oO,oO,oO,oO⟩ ⟨oO,oO,oO,oO⟩ (nB hf).1 hf dU gL (m1 _ _ _ _ hS) (m2 _ _ _ _ (hS.lists oO c)) hu oQ)
def Dk0(k:CK Γ hs 0 0)(hf:FDn (.C0::Γ) f){a b:Pf}{s s':Tm}{fb:Fm}{S S':Q0 Γ->N0.V}(c8:Dn Γ s .C0 S)(hds':Dn Γ s' .C0 S')
  (ha:JA Γ hs a (I3 s s')) (hb:JA Γ hs b fb) (hm:(f.Y1 0 0 s).MatE fb=0) (hr:I6 f s' = 0) (hd:FDn Γ (f.Y1 0 0 s')) (hn:(f.Y1 0 0 s').nb=true) (hc:(f.Y1 0 0 s').A0<=4096):JT Γ hs (dQ f a b) (f.Y1 0 0 s'):=by
 obtain⟨⟨v,w,-⟩,-⟩:=ha;obtain⟨⟨v2,w2,Ib⟩,hdb,-,M7⟩:=hb;refine⟨_,vC S8 hd hn hc sS (Yd (by show (16:Int)<=19;decide) (Da0 S8 rfl rfl rfl (by have:=k.1;omega) hf hds' hr w w2)),fun Δ hΔ fR=>?_⟩;obtain⟨c,k0⟩:=YA hf (by rw[(bp0 _ 0 0 s').2]at hn;exact hn);obtain⟨kb,eb⟩:=MZ (k0.put 0 0 s) (wT c8 hf) hdb M7 hm;obtain⟨c2,D2,k2,m2⟩:=Ib Δ hΔ (by rw[<- eb,Gf];rwa [Gf]at fR);obtain rfl:=kb.uniq k2;exact⟨c,D2,k0.put 0 0 s',fun Θ sc X Y hS=>wZ (by show (8:Int)<=19;decide) (De0 (m2 _ _ _ _ hS))⟩
def Dl0{b:Bool}(h:Ok b Γ hs p f):(b=true->JA Γ hs p f)/\(b=false->FDn Γ f->f.nb=true->f.A0<=4096->JT Γ hs p f):=by
 have ck:∀{f:Fm},f.chk=0->f.A0<=4096:=fun {f} h=>by unfold Fm.chk at h;split at h <;> omega
 induction h with
 | chk h hd hc hn ih=>exact⟨fun _=>⟨ih.2 rfl hd hn hc,hd,hc,hn⟩,nofun⟩
 | hyp k hi I1=>exact⟨nofun,fun _=>Df0 k hi I1⟩
 | andi ha hb i1 i2=>exact⟨nofun,fun _=>z00 (i1.1 rfl) (i2.1 rfl)⟩
 | and i ha ih=>exact⟨nofun,fun _ _ _ _=>Dg0 i (ih.1 rfl)⟩
 | refl k ht hc hy=>exact⟨nofun,fun _=>zZ0⟩
 | alli k bH ha ih=>exact⟨nofun,fun _=>fZ0 k bH (ih.1 rfl)⟩
 | alle k ht hc hy ha hp ih=>exact⟨nofun,fun _=>z10 k ht hc (ih.1 rfl) hp⟩
 | exi k hf hk hg ht hc hy ha hp hm gK ih=>exact⟨nofun,fun _ _=>Dh0 k hf ht hc (ih.1 rfl) gK⟩
 | exe k ha hb aG i1 i2=>exact⟨nofun,fun _=>Di0 k (i1.1 rfl) (i2.1 rfl)⟩
 | ind k hf hk hg ht hc hy ha hp hm hb hq hn hr h5 i1 i2=>exact⟨nofun,fun _=>Dj0 k hf (ck hk) ht hc (i1.1 rfl) hm (i2.1 rfl) (wT (.succ (.var .zero)) (CU (Ξ:=[.C0]) hf [.C0] rfl)) hn hr h5⟩
 | lists k hf hk hg ht hc hy ha hp hm hb hq hn hr h5 i1 i2=>exact⟨nofun,fun _=>w40 k hf (ck hk) ht hc (i1.1 rfl) hm (i2.1 rfl) (wT (.cons (.var (.succ .zero)) (.var .zero)) (CU (Ξ:=[.list,.C0]) hf [.list] rfl)) hn hr h5⟩
 | sub k hf hk hg cs N7 c8 hds' ha hb hp hm hr i1 i2=>exact⟨nofun,fun _=>Dk0 k hf c8 hds' (i1.1 rfl) (i2.1 rfl) hm hr⟩
end
end
section
abbrev vO(f:Fm)(u:Nat)(e:Int):DV:=.H1 [if e=0 then .agg [j0 f.o0,j0 f.I0.o0,.sl (f.I0.B0.map P1),.sl (f.M1.map E3),.sl (f.B0.map L3),.sl (Ks u)] else .agg [j0 0,j0 0,.sl [],.sl [],.sl [],.sl []],j0 e]
abbrev NI(e:Int)(l:List DV):DV:=if e=0 then .ref l else .K0 (.pointer none)
def pf0:cU 45 [.sl [],.sl []] (j0 0):=by
 refine A3 Tryz.func45 fun X zX=>?_;refine N2 ?_;refine W8 ?_;exact O1 H0 H0
def si0:cU 47 [hZ []] (Sco.mk 0 0 [] []).dv:=by
 have w:=zN0;refine A3 Tryz.func47 fun X zX=>?_;refine N2 ?_;refine W8 ?_;refine V3 H0 (M0 w) ?_;refine W8 ?_;exact O1 H0 H0
def Dm0{l:List DV}(wi:cU 11 [.sl [],hZ [],p.dv] (vO f u e))(wo:cU 137 [.sl [],.sl (([]:List Fm).map L3),p.dv] (.ref l)):
  cU 44 [.sl [],hZ [],p.dv] (.H1 [NI e l,j0 e]):=by
 simp only[vO]at wi;by_cases q:e=0
 ·subst q;rw[if_pos rfl]at wi;simp only[O5]at wo wi ⊢;rw[show NI 0 l = .ref l from rfl];exact B2 Tryz.func44 H0 (P3 wi wo)
 ·rw[if_neg q]at wi;simp only[O5]at wo wi ⊢;rw[show NI e l = .K0 (.pointer none) from if_neg q];exact B2 Tryz.func44 @q (M0 wi)
def w50{f:Fm}{s:Sco}{l:List DV}{P:Tm->Int->Prop}(h:vN 140 [bD,.ref l,s.dv] P):vN 46 [.sl [],.ref l,s.dv] P:=by
 obtain⟨u,e,h1,h2,h3,w⟩:=h;refine⟨u,e,h1,h2,h3,?_⟩;exact B2 Tryz.func46 H0 (M0 w)
def Sw(he:s6 e)(wi:cU 11 [.sl [],hZ [],p.dv] (vO f u e))(wo:cU 137 [.sl [],.sl (([]:List Fm).map L3),p.dv] (.ref (g6 p f [] true v)))
  {P:Tm->Int->Prop} (hb:vN 140 [bD,.ref (g6 p f [] true v),(Sco.mk 0 0 [] []).dv] P):∃(t:Tm) (e2:Int),s6 e2/\t.A0<=4096/\(e=0->P t e2)/\(e2=0->e=0)/\cU 12 [.sl [],.sl [],hZ [],p.dv] (.H1 [t.dv,j0 e2]):=by
 have w0:=Dm0 wi wo;have w1:=pf0;have w2:=si0;obtain⟨t,e2,h1,h2,h3,w3⟩:=w50 (f:=f) hb;by_cases q:e=0
 ·subst q;rw[show NI 0 (g6 p f [] true v) = .ref (g6 p f [] true v) from rfl]at w0;refine⟨t,e2,h1,h2,fun _=>h3,fun _=>rfl,?_⟩;exact B2 Tryz.func12 H0 (cQ w0 w1 w2 w3)
 ·rw[show NI e (g6 p f [] true v) = .K0 (.pointer none) from if_neg q]at w0;refine⟨M6,e,he,dD,fun h=>absurd h q,id,?_⟩;exact G7 Tryz.func12 (j2 @q @M6.eq_1) (M0 w0)
def w60(h:u<4294967296):EQ .u32 u 1=((u % 2:Nat):Int):=by
 have e:(yL 32 (u:Int) &&& yL 32 1).toNat=u % 2:=by
  rw[BitVec.toNat_and,BitVec.ofInt_natCast,BitVec.toNat_ofNat,Nat.mod_eq_of_lt (show u<2 ^ 32 from oO),show (yL 32 1).toNat=1 from rfl,Nat.and_one_is_mod]
 unfold EQ;show IntKind.u32.wrap ((yL 32 (u:Int) &&& yL 32 1).toNat:Int)=_;rw[e];exact Cx (by rw[QK];omega)
def f5(c:Bool)(y:Ty)(a:Pf):Pf:=.mk (if c then 12 else 8) 0 y [] [] [a]
def C8(c:Bool)(y:Ty)(f:Fm):Fm:=qF (if c then 6 else 4) y f
def f00(c:Bool){g:List Ty}(G0:g.length<=14)(bH:s.ok)(u2:u<4294967296)(hu:c=true->u % 2=0)(wa:cU 40 [cD,a.dv,iB (g++[s.ty]) []] (.H1 [xW fa u,j0 0])):
  cU 122 [cD,(f5 c s.ty a).dv,iB g []] (.H1 [xW (C8 c s.ty fa) (u / 2 ^ 1),j0 0]):=by
 have wb:=Rk g [s.ty] [] (by simpa using M9 bH) ⟨oO,sS⟩;have wm:=RG g.length ([]:List Hy).length 1 0 oO sS;have wo:=Sg u 1 u2 dD;have l1:=Pf.length_cells a;have lf:=Fm.length_cells fa;have e0:(EQ .u32 u 1)=((u % 2:Nat):Int):=w60 u2;generalize u / 2 ^ 1=x at *;simp only[G4,O5]at wb;generalize g++[s.ty]=g2 at *;cases c with
 | false=>
  have wq:=Wy 4 s.ty fa;rw[dL]at wq;show P8 _ _ _ [cD,.agg [j0 8,j0 0,j0 s.ty.o0,.sl (s.ty.B0.map P1),.sl [],.sl [],.sl [a.E0]],iB g []] _ (.H1 [.agg [j0 4,j0 s.ty.o0,.sl (s.ty.B0.map P1),.sl [],.sl [fa.E0],Jj2 x],j0 0]) _;exact B2 kb0 H0 (T9 wm wb wa wq wo)
 | true=>
  have wq:=Wy 6 s.ty fa;rw[dL]at wq;have hu:=hu rfl;rw[hu]at e0;show P8 _ _ _ [cD,.agg [j0 12,j0 0,j0 s.ty.o0,.sl (s.ty.B0.map P1),.sl [],.sl [],.sl [a.E0]],iB g []] _ (.H1 [.agg [j0 6,j0 s.ty.o0,.sl (s.ty.B0.map P1),.sl [],.sl [fa.E0],Jj2 x],j0 0]) _;exact B2 kb0 @e0 (T9 wm wb wa wq wo)
def Ye(c:Bool)(hy:y.ok)(h:PS a):PS (f5 c y a):=by
 cases c with
 | false=>exact .mk (ix:=false) (ty:=true) (show dM 8 0 0 1 false true by unfold dM;decide) (by show (0:Int)<=0;decide) (fun _=>rfl) (fun _=>hy) (fun h=>by cases h) (by simp[f5,Pf.M1]) (by simp[f5,Pf.V4]) (by simpa [f5,Pf.B0] using h)
 | true=>exact .mk (ix:=false) (ty:=true) (show dM 12 0 0 1 false true by unfold dM;decide) (by show (0:Int)<=0;decide) (fun _=>rfl) (fun _=>hy) (fun h=>by cases h) (by simp[f5,Pf.M1]) (by simp[f5,Pf.V4]) (by simpa [f5,Pf.B0] using h)
def XM(c:Bool)(y:Ty)(a:Pf):(f5 c y a).A0=1+a.A0:=by
 show 1+0+0+(a.A0+0)=_;omega
def w70(p:Pf):s6 p.chk:=by unfold Pf.chk;split;exact .inl rfl;exact .inr (.inr (.inl rfl))
section
def w80(hs:s.ok)(hb:Ok true [s] [] pb fb)(kT:PS pb)(Dl:pb.A0<=800000000)(hd1:∀c,FDn [N0] (C8 c s.ty fb))(hn:∀c,(C8 c s.ty fb).nb=true)(hc:fb.A0<=4000):∃u:Nat,u<2 /\
  cU 11 [.sl [],hZ [N0.ty],(f5 false s.ty pb).dv] (vO (C8 false s.ty fb) 0 (f5 false s.ty pb).chk) /\
  cU 11 [.sl [],hZ [N0.ty,s.ty],pb.dv] (vO fb u pb.chk) /\
  ∀c1 c2,(c2=true->u=0)->cU 11 [.sl [],hZ [],(f5 c1 N0.ty (f5 c2 s.ty pb)).dv] (vO (C8 c1 N0.ty (C8 c2 s.ty fb)) 0 (f5 c1 N0.ty (f5 c2 s.ty pb)).chk):=by
 obtain⟨-,hdb,nH,M7⟩:True/\FDn [s] fb/\fb.A0<=4096/\fb.nb=true:=by cases hb with|chk _ hd hc hn=>exact⟨trivial,hd,hc,hn⟩
 obtain⟨u,u1,u2,wb⟩:=(gV0 S8 hb).inf (Ω:=[.C0]) (kn:=[]) sS sS (by simpa using lE) ⟨rfl,fun i f h=>by simp at h⟩;rw[show gT ([s]++[N0])=[N0.ty,s.ty] from rfl]at wb;have u3:u<2:=by simpa using u1
 have AD:∀y∈[N0.ty],y.ok:=by simpa using M9 lE
 have Aq:∀y∈[N0.ty,s.ty],y.ok:=by
  intro y hy;simp at hy;rcases hy with rfl|rfl;· exact M9 lE
  ·exact M9 hs
 have cc:∀c,(C8 c s.ty fb).A0<=4090:=fun c=>by show 1+0+(fb.A0+0)<=_;omega
 have w1:∀c,(c=true->u=0)->cU 40 [cD,(f5 c s.ty pb).dv,iB [N0.ty] []] (.H1 [xW (C8 c s.ty fb) 0,j0 0]):=fun c hu=>by
  have w:=XG S8 (r:=122) (by cases c <;> rfl) (f00 c (g:=[N0.ty]) sS hs u2 (fun h=>by rw[hu h]) wb) (hd1 c) (by have:=cc c;omega) (hn c);rw[show u / 2 ^ 1=0 from oO,ite_self]at w;exact w
 refine⟨u,u3,Ro S8 NH Th AD sS (Ye false (M9 hs) kT) (by rw[XM];omega) (hd1 false) sS (by have:=cc false;omega) dD (w1 false fun h=>by cases h),Ro S8 NH Th Aq sS kT oO hdb sS nH u3 wb,fun c1 c2 hu=>?_⟩;have AM:FDn [] (C8 c1 N0.ty (C8 c2 s.ty fb)):=.q (by cases c1 <;> simp) lE (hd1 c2);have dG:(C8 c1 N0.ty (C8 c2 s.ty fb)).nb=true:=by have:=hn c2;cases c1 <;> simpa [C8,qF,Cs,Cs.all] using this
 have c2c:(C8 c1 N0.ty (C8 c2 s.ty fb)).A0<=4096:=by show 1+0+((C8 c2 s.ty fb).A0+0)<=_;have:=cc c2;omega
 have w:=XG S8 (r:=122) (by cases c1 <;> rfl) (f00 c1 (g:=[]) sS lE (u:=0) dD (fun _=>rfl) (w1 c2 hu)) AM c2c dG;rw[show 0 / 2 ^ 1=0 from rfl,ite_self]at w;exact Ro S8 NH Th sS sS (Ye c1 (M9 lE) (Ye c2 (M9 hs) kT)) (by rw[XM,XM];omega) AM sS c2c dD w
end
def SR.allu{Δ:List T}{s:Sco}{X:Q0 Θ->Q0 Γ}{Y:Q0 Θ->Q0 Δ}(h:SR Θ Γ Δ s X Y)(N5:Γ.length<=100){a:T}{F:Q0 Θ->a.V}(ht:Dn Θ t a F)(hc:t.A0<=4096):SR Θ (a::Γ) Δ (s.var t) (fun θ=>(F θ,X θ)) Y:=
 have hr:=h.rm
 ⟨h.toSC.var oO ht hc,by simp only[B4];omega⟩
def SR.less{s:Sco}{a:T}{X:Q0 Θ->Q0 [a]}{Y:Q0 Θ->Q0 []}(h:SR Θ [a] [] s X Y)(hr:s.dep<=1000/\s.hy<=1000/\s.vs.length<=1000):SR Θ [] [] s (fun _=>()) Y:=
 ⟨⟨h.dep,.nil,h.good,h.ks,h.len⟩,by simpa using hr⟩
def sr0:SR [] [] [] (Sco.mk 0 0 [] []) (fun _=>()) (fun _=>()):=⟨⟨rfl,.nil,(fun _ h=>by cases h),.nil,rfl⟩,sS⟩
section
def z20(k:CK Γ hs 1 0)(W9:s = .C0\/s = .list)(ha:JA (s::Γ) (Q5 hs 1) a fa)(hd:FDn Γ (C8 true s.ty fa))(hn:(C8 true s.ty fa).nb=true)(hc:(C8 true s.ty fa).A0<=4096):JT Γ hs (f5 true s.ty a) (C8 true s.ty fa):=by
 obtain⟨⟨v,w,wb⟩,-⟩:=ha;refine⟨_,vC S8 hd hn hc sS (fY0 S8 rfl rfl rfl k w),fun Δ hΔ fR=>?_⟩;have hl:=hΔ.len;have h1:=k.1;have h2:=k.2.1;obtain⟨t,ht,htc,wi⟩:=fd0 W9;obtain⟨c,D,k1,k2⟩:=wb Δ (hΔ.up 1) (by rwa [show (C8 true s.ty fa).v6=fa.v6 from zD _ _ sS]at fR);refine⟨c,fun X Y=>D (s.dflt,X) Y,.allu k1,fun Θ sc X Y hS=>?_⟩;have hr:=hS.room oO oO;exact wZ (by show (8:Int)<=12;decide) (fV0 ⟨oO,oO,oO,oO⟩ wi (k2 _ _ _ _ (hS.allu oO (F7 ht Θ) oO)))
def Ti(v h:Nat)(hv:v<=14)(hh:h<=16):CK [] [] v h:=⟨by simpa using hv,by simpa using hh,fun _ h=>(by cases h),fun _ h=>by cases h⟩
def VX(c1:Bool)(w:cU 137 [.sl [],.sl (([]:List Fm).map L3),p.dv] (.ref (g6 p f [] f.v6 v)))(fR:f.v6=true)(hd:FDn [] (C8 c1 N0.ty f))(hn:(C8 c1 N0.ty f).nb=true)(hc:(C8 c1 N0.ty f).A0<=4096)
  {a:T} {D:Q0 []->Q0 []->a.V} (hm:∀(Θ:List T) (s:Sco) (X:Q0 Θ->Q0 []) (Y:Q0 Θ->Q0 []),SR Θ [] [] s X Y->Mk 140 [.agg [.sl []],.ref (g6 p f [] f.v6 v),s.dv] Θ a (fun θ=>D (X θ) (Y θ))) :
  ∃v1,cU 137 [.sl [],.sl (([]:List Fm).map L3),(f5 c1 N0.ty p).dv] (.ref (g6 (f5 c1 N0.ty p) (C8 c1 N0.ty f) [] true v1)) /\
   (c1=false->Mk 140 [bD,.ref (g6 (f5 c1 N0.ty p) (C8 c1 N0.ty f) [] true v1),(Sco.mk 0 0 [] []).dv] [] (.fn .C0 a) (fun _ _=>D () ())) /\
   (c1=true->Mk 140 [bD,.ref (g6 (f5 c1 N0.ty p) (C8 c1 N0.ty f) [] true v1),(Sco.mk 0 0 [] []).dv] [] a (fun _=>D () ())):=by
 have gK:(C8 c1 N0.ty f).v6=true:=by cases c1 <;> exact (zD _ _ sS).trans fR
 cases c1 with
 | false=>
  have w1:=vC (p:=f5 false N0.ty p) (hs:=[]) S8 hd hn hc (ys:=[[.ref (g6 p f [] f.v6 v)]]) sS (XK S8 rfl rfl rfl (Ti 1 0 dD dD) w);rw[gK]at w1;refine⟨_,w1,fun _=>?_,nofun⟩;exact wZ (by show (8:Int)<=8;decide) (gn0 lE sS sS (hm _ _ _ _ ((sr0.all sS .C0).less sS)))
 | true=>
  have w1:=vC (p:=f5 true N0.ty p) (hs:=[]) S8 hd hn hc (ys:=[[.ref (g6 p f [] f.v6 v)]]) sS (fY0 S8 rfl rfl rfl (Ti 1 0 dD dD) w);rw[gK]at w1;refine⟨_,w1,nofun,fun _=>?_⟩;obtain⟨t,ht,htc,wi⟩:=fd0 (s:=.C0) (.inl rfl);exact wZ (by show (8:Int)<=12;decide) (fV0 sS wi (hm _ _ _ _ ((sr0.allu sS ht oO).less sS)))
end
def eo0(h:¬p.o0=8/\¬p.o0=12):cU 33 [p.dv] (O2 false):=by
 obtain⟨h1,h2⟩:=h;refine A3 kl0 fun X zX=>?_;refine E4 (bx [1000001]) tT ?_;exact O1 (j2 @h1 @h2) H0
def VY(c:Bool)(y:Ty)(a:Pf):cU 33 [(f5 c y a).dv] (O2 true):=by
 cases c with
 | false=>
  show P8 _ _ _ [.agg [j0 8,j0 0,j0 y.o0,.sl (y.B0.map P1),.sl [],.sl [],.sl [a.E0]]] _ _ _;refine A3 kl0 fun X zX=>?_;refine E4 (bx [1000001]) tT ?_;exact O1 H0 H0
 | true=>
  show P8 _ _ _ [.agg [j0 12,j0 0,j0 y.o0,.sl (y.B0.map P1),.sl [],.sl [],.sl [a.E0]]] _ _ _;refine A3 kl0 fun X zX=>?_;refine E4 (bx [1000001]) tT ?_;exact O1 H0 H0
abbrev Tj(fl:List Bool):List DV:=[.sl (fl.map fun b=>[O2 b])]
def sj0{fl:List Bool}{c:Bool}(h:fl[i]? = some c):cU 36 [j0 i,.ref (Tj fl)] (j0 (if c then 12 else 8)):=by
 cases c with
 | false=>
  exact B2 Tryz.func36 @h H0
 | true=>
  exact B2 Tryz.func36 @h H0
abbrev Fa(fl:List Bool):DV:=.m6 36 [.ref (Tj fl)]
abbrev Fb(b:Nat)(fl:List Bool):G3:=[(b,[.m6 112 [.ref [Fa fl],M3 b]])]
def z30(b:Nat)(fl:List Bool)(i:Nat)(h:¬p.o0=8/\¬p.o0=12):cT 112 [p.dv,j0 i,.ref [Fa fl],M3 b] (Fb b fl) p.dv (Fb b fl):=by
 have w:=eo0 h;refine A3 Tryz.func112 fun X zX=>?_;simp only[entry,bA,R6,aT];refine E4 (bx [1000004]) tT ?_;exact v8 [(b,[.m6 112 [.ref [Fa fl],M3 b]])] H0 (M0 w)
def ff0(b:Nat)(fl:List Bool)(c:Bool)(i:Nat)(hi:i<=1000)(hc:fl[i]? = some c2)(wa:cT 112 [a.dv,j0 ((i:Int)+1),.ref [Fa fl],M3 b] (Fb b fl) a2.dv (Fb b fl)):cT 112 [(f5 c y a).dv,j0 i,.ref [Fa fl],M3 b] (Fb b fl) (f5 c2 y a2).dv (Fb b fl):=by
 have w:=VY c y a;have w1:=sj0 hc;have OK:(f5 c y a).B0=[a]:=rfl;have Q6:=Cm a;have O6:=rZ a;have bS:=rZ a2;have eY:=qK y;have hpt:(f5 c y a).I0=y:=rfl;generalize hp:f5 c y a=p at *;refine H2 Tryz.func112 ?_;intro X hP G0 hf X0 hn hR K1 G1;simp only[entry,bA,R6,aT];refine E4 (bx [1000004]) tT ?_;refine V3 H0 (M0 w) ?_;refine U6 (j2 @OK @hpt) fun K hK=>?_;refine Qx (fun _ _=>iN) hP G0 w1 sG sG sG sS nN ?_;simp[go_sem,hP,G0,hn,OK,hpt,Q6,eY];repeat (refine⟨oO,?_⟩)
 refine Qx (fun _ _=>iN) hP G0 wa sG (by simp[go_sem,Q6,O6]) sG sS nN ?_;simp[go_sem,hP,G0,hn,OK,hpt,Q6,eY,bS];refine K4 ?_;clear hK K;have hq:(f5 c2 y a2).dv = .agg [j0 (if c2=true then 12 else 8),j0 0,j0 y.o0,.sl (y.B0.map P1),.sl [],.sl [],.sl [a2.E0]]:=rfl;exact s7 [(b,[.m6 112 [.ref [Fa fl],M3 b]])] (j2 @hq @bS)
def pg0(c1 c2 d1 d2:Bool)(y1 y2:Ty)(h:¬pb.o0=8/\¬pb.o0=12):cU 35 [(f5 c1 y1 (f5 c2 y2 pb)).dv,Fa [d1,d2]] (f5 d1 y1 (f5 d2 y2 pb)).dv:=by
 have w:=fun b=>ff0 b [d1,d2] c1 (y:=y1) 0 dD (c2:=d1) rfl (ff0 b [d1,d2] c2 (y:=y2) 1 dD (c2:=d2) rfl (z30 b [d1,d2] 2 h));have ZJ:=Cm (f5 c1 y1 (f5 c2 y2 pb));have KG:=rZ (f5 d1 y1 (f5 d2 y2 pb));generalize f5 c1 y1 (f5 c2 y2 pb)=p at *;generalize f5 d1 y1 (f5 d2 y2 pb)=q at *;refine H2 Tryz.func35 ?_;intro X hP G0 hf X0 hn hR K1 G1;refine E4 (bx [1000002,1000003]) tT ?_;refine N2 ?_;refine fG 5 (by simp[go_sem];rfl) ?_;intro b hb;simp[go_sem]at hb ⊢;refine iA 6 ?_;have w0:cT 112 [p.dv,j0 0,.ref [Fa [d1,d2]],M3 b] (Fb b [d1,d2]) q.dv (Fb b [d1,d2]):=w b;refine U6 @ZJ fun K hK=>?_;refine Wi hP G0 w0 sG (by simp[go_sem,ZJ]) sG sS nN ?_;simp[go_sem,hP,G0,hn,ZJ,KG];refine K4 ?_;clear hK K;exact aN @KG
def w90{s:Ty}{f0 f1 fb:Fm}(hu:u<2)(h:¬pb.o0=8/\¬pb.o0=12)(w0:cU 11 [.sl [],hZ [],(f5 false B8 (f5 false s pb)).dv] (vO f0 0 0))
  (w1:cU 11 [.sl [],hZ [B8],(f5 false s pb).dv] (vO f1 0 0)) (w2:cU 11 [.sl [],hZ [B8,s],pb.dv] (vO fb u 0)) :
  cU 9 [.sl [],hZ [],(f5 false B8 (f5 false s pb)).dv] (.H1 [(f5 true B8 (f5 (u=0) s pb)).dv,.sl [[O2 true],[O2 (u=0)]],j0 0]):=by
 have v0:=VY false B8 (f5 false s pb);have v1:=VY false s pb;have v2:=eo0 h;have vm:=pg0 false false true (decide (u=0)) B8 s h;have p0:=Cm (f5 false B8 (f5 false s pb));have p1:=Cm (f5 false s pb);have p2:=Cm pb;have a0:(f5 false B8 (f5 false s pb)).B0=[f5 false s pb]:=rfl;have a1:(f5 false s pb).B0=[pb]:=rfl;have t0:(f5 false B8 (f5 false s pb)).I0=B8:=rfl;have t1:(f5 false s pb).I0=s:=rfl;have k0:(f5 false B8 (f5 false s pb)).o0=8:=rfl;have k1:(f5 false s pb).o0=8:=rfl;have c1:=rZ (f5 false s pb);have c2:=rZ pb;have cy:=mK s;have cr:=rZ (f5 true B8 (f5 (u=0) s pb));have eY:=qK s;simp only[vO,if_pos,O5,G4]at w0 w1 w2;generalize f5 true B8 (f5 (u=0) s pb)=q at *;generalize f5 false B8 (f5 false s pb)=x0 at *;generalize f5 false s pb=x1 at *;have pz:=p0;simp[k0,t0,a0,c1,show B8.o0=1 from rfl,show B8.B0=[] from rfl]at pz;refine H2 Tryz.func9 ?_;intro X hP G0 hf X0 hn hR K1 G1;refine E4 (bx [1000004,1000005]) tT ?_;refine N2 ?_;refine N1 @p0 (M0 w0) ?_;refine N2 ?_;refine W8 ?_;refine N2 ?_;refine N1 @p0 (M0 v0) ?_;refine U1 (j2 @t0 @k0) ?_;refine W8 ?_;refine N2 ?_;refine N1 (j3 @a0 @c1 @p1) (M0 w1) ?_
 refine U1 (j2 @Ks.eq_1 @k0) ?_;refine Q1 ?_;refine aM [(1009,109)] (s':=[sV 110 (.agg [j0 8,j0 x0.O0,j0 1,.sl [],.sl (x0.M1.map E3),.sl (x0.V4.map L3),.sl [x1.E0]]),sP 11,sL 11 [.own 1009 [[O2 true]]],(.tok 1009,.tk 1 1),sP 12,sL 12 [.v (.sl [[j0 1,.sl []]]),.v (.sl [])],sV 5 (.ref [j0 8,j0 x0.O0,j0 1,.sl [],.sl (x0.M1.map E3),.sl (x0.V4.map L3),.sl [x1.E0]]),sV 0 (.sl []),sP 6,sL 6 [.v (j0 0),.v (j0 0),.v (j0 0),.own 0 [],.own 0 [],.own 0 [],.own 0 []]]) sG (by simp[go_sem,a0,t0,k0,c1]) sG ?_;simp[go_sem,c1];refine N2 ?_;refine bV ?_;refine N2 ?_;refine N1 @p1 (M0 v1) ?_;refine U1 (j2 @t1 @k1) ?_;refine W8 ?_;refine N2 ?_;refine N1 (j3 @a1 @c2 @p2) (M0 w2) ?_;rcases (show u=0\/u=1 from oO) with rfl|rfl
 ·refine U1 (j2 @Ks.eq_1 @k1) ?_;refine Q1 ?_;refine aM [] (s':=[sV 110 (.agg [j0 8,j0 x1.O0,j0 s.o0,.sl (s.B0.map P1),.sl (x1.M1.map E3),.sl (x1.V4.map L3),.sl [pb.E0]]),sP 11,sL 11 [.v (.sl [[O2 true],[O2 true]])],sP 12,sL 12 [.v (.sl [[j0 1,.sl []],[j0 s.o0,.sl (s.B0.map P1)]]),.v (.sl [])],sV 5 (.ref [j0 8,j0 x0.O0,j0 1,.sl [],.sl (x0.M1.map E3),.sl (x0.V4.map L3),.sl [x1.E0]]),sV 0 (.sl []),sP 6,sL 6 [.v (j0 0),.v (j0 0),.v (j0 0),.own 0 [],.own 0 [],.own 0 [],.own 0 []]]) sG (by simp[go_sem,a1,t1,k1,c1,c2]) sG ?_;simp[go_sem,c1,c2];refine N2 ?_;refine bV ?_;refine N2 ?_;refine N1 @p2 (M0 v2) ?_;refine N2 ?_;refine fG 11 (by simp[go_sem];rfl) ?_;intro b hb;simp[go_sem]at hb ⊢;refine JV 11 (b:=b) (cs:=Tj [true,true]) sG sG (by rw[K1];simp) ?_;simp[go_sem];refine U6 (j3 @a0 @c1 @pz) fun K hK=>?_;refine Z7 (j2 @pz @cr) (vm) ?_;refine K4 ?_;clear hK K;exact aN @cr
 ·refine U1 (j2 @Ks.eq_1 @k1) ?_;refine Q1 ?_;refine aM [] (s':=[sV 110 (.agg [j0 8,j0 x1.O0,j0 s.o0,.sl (s.B0.map P1),.sl (x1.M1.map E3),.sl (x1.V4.map L3),.sl [pb.E0]]),sP 11,sL 11 [.v (.sl [[O2 true],[O2 false]])],sP 12,sL 12 [.v (.sl [[j0 1,.sl []],[j0 s.o0,.sl (s.B0.map P1)]]),.v (.sl [])],sV 5 (.ref [j0 8,j0 x0.O0,j0 1,.sl [],.sl (x0.M1.map E3),.sl (x0.V4.map L3),.sl [x1.E0]]),sV 0 (.sl []),sP 6,sL 6 [.v (j0 0),.v (j0 0),.v (j0 0),.own 0 [],.own 0 [],.own 0 [],.own 0 []]]) sG (by simp[go_sem,a1,t1,k1,c1,c2]) sG ?_;simp[go_sem,c1,c2];refine N2 ?_;refine bV ?_;refine N2 ?_;refine N1 @p2 (M0 v2) ?_;refine N2 ?_;refine fG 11 (by simp[go_sem];rfl) ?_;intro b hb;simp[go_sem]at hb ⊢;refine JV 11 (b:=b) (cs:=Tj [true,false]) sG sG (by rw[K1];simp) ?_;simp[go_sem];refine U6 (j3 @a0 @c1 @pz) fun K hK=>?_;refine Z7 (j2 @pz @cr) (vm) ?_;refine K4 ?_;clear hK K;exact aN @cr
def Sx{a:T}{F:Q0 []->a.V}(h:Dn [] t a F)(n:Nat)(k:Int):t.V0 (n:Int) k=t:=by
 refine Wq t k n (Z5 h) ?_;have:=QZ (F7 h (List.replicate n N0))
 rwa [List.length_replicate]at this
def Yf{a:T}{F:Q0 []->a.V}(h:Dn [] t a F)(n:Nat)(s:Tm):t.Y1 0 (n:Int) s=t:=by
 have h1:=Yw t s n oO (Z5 h)
 rwa [Sx h]at h1
abbrev H6(k:Int)(b g n:Tm):Tm:=U0 k 0 Y0 [b,g,n]
def fg0(hk:k=6\/k=9):W2 k=0:=by rcases hk with rfl|rfl <;> rfl
def Na(hk:k=6\/k=9)(y:Ty){c a:T}{B:Q0 []->c.V}{G:Q0 []->a.V}(hb:Dn [] b c B)(hg:Dn [] g a G)(x:Tm)(n:Nat)(m:Int):(U0 k 0 y [b,g,x]).V0 (n:Int) m=U0 k 0 y [b,g,x.V0 n m]:=by
 have h1:¬k=1:=by rcases hk with rfl|rfl <;> decide
 rw[Tm.upN_eq];simp only[Z9,fE,kL,M8,fg0 hk,sE,h1,false_and,if_false,G4,O5,Sx hb,Sx hg]
def Yg(hk:k=6\/k=9)(y:Ty){c a:T}{B:Q0 []->c.V}{G:Q0 []->a.V}(hb:Dn [] b c B)(hg:Dn [] g a G)(x:Tm)(n:Nat)(s:Tm):(U0 k 0 y [b,g,x]).Y1 0 (n:Int) s=U0 k 0 y [b,g,x.Y1 0 n s]:=by
 have h1:¬k=1:=by rcases hk with rfl|rfl <;> decide
 rw[Tm.inN_eq];simp only[Z9,fE,kL,M8,fg0 hk,sE,h1,if_false,G4,O5,Yf hb,Yf hg]
def Nb(s:Tm):(X4 s).V0 0 1=X4 (s.V0 0 1):=by
 have h1:=MW s 0 1 1 1 dD dD;have h2:=MW s 0 1 0 1 dD dD;have h3:(vT 0).V0 1 1=vT 0:=by rw[EC];rfl
 show qF 5 Y0 (I3 ((vT 0).V0 (0+1) 1) ((s.V0 0 1).V0 (0+1) 1))=qF 5 Y0 (I3 (vT 0) ((s.V0 0 1).V0 0 1));rw[h1,show (s.V0 0 1).V0 0 1=s.V0 0 (1+1) from h2,show (0:Int)+1=1 from rfl,h3]
def Yh(s x:Tm):(X4 s).Y1 0 0 x=X4 (s.Y1 0 0 x):=by
 have h1:=gI0 s x 0 0 1 dD dD dD;have h3:(vT 0).Y1 0 (0+1) x=vT 0:=by rw[BA];rfl
 show qF 5 Y0 (I3 ((vT 0).Y1 0 (0+1) x) ((s.V0 0 1).Y1 0 (0+1) x))=qF 5 Y0 (I3 (vT 0) ((s.Y1 0 0 x).V0 0 1));rw[h3,h1]
def zM{B:Q0 []->N0.V}{G:Q0 []->(y8 .C0 (.fn .C0 .C0)).V}(hb:Dn [] b .C0 B)(hg:Dn [] g (.fn .C0 (.fn .C0 .C0)) G){X:Q0 Γ->N0.V}(hx:Dn Γ x .C0 X):∃F:Q0 Γ->N0.V,Dn Γ (H6 6 b g x) .C0 F:=⟨_,.rc (a:=N0) (by show _<=64;decide) (F7 hb Γ) (F7 hg Γ) hx⟩
def wR{B:Q0 []->N0.V}{G:Q0 []->(y8 .C0 (.fn .list (.fn .C0 .C0))).V}(hb:Dn [] b .C0 B)(hg:Dn [] g (.fn .C0 (.fn .list (.fn .C0 .C0))) G){X:Q0 Γ->T.list.V}(hx:Dn Γ x .list X):∃F:Q0 Γ->N0.V,Dn Γ (H6 9 b g x) .C0 F:=⟨_,.fold (a:=N0) (by show _<=64;decide) (F7 hb Γ) (F7 hg Γ) hx⟩
abbrev rB(g:Tm):Tm:=nT 3 [nT 3 [g,vT 1],vT 0]
def EE(b g:Tm):Fm:=qF 4 Y0 (X4 (H6 6 b g (vT 0)))
def gq0(g:Tm):Pf:=dQ (I3 ((rB g).V0 0 1) (nT 3 [nT 3 [g,vT 2],vT 0])) (fM 0) (c9 (rB g))
def gr0(b g:Tm):Pf:=dP (fM 0) (d9 (X4 (H6 6 b g (nT 5 [vT 1]))) (rB g) (gq0 g))
def gs0(b g:Tm):Pf:=d9 (X4 (H6 6 b g (nT 4 []))) b (c9 b)
def Ex(b g:Tm):Pf:=bO Y0 (fN 16 (X4 (H6 6 b g (vT 0))) (vT 0) (gs0 b g) (gr0 b g))
def fY:(N0).ok:=by show _<=64;decide
def jQ(k:Int)(b g x:Tm):(H6 k b g x).A0=1+(b.A0+(g.A0+x.A0)):=by
 have:(H6 k b g x).A0=1+(b.A0+(g.A0+(x.A0+0))):=rfl;omega
def Vw(g:Tm):(rB g).A0=g.A0+4:=by
 have:(rB g).A0=1+((1+(g.A0+((vT 1).A0+0)))+((vT 0).A0+0)):=rfl;have h1:(vT 1).A0=1:=rfl;have h2:(vT 0).A0=1:=rfl;omega
def kZ(s t:Tm):(I3 s t).A0=1+(s.A0+t.A0):=by
 have:(I3 s t).A0=1+(s.A0+(t.A0+0))+0:=rfl;omega
def sk0{B:Q0 []->N0.V}{G:Q0 []->(y8 .C0 (.fn .C0 .C0)).V}(hb:Dn [] b .C0 B)(hg:Dn [] g (.fn .C0 (.fn .C0 .C0)) G)(cb:b.A0<=1000)(cg:g.A0<=1000):∃e n,n<=100000/\(e=0->(X4 (H6 6 b g (vT 0))).typedN (gT [N0,N0])=0)/\fO [] [] (Ex b g) (EE b g) e n:=by
 obtain⟨F0,d0⟩:=zM hb hg (Γ:=[N0,N0]) (x:=vT 0) (.var .zero);obtain⟨F1,d1⟩:=zM hb hg (Γ:=[N0]) (x:=nT 4 []) .zero;obtain⟨F2,d2⟩:=zM hb hg (Γ:=[N0,N0]) (x:=nT 5 [vT 0]) (.succ (.var .zero));obtain⟨F3,d3⟩:=zM hb hg (Γ:=[N0,N0,N0]) (x:=nT 5 [vT 1]) (.succ (.var (.succ .zero)));have c0:=jQ 6 b g (vT 0);have c1:=jQ 6 b g (nT 4 []);have c2:=jQ 6 b g (nT 5 [vT 0]);have c3:=jQ 6 b g (nT 5 [vT 1]);have v0:(vT 0).A0=1:=rfl;have v1:(nT 4 []).A0=1:=rfl;have v2:(nT 5 [vT 0]).A0=2:=rfl;have v3:(nT 5 [vT 1]).A0=2:=rfl;have i0:=eG (H6 6 b g (vT 0));have i1:=eG (H6 6 b g (nT 4 []));have i3:=eG (H6 6 b g (nT 5 [vT 1]));have cr:=Vw g;have k0:CK [] [] 3 2:=⟨dD,dD,sS,sS⟩;have k1:CK [N0] [] 2 2:=k0.below fY;have k2:CK [N0,N0] [X4 (H6 6 b g (vT 0))] 1 1:=(k1.below fY).with (bY d0) oO
 obtain⟨e1,-,-,r1⟩:=CC (k1.less dD dD) (F7 hb [N0]) oO;have q1:=kZ (vT 0) ((H6 6 b g (nT 4 [])).V0 0 1);rw[iO]at q1;obtain⟨e2,-,-,r2⟩:=CL (k1.less dD dD) (s:=N0) (bY d1) oO (F7 hb [N0]) oO dD (E7 r1);have ib:=E7 r2;have q0:=kZ (vT 0) ((H6 6 b g (vT 0)).V0 0 1);rw[iO]at q0;have df:FDn [N0,N0,N0] (I3 (vT 0) ((H6 6 b g (vT 0)).V0 0 1)):=.eq (.var .zero) (xN d0 [N0]);have k3:CK [N0,N0,N0] (Q5 [X4 (H6 6 b g (vT 0))] 1++[I3 (vT 0) ((H6 6 b g (vT 0)).V0 0 1)]) 0 0:=(k2.below fY).with df oO
 have dr:Dn [N0,N0,N0] (rB g) .C0 _:=.app (.app (F7 hg _) (.var (.succ .zero))) (.var .zero);obtain⟨e3,-,-,r3⟩:=CC k3 dr oO;have r4:=CJ k3 (i:=0) (f:=I3 (vT 0) ((H6 6 b g (vT 0)).V0 0 1)) rfl sS;have HG:FDn [N0,N0,N0,N0] (I3 ((rB g).V0 0 1) (nT 3 [nT 3 [g,vT 2],vT 0])):=.eq (xN dr [N0]) (.app (.app (F7 hg _) (.var (.succ (.succ .zero)))) (.var .zero));have cn:=kZ ((rB g).V0 0 1) (nT 3 [nT 3 [g,vT 2],vT 0]);have ZU:(nT 3 [nT 3 [g,vT 2],vT 0]).A0=1+((1+(g.A0+(1+0)))+(1+0)):=rfl;rw[iO]at cn;obtain⟨e5,-,-,r5⟩:=JC (na:=0) (nb:=0) k3 HG oO dD dD (by rw[iO];omega) (.var .zero) (E7 r4) (E7 r3);have q3:=kZ (vT 0) ((H6 6 b g (nT 5 [vT 1])).V0 0 1);rw[iO]at q3;obtain⟨e6,-,-,r6⟩:=CL (na:=0) k3 (s:=N0) (bY d3) oO dr oO dD (E7 r5);have aG:(X4 (H6 6 b g (nT 5 [vT 0]))).V0 0 1=X4 (H6 6 b g (nT 5 [vT 1])):=by
  rw[Nb];have:=Na (k:=6) (.inl rfl) Y0 hb hg (nT 5 [vT 0]) 0 1;rw[show ((0:Nat):Int)=0 from rfl]at this;rw[this];rfl
 have r7:=CJ (k2.less dD dD) (i:=0) (f:=X4 (H6 6 b g (vT 0))) rfl sS;have r8:=JB (na:=0) (nb:=0+(rB g).A0) k2 (s:=N0) (fo:=X4 (H6 6 b g (nT 5 [vT 0]))) oO (E7 r7) (fun _=>by rw[aG];exact E7 r6) (bY d2);obtain⟨e9,z9,-,r9⟩:=fK0 (na:=0+b.A0) (nb:=0+(0+(rB g).A0)) (k1.less dD dD) (bY d0) oO (t:=vT 0) (.var .zero) dD oO ib (E7 r8);have V7:(X4 (H6 6 b g (vT 0))).Y1 0 0 (vT 0)=X4 (H6 6 b g (vT 0)):=by
  rw[Yh];have:=Yg (k:=6) (.inl rfl) Y0 hb hg (vT 0) 0 (vT 0);rw[show ((0:Nat):Int)=0 from rfl]at this;rw[this];rfl
 rw[V7]at r9;have HX:=MB (k0.less dD dD) (s:=N0) fY (E7 r9) oO;exact⟨_,_,oO,fun h=>(z9 (aW (aW h).1).1).2.2,E7 HX⟩
def QH(y:Ty)(p:Pf):(bO y p).A0=1+p.A0:=by
 have:(bO y p).A0=1+0+0+(p.A0+0):=rfl;omega
def Jc(f:Fm)(t:Tm)(p:Pf):(d9 f t p).A0=1+t.A0+f.A0+p.A0:=by
 have:(d9 f t p).A0=1+(t.A0+0)+(f.A0+0)+(p.A0+0):=rfl;omega
def Rq(p q:Pf):(dP p q).A0=1+p.A0+q.A0:=by
 have:(dP p q).A0=1+0+0+(p.A0+(q.A0+0)):=rfl;omega
def WA(k:Int)(f:Fm)(t:Tm)(p q:Pf):(fN k f t p q).A0=1+t.A0+f.A0+p.A0+q.A0:=by
 have:(fN k f t p q).A0=1+(t.A0+0)+(f.A0+0)+(p.A0+(q.A0+0)):=rfl;omega
def LT(t:Tm):(c9 t).A0=1+t.A0:=by
 have:(c9 t).A0=1+(t.A0+0)+0+0:=rfl;omega
def Rr(f:Fm)(p q:Pf):(dQ f p q).A0=1+f.A0+p.A0+q.A0:=by
 have:(dQ f p q).A0=1+0+(f.A0+0)+(p.A0+(q.A0+0)):=rfl;omega
theorem Jd(i:Int):(fM i).A0=1:=rfl
def sm0{B:Q0 []->N0.V}{G:Q0 []->(y8 .C0 (.fn .C0 .C0)).V}(hb:Dn [] b .C0 B)(hg:Dn [] g (.fn .C0 (.fn .C0 .C0)) G):FDn [] (EE b g):=by
 obtain⟨F0,d0⟩:=zM hb hg (Γ:=[N0]) (x:=vT 0) (.var .zero);exact .q (a:=N0) sS fY (bY d0)
def fh0{B:Q0 []->N0.V}{G:Q0 []->(y8 .C0 (.fn .C0 .C0)).V}(hb:Dn [] b .C0 B)(hg:Dn [] g (.fn .C0 (.fn .C0 .C0)) G)(cb:b.A0<=1000)(cg:g.A0<=1000):PS (Ex b g)/\(Ex b g).A0<=100000/\(EE b g).A0<=100000:=by
 obtain⟨F0,d0⟩:=zM hb hg (Γ:=[N0,N0]) (x:=vT 0) (.var .zero);obtain⟨F1,d1⟩:=zM hb hg (Γ:=[N0]) (x:=nT 4 []) .zero;obtain⟨F3,d3⟩:=zM hb hg (Γ:=[N0,N0,N0]) (x:=nT 5 [vT 1]) (.succ (.var (.succ .zero)));have c0:=jQ 6 b g (vT 0);have c1:=jQ 6 b g (nT 4 []);have c3:=jQ 6 b g (nT 5 [vT 1]);have v0:(vT 0).A0=1:=rfl;have v1:(nT 4 []).A0=1:=rfl;have v3:(nT 5 [vT 1]).A0=2:=rfl;have i0:=eG (H6 6 b g (vT 0));have i1:=eG (H6 6 b g (nT 4 []));have i3:=eG (H6 6 b g (nT 5 [vT 1]));have cr:=Vw g;have dr:Dn [N0,N0,N0] (rB g) .C0 _:=.app (.app (F7 hg _) (.var (.succ .zero))) (.var .zero);have HG:FDn [N0,N0,N0,N0] (I3 ((rB g).V0 0 1) (nT 3 [nT 3 [g,vT 2],vT 0])):=.eq (xN dr [N0]) (.app (.app (F7 hg _) (.var (.succ (.succ .zero)))) (.var .zero));have cn:=kZ ((rB g).V0 0 1) (nT 3 [nT 3 [g,vT 2],vT 0]);have ZU:(nT 3 [nT 3 [g,vT 2],vT 0]).A0=1+((1+(g.A0+(1+0)))+(1+0)):=rfl;rw[iO]at cn;have bK:(vT 0).shape=true/\(vT 0).A0<=16384:=⟨rfl,dD⟩;refine⟨?_,?_,?_⟩
 ·exact MO (y:=Y0) (M9 fY) (Yb (.inl rfl) (Γ:=[N0,N0]) dD (bY d0) oO bK (CW (Γ:=[N0]) dD (bY d1) oO ⟨Z5 hb,oO⟩ (CN ⟨Z5 hb,oO⟩))
   (JO (CV 0) (CW (Γ:=[N0,N0,N0]) dD (bY d3) oO ⟨Z5 dr,oO⟩ (JP (Γ:=[N0,N0,N0,N0]) dD HG oO (CV 0) (CN ⟨Z5 dr,oO⟩)))))
 ·unfold Ex gs0 gr0 gq0;rw[QH,WA,Jc,LT,Rq,Jd,Jc,Rr,Jd,LT];omega
 ·have:(EE b g).A0=1+0+((X4 (H6 6 b g (vT 0))).A0+0):=rfl;omega
abbrev o7:T:=.pair .C0 .C0
abbrev iT:Ty:=L0 3 [Y0,Y0]
abbrev U7(x:Tm):Tm:=nT 11 [x]
abbrev bG(x:Tm):Tm:=nT 12 [x]
abbrev uT(g:Tm):Tm:=nT 10 [bG (vT 0),nT 3 [nT 3 [g,U7 (vT 0)],bG (vT 0)]]
abbrev gO0(g:Tm):Tm:=U0 2 0 Y0 [U0 2 0 iT [uT g]]
abbrev A6(b c g n:Tm):Tm:=U0 6 0 iT [nT 10 [b,c],gO0 g,n]
abbrev BN(s:Tm):Fm:=U5 2 (I3 (U7 (vT 0)) (U7 (s.V0 0 1))) (I3 (bG (vT 0)) (bG (s.V0 0 1)))
def fP(s:Tm):Fm:=qF 5 iT (BN s)
abbrev SK:Pf:=xT 4 (fM 0)
abbrev Sy:Pf:=xT 5 (fM 0)
abbrev wC(g:Tm):Tm:=nT 3 [nT 3 [g,U7 (vT 1)],bG (vT 1)]
def Yi:Pf:=dQ (I3 (bG (vT 1)) (vT 0)) Sy (c9 (bG (vT 0)))
def Yj(g:Tm):Pf:=dQ (I3 (wC g) (nT 3 [nT 3 [g,vT 0],bG (vT 1)])) SK (c9 (nT 3 [nT 3 [g,U7 (vT 0)],bG (vT 0)]))
def XN(b c g:Tm):Pf:=dQ (I3 (wC g) (nT 3 [nT 3 [g,U7 (A6 b c g (vT 2))],vT 0])) Sy (Yj g)
def YL(b c g:Tm):Pf:=dP (fM 0) (d9 (fP (A6 b c g (nT 5 [vT 1]))) (uT g) (tF Yi (XN b c g)))
def YM(b c g:Tm):Pf:=d9 (fP (A6 b c g (nT 4 []))) (nT 10 [b,c]) (tF (c9 b) (c9 c))
def Nx(b c g:Tm):Pf:=fN 16 (fP (A6 b c g (vT 0))) (vT 0) (YM b c g) (YL b c g)
def EO(b c g:Tm):Pf:=bO Y0 (dP (Nx b c g) (d9 (X4 (U7 (A6 b c g (vT 1)))) (U7 (vT 0)) SK))
def EU(b c g:Tm):Fm:=qF 4 Y0 (X4 (U7 (A6 b c g (vT 0))))
def ME:o7.ok:=by show _<=64;decide
def Gp(s:Tm):(fP s).A0=2 * s.A0+10:=by
 have h1:(fP s).A0=1+0+((1+0+((1+((1+((vT 0).A0+0))+((1+((s.V0 0 1).A0+0))+0))+0)+((1+((1+((vT 0).A0+0))+((1+((s.V0 0 1).A0+0))+0))+0)+0)))+0):=rfl;have h2:(vT 0).A0=1:=rfl;rw[h1,h2,iO];omega
def VZ(s:Tm):(BN s).A0=2 * s.A0+9:=by
 have h1:=Gp s;have h2:(fP s).A0=1+0+((BN s).A0+0):=rfl;omega
def qS(b c g n:Tm):(A6 b c g n).A0=b.A0+c.A0+g.A0+n.A0+13:=by
 have h1:(A6 b c g n).A0=1+((1+(b.A0+(c.A0+0)))+((1+((1+((1+((1+((vT 0).A0+0))+((1+((1+(g.A0+((1+((vT 0).A0+0))+0)))+((1+((vT 0).A0+0))+0)))+0)))+0))+0))+(n.A0+0))):=rfl;have h2:(vT 0).A0=1:=rfl;omega
def nS(s:Tm):(U7 s).A0=s.A0+1:=by
 have:(U7 s).A0=1+(s.A0+0):=rfl;omega
def zK(s:Tm):(bG s).A0=s.A0+1:=by
 have:(bG s).A0=1+(s.A0+0):=rfl;omega
def cO(s t:Tm):(nT 3 [s,t]).A0=s.A0+t.A0+1:=by
 have:(nT 3 [s,t]).A0=1+(s.A0+(t.A0+0)):=rfl;omega
def RH(s t:Tm):(nT 10 [s,t]).A0=s.A0+t.A0+1:=by
 have:(nT 10 [s,t]).A0=1+(s.A0+(t.A0+0)):=rfl;omega
def z40(s:Tm):(fP s).V0 0 1=fP (s.V0 0 1):=by
 have h1:=MW s 0 1 1 1 dD dD;have h2:=MW s 0 1 0 1 dD dD;have h3:(vT 0).V0 1 1=vT 0:=by rw[EC];rfl
 show qF 5 iT (U5 2 (I3 (U7 ((vT 0).V0 (0+1) 1)) (U7 ((s.V0 0 1).V0 (0+1) 1))) (I3 (bG ((vT 0).V0 (0+1) 1)) (bG ((s.V0 0 1).V0 (0+1) 1))))=qF 5 iT (U5 2 (I3 (U7 (vT 0)) (U7 ((s.V0 0 1).V0 0 1))) (I3 (bG (vT 0)) (bG ((s.V0 0 1).V0 0 1))));rw[h1,show (s.V0 0 1).V0 0 1=s.V0 0 (1+1) from h2,show (0:Int)+1=1 from rfl,h3]
def z50(s x:Tm):(fP s).Y1 0 0 x=fP (s.Y1 0 0 x):=by
 have h1:=gI0 s x 0 0 1 dD dD dD;have h3:(vT 0).Y1 0 (0+1) x=vT 0:=by rw[BA];rfl
 show qF 5 iT (U5 2 (I3 (U7 ((vT 0).Y1 0 (0+1) x)) (U7 ((s.V0 0 1).Y1 0 (0+1) x))) (I3 (bG ((vT 0).Y1 0 (0+1) x)) (bG ((s.V0 0 1).Y1 0 (0+1) x))))=qF 5 iT (U5 2 (I3 (U7 (vT 0)) (U7 ((s.Y1 0 0 x).V0 0 1))) (I3 (bG (vT 0)) (bG ((s.Y1 0 0 x).V0 0 1))));rw[h3,h1]
def f10{G:Q0 []->(y8 .C0 (.fn .C0 .C0)).V}(hg:Dn [] g (.fn .C0 (.fn .C0 .C0)) G):∃F:Q0 []->(y8 .C0 (.fn o7 o7)).V,Dn [] (gO0 g) (.fn .C0 (.fn o7 o7)) F:=
 ⟨_,.lam (a:=.C0) fY (.lam (a:=o7) ME (.pair (.snd (.var .zero)) (.app (.app (F7 hg _) (.fst (.var .zero))) (.snd (.var .zero)))))⟩
def nZ{B C:Q0 []->N0.V}{G:Q0 []->(y8 .C0 (.fn .C0 .C0)).V}(hb:Dn [] b .C0 B)(hc:Dn [] c .C0 C)(hg:Dn [] g (.fn .C0 (.fn .C0 .C0)) G){X:Q0 Γ->N0.V}(hx:Dn Γ x .C0 X):∃F:Q0 Γ->o7.V,Dn Γ (A6 b c g x) o7 F:=by
 obtain⟨S,hS⟩:=f10 hg;exact⟨_,.rc (a:=o7) ME (F7 (.pair hb hc) Γ) (F7 hS Γ) hx⟩
def Bt{s:Tm}{F:Q0 Γ->o7.V}(h:Dn Γ s o7 F):FDn Γ (fP s)/\FDn (o7::Γ) (BN s):=by
 have h1:FDn (o7::Γ) (BN s):=.two (.inl rfl) (.eq (.fst (.var .zero)) (.fst (xN h [o7]))) (.eq (.snd (.var .zero)) (.snd (xN h [o7])));exact⟨.q (a:=o7) sS ME h1,h1⟩
def ph0{B C:Q0 []->N0.V}{G:Q0 []->(y8 .C0 (.fn .C0 .C0)).V}(hb:Dn [] b .C0 B)(hc:Dn [] c .C0 C)(hg:Dn [] g (.fn .C0 (.fn .C0 .C0)) G)(cb:b.A0<=100)(cc:c.A0<=100)(cg:g.A0<=1000):
  ∃e n,n<=100000/\(e=0->(fP (A6 b c g (vT 0))).typedN (gT [N0,N0])=0/\∃m,m<=100000/\fO [N0] [] (Nx b c g) (fP (A6 b c g (vT 0))) 0 m)/\fO [] [] (EO b c g) (EU b c g) e n:=by
 obtain⟨S,hS⟩:=f10 hg;obtain⟨F0,d0⟩:=nZ hb hc hg (Γ:=[N0,N0]) (x:=vT 0) (.var .zero);obtain⟨F1,d1⟩:=nZ hb hc hg (Γ:=[N0]) (x:=nT 4 []) .zero;obtain⟨F2,d2⟩:=nZ hb hc hg (Γ:=[N0,N0]) (x:=nT 5 [vT 0]) (.succ (.var .zero));obtain⟨F3,d3⟩:=nZ hb hc hg (Γ:=[o7,N0,N0]) (x:=nT 5 [vT 1]) (.succ (.var (.succ .zero)));obtain⟨F4,d4⟩:=nZ hb hc hg (Γ:=[N0,o7,N0,N0]) (x:=vT 2) (.var (.succ (.succ .zero)));obtain⟨F5,d5⟩:=nZ hb hc hg (Γ:=[N0]) (x:=vT 0) (.var .zero);obtain⟨F6,d6⟩:=nZ hb hc hg (Γ:=[o7,N0]) (x:=vT 1) (.var (.succ .zero));have c0:=qS b c g (vT 0);have c1:=qS b c g (nT 4 []);have c2:=qS b c g (vT 2);have c3:=qS b c g (nT 5 [vT 1]);have c4:=qS b c g (vT 1);have w0:(vT 0).A0=1:=rfl;have w1:(nT 4 []).A0=1:=rfl;have w2:(vT 2).A0=1:=rfl;have w3:(nT 5 [vT 1]).A0=2:=rfl;have w4:(vT 1).A0=1:=rfl;have i0:=Gp (A6 b c g (vT 0));have i1:=Gp (A6 b c g (nT 4 []));have i3:=Gp (A6 b c g (nT 5 [vT 1]));have a0:=VZ (A6 b c g (vT 0));have a1:=VZ (A6 b c g (nT 4 []));have a3:=VZ (A6 b c g (nT 5 [vT 1]));have k0:CK [] [] 4 2:=⟨dD,dD,sS,sS⟩;have k1:CK [N0] [] 3 2:=k0.below fY
 have k2:CK [N0,N0] [fP (A6 b c g (vT 0))] 2 1:=(k1.below fY).with (Bt d0).1 oO
 obtain⟨e1,-,-,r1⟩:=CC (k1.less dD dD) (F7 hb [N0]) oO;obtain⟨e2,-,-,r2⟩:=CC (k1.less dD dD) (F7 hc [N0]) oO;have r3:=e70 (E7 r1) (E7 r2) dD;have cp:=RH b c;obtain⟨e4,-,-,r4⟩:=CL (na:=0+0) (k1.less dD dD) (s:=o7) (Bt d1).1 oO (F7 (.pair hb hc) [N0]) oO dD (E7 r3);have ib:=E7 r4;have k3:CK [o7,N0,N0] (Q5 [fP (A6 b c g (vT 0))] 1++[BN (A6 b c g (vT 0))]) 1 0:=(k2.below ME).with (Bt d0).2 oO
 have Ca:=k3.less (v':=0) (h':=0) dD dD;have hy:=CJ Ca (i:=0) (f:=BN (A6 b c g (vT 0))) rfl sS;have rR:=XF true (E7 hy);have rL:=XF false (E7 hy);have cs:=zK ((A6 b c g (vT 0)).V0 0 1);have cf:=nS ((A6 b c g (vT 0)).V0 0 1);rw[iO]at cs cf;have v1:Dn [N0,o7,N0,N0] (vT 1) o7 _:=.var (.succ .zero);have v0:Dn [o7,N0,N0] (vT 0) o7 _:=.var .zero;have f1:FDn [N0,o7,N0,N0] (I3 (bG (vT 1)) (vT 0)):=.eq (.snd v1) (.var .zero);obtain⟨e5,-,-,r5⟩:=CC Ca (.snd v0) dD;obtain⟨e6,-,-,r6⟩:=JC (na:=0) (nb:=0) Ca f1 dD dD dD oO (.snd v0) (E7 rR) (E7 r5);have dg:Dn [o7,N0,N0] (nT 3 [nT 3 [g,U7 (vT 0)],bG (vT 0)]) .C0 _:=.app (.app (F7 hg _) (.fst v0)) (.snd v0);have dw:Dn [N0,o7,N0,N0] (wC g) .C0 _:=.app (.app (F7 hg _) (.fst v1)) (.snd v1);have f2:FDn [N0,o7,N0,N0] (I3 (wC g) (nT 3 [nT 3 [g,vT 0],bG (vT 1)])):=.eq dw (.app (.app (F7 hg _) (.var .zero)) (.snd v1));have f3:FDn [N0,o7,N0,N0] (I3 (wC g) (nT 3 [nT 3 [g,U7 (A6 b c g (vT 2))],vT 0])):=.eq dw (.app (.app (F7 hg _) (.fst d4)) (.var .zero));have n1:(nT 3 [nT 3 [g,U7 (vT 0)],bG (vT 0)]).A0=g.A0+6:=by rw[cO,cO,nS,zK];omega
 have n2:(wC g).A0=g.A0+6:=by rw[wC,cO,cO,nS,zK];omega
 have n3:(I3 (wC g) (nT 3 [nT 3 [g,vT 0],bG (vT 1)])).A0<=2 * g.A0+20:=by
  have b1:=kZ (wC g) (nT 3 [nT 3 [g,vT 0],bG (vT 1)]);have b2:=cO (nT 3 [g,vT 0]) (bG (vT 1));have b3:=cO g (vT 0);have b4:=zK (vT 1);omega
 have n4:(I3 (wC g) (nT 3 [nT 3 [g,U7 (A6 b c g (vT 2))],vT 0])).A0<=10000:=by
  have b1:=kZ (wC g) (nT 3 [nT 3 [g,U7 (A6 b c g (vT 2))],vT 0]);have b2:=cO (nT 3 [g,U7 (A6 b c g (vT 2))]) (vT 0);have b3:=cO g (U7 (A6 b c g (vT 2)));have b4:=nS (A6 b c g (vT 2));omega
 obtain⟨e7,-,-,r7⟩:=CC Ca dg oO;obtain⟨e8,-,-,r8⟩:=JC (na:=0) (nb:=0) Ca f2 oO dD dD oO (.fst v0) (E7 rL) (E7 r7);obtain⟨e9,-,-,r9⟩:=JC (na:=0) (nb:=0) Ca f3 oO dD dD oO (.snd v0) (E7 rR) (E7 r8);have HX:=e70 (E7 r6) (E7 r9) dD;have du:Dn [o7,N0,N0] (uT g) o7 _:=.pair (.snd v0) dg;have cu:(uT g).A0=g.A0+9:=by rw[uT,RH,zK];omega
 obtain⟨e11,-,-,ZS⟩:=CL (na:=0+0) Ca (s:=o7) (Bt d3).1 oO du oO dD (E7 HX);have aG:(fP (A6 b c g (nT 5 [vT 0]))).V0 0 1=fP (A6 b c g (nT 5 [vT 1])):=by
  rw[z40];have:=Na (k:=6) (.inl rfl) iT (.pair hb hc) hS (nT 5 [vT 0]) 0 1;rw[show ((0:Nat):Int)=0 from rfl]at this;rw[this];rfl
 have r12:=CJ (k2.less dD dD) (i:=0) (f:=fP (A6 b c g (vT 0))) rfl sS;have r13:=JB (na:=0) (nb:=0+0+(uT g).A0) (k2.less dD dD) (s:=o7) (fo:=fP (A6 b c g (nT 5 [vT 0]))) oO (E7 r12) (fun _=>by rw[aG];exact E7 ZS) (Bt d2).1;obtain⟨e14,z14,-,r14⟩:=fK0 (na:=0+0+(nT 10 [b,c]).A0) (nb:=0+(0+0+(uT g).A0)) (k1.less dD dD) (Bt d0).1 oO (t:=vT 0) (.var .zero) dD oO ib (E7 r13);have V7:(fP (A6 b c g (vT 0))).Y1 0 0 (vT 0)=fP (A6 b c g (vT 0)):=by
  rw[z50];have:=Yg (k:=6) (.inl rfl) iT (.pair hb hc) hS (vT 0) 0 (vT 0);rw[show ((0:Nat):Int)=0 from rfl]at this;rw[this];rfl
 rw[V7]at r14;have i14:=E7 r14;have k4:CK [o7,N0] [BN (A6 b c g (vT 0))] 1 0:=((k1.below ME).with (Bt d5).2 oO).less dD dD;have Zs:=CJ (k4.less dD dD) (i:=0) (f:=BN (A6 b c g (vT 0))) rfl sS;have rL2:=XF false (E7 Zs);have ci:=eG (U7 (A6 b c g (vT 1)));rw[nS]at ci;have qi:=kZ (vT 0) ((U7 (A6 b c g (vT 1))).V0 0 1);rw[iO,nS]at qi;obtain⟨e15,-,-,r15⟩:=CL (na:=0) (k4.less dD dD) (s:=N0) (f:=I3 (vT 0) ((U7 (A6 b c g (vT 1))).V0 0 1)) (bY (.fst d6)) oO (t:=U7 (vT 0)) (.fst (.var .zero)) dD dD (E7 rL2);have Gf0:(X4 (U7 (A6 b c g (vT 0)))).V0 0 1=X4 (U7 (A6 b c g (vT 1))):=by
  rw[Nb,show (U7 (A6 b c g (vT 0))).V0 0 1=U7 ((A6 b c g (vT 0)).V0 0 1) from rfl];have:=Na (k:=6) (.inl rfl) iT (.pair hb hc) hS (vT 0) 0 1;rw[show ((0:Nat):Int)=0 from rfl]at this;rw[this];rfl
 have r16:=JB (nb:=0+(U7 (vT 0)).A0) (k1.less dD dD) (s:=o7) (fa:=BN (A6 b c g (vT 0))) (fo:=X4 (U7 (A6 b c g (vT 0)))) (by rw[nS];omega) i14 (fun _=>by rw[Gf0];exact E7 r15) (bY (.fst d5));have r17:=MB (k0.less dD dD) (s:=N0) fY (E7 r16) (by rw[nS];omega);refine⟨_,_,?_,fun h=>?_,E7 r17⟩;· rw[nS];omega
 ·have h1:=(aW (aW (aW h).1).1).1;refine⟨(z14 (aW h1).1).2.2,_,?_,h1 ▸ i14⟩;omega
def pi0(p q:Pf):(tF p q).A0=1+p.A0+q.A0:=by
 have:(tF p q).A0=1+0+0+(p.A0+(q.A0+0)):=rfl;omega
def pj0{B C:Q0 []->N0.V}{G:Q0 []->(y8 .C0 (.fn .C0 .C0)).V}(hb:Dn [] b .C0 B)(hc:Dn [] c .C0 C)(hg:Dn [] g (.fn .C0 (.fn .C0 .C0)) G):FDn [] (EU b c g):=by
 obtain⟨F0,d0⟩:=nZ hb hc hg (Γ:=[N0]) (x:=vT 0) (.var .zero);exact .q (a:=N0) sS fY (bY (.fst d0))
def ep0{B C:Q0 []->N0.V}{G:Q0 []->(y8 .C0 (.fn .C0 .C0)).V}(hb:Dn [] b .C0 B)(hc:Dn [] c .C0 C)(hg:Dn [] g (.fn .C0 (.fn .C0 .C0)) G)(cb:b.A0<=100)(cc:c.A0<=100)(cg:g.A0<=1000):
  PS (EO b c g)/\(EO b c g).A0<=100000/\(EU b c g).A0<=100000/\PS (Nx b c g):=by
 obtain⟨F0,d0⟩:=nZ hb hc hg (Γ:=[N0,N0]) (x:=vT 0) (.var .zero);obtain⟨F1,d1⟩:=nZ hb hc hg (Γ:=[N0]) (x:=nT 4 []) .zero;obtain⟨F3,d3⟩:=nZ hb hc hg (Γ:=[o7,N0,N0]) (x:=nT 5 [vT 1]) (.succ (.var (.succ .zero)));obtain⟨F4,d4⟩:=nZ hb hc hg (Γ:=[N0,o7,N0,N0]) (x:=vT 2) (.var (.succ (.succ .zero)));obtain⟨F6,d6⟩:=nZ hb hc hg (Γ:=[o7,N0]) (x:=vT 1) (.var (.succ .zero));have c0:=qS b c g (vT 0);have c1:=qS b c g (nT 4 []);have c2:=qS b c g (vT 2);have c3:=qS b c g (nT 5 [vT 1]);have c4:=qS b c g (vT 1);have w0:(vT 0).A0=1:=rfl;have w1:(nT 4 []).A0=1:=rfl;have w2:(vT 2).A0=1:=rfl;have w3:(nT 5 [vT 1]).A0=2:=rfl;have w4:(vT 1).A0=1:=rfl;have i0:=Gp (A6 b c g (vT 0));have i1:=Gp (A6 b c g (nT 4 []));have i3:=Gp (A6 b c g (nT 5 [vT 1]));have ci:=eG (U7 (A6 b c g (vT 1)));have ci0:=eG (U7 (A6 b c g (vT 0)));rw[nS]at ci ci0;have v1:Dn [N0,o7,N0,N0] (vT 1) o7 _:=.var (.succ .zero);have v0:Dn [o7,N0,N0] (vT 0) o7 _:=.var .zero;have f1:FDn [N0,o7,N0,N0] (I3 (bG (vT 1)) (vT 0)):=.eq (.snd v1) (.var .zero);have dg:Dn [o7,N0,N0] (nT 3 [nT 3 [g,U7 (vT 0)],bG (vT 0)]) .C0 _:=.app (.app (F7 hg _) (.fst v0)) (.snd v0)
 have dw:Dn [N0,o7,N0,N0] (wC g) .C0 _:=.app (.app (F7 hg _) (.fst v1)) (.snd v1);have f2:FDn [N0,o7,N0,N0] (I3 (wC g) (nT 3 [nT 3 [g,vT 0],bG (vT 1)])):=.eq dw (.app (.app (F7 hg _) (.var .zero)) (.snd v1));have f3:FDn [N0,o7,N0,N0] (I3 (wC g) (nT 3 [nT 3 [g,U7 (A6 b c g (vT 2))],vT 0])):=.eq dw (.app (.app (F7 hg _) (.fst d4)) (.var .zero));have n1:(nT 3 [nT 3 [g,U7 (vT 0)],bG (vT 0)]).A0=g.A0+6:=by rw[cO,cO,nS,zK];omega
 have n2:(wC g).A0=g.A0+6:=by rw[wC,cO,cO,nS,zK];omega
 have n3:(I3 (wC g) (nT 3 [nT 3 [g,vT 0],bG (vT 1)])).A0<=2 * g.A0+20:=by
  have b1:=kZ (wC g) (nT 3 [nT 3 [g,vT 0],bG (vT 1)]);have b2:=cO (nT 3 [g,vT 0]) (bG (vT 1));have b3:=cO g (vT 0);have b4:=zK (vT 1);omega
 have n4:(I3 (wC g) (nT 3 [nT 3 [g,U7 (A6 b c g (vT 2))],vT 0])).A0<=10000:=by
  have b1:=kZ (wC g) (nT 3 [nT 3 [g,U7 (A6 b c g (vT 2))],vT 0]);have b2:=cO (nT 3 [g,U7 (A6 b c g (vT 2))]) (vT 0);have b3:=cO g (U7 (A6 b c g (vT 2)));have b4:=nS (A6 b c g (vT 2));omega
 have n5:(I3 (bG (vT 1)) (vT 0)).A0=4:=by rw[kZ,zK];omega
 have du:Dn [o7,N0,N0] (uT g) o7 _:=.pair (.snd v0) dg;have cu:(uT g).A0=g.A0+9:=by rw[uT,RH,zK];omega
 have cp:=RH b c;have cs:=zK (vT 0);have cf:=nS (vT 0);have bK:(vT 0).shape=true/\(vT 0).A0<=16384:=⟨rfl,dD⟩;have pL:PS SK:=gh0 false (CV 0);have pR:PS Sy:=gh0 true (CV 0);have p1:PS Yi:=JP (Γ:=[N0,o7,N0,N0]) dD f1 oO pR (CN ⟨rfl,oO⟩);have p2:PS (Yj g):=JP (Γ:=[N0,o7,N0,N0]) dD f2 oO pL (CN ⟨Z5 dg,oO⟩);have p3:PS (XN b c g):=JP (Γ:=[N0,o7,N0,N0]) dD f3 oO pR p2;have pS:PS (YL b c g):=JO (CV 0) (CW (Γ:=[o7,N0,N0]) dD (Bt d3).1 oO ⟨Z5 du,oO⟩ (fL0 p1 p3));have dp:Dn [] (nT 10 [b,c]) o7 _:=.pair hb hc;have pB:PS (YM b c g):=CW (Γ:=[N0]) dD (Bt d1).1 oO ⟨Z5 dp,oO⟩ (fL0 (CN ⟨Z5 hb,oO⟩) (CN ⟨Z5 hc,oO⟩));have pI:PS (Nx b c g):=Yb (.inl rfl) (Γ:=[N0,N0]) dD (Bt d0).1 oO bK pB pS;have m0:SK.A0=2:=rfl;have m1:Sy.A0=2:=rfl;refine⟨MO (y:=Y0) (M9 fY) (JO pI (CW (Γ:=[o7,N0]) dD (bY (.fst d6)) oO ⟨rfl,oO⟩ pL)),?_,?_,pI⟩
 ·unfold EO Nx YM YL Yi XN Yj;simp only[QH,WA,Jc,LT,Rq,Jd,Rr,pi0];omega
 ·have:(EU b c g).A0=1+0+((X4 (U7 (A6 b c g (vT 0)))).A0+0):=rfl;omega
def qW(k:Int)(l:List Tm):cU 30 [j0 k,.sl (l.map E3)] (nT k l).dv:=d40 k l
def Gu(t:Tm):cU 97 [t.dv] (nT 11 [t]).dv:=by
 have w:=qW 11 [t];simp only[G4,O5]at w;generalize nT 11 [t]=r at *;exact B2 Tryz.func97 H0 (M0 w)
def RI(t:Tm):cU 96 [t.dv] (nT 12 [t]).dv:=by
 have w:=qW 12 [t];simp only[G4,O5]at w;generalize nT 12 [t]=r at *;exact B2 Tryz.func96 H0 (M0 w)
def WB(s t:Tm):cU 95 [s.dv,t.dv] (nT 10 [s,t]).dv:=by
 have w:=qW 10 [s,t];simp only[G4,O5]at w;generalize nT 10 [s,t]=r at *;exact B2 Tryz.func95 H0 (M0 w)
def QI(k:Int)(l:List Pf):cU 98 [j0 k,.sl (l.map lN)] (Im k 0 (L0 0 []) [] [] l).dv:=by
 have h1:(Im k 0 (L0 0 []) [] [] l).dv = .agg [j0 k,j0 0,j0 0,.sl [],.sl [],.sl [],.sl (l.map lN)]:=by
  show DV.agg _=_;rw[rZ];rfl
 rw[h1];generalize l.map lN=L at *;exact B2 Tryz.func98 H0 H0
def GB(b c u n:Tm):Tm:=U0 6 0 iT [nT 10 [b,c],U0 2 0 Y0 [U0 2 0 iT [u]],n]
def LK(b c u n:Tm):cU 99 [b.dv,c.dv,u.dv,n.dv] (GB b c u n).dv:=by
 have Fj:cU 32 [] Y0.dv:=sM;have wp:=d30 Y0 Y0;have wl:=eF iT u;have gO:=eF Y0 (U0 2 0 iT [u]);have wq:=WB b c;unfold GB;generalize U0 2 0 Y0 [U0 2 0 iT [u]]=r1 at *;generalize U0 2 0 iT [u]=r2 at *;generalize nT 10 [b,c]=r3 at *;have e1:L0 3 [Y0,Y0]=iT:=rfl;rw[e1]at wp;generalize iT=yb at *;generalize Y0=yn at *;exact G7 Tryz.func99 H0 (vM Fj Fj wp Fj wl gO wq)
def Xj(t:Tm)(hi:t.idx 1099511627776)(hc:t.A0<=1000000):cU 100 [t.dv] (fP t).dv:=by
 have wu:=Sh t hi hc;have Fj:cU 32 [] Y0.dv:=sM;have wp:=d30 Y0 Y0;have wv:=sX 0;have w1:=Gu (vT 0);have w2:=Gu (t.V0 0 1);have w3:=RI (vT 0);have w4:=RI (t.V0 0 1);have w5:=CM (nT 11 [vT 0]) (nT 11 [t.V0 0 1]);have w6:=CM (nT 12 [vT 0]) (nT 12 [t.V0 0 1]);have w7:=el0 iT (U5 2 (I3 (nT 11 [vT 0]) (nT 11 [t.V0 0 1])) (I3 (nT 12 [vT 0]) (nT 12 [t.V0 0 1])));have ht:fP t=qF 5 iT (U5 2 (I3 (nT 11 [vT 0]) (nT 11 [t.V0 0 1])) (I3 (nT 12 [vT 0]) (nT 12 [t.V0 0 1]))):=rfl;rw[ht];have e1:L0 3 [Y0,Y0]=iT:=rfl;rw[e1]at wp;generalize T4:I3 (nT 11 [vT 0]) (nT 11 [t.V0 0 1])=f1 at *;generalize s4:I3 (nT 12 [vT 0]) (nT 12 [t.V0 0 1])=f2 at *;have U8:(U5 2 f1 f2).dv = .agg [j0 2,j0 0,.sl [],.sl [],.sl [f1.E0,f2.E0]]:=rfl;rw[U8]at w7;generalize qF 5 iT (U5 2 f1 f2)=r at *;generalize nT 11 [vT 0]=a1 at *;generalize nT 12 [vT 0]=a2 at *;generalize nT 11 [t.V0 0 1]=a3 at *;generalize nT 12 [t.V0 0 1]=a4 at *;generalize t.V0 0 1=u at *;generalize vT 0=v0 at *;generalize iT=yb at *;generalize Y0=yn at *;exact B2 Tryz.func100 H0 (cC wu Fj Fj wp wv w1 w2 w5 (T9 wv w3 w4 w6 w7))
def cD0{f:Tm}{F:Q0 []->(y8 .C0 .C0).V}(hf:Dn [] f (.fn .C0 .C0) F)(cf:f.A0<=2000):∃e,s6 e/\cU 102 [f.dv,(P9 f).dv] (j0 e):=by
 have k0:CK [] [] 1 0:=⟨dD,dD,sS,sS⟩;obtain⟨e0,l0,i0⟩:=Si k0 hf oO;have N4:=Cy f;have hci:=eG (y5 f);have TE:=LJ f;have kF:(gF f).A0=1+0+((X4 (y5 f)).A0+0):=rfl;obtain⟨f',u,h1,w⟩:=du0 (k0.less dD dD) sS (ED hf oO) oO i0 oO;have w:cU 28 [.sl [],.agg [.sl [],.sl []],(P9 f).dv] (.H1 [Kp f' u,j0 (S5 (P9 f).chk e0)]):=w;have hl:s6 (S5 (P9 f).chk e0):=by
  refine tD ?_ l0;unfold Pf.chk;split;· exact .inl rfl
  ·exact .inr (.inr (.inl rfl))
 generalize S5 (P9 f).chk e0=e at *;generalize P9 f=p at *;by_cases q:e=0;rotate_left
 ·refine⟨e,hl,?_⟩;exact B2 Tryz.func102 @q (M0 w)
 obtain rfl:=h1 q;obtain⟨G,hd⟩:=GL hf;have wm:=dV0 (Ew hf) (Ew hf) (by simp;omega) (by simp;omega);have m1:=eI0 (b:=gF f) (Ew hf);have Fj:cU 32 [] Y0.dv:=sM;have wv:=mX 0;have wa:=qV f [vT 0] sS;simp only[G4,O5]at wa;have e_app:fQ f [vT 0]=y5 f:=rfl;rw[e_app]at wa;have wi:=wY (y5 f) (nY hd (by simp;omega)) oO;have w4:=Jo Y0 (X4 (y5 f));have e4:qF 4 Y0 (X4 (y5 f))=gF f:=rfl;rw[e4]at w4;refine⟨_,m1 rfl,?_⟩;generalize (gF f).MatE (gF f)=em at *;generalize gF f=ff at *;generalize X4 (y5 f)=fi at *;generalize y5 f=ft at *;generalize vT 0=v0 at *;generalize Y0=yn at *;exact B2 Tryz.func102 @q (vM w Fj wv wa wi w4 wm)
abbrev E1(f:Tm):Fm:=I3 (vT 0) (nT 3 [f,vT 1])
def chL(g:Tm):Pf:=dQ (I3 (vT 1) (nT 3 [g,vT 0])) (fM 1) (fM 0)
def chI(f g:Tm):Pf:=d9 (X4 (nT 3 [g,nT 3 [f,vT 2]])) (vT 0) (chL g)
def Ey(f g:Tm):Pf:=bO Y0 (dP (jW (vT 0) (P9 f)) (dP (jW (vT 0) (P9 g)) (chI f g)))
def EF(f g:Tm):Fm:=qF 4 Y0 (X4 (nT 3 [g,nT 3 [f,vT 0]]))
def pk0(t:Tm)(p:Pf):(jW t p).A0=1+t.A0+p.A0:=by
 have:(jW t p).A0=1+(t.A0+0)+0+(p.A0+0):=rfl;omega
def JQ{f:Tm}{a:T}{F:Q0 []->a.V}(hf:Dn [] f a F)(x:Tm):(nT 3 [f,x]).V0 0 1=nT 3 [f,x.V0 0 1]:=by
 have h:=Sx hf 0 1;show nT 3 [f.V0 0 1,x.V0 0 1]=_;rw[show f.V0 0 1=f from h]
def Dn0{f:Tm}{a:T}{F:Q0 []->a.V}(hf:Dn [] f a F)(x s:Tm):(nT 3 [f,x]).Y1 0 0 s=nT 3 [f,x.Y1 0 0 s]:=by
 have h:=Yf hf 0 s;show nT 3 [f.Y1 0 0 s,x.Y1 0 0 s]=_;rw[show f.Y1 0 0 s=f from h]
def fi0{f:Tm}{a:T}{F:Q0 []->a.V}(hf:Dn [] f a F):(X4 (y5 f)).Y1 0 0 (vT 0)=qF 5 Y0 (E1 f):=by
 rw[Yh,Dn0 hf];show qF 5 Y0 (I3 (vT 0) ((nT 3 [f,vT 0]).V0 0 1))=_;rw[JQ hf];rfl
def E40{f:Tm}{a:T}{F:Q0 []->a.V}(hf:Dn [] f a F):(E1 f).V0 0 1=I3 (vT 1) (nT 3 [f,vT 2]):=by
 show I3 ((vT 0).V0 0 1) ((nT 3 [f,vT 1]).V0 0 1)=_;rw[JQ hf];rfl
def fj0(f:Tm):(E1 f).A0=f.A0+4:=by
 have h1:(vT 0).A0=1:=rfl;have h2:(vT 1).A0=1:=rfl;rw[kZ,cO];omega
def Do0{f:Tm}{F:Q0 []->(y8 .C0 .C0).V}(hf:Dn [] f (.fn .C0 .C0) F):FDn [N0,N0] (E1 f):=.eq (.var .zero) (.app (F7 hf _) (.var (.succ .zero)))
def sn0{f:Tm}{F G:Q0 []->(y8 .C0 .C0).V}(hf:Dn [] f (.fn .C0 .C0) F)(hg:Dn [] g (.fn .C0 .C0) G):FDn [] (EF f g):=
 .q (a:=N0) sS fY (bY (.app (F7 hg _) (.app (F7 hf _) (.var .zero))))
def fk0{f:Tm}{F G:Q0 []->(y8 .C0 .C0).V}(hf:Dn [] f (.fn .C0 .C0) F)(hg:Dn [] g (.fn .C0 .C0) G)(cf:f.A0<=2000)(cg:g.A0<=2000):PS (Ey f g)/\(Ey f g).A0<=100000/\(EF f g).A0<=100000:=by
 have d2:Dn [N0,N0,N0] (nT 3 [g,nT 3 [f,vT 2]]) .C0 _:=.app (F7 hg _) (.app (F7 hf _) (.var (.succ (.succ .zero))));have fl:FDn [N0,N0,N0,N0] (I3 (vT 1) (nT 3 [g,vT 0])):=.eq (.var (.succ .zero)) (.app (F7 hg _) (.var .zero));have w0:(vT 0).A0=1:=rfl;have w1:(vT 1).A0=1:=rfl;have w2:(vT 2).A0=1:=rfl;have bK:(vT 0).shape=true/\(vT 0).A0<=16384:=⟨rfl,dD⟩;have i2:=eG (nT 3 [g,nT 3 [f,vT 2]]);have i0:=eG (nT 3 [g,nT 3 [f,vT 0]]);have a2:=cO g (nT 3 [f,vT 2]);have a0:=cO g (nT 3 [f,vT 0]);have b2:=cO f (vT 2);have b0:=cO f (vT 0);have e1:=kZ (vT 1) (nT 3 [g,vT 0]);have c0:=cO g (vT 0);have pf:=LJ f;have pg:=LJ g;have tf:=Cy f;have tg:=Cy g;have jf:=eG (y5 f);have jg:=eG (y5 g);refine⟨MO (y:=Y0) (M9 fY) (JO (fM0 bK (ED hf oO)) (JO (fM0 bK (ED hg oO)) (CW (Γ:=[N0,N0,N0]) dD (bY d2) oO bK (JP (Γ:=[N0,N0,N0,N0]) dD fl oO (CV 1) (CV 0))))),?_,?_⟩
 ·unfold Ey chI chL;simp only[QH,Jc,Rq,Jd,Rr,pk0];omega
 ·have:(EF f g).A0=1+0+((X4 (nT 3 [g,nT 3 [f,vT 0]])).A0+0):=rfl;omega
def so0{f:Tm}{F G:Q0 []->(y8 .C0 .C0).V}(hf:Dn [] f (.fn .C0 .C0) F)(hg:Dn [] g (.fn .C0 .C0) G)(cf:f.A0<=2000)(cg:g.A0<=2000):
  ∃e n,n<=100000/\(e=0->(∃m,m<=100000/\fO [N0] [] (jW (vT 0) (P9 f)) (qF 5 Y0 (E1 f)) 0 m)/\∃m,m<=100000/\fO [N0,N0] [E1 f] (jW (vT 0) (P9 g)) (qF 5 Y0 (E1 g)) 0 m)/\fO [] [] (Ey f g) (EF f g) e n:=by
 have w0:(vT 0).A0=1:=rfl;have w1:(vT 1).A0=1:=rfl;have w2:(vT 2).A0=1:=rfl;have tf:=Cy f;have tg:=Cy g;have ef:=fj0 f;have eg:=fj0 g;have k0:CK [] [] 5 4:=⟨dD,dD,sS,sS⟩;have k1:CK [N0] [] 4 4:=k0.below fY;have k2:CK [N0,N0] [E1 f] 3 3:=(k1.below fY).with (Do0 hf) oO
 obtain⟨e1,-,i1⟩:=Si (k1.less dD dD) hf oO;obtain⟨e2,-,-,r2⟩:=e90 (k1.less dD dD) (s:=N0) (t:=vT 0) (.var .zero) dD (fa:=X4 (y5 f)) oO i1;rw[fi0 hf]at r2;have i2:=E7 r2;obtain⟨e3,-,i3⟩:=Si (k2.less dD dD) hg oO;obtain⟨e4,-,-,r4⟩:=e90 (k2.less dD dD) (s:=N0) (t:=vT 0) (.var .zero) dD (fa:=X4 (y5 g)) oO i3;rw[fi0 hg]at r4;have i4:=E7 r4;have k3:CK [N0,N0,N0] (Q5 [E1 f] 1++[E1 g]) 0 0:=((k2.below fY).with (f:=E1 g) (.eq (.var .zero) (.app (F7 hg _) (.var (.succ .zero)))) oO).less dD dD;have r5:=CJ k3 (i:=1) (f:=(E1 f).V0 0 1) rfl sS;rw[E40 hf]at r5;have r6:=CJ k3 (i:=0) (f:=E1 g) rfl sS;have fl:FDn [N0,N0,N0,N0] (I3 (vT 1) (nT 3 [g,vT 0])):=.eq (.var (.succ .zero)) (.app (F7 hg _) (.var .zero));have b2:=cO f (vT 2);have c0:=cO g (vT 0);have n1:=kZ (vT 1) (nT 3 [g,vT 0]);obtain⟨e7,-,-,r7⟩:=JC (na:=0) (nb:=0) k3 fl oO dD dD oO (.var (.succ .zero)) (E7 r5) (E7 r6);have d2:Dn [N0,N0,N0] (nT 3 [g,nT 3 [f,vT 2]]) .C0 _:=.app (F7 hg _) (.app (F7 hf _) (.var (.succ (.succ .zero))));have ci:=eG (nT 3 [g,nT 3 [f,vT 2]]);have a2:=cO g (nT 3 [f,vT 2]);have qi:=kZ (vT 0) ((nT 3 [g,nT 3 [f,vT 2]]).V0 0 1);rw[iO]at qi
 obtain⟨e8,-,-,r8⟩:=CL (na:=0) k3 (s:=N0) (f:=I3 (vT 0) ((nT 3 [g,nT 3 [f,vT 2]]).V0 0 1)) (bY d2) oO (t:=vT 0) (.var .zero) dD dD (E7 r7);have h1:(X4 (nT 3 [g,nT 3 [f,vT 1]])).V0 0 1=X4 (nT 3 [g,nT 3 [f,vT 2]]):=by
  rw[Nb,JQ hg,JQ hf];rfl
 have h0:(X4 (nT 3 [g,nT 3 [f,vT 0]])).V0 0 1=X4 (nT 3 [g,nT 3 [f,vT 1]]):=by
  rw[Nb,JQ hg,JQ hf];rfl
 have r9:=JB (na:=(y5 g).A0+(vT 0).A0) (nb:=0+(vT 0).A0) (k2.less dD dD) (s:=N0) (fa:=E1 g) (fo:=X4 (nT 3 [g,nT 3 [f,vT 1]])) oO i4 (fun _=>by rw[h1];exact E7 r8) (bY (.app (F7 hg _) (.app (F7 hf _) (.var (.succ .zero)))));have HX:=JB (na:=(y5 f).A0+(vT 0).A0) (nb:=(y5 g).A0+(vT 0).A0+(0+(vT 0).A0)) (k1.less dD dD) (s:=N0) (fa:=E1 f) (fo:=X4 (nT 3 [g,nT 3 [f,vT 0]])) oO i2 (fun _=>by rw[h0];exact E7 r9) (bY (.app (F7 hg _) (.app (F7 hf _) (.var .zero))));have ZS:=MB (k0.less dD dD) (s:=N0) fY (E7 HX) oO;refine⟨_,_,?_,fun h=>?_,E7 ZS⟩;· omega
 ·have q1:=aW (aW (aW h).1).1;have q2:=(aW (aW q1.2).1).1;exact⟨⟨_,oO,q1.1 ▸ i2⟩,_,oO,q2 ▸ i4⟩
abbrev rC(g:Tm):Tm:=nT 3 [nT 3 [nT 3 [g,vT 2],vT 1],vT 0]
abbrev T6:Ty:=L0 2 []
def EG(b g:Tm):Fm:=qF 4 T6 (X4 (H6 9 b g (vT 0)))
def gt0(g:Tm):Pf:=dQ (I3 ((rC g).V0 0 1) (nT 3 [nT 3 [nT 3 [g,vT 3],vT 2],vT 0])) (fM 0) (c9 (rC g))
def gu0(b g:Tm):Pf:=dP (fM 0) (d9 (X4 (H6 9 b g (nT 8 [vT 2,vT 1]))) (rC g) (gt0 g))
def gv0(b g:Tm):Pf:=d9 (X4 (H6 9 b g (nT 7 []))) b (c9 b)
def Ez(b g:Tm):Pf:=bO T6 (fN 17 (X4 (H6 9 b g (vT 0))) (vT 0) (gv0 b g) (gu0 b g))
def Jq:(T.list).ok:=by show _<=64;decide
def Vi(g:Tm):(rC g).A0=g.A0+6:=by
 have:(rC g).A0=1+((1+((1+(g.A0+((vT 2).A0+0)))+((vT 1).A0+0)))+((vT 0).A0+0)):=rfl;have h1:(vT 1).A0=1:=rfl;have h0:(vT 0).A0=1:=rfl;have h2:(vT 2).A0=1:=rfl;omega
def z60(s:Tm):(X4 s).V0 1 1=X4 (s.V0 1 1):=by
 have h1:=zv0 s 0 1 1 1 dD dD dD;have h3:(vT 0).V0 2 1=vT 0:=by rw[EC];rfl
 show qF 5 Y0 (I3 ((vT 0).V0 (1+1) 1) ((s.V0 0 1).V0 (1+1) 1))=qF 5 Y0 (I3 (vT 0) ((s.V0 1 1).V0 0 1));rw[show (1:Int)+1=2 from rfl,h3];rw[show (0:Int)+1+1=2 from rfl,show (0:Int)+1=1 from rfl]at h1;rw[h1]
def sp0{B:Q0 []->N0.V}{G:Q0 []->(y8 .C0 (.fn .list (.fn .C0 .C0))).V}(hb:Dn [] b .C0 B)(hg:Dn [] g (.fn .C0 (.fn .list (.fn .C0 .C0))) G)(cb:b.A0<=1000)(cg:g.A0<=1000):∃e n,n<=100000/\(e=0->(X4 (H6 9 b g (vT 0))).typedN (gT [T.list,T.list])=0)/\fO [] [] (Ez b g) (EG b g) e n:=by
 obtain⟨F0,d0⟩:=wR hb hg (Γ:=[T.list,T.list]) (x:=vT 0) (.var .zero);obtain⟨F4,d4⟩:=wR hb hg (Γ:=[T.list,N0,T.list]) (x:=vT 0) (.var .zero);obtain⟨F1,d1⟩:=wR hb hg (Γ:=[T.list]) (x:=nT 7 []) .nil;obtain⟨F2,d2⟩:=wR hb hg (Γ:=[T.list,N0,T.list]) (x:=nT 8 [vT 1,vT 0]) (.cons (.var (.succ .zero)) (.var .zero));obtain⟨F3,d3⟩:=wR hb hg (Γ:=[N0,T.list,N0,T.list]) (x:=nT 8 [vT 2,vT 1]) (.cons (.var (.succ (.succ .zero))) (.var (.succ .zero)));have c0:=jQ 9 b g (vT 0);have c1:=jQ 9 b g (nT 7 []);have c2:=jQ 9 b g (nT 8 [vT 1,vT 0]);have c3:=jQ 9 b g (nT 8 [vT 2,vT 1]);have v0:(vT 0).A0=1:=rfl;have v1:(nT 7 []).A0=1:=rfl;have v2:(nT 8 [vT 1,vT 0]).A0=3:=rfl;have v3:(nT 8 [vT 2,vT 1]).A0=3:=rfl;have i0:=eG (H6 9 b g (vT 0));have i1:=eG (H6 9 b g (nT 7 []));have i3:=eG (H6 9 b g (nT 8 [vT 2,vT 1]));have cr:=Vi g;have k0:CK [] [] 4 2:=⟨dD,dD,sS,sS⟩;have k1:CK [T.list] [] 3 2:=k0.below Jq;have hup:(X4 (H6 9 b g (vT 0))).V0 1 1=X4 (H6 9 b g (vT 0)):=by
  rw[z60];have:=Na (k:=9) (.inr rfl) Y0 hb hg (vT 0) 1 1;rw[show ((1:Nat):Int)=1 from rfl]at this;rw[this];rfl
 have k2:CK [T.list,N0,T.list] [X4 (H6 9 b g (vT 0))] 1 1:=(k1.below2 fY Jq).with (bY d4) oO
 obtain⟨e1,-,-,r1⟩:=CC (k1.less dD dD) (F7 hb [T.list]) oO;have q1:=kZ (vT 0) ((H6 9 b g (nT 7 [])).V0 0 1);rw[iO]at q1;obtain⟨e2,-,-,r2⟩:=CL (k1.less dD dD) (s:=N0) (bY d1) oO (F7 hb [T.list]) oO dD (E7 r1);have ib:=E7 r2;have q0:=kZ (vT 0) ((H6 9 b g (vT 0)).V0 0 1);rw[iO]at q0;have df:FDn [N0,T.list,N0,T.list] (I3 (vT 0) ((H6 9 b g (vT 0)).V0 0 1)):=.eq (.var .zero) (xN d4 [N0]);have k3:CK [N0,T.list,N0,T.list] (Q5 [X4 (H6 9 b g (vT 0))] 1++[I3 (vT 0) ((H6 9 b g (vT 0)).V0 0 1)]) 0 0:=(k2.below fY).with df oO
 have dr:Dn [N0,T.list,N0,T.list] (rC g) .C0 _:=.app (.app (.app (F7 hg _) (.var (.succ (.succ .zero)))) (.var (.succ .zero))) (.var .zero);obtain⟨e3,-,-,r3⟩:=CC k3 dr oO;have r4:=CJ k3 (i:=0) (f:=I3 (vT 0) ((H6 9 b g (vT 0)).V0 0 1)) rfl sS;have HG:FDn [N0,N0,T.list,N0,T.list] (I3 ((rC g).V0 0 1) (nT 3 [nT 3 [nT 3 [g,vT 3],vT 2],vT 0])):=.eq (xN dr [N0]) (.app (.app (.app (F7 hg _) (.var (.succ (.succ (.succ .zero))))) (.var (.succ (.succ .zero)))) (.var .zero));have cn:=kZ ((rC g).V0 0 1) (nT 3 [nT 3 [nT 3 [g,vT 3],vT 2],vT 0]);have ZU:(nT 3 [nT 3 [nT 3 [g,vT 3],vT 2],vT 0]).A0=1+((1+((1+(g.A0+(1+0)))+(1+0)))+(1+0)):=rfl;rw[iO]at cn;obtain⟨e5,-,-,r5⟩:=JC (na:=0) (nb:=0) k3 HG oO dD dD (by rw[iO];omega) (.var .zero) (E7 r4) (E7 r3);have q3:=kZ (vT 0) ((H6 9 b g (nT 8 [vT 2,vT 1])).V0 0 1);rw[iO]at q3;obtain⟨e6,-,-,r6⟩:=CL (na:=0) k3 (s:=N0) (bY d3) oO dr oO dD (E7 r5);have aG:(X4 (H6 9 b g (nT 8 [vT 1,vT 0]))).V0 0 1=X4 (H6 9 b g (nT 8 [vT 2,vT 1])):=by
  rw[Nb];have:=Na (k:=9) (.inr rfl) Y0 hb hg (nT 8 [vT 1,vT 0]) 0 1;rw[show ((0:Nat):Int)=0 from rfl]at this;rw[this];rfl
 have r7:=CJ (k2.less dD dD) (i:=0) (f:=X4 (H6 9 b g (vT 0))) rfl sS;have r8:=JB (na:=0) (nb:=0+(rC g).A0) k2 (s:=N0) (fo:=X4 (H6 9 b g (nT 8 [vT 1,vT 0]))) oO (E7 r7) (fun _=>by rw[aG];exact E7 r6) (bY d2);have ir8:=E7 r8;obtain⟨e9,z9,-,r9⟩:=r70 (na:=0+b.A0) (nb:=0+(0+(rC g).A0)) (k1.less dD dD) (bY d0) oO (t:=vT 0) (.var .zero) dD oO ib (by rw[hup];exact ir8);have V7:(X4 (H6 9 b g (vT 0))).Y1 0 0 (vT 0)=X4 (H6 9 b g (vT 0)):=by
  rw[Yh];have:=Yg (k:=9) (.inr rfl) Y0 hb hg (vT 0) 0 (vT 0);rw[show ((0:Nat):Int)=0 from rfl]at this;rw[this];rfl
 rw[V7]at r9;have HX:=MB (k0.less dD dD) (s:=T.list) Jq (E7 r9) oO;exact⟨_,_,oO,fun h=>(z9 (aW (aW h).1).1).2.2,E7 HX⟩
def sq0{B:Q0 []->N0.V}{G:Q0 []->(y8 .C0 (.fn .list (.fn .C0 .C0))).V}(hb:Dn [] b .C0 B)(hg:Dn [] g (.fn .C0 (.fn .list (.fn .C0 .C0))) G):FDn [] (EG b g):=by
 obtain⟨F0,d0⟩:=wR hb hg (Γ:=[T.list]) (x:=vT 0) (.var .zero);exact .q (a:=T.list) sS Jq (bY d0)
def fl0{B:Q0 []->N0.V}{G:Q0 []->(y8 .C0 (.fn .list (.fn .C0 .C0))).V}(hb:Dn [] b .C0 B)(hg:Dn [] g (.fn .C0 (.fn .list (.fn .C0 .C0))) G)(cb:b.A0<=1000)(cg:g.A0<=1000):PS (Ez b g)/\(Ez b g).A0<=100000/\(EG b g).A0<=100000:=by
 obtain⟨F0,d0⟩:=wR hb hg (Γ:=[T.list,T.list]) (x:=vT 0) (.var .zero);obtain⟨F1,d1⟩:=wR hb hg (Γ:=[T.list]) (x:=nT 7 []) .nil;obtain⟨F3,d3⟩:=wR hb hg (Γ:=[N0,T.list,N0,T.list]) (x:=nT 8 [vT 2,vT 1]) (.cons (.var (.succ (.succ .zero))) (.var (.succ .zero)));have c0:=jQ 9 b g (vT 0);have c1:=jQ 9 b g (nT 7 []);have c3:=jQ 9 b g (nT 8 [vT 2,vT 1]);have v0:(vT 0).A0=1:=rfl;have v1:(nT 7 []).A0=1:=rfl;have v3:(nT 8 [vT 2,vT 1]).A0=3:=rfl;have i0:=eG (H6 9 b g (vT 0));have i1:=eG (H6 9 b g (nT 7 []));have i3:=eG (H6 9 b g (nT 8 [vT 2,vT 1]));have cr:=Vi g;have dr:Dn [N0,T.list,N0,T.list] (rC g) .C0 _:=.app (.app (.app (F7 hg _) (.var (.succ (.succ .zero)))) (.var (.succ .zero))) (.var .zero);have HG:FDn [N0,N0,T.list,N0,T.list] (I3 ((rC g).V0 0 1) (nT 3 [nT 3 [nT 3 [g,vT 3],vT 2],vT 0])):=.eq (xN dr [N0]) (.app (.app (.app (F7 hg _) (.var (.succ (.succ (.succ .zero))))) (.var (.succ (.succ .zero)))) (.var .zero));have cn:=kZ ((rC g).V0 0 1) (nT 3 [nT 3 [nT 3 [g,vT 3],vT 2],vT 0]);have ZU:(nT 3 [nT 3 [nT 3 [g,vT 3],vT 2],vT 0]).A0=1+((1+((1+(g.A0+(1+0)))+(1+0)))+(1+0)):=rfl;rw[iO]at cn;have bK:(vT 0).shape=true/\(vT 0).A0<=16384:=⟨rfl,dD⟩;refine⟨?_,?_,?_⟩
 ·exact MO (y:=T6) (M9 Jq) (Yb (.inr rfl) (Γ:=[T.list,T.list]) dD (bY d0) oO bK (CW (Γ:=[T.list]) dD (bY d1) oO ⟨Z5 hb,oO⟩ (CN ⟨Z5 hb,oO⟩))
   (JO (CV 0) (CW (Γ:=[N0,T.list,N0,T.list]) dD (bY d3) oO ⟨Z5 dr,oO⟩ (JP (Γ:=[N0,N0,T.list,N0,T.list]) dD HG oO (CV 0) (CN ⟨Z5 dr,oO⟩)))))
 ·unfold Ez gv0 gu0 gt0;rw[QH,WA,Jc,LT,Rq,Jd,Jc,Rr,Jd,LT];omega
 ·have:(EG b g).A0=1+0+((X4 (H6 9 b g (vT 0))).A0+0):=rfl;omega
def Xk(t:Tm):cU 89 [t.dv] (nT 5 [t]).dv:=by
 have w:=qW 5 [t];simp only[G4,O5]at w;generalize nT 5 [t]=r at *;exact B2 Tryz.func89 H0 (M0 w)
def CT(a:T)(t:Tm):Prop:=(∃F:Q0 []->a.V,Dn [] t a F)/\t.A0<=1000/\t.V1 []=(a.ty,0)
def dw0{a:T}{F:Q0 []->a.V}(h:Dn [] t a F)(hi:t.V1 []=(y,0))(g:List Ty):t.V1 g=(y,0):=by rw[Ve (QZ h) g];exact hi
def dx0:∃F:Q0 []->(y8 .C0 (.fn .C0 .C0)).V,Dn [] H7 (.fn .C0 (.fn .C0 .C0)) F/\H7.V1 []=((y8 .C0 (.fn .C0 .C0)).ty,0)/\H7.A0<=200:=by
 have hi:H7.V1 []=((y8 .C0 (.fn .C0 .C0)).ty,0):=kK;obtain⟨a,F,h1,h2⟩:=mp0 H7 [] dD (by show (H7.V1 []).2=0;rw[hi]);have h1:(H7.V1 []).1=a.ty:=h1;rw[hi]at h1;obtain rfl:=eN h1;exact⟨F,h2,hi,dD⟩
def eq0(l:List Int){p:Nat}(hp:p<=l.length):CT .C0 (l8 l 2 (L0 1 []) [] p).1/\(l8 l 2 (L0 1 []) [] p).2<=l.length:=by
 have hg:∀x∈([]:List Ty),x.small:=sS;obtain⟨F,hF⟩:=RA l 2 aJ hg hp (G:=[]) (a:=.C0) rfl rfl;have hc:=LG l 2 (L0 1 []) [] p aJ hg hp;rw[show GT 2=485 from rfl]at hc;have hle:=Ef VR 2 (L0 1 []) [] p aJ hg hp;exact⟨⟨⟨F,hF⟩,oO,hle.2⟩,hle.1⟩
def bI0(b:Nat)(l:List Int)(hl:l.length<=500)(p:Nat)(hp:p<=l.length):cT 19 [M3 b] [(b,R5 l p)] (l8 l 2 (L0 1 []) [] p).1.dv [(b,R5 l (l8 l 2 (L0 1 []) [] p).2)]:=by
 have wn:=IQ;have wt:=QA b l hl 2 dD (L0 1 []) [] p aJ sS dD hp;generalize l8 l 2 (L0 1 []) [] p=xd at *;obtain⟨x,q⟩:=xd;simp only at wt ⊢;have I8:=O3 x;have eY:=qK (L0 1 []);simp only[O5]at wt;generalize L0 1 []=y at *;refine A3 Tryz.func19 fun X zX=>?_;refine N2 ?_;refine N1 (j2 @eY @I8) (P3 wn wt) ?_;exact s7 [(b,R5 l q)] @I8
def IT{F:Q0 [N0,N0]->N0.V}(h:Dn [N0,N0] x .C0 F)(hc:x.A0<=900)(hi:x.V1 [Y0,Y0]=(Y0,0)):CT (.fn .C0 (.fn .C0 .C0)) (U0 2 0 Y0 [U0 2 0 Y0 [x]]):=by
 refine⟨⟨_,.lam (a:=.C0) fY (.lam (a:=.C0) fY h)⟩,by show 1+((1+(x.A0+0))+0)<=1000;omega,?_⟩;exact zG (zG hi (M9 (a:=.fn .C0 .C0) (by show _<=64;decide))) (M9 (a:=.fn .C0 (.fn .C0 .C0)) (by show _<=64;decide))
def QJ{F:Q0 [N0,T.list,N0]->N0.V}(h:Dn [N0,T.list,N0] x .C0 F)(hc:x.A0<=900)(hi:x.V1 [Y0,T6,Y0]=(Y0,0)):CT (.fn .C0 (.fn .list (.fn .C0 .C0))) (U0 2 0 Y0 [U0 2 0 T6 [U0 2 0 Y0 [x]]]):=by
 refine⟨⟨_,.lam (a:=.C0) fY (.lam (a:=.list) Jq (.lam (a:=.C0) fY h))⟩,by show 1+((1+((1+(x.A0+0))+0))+0)<=1000;omega,?_⟩;exact zG (zG (zG hi (M9 (a:=.fn .C0 .C0) (by show _<=64;decide))) (M9 (a:=.fn .list (.fn .C0 .C0)) (by show _<=64;decide))) (M9 (a:=.fn .C0 (.fn .list (.fn .C0 .C0))) (by show _<=64;decide))
def Gq(l:List Int){p:Nat}(hp:p<=l.length)(hn:0<n):0<=(Y2 l p n).1/\(Y2 l p n).1<n/\(Y2 l p n).2<=l.length:=⟨(lA (l:=l) (p:=p) (n:=n) oO).1,(lA (l:=l) (p:=p) (n:=n) oO).2,fH (n:=n) hp⟩
def bO0(l:List Int)(hl:l.length<=500)(p:Nat)(hp:p<=l.length):∃(t:Tm) (q:Nat),q<=l.length/\CT (.fn .C0 (.fn .C0 .C0)) t/\∀b,cT 20 [M3 b] [(b,R5 l p)] t.dv [(b,R5 l q)]:=by
 obtain⟨k0,k1,k2⟩:=Gq l hp (n:=6) dD;have wx:=fun b=>fX b l p 6 dD oO;have HO:Y2 l p (((6:Nat)):Int)=Y2 l p 6:=rfl;rw[HO]at k0 k1 k2;generalize Y2 l p 6=nd at *;obtain⟨k,p1⟩:=nd;simp only at k0 k1 k2 wx;have eY:=qK Y0;have cR:=mK Y0;have Og:=qK T6;have OG:=mK T6;obtain⟨FD,hD,iD,cD⟩:=dx0;have Au:cU 8 [] Y0.dv:=IQ;have iP:=Vv;have iS:=VQ;by_cases c0:k=0
 ·have hx:Dn [N0,N0] (nT 5 [vT 0]) .C0 _:=.succ (.var .zero);have g9:(nT 5 [vT 0]).A0<=900:=dD;have V7:(nT 5 [vT 0]).V1 [Y0,Y0]=(Y0,0):=IP (vA (i:=0) dD);refine⟨U0 2 0 Y0 [U0 2 0 Y0 [nT 5 [vT 0]]],p1,oO,IT hx g9 V7,fun b=>?_⟩;have wx:=wx b;have AR:=mX 0;have ws:=Xk (vT 0);have kU:=eF Y0 (nT 5 [vT 0]);have gO:=eF Y0 (U0 2 0 Y0 [nT 5 [vT 0]]);have B6:=P5 (U0 2 0 Y0 [U0 2 0 Y0 [nT 5 [vT 0]]]);have n8:=O3 (U0 2 0 Y0 [U0 2 0 Y0 [nT 5 [vT 0]]]);have T4:=P5 (U0 2 0 Y0 [nT 5 [vT 0]]);have eC:=O3 (U0 2 0 Y0 [nT 5 [vT 0]]);have s4:=P5 (nT 5 [vT 0]);have bS:=O3 (nT 5 [vT 0]);have X9:=P5 (vT 0);have oJ:=O3 (vT 0);clear hx g9 V7;generalize U0 2 0 Y0 [U0 2 0 Y0 [nT 5 [vT 0]]]=r0 at *;generalize U0 2 0 Y0 [nT 5 [vT 0]]=r1 at *;generalize nT 5 [vT 0]=r2 at *;generalize vT 0=r3 at *;generalize Y0=y at *;refine A3 PX fun X zX=>?_;refine N2 ?_;refine N1 (j2 @eY @cR) (M0 Au) ?_;refine N2 ?_;refine N1 H0 (M0 wx) ?_;refine U1 @c0 ?_;refine N1 (j8 @B6 @n8 @T4 @eC @s4 @bS @X9 (j3 @oJ @eY @cR)) (cQ AR ws kU gO) ?_;refine N2 ?_;exact s7 [(b,R5 l p1)] @n8
 by_cases c1:k=1
 ·have hx:Dn [N0,N0] (nT 3 [nT 3 [Q8,vT 1],vT 0]) .C0 _:=.app (.app (f90 _) (.var (.succ .zero))) (.var .zero);have g9:(nT 3 [nT 3 [Q8,vT 1],vT 0]).A0<=900:=by show 1+((1+((Q8).A0+(1+0)))+(1+0))<=900;decide
  have V7:(nT 3 [nT 3 [Q8,vT 1],vT 0]).V1 [Y0,Y0]=(Y0,0):=qR (qR (iS _) (vA (i:=1) dD)) (vA (i:=0) dD);refine⟨U0 2 0 Y0 [U0 2 0 Y0 [nT 3 [nT 3 [Q8,vT 1],vT 0]]],p1,oO,IT hx g9 V7,fun b=>?_⟩;have wx:=wx b;have wF:=Qj;have wA:=Gk Q8 [vT 1,vT 0];have AR:=mX 0;have OR:=mX 1;have kU:=eF Y0 (nT 3 [nT 3 [Q8,vT 1],vT 0]);have gO:=eF Y0 (U0 2 0 Y0 [nT 3 [nT 3 [Q8,vT 1],vT 0]]);have B6:=P5 (U0 2 0 Y0 [U0 2 0 Y0 [nT 3 [nT 3 [Q8,vT 1],vT 0]]]);have n8:=O3 (U0 2 0 Y0 [U0 2 0 Y0 [nT 3 [nT 3 [Q8,vT 1],vT 0]]]);have T4:=P5 (U0 2 0 Y0 [nT 3 [nT 3 [Q8,vT 1],vT 0]]);have eC:=O3 (U0 2 0 Y0 [nT 3 [nT 3 [Q8,vT 1],vT 0]]);have s4:=P5 (nT 3 [nT 3 [Q8,vT 1],vT 0]);have bS:=O3 (nT 3 [nT 3 [Q8,vT 1],vT 0]);have X9:=P5 (Q8);have oJ:=O3 (Q8);have AC:=P5 (vT 0);have Av:=O3 (vT 0);have Do:=P5 (vT 1);have Dy:=O3 (vT 1);clear hx g9 V7;simp only[G4,O5]at wA;have eA:m9 Q8 [vT 1,vT 0]=nT 3 [nT 3 [Q8,vT 1],vT 0]:=rfl;rw[eA]at wA;generalize U0 2 0 Y0 [U0 2 0 Y0 [nT 3 [nT 3 [Q8,vT 1],vT 0]]]=r0 at *;generalize U0 2 0 Y0 [nT 3 [nT 3 [Q8,vT 1],vT 0]]=r1 at *
  generalize nT 3 [nT 3 [Q8,vT 1],vT 0]=r2 at *;generalize vT 0=r4 at *;generalize vT 1=r5 at *;generalize Y0=y at *;refine A3 PX fun X zX=>?_;refine N2 ?_;refine N1 (j2 @eY @cR) (M0 Au) ?_;refine N2 ?_;refine N1 H0 (M0 wx) ?_;refine U1 (j2 @c0 @c1) ?_;refine N1 (j8 @B6 @n8 @T4 @eC @s4 @bS @X9 (j7 @oJ @AC @Av @Do @Dy @eY @cR)) (nD wF OR AR wA kU gO) ?_;refine N2 ?_;exact s7 [(b,R5 l p1)] @n8
 by_cases c2:k=2
 ·obtain⟨u0,u1,u2⟩:=Gq l k2 (n:=3) dD;have wy:=fun b=>fX b l p1 3 dD oO;have NN:Y2 l p1 (((3:Nat)):Int)=Y2 l p1 3:=rfl;rw[NN]at u0 u1 u2;generalize Y2 l p1 3=ne at *;obtain⟨kk,p2⟩:=ne;simp only at u0 u1 u2 wy;obtain⟨m,rfl⟩:=bt0 u0;obtain⟨FM,hM⟩:=Ss ([N0,N0]) m;have hmc:=Qn m;have hx:Dn [N0,N0] (nT 3 [nT 3 [H7,vT 0],g8 m]) .C0 _:=.app (.app (F7 hD _) (.var .zero)) hM;have g9:(nT 3 [nT 3 [H7,vT 0],g8 m]).A0<=900:=by show 1+((1+(H7.A0+(1+0)))+((g8 m).A0+0))<=900;omega
  have V7:(nT 3 [nT 3 [H7,vT 0],g8 m]).V1 [Y0,Y0]=(Y0,0):=qR (qR (dw0 hD iD _) (vA (i:=0) dD)) (QY _ m);refine⟨U0 2 0 Y0 [U0 2 0 Y0 [nT 3 [nT 3 [H7,vT 0],g8 m]]],p2,oO,IT hx g9 V7,fun b=>?_⟩;have wx:=wx b;have wF:=bN0;have wA:=Gk H7 [vT 0,g8 m];have AR:=mX 0;have wm:=Gl m oO;have wy:=wy b;have kU:=eF Y0 (nT 3 [nT 3 [H7,vT 0],g8 m]);have gO:=eF Y0 (U0 2 0 Y0 [nT 3 [nT 3 [H7,vT 0],g8 m]]);have B6:=P5 (U0 2 0 Y0 [U0 2 0 Y0 [nT 3 [nT 3 [H7,vT 0],g8 m]]]);have n8:=O3 (U0 2 0 Y0 [U0 2 0 Y0 [nT 3 [nT 3 [H7,vT 0],g8 m]]]);have T4:=P5 (U0 2 0 Y0 [nT 3 [nT 3 [H7,vT 0],g8 m]]);have eC:=O3 (U0 2 0 Y0 [nT 3 [nT 3 [H7,vT 0],g8 m]]);have s4:=P5 (nT 3 [nT 3 [H7,vT 0],g8 m]);have bS:=O3 (nT 3 [nT 3 [H7,vT 0],g8 m]);have X9:=P5 (H7);have oJ:=O3 (H7);have AC:=P5 (vT 0);have Av:=O3 (vT 0);have Do:=P5 (g8 m);have Dy:=O3 (g8 m);clear hx g9 V7;simp only[G4,O5]at wA;have eA:m9 H7 [vT 0,g8 m]=nT 3 [nT 3 [H7,vT 0],g8 m]:=rfl;rw[eA]at wA
  generalize U0 2 0 Y0 [U0 2 0 Y0 [nT 3 [nT 3 [H7,vT 0],g8 m]]]=r0 at *;generalize U0 2 0 Y0 [nT 3 [nT 3 [H7,vT 0],g8 m]]=r1 at *;generalize nT 3 [nT 3 [H7,vT 0],g8 m]=r2 at *;generalize vT 0=r4 at *;generalize g8 m=r5 at *;generalize Y0=y at *;refine A3 PX fun X zX=>?_;refine N2 ?_;refine N1 (j2 @eY @cR) (M0 Au) ?_;refine N2 ?_;refine N1 H0 (M0 wx) ?_;refine U1 (j3 @c0 @c1 @c2) ?_;refine N1 (j8 @B6 @n8 @T4 @eC @s4 @bS @X9 (j7 @oJ @AC @Av @Do @Dy @eY @cR)) (vM wF AR wy wm wA kU gO) ?_;refine N2 ?_;exact s7 [(b,R5 l p2)] @n8
 by_cases c3:k=3
 ·have hx:Dn [N0,N0] (nT 5 [nT 5 [vT 1]]) .C0 _:=.succ (.succ (.var (.succ .zero)));have g9:(nT 5 [nT 5 [vT 1]]).A0<=900:=dD;have V7:(nT 5 [nT 5 [vT 1]]).V1 [Y0,Y0]=(Y0,0):=IP (IP (vA (i:=1) dD));refine⟨U0 2 0 Y0 [U0 2 0 Y0 [nT 5 [nT 5 [vT 1]]]],p1,oO,IT hx g9 V7,fun b=>?_⟩;have wx:=wx b;have OR:=mX 1;have ws:=Xk (vT 1);have Dt:=Xk (nT 5 [vT 1]);have kU:=eF Y0 (nT 5 [nT 5 [vT 1]]);have gO:=eF Y0 (U0 2 0 Y0 [nT 5 [nT 5 [vT 1]]]);have B6:=P5 (U0 2 0 Y0 [U0 2 0 Y0 [nT 5 [nT 5 [vT 1]]]]);have n8:=O3 (U0 2 0 Y0 [U0 2 0 Y0 [nT 5 [nT 5 [vT 1]]]]);have T4:=P5 (U0 2 0 Y0 [nT 5 [nT 5 [vT 1]]]);have eC:=O3 (U0 2 0 Y0 [nT 5 [nT 5 [vT 1]]]);have s4:=P5 (nT 5 [nT 5 [vT 1]]);have bS:=O3 (nT 5 [nT 5 [vT 1]]);have X9:=P5 (nT 5 [vT 1]);have oJ:=O3 (nT 5 [vT 1]);have AC:=P5 (vT 1);have Av:=O3 (vT 1);clear hx g9 V7;generalize U0 2 0 Y0 [U0 2 0 Y0 [nT 5 [nT 5 [vT 1]]]]=r0 at *;generalize U0 2 0 Y0 [nT 5 [nT 5 [vT 1]]]=r1 at *;generalize nT 5 [nT 5 [vT 1]]=r2 at *;generalize nT 5 [vT 1]=r3 at *;generalize vT 1=r4 at *;generalize Y0=y at *;refine A3 PX fun X zX=>?_;refine N2 ?_;refine N1 (j2 @eY @cR) (M0 Au) ?_;refine N2 ?_
  refine N1 H0 (M0 wx) ?_;refine U1 (j4 @c0 @c1 @c2 @c3) ?_;refine N1 (j8 @B6 @n8 @T4 @eC @s4 @bS @X9 (j5 @oJ @AC @Av @eY @cR)) (T9 OR ws Dt kU gO) ?_;refine N2 ?_;exact s7 [(b,R5 l p1)] @n8
 by_cases c4:k=4
 ·have hg:∀x∈[Y0,Y0],x.small:=by
   intro x hx;simp at hx;rw[hx];exact aJ
  obtain⟨FT,hT⟩:=RA l 1 aJ hg k2 (G:=[.C0,.C0]) (a:=.C0) rfl rfl;have N4:=LG l 1 Y0 [Y0,Y0] p1 aJ hg k2;rw[show GT 1=155 from rfl]at N4;have hle:=Ef VR 1 Y0 [Y0,Y0] p1 aJ hg k2;have wt:=fun b=>QA b l hl 1 dD Y0 [Y0,Y0] p1 aJ hg sS k2;generalize l8 l 1 Y0 [Y0,Y0] p1=xd at *;obtain⟨x,p2⟩:=xd;simp only at hT N4 hle wt;have hq:=hle.1;have hx:Dn [N0,N0] (x) .C0 _:=hT;have g9:(x).A0<=900:=oO;have V7:(x).V1 [Y0,Y0]=(Y0,0):=hle.2;refine⟨U0 2 0 Y0 [U0 2 0 Y0 [x]],p2,oO,IT hx g9 V7,fun b=>?_⟩;have wx:=wx b;have wt:=wt b;have kU:=eF Y0 (x);have gO:=eF Y0 (U0 2 0 Y0 [x]);have B6:=P5 (U0 2 0 Y0 [U0 2 0 Y0 [x]]);have n8:=O3 (U0 2 0 Y0 [U0 2 0 Y0 [x]]);have T4:=P5 (U0 2 0 Y0 [x]);have eC:=O3 (U0 2 0 Y0 [x]);have s4:=P5 (x);have bS:=O3 (x);clear hx g9 V7;simp only[G4,O5]at wt;generalize U0 2 0 Y0 [U0 2 0 Y0 [x]]=r0 at *;generalize U0 2 0 Y0 [x]=r1 at *;generalize Y0=y at *;refine A3 PX fun X zX=>?_;refine N2 ?_;refine N1 (j2 @eY @cR) (M0 Au) ?_;refine N2 ?_;refine N1 H0 (M0 wx) ?_;refine U1 (j5 @c0 @c1 @c2 @c3 @c4) ?_
  refine N1 (j8 @B6 @n8 @T4 @eC @s4 @bS @eY @cR) (E8 wt kU gO) ?_;refine N2 ?_;exact s7 [(b,R5 l p2)] @n8
 have hx:Dn [N0,N0] (nT 3 [nT 3 [Y6,vT 0],vT 1]) .C0 _:=.app (.app (Xw _) (.var .zero)) (.var (.succ .zero));have g9:(nT 3 [nT 3 [Y6,vT 0],vT 1]).A0<=900:=by show 1+((1+((Y6).A0+(1+0)))+(1+0))<=900;decide
 have V7:(nT 3 [nT 3 [Y6,vT 0],vT 1]).V1 [Y0,Y0]=(Y0,0):=qR (qR (iP _) (vA (i:=0) dD)) (vA (i:=1) dD);refine⟨U0 2 0 Y0 [U0 2 0 Y0 [nT 3 [nT 3 [Y6,vT 0],vT 1]]],p1,oO,IT hx g9 V7,fun b=>?_⟩;have wx:=wx b;have wF:=Qe;have wA:=Gk Y6 [vT 0,vT 1];have AR:=mX 0;have OR:=mX 1;have kU:=eF Y0 (nT 3 [nT 3 [Y6,vT 0],vT 1]);have gO:=eF Y0 (U0 2 0 Y0 [nT 3 [nT 3 [Y6,vT 0],vT 1]]);have B6:=P5 (U0 2 0 Y0 [U0 2 0 Y0 [nT 3 [nT 3 [Y6,vT 0],vT 1]]]);have n8:=O3 (U0 2 0 Y0 [U0 2 0 Y0 [nT 3 [nT 3 [Y6,vT 0],vT 1]]]);have T4:=P5 (U0 2 0 Y0 [nT 3 [nT 3 [Y6,vT 0],vT 1]]);have eC:=O3 (U0 2 0 Y0 [nT 3 [nT 3 [Y6,vT 0],vT 1]]);have s4:=P5 (nT 3 [nT 3 [Y6,vT 0],vT 1]);have bS:=O3 (nT 3 [nT 3 [Y6,vT 0],vT 1]);have X9:=P5 (Y6);have oJ:=O3 (Y6);have AC:=P5 (vT 0);have Av:=O3 (vT 0);have Do:=P5 (vT 1);have Dy:=O3 (vT 1);clear hx g9 V7;simp only[G4,O5]at wA;have eA:m9 Y6 [vT 0,vT 1]=nT 3 [nT 3 [Y6,vT 0],vT 1]:=rfl;rw[eA]at wA;generalize U0 2 0 Y0 [U0 2 0 Y0 [nT 3 [nT 3 [Y6,vT 0],vT 1]]]=r0 at *
 generalize U0 2 0 Y0 [nT 3 [nT 3 [Y6,vT 0],vT 1]]=r1 at *;generalize nT 3 [nT 3 [Y6,vT 0],vT 1]=r2 at *;generalize vT 0=r4 at *;generalize vT 1=r5 at *;generalize Y0=y at *;refine A3 PX fun X zX=>?_;refine N2 ?_;refine N1 (j2 @eY @cR) (M0 Au) ?_;refine N2 ?_;refine N1 H0 (M0 wx) ?_;refine U1 (j5 @c0 @c1 @c2 @c3 @c4) ?_;refine N1 (j8 @B6 @n8 @T4 @eC @s4 @bS @X9 (j7 @oJ @AC @Av @Do @Dy @eY @cR)) (nD wF AR OR wA kU gO) ?_;refine N2 ?_;exact s7 [(b,R5 l p1)] @n8
def kL0(l:List Int)(hl:l.length<=500)(p:Nat)(hp:p<=l.length):∃(t:Tm) (q:Nat),q<=l.length/\CT (.fn .C0 (.fn .list (.fn .C0 .C0))) t/\∀b,cT 22 [M3 b] [(b,R5 l p)] t.dv [(b,R5 l q)]:=by
 obtain⟨k0,k1,k2⟩:=Gq l hp (n:=4) dD;have wx:=fun b=>fX b l p 4 dD oO;have HO:Y2 l p (((4:Nat)):Int)=Y2 l p 4:=rfl;rw[HO]at k0 k1 k2;generalize Y2 l p 4=nd at *;obtain⟨k,p1⟩:=nd;simp only at k0 k1 k2 wx;have eY:=qK Y0;have cR:=mK Y0;have Og:=qK T6;have OG:=mK T6;obtain⟨FD,hD,iD,cD⟩:=dx0;have Au:cU 8 [] Y0.dv:=IQ;have iP:=Vv;have iS:=VQ;by_cases c0:k=0
 ·have hx:Dn [N0,T.list,N0] (nT 3 [nT 3 [Y6,vT 0],vT 2]) .C0 _:=.app (.app (Xw _) (.var .zero)) (.var (.succ (.succ .zero)));have g9:(nT 3 [nT 3 [Y6,vT 0],vT 2]).A0<=900:=by show 1+((1+((Y6).A0+(1+0)))+(1+0))<=900;decide
  have V7:(nT 3 [nT 3 [Y6,vT 0],vT 2]).V1 [Y0,T6,Y0]=(Y0,0):=qR (qR (iP _) (vA (i:=0) dD)) (vA (i:=2) dD);refine⟨U0 2 0 Y0 [U0 2 0 T6 [U0 2 0 Y0 [nT 3 [nT 3 [Y6,vT 0],vT 2]]]],p1,oO,QJ hx g9 V7,fun b=>?_⟩;have wx:=wx b;have wF:=Qe;have wA:=Gk Y6 [vT 0,vT 2];have AR:=mX 0;have ZE:=mX 2;have Fu:cU 94 [] T6.dv:=LS;have Ax:=qW 5 [vT 0];simp only[G4,O5]at Ax;have HR:=mX 0;have pZ:=P5 (nT 5 [vT 0]);have Q7:=O3 (nT 5 [vT 0]);have HF:=P5 (vT 0);have HI:=O3 (vT 0);have kU:=eF Y0 (nT 3 [nT 3 [Y6,vT 0],vT 2]);have gO:=eF T6 (U0 2 0 Y0 [nT 3 [nT 3 [Y6,vT 0],vT 2]]);have Hv:=eF Y0 (U0 2 0 T6 [U0 2 0 Y0 [nT 3 [nT 3 [Y6,vT 0],vT 2]]]);have B6:=P5 (U0 2 0 Y0 [U0 2 0 T6 [U0 2 0 Y0 [nT 3 [nT 3 [Y6,vT 0],vT 2]]]]);have n8:=O3 (U0 2 0 Y0 [U0 2 0 T6 [U0 2 0 Y0 [nT 3 [nT 3 [Y6,vT 0],vT 2]]]]);have T4:=P5 (U0 2 0 T6 [U0 2 0 Y0 [nT 3 [nT 3 [Y6,vT 0],vT 2]]]);have eC:=O3 (U0 2 0 T6 [U0 2 0 Y0 [nT 3 [nT 3 [Y6,vT 0],vT 2]]]);have s4:=P5 (U0 2 0 Y0 [nT 3 [nT 3 [Y6,vT 0],vT 2]])
  have bS:=O3 (U0 2 0 Y0 [nT 3 [nT 3 [Y6,vT 0],vT 2]]);have X9:=P5 (nT 3 [nT 3 [Y6,vT 0],vT 2]);have oJ:=O3 (nT 3 [nT 3 [Y6,vT 0],vT 2]);have AC:=P5 (Y6);have Av:=O3 (Y6);have Do:=P5 (vT 0);have Dy:=O3 (vT 0);have ZF:=P5 (vT 2);have hc6:=O3 (vT 2);clear hx g9 V7;simp only[G4,O5]at wA;have eA:m9 Y6 [vT 0,vT 2]=nT 3 [nT 3 [Y6,vT 0],vT 2]:=rfl;rw[eA]at wA;generalize U0 2 0 Y0 [U0 2 0 T6 [U0 2 0 Y0 [nT 3 [nT 3 [Y6,vT 0],vT 2]]]]=r0 at *;generalize U0 2 0 T6 [U0 2 0 Y0 [nT 3 [nT 3 [Y6,vT 0],vT 2]]]=r1 at *;generalize U0 2 0 Y0 [nT 3 [nT 3 [Y6,vT 0],vT 2]]=r2 at *;generalize nT 3 [nT 3 [Y6,vT 0],vT 2]=r3 at *;generalize vT 0=r5 at *;generalize vT 2=r6 at *;generalize nT 5 [vT 0]=z0 at *;generalize Y0=y at *;generalize T6=yl at *;refine A3 bu0 fun X zX=>?_;refine N2 ?_;refine N1 (j2 @eY @cR) (M0 Au) ?_;refine N2 ?_;have J0:=j8 @B6 @n8 @T4 @eC @s4 @bS @X9 (j8 @oJ @AC @Av @Do @Dy @ZF @hc6 (j8 @eY @cR @Og @OG @pZ @Q7 @HF @HI));refine N1 J0 (P3 HR Ax) ?_;refine N2 ?_;refine N1 H0 (M0 wx) ?_;refine U1 @c0 ?_;refine N1 J0 (cQ wF AR ZE wA) ?_;refine N2 ?_;refine N1 J0 (cQ Fu kU gO Hv) ?_;refine N2 ?_;exact s7 [(b,R5 l p1)] @n8
 by_cases c1:k=1
 ·have hx:Dn [N0,T.list,N0] (nT 3 [nT 3 [H7,vT 0],vT 2]) .C0 _:=.app (.app (F7 hD _) (.var .zero)) (.var (.succ (.succ .zero)));have g9:(nT 3 [nT 3 [H7,vT 0],vT 2]).A0<=900:=by show 1+((1+((H7).A0+(1+0)))+(1+0))<=900;omega
  have V7:(nT 3 [nT 3 [H7,vT 0],vT 2]).V1 [Y0,T6,Y0]=(Y0,0):=qR (qR (dw0 hD iD _) (vA (i:=0) dD)) (vA (i:=2) dD);refine⟨U0 2 0 Y0 [U0 2 0 T6 [U0 2 0 Y0 [nT 3 [nT 3 [H7,vT 0],vT 2]]]],p1,oO,QJ hx g9 V7,fun b=>?_⟩;have wx:=wx b;have wF:=bN0;have wA:=Gk H7 [vT 0,vT 2];have AR:=mX 0;have ZE:=mX 2;have Fu:cU 94 [] T6.dv:=LS;have Ax:=qW 5 [vT 0];simp only[G4,O5]at Ax;have HR:=mX 0;have pZ:=P5 (nT 5 [vT 0]);have Q7:=O3 (nT 5 [vT 0]);have HF:=P5 (vT 0);have HI:=O3 (vT 0);have kU:=eF Y0 (nT 3 [nT 3 [H7,vT 0],vT 2]);have gO:=eF T6 (U0 2 0 Y0 [nT 3 [nT 3 [H7,vT 0],vT 2]]);have Hv:=eF Y0 (U0 2 0 T6 [U0 2 0 Y0 [nT 3 [nT 3 [H7,vT 0],vT 2]]]);have B6:=P5 (U0 2 0 Y0 [U0 2 0 T6 [U0 2 0 Y0 [nT 3 [nT 3 [H7,vT 0],vT 2]]]]);have n8:=O3 (U0 2 0 Y0 [U0 2 0 T6 [U0 2 0 Y0 [nT 3 [nT 3 [H7,vT 0],vT 2]]]]);have T4:=P5 (U0 2 0 T6 [U0 2 0 Y0 [nT 3 [nT 3 [H7,vT 0],vT 2]]]);have eC:=O3 (U0 2 0 T6 [U0 2 0 Y0 [nT 3 [nT 3 [H7,vT 0],vT 2]]]);have s4:=P5 (U0 2 0 Y0 [nT 3 [nT 3 [H7,vT 0],vT 2]])
  have bS:=O3 (U0 2 0 Y0 [nT 3 [nT 3 [H7,vT 0],vT 2]]);have X9:=P5 (nT 3 [nT 3 [H7,vT 0],vT 2]);have oJ:=O3 (nT 3 [nT 3 [H7,vT 0],vT 2]);have AC:=P5 (H7);have Av:=O3 (H7);have Do:=P5 (vT 0);have Dy:=O3 (vT 0);have ZF:=P5 (vT 2);have hc6:=O3 (vT 2);clear hx g9 V7;simp only[G4,O5]at wA;have eA:m9 H7 [vT 0,vT 2]=nT 3 [nT 3 [H7,vT 0],vT 2]:=rfl;rw[eA]at wA;generalize U0 2 0 Y0 [U0 2 0 T6 [U0 2 0 Y0 [nT 3 [nT 3 [H7,vT 0],vT 2]]]]=r0 at *;generalize U0 2 0 T6 [U0 2 0 Y0 [nT 3 [nT 3 [H7,vT 0],vT 2]]]=r1 at *;generalize U0 2 0 Y0 [nT 3 [nT 3 [H7,vT 0],vT 2]]=r2 at *;generalize nT 3 [nT 3 [H7,vT 0],vT 2]=r3 at *;generalize vT 0=r5 at *;generalize vT 2=r6 at *;generalize nT 5 [vT 0]=z0 at *;generalize Y0=y at *;generalize T6=yl at *;refine A3 bu0 fun X zX=>?_;refine N2 ?_;refine N1 (j2 @eY @cR) (M0 Au) ?_;refine N2 ?_;have J1:=j8 @B6 @n8 @T4 @eC @s4 @bS @X9 (j8 @oJ @AC @Av @Do @Dy @ZF @hc6 (j8 @eY @cR @Og @OG @pZ @Q7 @HF @HI));refine N1 J1 (P3 HR Ax) ?_;refine N2 ?_;refine N1 H0 (M0 wx) ?_;refine U1 (j2 @c0 @c1) ?_;refine N1 J1 (cQ wF AR ZE wA) ?_;refine N2 ?_;refine N1 J1 (cQ Fu kU gO Hv) ?_;refine N2 ?_
  exact s7 [(b,R5 l p1)] @n8
 by_cases c2:k=2
 ·have hg:∀x∈[Y0,T6,Y0],x.small:=by
   intro x hx;simp at hx;rcases hx with rfl|rfl|rfl <;> first|exact aJ|exact Bj
  obtain⟨FT,hT⟩:=RA l 1 aJ hg k2 (G:=[.C0,.list,.C0]) (a:=.C0) rfl rfl;have N4:=LG l 1 Y0 [Y0,T6,Y0] p1 aJ hg k2;rw[show GT 1=155 from rfl]at N4;have hle:=Ef VR 1 Y0 [Y0,T6,Y0] p1 aJ hg k2;have wt:=fun b=>QA b l hl 1 dD Y0 [Y0,T6,Y0] p1 aJ hg sS k2;generalize l8 l 1 Y0 [Y0,T6,Y0] p1=xd at *;obtain⟨x,p2⟩:=xd;simp only at hT N4 hle wt;have hq:=hle.1;have hx:Dn [N0,T.list,N0] (x) .C0 _:=hT;have g9:(x).A0<=900:=oO;have V7:(x).V1 [Y0,T6,Y0]=(Y0,0):=hle.2;refine⟨U0 2 0 Y0 [U0 2 0 T6 [U0 2 0 Y0 [x]]],p2,oO,QJ hx g9 V7,fun b=>?_⟩;have wx:=wx b;have wt:=wt b;have Fu:cU 94 [] T6.dv:=LS;have Ax:=qW 5 [vT 0];simp only[G4,O5]at Ax;have HR:=mX 0;have pZ:=P5 (nT 5 [vT 0]);have Q7:=O3 (nT 5 [vT 0]);have HF:=P5 (vT 0);have HI:=O3 (vT 0);have kU:=eF Y0 (x);have gO:=eF T6 (U0 2 0 Y0 [x]);have Hv:=eF Y0 (U0 2 0 T6 [U0 2 0 Y0 [x]]);have B6:=P5 (U0 2 0 Y0 [U0 2 0 T6 [U0 2 0 Y0 [x]]]);have n8:=O3 (U0 2 0 Y0 [U0 2 0 T6 [U0 2 0 Y0 [x]]]);have T4:=P5 (U0 2 0 T6 [U0 2 0 Y0 [x]])
  have eC:=O3 (U0 2 0 T6 [U0 2 0 Y0 [x]]);have s4:=P5 (U0 2 0 Y0 [x]);have bS:=O3 (U0 2 0 Y0 [x]);have X9:=P5 (x);have oJ:=O3 (x);clear hx g9 V7;simp only[G4,O5]at wt;generalize U0 2 0 Y0 [U0 2 0 T6 [U0 2 0 Y0 [x]]]=r0 at *;generalize U0 2 0 T6 [U0 2 0 Y0 [x]]=r1 at *;generalize U0 2 0 Y0 [x]=r2 at *;generalize nT 5 [vT 0]=z0 at *;generalize vT 0=z1 at *;generalize Y0=y at *;generalize T6=yl at *;refine A3 bu0 fun X zX=>?_;refine N2 ?_;refine N1 (j2 @eY @cR) (M0 Au) ?_;refine N2 ?_;have J2:=j8 @B6 @n8 @T4 @eC @s4 @bS @X9 (j8 @oJ @eY @cR @Og @OG @pZ @Q7 (j2 @HF @HI));refine N1 J2 (P3 HR Ax) ?_;refine N2 ?_;refine N1 H0 (M0 wx) ?_;refine U1 (j3 @c0 @c1 @c2) ?_;refine N1 J2 (P3 Fu wt) ?_;refine N2 ?_;refine N1 J2 (cQ Fu kU gO Hv) ?_;refine N2 ?_;exact s7 [(b,R5 l p2)] @n8
 have hx:Dn [N0,T.list,N0] (nT 5 [vT 0]) .C0 _:=.succ (.var .zero);have g9:(nT 5 [vT 0]).A0<=900:=dD;have V7:(nT 5 [vT 0]).V1 [Y0,T6,Y0]=(Y0,0):=IP (vA (i:=0) dD);refine⟨U0 2 0 Y0 [U0 2 0 T6 [U0 2 0 Y0 [nT 5 [vT 0]]]],p1,oO,QJ hx g9 V7,fun b=>?_⟩;have wx:=wx b;have Fu:cU 94 [] T6.dv:=LS;have Ax:=qW 5 [vT 0];simp only[G4,O5]at Ax;have HR:=mX 0;have pZ:=P5 (nT 5 [vT 0]);have Q7:=O3 (nT 5 [vT 0]);have HF:=P5 (vT 0);have HI:=O3 (vT 0);have kU:=eF Y0 (nT 5 [vT 0]);have gO:=eF T6 (U0 2 0 Y0 [nT 5 [vT 0]]);have Hv:=eF Y0 (U0 2 0 T6 [U0 2 0 Y0 [nT 5 [vT 0]]]);have B6:=P5 (U0 2 0 Y0 [U0 2 0 T6 [U0 2 0 Y0 [nT 5 [vT 0]]]]);have n8:=O3 (U0 2 0 Y0 [U0 2 0 T6 [U0 2 0 Y0 [nT 5 [vT 0]]]]);have T4:=P5 (U0 2 0 T6 [U0 2 0 Y0 [nT 5 [vT 0]]]);have eC:=O3 (U0 2 0 T6 [U0 2 0 Y0 [nT 5 [vT 0]]]);have s4:=P5 (U0 2 0 Y0 [nT 5 [vT 0]]);have bS:=O3 (U0 2 0 Y0 [nT 5 [vT 0]]);have X9:=P5 (nT 5 [vT 0]);have oJ:=O3 (nT 5 [vT 0]);clear hx g9 V7;generalize U0 2 0 Y0 [U0 2 0 T6 [U0 2 0 Y0 [nT 5 [vT 0]]]]=r0 at *
 generalize U0 2 0 T6 [U0 2 0 Y0 [nT 5 [vT 0]]]=r1 at *;generalize U0 2 0 Y0 [nT 5 [vT 0]]=r2 at *;generalize nT 5 [vT 0]=r3 at *;generalize nT 5 [vT 0]=z0 at *;generalize vT 0=z1 at *;generalize Y0=y at *;generalize T6=yl at *;refine A3 bu0 fun X zX=>?_;refine N2 ?_;refine N1 (j2 @eY @cR) (M0 Au) ?_;refine N2 ?_;have J3:=j8 @B6 @n8 @T4 @eC @s4 @bS @X9 (j8 @oJ @eY @cR @Og @OG @pZ @Q7 (j2 @HF @HI));refine N1 J3 (P3 HR Ax) ?_;refine N2 ?_;refine N1 H0 (M0 wx) ?_;refine U1 (j3 @c0 @c1 @c2) ?_;refine N1 J3 (cQ Fu kU gO Hv) ?_;refine N2 ?_;exact s7 [(b,R5 l p1)] @n8
def pl0{B:Q0 []->N0.V}{G:Q0 []->(y8 .C0 (.fn .C0 .C0)).V}(hb:Dn [] b .C0 B)(hg:Dn [] g (.fn .C0 (.fn .C0 .C0)) G)(cb:b.A0<=1000)(cg:g.A0<=1000):
  ∃(f':Fm) (p':Pf) (e:Int),s6 e/\(e=0->f' = EE b g/\p' = Ex b g/\(EE b g).chk=0/\(Ex b g).chk=0)/\cU 18 [b.dv,g.dv] (.H1 [f'.dv,p'.dv,j0 e]):=by
 obtain⟨Ay,a0,-,kC⟩:=Bl hb oO (L0 1 []) rfl;obtain⟨AF,a1,-,nM⟩:=Bl hg oO (L0 4 [L0 1 [],pN]) rfl;obtain⟨ps,Zv,ZW⟩:=fh0 hb hg cb cg;obtain⟨f',p',e',⟨r1,-⟩,r2,wc⟩:=MD (sm0 hb hg) oO ps oO;obtain⟨F0,d0⟩:=zM hb hg (Γ:=[N0,N0]) (x:=vT 0) (.var .zero);obtain⟨F1,d1⟩:=zM hb hg (Γ:=[N0]) (x:=nT 4 []) .zero;obtain⟨F3,d3⟩:=zM hb hg (Γ:=[N0,N0,N0]) (x:=nT 5 [vT 1]) (.succ (.var (.succ .zero)));have dr:Dn [N0,N0,N0] (rB g) .C0 _:=.app (.app (F7 hg _) (.var (.succ .zero))) (.var .zero);have k0:(H6 6 b g (vT 0)).A0<=100000:=by rw[jQ];show 1+(_+(_+1))<=_;omega
 have k1:(H6 6 b g (nT 4 [])).A0<=100000:=by rw[jQ];show 1+(_+(_+1))<=_;omega
 have k3:(H6 6 b g (nT 5 [vT 1])).A0<=100000:=by rw[jQ];show 1+(_+(_+2))<=_;omega
 have kr:(rB g).A0<=100000:=by rw[Vw];omega
 have x0:=nY d0 (by simp only[B4,fC];omega);have x1:=nY d1 (by simp only[B4,fC];omega);have x3:=nY d3 (by simp only[B4,fC];omega);have xr:=nY dr (by simp only[B4,fC];omega);obtain⟨jF,e_yv0⟩:∃x:Ty,x=L0 1 []:=⟨_,rfl⟩;have w_yv0:=sM;rw[<- e_yv0]at w_yv0;obtain⟨yA,e_yv1⟩:∃x:Ty,x=pN:=⟨_,rfl⟩;have w_yv1:=IG;rw[<- e_yv1]at w_yv1;obtain⟨KD,e_yv2⟩:∃x:Ty,x=L0 4 [jF,yA]:=⟨_,rfl⟩;have w_yv2:=Mu jF yA;rw[<- e_yv2]at w_yv2;obtain⟨kB,e_tv3⟩:∃x:Tm,x=vT 1:=⟨_,rfl⟩;have w_tv3:=sX 1;rw[<- e_tv3]at w_tv3;obtain⟨rT,e_tv4⟩:∃x:Tm,x=vT 0:=⟨_,rfl⟩;have w_tv4:=sX 0;rw[<- e_tv4]at w_tv4;obtain⟨nJ,e_tv5⟩:∃x:Tm,x=fQ g [kB,rT]:=⟨_,rfl⟩;have w_tv5:=qV g [kB,rT] sS;simp only[G4,O5]at w_tv5;rw[<- e_tv5]at w_tv5;obtain⟨yK,e_tv6⟩:∃x:Tm,x=Tm.V0 nJ 0 1:=⟨_,rfl⟩;have w_tv6:=Sh nJ (by rw[e_tv5,e_tv4,e_tv3];exact xr) (by rw[e_tv5,e_tv4,e_tv3];exact cH kr dD);rw[<- e_tv6]at w_tv6;obtain⟨iG,e_tv7⟩:∃x:Tm,x=vT 2:=⟨_,rfl⟩;have w_tv7:=sX 2;rw[<- e_tv7]at w_tv7;obtain⟨yJ,e_tv8⟩:∃x:Tm,x=fQ g [iG,rT]:=⟨_,rfl⟩;have w_tv8:=qV g [iG,rT] sS
 simp only[G4,O5]at w_tv8;rw[<- e_tv8]at w_tv8;obtain⟨fv9,e_fv9⟩:∃x:Fm,x=I3 yK yJ:=⟨_,rfl⟩;have w_fv9:=CM yK yJ;rw[<- e_fv9]at w_fv9;obtain⟨Dz,e_pv10⟩:∃x:Pf,x=fM 0:=⟨_,rfl⟩;have w_pv10:=MC 0;rw[<- e_pv10]at w_pv10;obtain⟨id0,e_pv11⟩:∃x:Pf,x=c9 nJ:=⟨_,rfl⟩;have w_pv11:=Cz nJ;rw[<- e_pv11]at w_pv11;obtain⟨NX,e_pv12⟩:∃x:Pf,x=dQ fv9 Dz id0:=⟨_,rfl⟩;have w_pv12:=IR fv9 Dz id0;rw[<- e_pv12]at w_pv12;obtain⟨Dq,e_tv13⟩:∃x:Tm,x=nT 5 [kB]:=⟨_,rfl⟩;have w_tv13:=qW 5 [kB];simp only[G4,O5]at w_tv13;rw[<- e_tv13]at w_tv13;obtain⟨Hp,e_tv14⟩:∃x:Tm,x=U0 6 0 Y0 [b,g,Dq]:=⟨_,rfl⟩;have w_tv14:=Jb 6 b g Dq;rw[<- e_tv14]at w_tv14;obtain⟨Pd,e_fv15⟩:∃x:Fm,x=X4 Hp:=⟨_,rfl⟩;have w_fv15:=wY Hp (by rw[e_tv14,e_tv13,e_tv3];exact x3) (by rw[e_tv14,e_tv13,e_tv3];exact cH k3 dD);rw[<- e_fv15]at w_fv15;obtain⟨Fe,e_pv16⟩:∃x:Pf,x=d9 Pd nJ NX:=⟨_,rfl⟩;have w_pv16:=CD Pd nJ NX;rw[<- e_pv16]at w_pv16;obtain⟨Fz,e_pv17⟩:∃x:Pf,x=dP Dz Fe:=⟨_,rfl⟩;have w_pv17:=Jp Dz Fe;rw[<- e_pv17]at w_pv17;obtain⟨Ov,e_tv18⟩:∃x:Tm,x=nT 4 []:=⟨_,rfl⟩;have w_tv18:=qW 4 [];simp only[G4,O5]at w_tv18;rw[<- e_tv18]at w_tv18
 obtain⟨OC,e_tv19⟩:∃x:Tm,x=U0 6 0 Y0 [b,g,Ov]:=⟨_,rfl⟩;have w_tv19:=Jb 6 b g Ov;rw[<- e_tv19]at w_tv19;obtain⟨h20,e_fv20⟩:∃x:Fm,x=X4 OC:=⟨_,rfl⟩;have w_fv20:=wY OC (by rw[e_tv19,e_tv18];exact x1) (by rw[e_tv19,e_tv18];exact cH k1 dD);rw[<- e_fv20]at w_fv20;obtain⟨Oy,e_pv21⟩:∃x:Pf,x=c9 b:=⟨_,rfl⟩;have w_pv21:=Cz b;rw[<- e_pv21]at w_pv21;obtain⟨hZ0,e_pv22⟩:∃x:Pf,x=d9 h20 b Oy:=⟨_,rfl⟩;have w_pv22:=CD h20 b Oy;rw[<- e_pv22]at w_pv22;obtain⟨Oa,e_tv23⟩:∃x:Tm,x=U0 6 0 Y0 [b,g,rT]:=⟨_,rfl⟩;have w_tv23:=Jb 6 b g rT;rw[<- e_tv23]at w_tv23;obtain⟨Ua,e_fv24⟩:∃x:Fm,x=X4 Oa:=⟨_,rfl⟩;have w_fv24:=wY Oa (by rw[e_tv23,e_tv4];exact x0) (by rw[e_tv23,e_tv4];exact cH k0 dD);rw[<- e_fv24]at w_fv24;obtain⟨Gn0,e_fv25⟩:∃x:Fm,x=qF 4 jF Ua:=⟨_,rfl⟩;have w_fv25:=Jo jF Ua;rw[<- e_fv25]at w_fv25;obtain⟨g90,e_pv26⟩:∃x:Pf,x=fN 16 Ua rT hZ0 Fz:=⟨_,rfl⟩;have w_pv26:=Xf 16 Ua rT hZ0 Fz;rw[<- e_pv26]at w_pv26;obtain⟨TF,e_pv27⟩:∃x:Pf,x=bO jF g90:=⟨_,rfl⟩;have w_pv27:=Mg jF g90;rw[<- e_pv27]at w_pv27;have Fy:L0 1 []=jF:=by rw[e_yv0]
 rw[Fy]at kC;have HE:L0 4 [L0 1 [],pN]=KD:=by rw[e_yv2,e_yv1,e_yv0]
 rw[HE]at nM;have g1:EE b g=Gn0:=by rw[e_fv25,e_fv24,e_tv23,e_tv4,e_yv0];rfl
 have g2:Ex b g=TF:=by rw[e_pv27,e_pv26,e_fv24,e_tv23,e_pv22,e_pv21,e_fv20,e_tv19,e_tv18,e_pv17,e_pv16,e_fv15,e_tv14,e_tv13,e_pv12,e_pv11,e_pv10,e_fv9,e_tv8,e_tv7,e_tv6,e_tv5,e_tv4,e_tv3,e_yv0];rfl
 rw[g1,g2]at wc r2 ⊢;by_cases q_ea0:Ay=0;rotate_left
 ·refine⟨m4,N9,Ay,a0,fun h=>absurd h q_ea0,?_⟩;refine H2 km0 ?_;intro X hP G0 hf X0 hn hR K1 G1;refine V3 @q_ea0 (P3 w_yv0 kC) ?_;refine N3 ?_;simp[go_sem,hP,G0,hn,m4,N9] <;> (try omega);all_goals exact f9
 by_cases q_ea1:AF=0;rotate_left
 ·refine⟨m4,N9,AF,a1,fun h=>absurd h q_ea1,?_⟩;refine H2 km0 ?_;intro X hP G0 hf X0 hn hR K1 G1;refine V3 (j2 @q_ea0 @q_ea1) (nD w_yv0 kC w_yv0 w_yv1 w_yv2 nM) ?_;refine N3 ?_;simp[go_sem,hP,G0,hn,m4,N9] <;> (try omega);all_goals exact f9
 refine⟨f',p',e',r1,r2,?_⟩;refine H2 km0 ?_;intro X hP G0 hf X0 hn hR K1 G1;refine V3 (j2 @q_ea0 @q_ea1) (cC w_yv0 kC w_yv0 w_yv1 w_yv2 nM w_tv3 w_tv4 (cC w_tv5 w_tv6 w_tv7 w_tv4 w_tv8 w_fv9 w_pv10 w_pv11 (Te w_pv12 w_pv10 w_tv3 w_tv13 w_tv14 w_fv15 w_pv16 w_pv17))) ?_;exact O1 H0 (cC w_tv18 w_tv19 w_fv20 w_pv21 w_pv22 w_tv4 w_tv23 w_fv24 (vM w_yv0 w_fv25 w_yv0 w_tv4 w_pv26 w_pv27 wc))
def pm0{B:Q0 []->N0.V}{G:Q0 []->(y8 .C0 (.fn .list (.fn .C0 .C0))).V}(hb:Dn [] b .C0 B)(hg:Dn [] g (.fn .C0 (.fn .list (.fn .C0 .C0))) G)(cb:b.A0<=1000)(cg:g.A0<=1000):
  ∃(f':Fm) (p':Pf) (e:Int),s6 e/\(e=0->f' = EG b g/\p' = Ez b g/\(EG b g).chk=0/\(Ez b g).chk=0)/\cU 21 [b.dv,g.dv] (.H1 [f'.dv,p'.dv,j0 e]):=by
 obtain⟨Ay,a0,-,kC⟩:=Bl hb oO (L0 1 []) rfl;obtain⟨AF,a1,-,nM⟩:=Bl hg oO (L0 4 [L0 1 [],L0 4 [L0 2 [],pN]]) rfl;obtain⟨ps,Zv,ZW⟩:=fl0 hb hg cb cg;obtain⟨f',p',e',⟨r1,-⟩,r2,wc⟩:=MD (sq0 hb hg) oO ps oO;obtain⟨F0,d0⟩:=wR hb hg (Γ:=[T.list,T.list]) (x:=vT 0) (.var .zero);obtain⟨F1,d1⟩:=wR hb hg (Γ:=[T.list]) (x:=nT 7 []) .nil;obtain⟨F3,d3⟩:=wR hb hg (Γ:=[N0,T.list,N0,T.list]) (x:=nT 8 [vT 2,vT 1]) (.cons (.var (.succ (.succ .zero))) (.var (.succ .zero)));have dr:Dn [N0,T.list,N0,T.list] (rC g) .C0 _:=.app (.app (.app (F7 hg _) (.var (.succ (.succ .zero)))) (.var (.succ .zero))) (.var .zero);have k0:(H6 9 b g (vT 0)).A0<=100000:=by rw[jQ];show 1+(_+(_+1))<=_;omega
 have k1:(H6 9 b g (nT 7 [])).A0<=100000:=by rw[jQ];show 1+(_+(_+1))<=_;omega
 have k3:(H6 9 b g (nT 8 [vT 2,vT 1])).A0<=100000:=by rw[jQ];show 1+(_+(_+3))<=_;omega
 have kr:(rC g).A0<=100000:=by rw[Vi];omega
 have x0:=nY d0 (by simp only[B4,fC];omega);have x1:=nY d1 (by simp only[B4,fC];omega);have x3:=nY d3 (by simp only[B4,fC];omega);have xr:=nY dr (by simp only[B4,fC];omega);obtain⟨jF,e_yv0⟩:∃x:Ty,x=L0 1 []:=⟨_,rfl⟩;have w_yv0:=sM;rw[<- e_yv0]at w_yv0;obtain⟨yA,e_yv1⟩:∃x:Ty,x=L0 2 []:=⟨_,rfl⟩;have w_yv1:=LS;rw[<- e_yv1]at w_yv1;obtain⟨KD,e_yv2⟩:∃x:Ty,x=pN:=⟨_,rfl⟩;have w_yv2:=IG;rw[<- e_yv2]at w_yv2;obtain⟨yv3,e_yv3⟩:∃x:Ty,x=L0 4 [yA,KD]:=⟨_,rfl⟩;have w_yv3:=Mu yA KD;rw[<- e_yv3]at w_yv3;obtain⟨yv4,e_yv4⟩:∃x:Ty,x=L0 4 [jF,yv3]:=⟨_,rfl⟩;have w_yv4:=Mu jF yv3;rw[<- e_yv4]at w_yv4;obtain⟨nJ,e_tv5⟩:∃x:Tm,x=vT 2:=⟨_,rfl⟩;have w_tv5:=sX 2;rw[<- e_tv5]at w_tv5;obtain⟨yK,e_tv6⟩:∃x:Tm,x=vT 1:=⟨_,rfl⟩;have w_tv6:=sX 1;rw[<- e_tv6]at w_tv6;obtain⟨iG,e_tv7⟩:∃x:Tm,x=vT 0:=⟨_,rfl⟩;have w_tv7:=sX 0;rw[<- e_tv7]at w_tv7;obtain⟨yJ,e_tv8⟩:∃x:Tm,x=fQ g [nJ,yK,iG]:=⟨_,rfl⟩;have w_tv8:=qV g [nJ,yK,iG] sS;simp only[G4,O5]at w_tv8;rw[<- e_tv8]at w_tv8;obtain⟨OW,e_tv9⟩:∃x:Tm,x=Tm.V0 yJ 0 1:=⟨_,rfl⟩
 have w_tv9:=Sh yJ (by rw[e_tv8,e_tv7,e_tv6,e_tv5];exact xr) (by rw[e_tv8,e_tv7,e_tv6,e_tv5];exact cH kr dD);rw[<- e_tv9]at w_tv9;obtain⟨Oj,e_tv10⟩:∃x:Tm,x=vT 3:=⟨_,rfl⟩;have w_tv10:=sX 3;rw[<- e_tv10]at w_tv10;obtain⟨AI,e_tv11⟩:∃x:Tm,x=fQ g [Oj,nJ,iG]:=⟨_,rfl⟩;have w_tv11:=qV g [Oj,nJ,iG] sS;simp only[G4,O5]at w_tv11;rw[<- e_tv11]at w_tv11;obtain⟨g40,e_fv12⟩:∃x:Fm,x=I3 OW AI:=⟨_,rfl⟩;have w_fv12:=CM OW AI;rw[<- e_fv12]at w_fv12;obtain⟨TY,e_pv13⟩:∃x:Pf,x=fM 0:=⟨_,rfl⟩;have w_pv13:=MC 0;rw[<- e_pv13]at w_pv13;obtain⟨NL,e_pv14⟩:∃x:Pf,x=c9 yJ:=⟨_,rfl⟩;have w_pv14:=Cz yJ;rw[<- e_pv14]at w_pv14;obtain⟨Oc,e_pv15⟩:∃x:Pf,x=dQ g40 TY NL:=⟨_,rfl⟩;have w_pv15:=IR g40 TY NL;rw[<- e_pv15]at w_pv15;obtain⟨g00,e_tv16⟩:∃x:Tm,x=nT 8 [nJ,yK]:=⟨_,rfl⟩;have w_tv16:=qW 8 [nJ,yK];simp only[G4,O5]at w_tv16;rw[<- e_tv16]at w_tv16;obtain⟨ip0,e_tv17⟩:∃x:Tm,x=U0 9 0 Y0 [b,g,g00]:=⟨_,rfl⟩;have w_tv17:=Jb 9 b g g00;rw[<- e_tv17]at w_tv17;obtain⟨hW0,e_fv18⟩:∃x:Fm,x=X4 ip0:=⟨_,rfl⟩;have w_fv18:=wY ip0 (by rw[e_tv17,e_tv16,e_tv6,e_tv5];exact x3) (by rw[e_tv17,e_tv16,e_tv6,e_tv5];exact cH k3 dD);rw[<- e_fv18]at w_fv18
 obtain⟨hM0,e_pv19⟩:∃x:Pf,x=d9 hW0 yJ Oc:=⟨_,rfl⟩;have w_pv19:=CD hW0 yJ Oc;rw[<- e_pv19]at w_pv19;obtain⟨ON,e_pv20⟩:∃x:Pf,x=dP TY hM0:=⟨_,rfl⟩;have w_pv20:=Jp TY hM0;rw[<- e_pv20]at w_pv20;obtain⟨hI0,e_tv21⟩:∃x:Tm,x=nT 7 []:=⟨_,rfl⟩;have w_tv21:=qW 7 [];simp only[G4,O5]at w_tv21;rw[<- e_tv21]at w_tv21;obtain⟨Oe,e_tv22⟩:∃x:Tm,x=U0 9 0 Y0 [b,g,hI0]:=⟨_,rfl⟩;have w_tv22:=Jb 9 b g hI0;rw[<- e_tv22]at w_tv22;obtain⟨ik0,e_fv23⟩:∃x:Fm,x=X4 Oe:=⟨_,rfl⟩;have w_fv23:=wY Oe (by rw[e_tv22,e_tv21];exact x1) (by rw[e_tv22,e_tv21];exact cH k1 dD);rw[<- e_fv23]at w_fv23;obtain⟨hR0,e_pv24⟩:∃x:Pf,x=c9 b:=⟨_,rfl⟩;have w_pv24:=Cz b;rw[<- e_pv24]at w_pv24;obtain⟨hh0,e_pv25⟩:∃x:Pf,x=d9 ik0 b hR0:=⟨_,rfl⟩;have w_pv25:=CD ik0 b hR0;rw[<- e_pv25]at w_pv25;obtain⟨hF0,e_tv26⟩:∃x:Tm,x=U0 9 0 Y0 [b,g,iG]:=⟨_,rfl⟩;have w_tv26:=Jb 9 b g iG;rw[<- e_tv26]at w_tv26;obtain⟨To,e_fv27⟩:∃x:Fm,x=X4 hF0:=⟨_,rfl⟩;have w_fv27:=wY hF0 (by rw[e_tv26,e_tv7];exact x0) (by rw[e_tv26,e_tv7];exact cH k0 dD);rw[<- e_fv27]at w_fv27;obtain⟨F50,e_fv28⟩:∃x:Fm,x=qF 4 yA To:=⟨_,rfl⟩;have w_fv28:=Jo yA To;rw[<- e_fv28]at w_fv28
 obtain⟨hK0,e_pv29⟩:∃x:Pf,x=fN 17 To iG hh0 ON:=⟨_,rfl⟩;have w_pv29:=Xf 17 To iG hh0 ON;rw[<- e_pv29]at w_pv29;obtain⟨FW0,e_pv30⟩:∃x:Pf,x=bO yA hK0:=⟨_,rfl⟩;have w_pv30:=Mg yA hK0;rw[<- e_pv30]at w_pv30;have Fy:L0 1 []=jF:=by rw[e_yv0]
 rw[Fy]at kC;have HE:L0 4 [L0 1 [],L0 4 [L0 2 [],pN]]=yv4:=by rw[e_yv4,e_yv3,e_yv2,e_yv1,e_yv0]
 rw[HE]at nM;have g1:EG b g=F50:=by rw[e_fv28,e_fv27,e_tv26,e_tv7,e_yv1];rfl
 have g2:Ez b g=FW0:=by rw[e_pv30,e_pv29,e_fv27,e_tv26,e_pv25,e_pv24,e_fv23,e_tv22,e_tv21,e_pv20,e_pv19,e_fv18,e_tv17,e_tv16,e_pv15,e_pv14,e_pv13,e_fv12,e_tv11,e_tv10,e_tv9,e_tv8,e_tv7,e_tv6,e_tv5,e_yv1];rfl
 rw[g1,g2]at wc r2 ⊢;by_cases q_ea0:Ay=0;rotate_left
 ·refine⟨m4,N9,Ay,a0,fun h=>absurd h q_ea0,?_⟩;refine H2 kn0 ?_;intro X hP G0 hf X0 hn hR K1 G1;refine V3 @q_ea0 (P3 w_yv0 kC) ?_;refine N3 ?_;simp[go_sem,hP,G0,hn,m4,N9] <;> (try omega);all_goals exact f9
 by_cases q_ea1:AF=0;rotate_left
 ·refine⟨m4,N9,AF,a1,fun h=>absurd h q_ea1,?_⟩;refine H2 kn0 ?_;intro X hP G0 hf X0 hn hR K1 G1;refine V3 (j2 @q_ea0 @q_ea1) (Te w_yv0 kC w_yv0 w_yv1 w_yv2 w_yv3 w_yv4 nM) ?_;refine N3 ?_;simp[go_sem,hP,G0,hn,m4,N9] <;> (try omega);all_goals exact f9
 refine⟨f',p',e',r1,r2,?_⟩;refine H2 kn0 ?_;intro X hP G0 hf X0 hn hR K1 G1;refine V3 (j2 @q_ea0 @q_ea1) (cC w_yv0 kC w_yv0 w_yv1 w_yv2 w_yv3 w_yv4 nM (cC w_tv5 w_tv6 w_tv7 w_tv8 w_tv9 w_tv10 w_tv5 w_tv7 (T9 w_tv11 w_fv12 w_pv13 w_pv14 w_pv15))) ?_;exact O1 H0 (cC w_pv13 w_tv5 w_tv6 w_tv16 w_tv17 w_fv18 w_pv19 w_pv20 (cC w_tv21 w_tv22 w_fv23 w_pv24 w_pv25 w_tv7 w_tv26 w_fv27 (vM w_yv1 w_fv28 w_yv1 w_tv7 w_pv29 w_pv30 wc)))
def lA0{B C:Q0 []->N0.V}{G:Q0 []->(y8 .C0 (.fn .C0 .C0)).V}(hb:Dn [] b .C0 B)(hc:Dn [] c .C0 C)(hg:Dn [] g (.fn .C0 (.fn .C0 .C0)) G)(cb:b.A0<=100)(cc:c.A0<=100)(cg:g.A0<=1000):
  ∃(f':Fm) (p':Pf) (e:Int),s6 e/\(e=0->f' = EU b c g/\p' = EO b c g/\(EU b c g).chk=0/\(EO b c g).chk=0)/\cU 23 [b.dv,c.dv,g.dv] (.H1 [f'.dv,p'.dv,j0 e]):=by
 obtain⟨Ay,a0,-,kC⟩:=Bl hb oO (L0 1 []) rfl;obtain⟨AF,a1,-,nM⟩:=Bl hc oO (L0 1 []) rfl;obtain⟨ea2,a2,-,ZO⟩:=Bl hg oO (L0 4 [L0 1 [],pN]) rfl;obtain⟨ps,Zv,ZW,-⟩:=ep0 hb hc hg cb cc cg;obtain⟨f',p',e',⟨r1,-⟩,r2,wc⟩:=MD (pj0 hb hc hg) oO ps oO;obtain⟨F0,d0⟩:=nZ hb hc hg (Γ:=[N0,N0]) (x:=vT 0) (.var .zero);obtain⟨F1,d1⟩:=nZ hb hc hg (Γ:=[N0]) (x:=nT 4 []) .zero;obtain⟨F3,d3⟩:=nZ hb hc hg (Γ:=[o7,N0,N0]) (x:=nT 5 [vT 1]) (.succ (.var (.succ .zero)));obtain⟨F6,d6⟩:=nZ hb hc hg (Γ:=[o7,N0]) (x:=vT 1) (.var (.succ .zero));have k0:(A6 b c g (vT 0)).A0<=100000:=by rw[qS];show _+_+_+1+13<=_;omega
 have k1:(A6 b c g (nT 4 [])).A0<=100000:=by rw[qS];show _+_+_+1+13<=_;omega
 have k3:(A6 b c g (nT 5 [vT 1])).A0<=100000:=by rw[qS];show _+_+_+2+13<=_;omega
 have k6:(A6 b c g (vT 1)).A0<=100000:=by rw[qS];show _+_+_+1+13<=_;omega
 have k7:(U7 (A6 b c g (vT 1))).A0<=100001:=by rw[nS];omega
 have k8:(U7 (A6 b c g (vT 0))).A0<=100001:=by rw[nS];omega
 have x0:=nY d0 (by simp only[B4,fC];omega);have x1:=nY d1 (by simp only[B4,fC];omega);have x3:=nY d3 (by simp only[B4,fC];omega);have x7:(U7 (A6 b c g (vT 1))).idx 1099511627776:=nY (.fst d6) (cH (Nat.add_le_add (I5 _) k7) dD);have x8:(U7 (A6 b c g (vT 0))).idx 1099511627776:=nY (.fst d0) (cH (Nat.add_le_add (I5 _) k8) dD);obtain⟨jF,e_yv0⟩:∃x:Ty,x=L0 1 []:=⟨_,rfl⟩;have w_yv0:=sM;rw[<- e_yv0]at w_yv0;obtain⟨yA,e_yv1⟩:∃x:Ty,x=pN:=⟨_,rfl⟩;have w_yv1:=IG;rw[<- e_yv1]at w_yv1;obtain⟨KD,e_yv2⟩:∃x:Ty,x=L0 4 [jF,yA]:=⟨_,rfl⟩;have w_yv2:=Mu jF yA;rw[<- e_yv2]at w_yv2;obtain⟨kB,e_tv3⟩:∃x:Tm,x=vT 0:=⟨_,rfl⟩;have w_tv3:=sX 0;rw[<- e_tv3]at w_tv3;obtain⟨rT,e_tv4⟩:∃x:Tm,x=nT 12 [kB]:=⟨_,rfl⟩;have w_tv4:=RI kB;rw[<- e_tv4]at w_tv4;obtain⟨nJ,e_tv5⟩:∃x:Tm,x=nT 11 [kB]:=⟨_,rfl⟩;have w_tv5:=Gu kB;rw[<- e_tv5]at w_tv5;obtain⟨yK,e_tv6⟩:∃x:Tm,x=fQ g [nJ,rT]:=⟨_,rfl⟩;have w_tv6:=qV g [nJ,rT] sS;simp only[G4,O5]at w_tv6;rw[<- e_tv6]at w_tv6;obtain⟨iG,e_tv7⟩:∃x:Tm,x=nT 10 [rT,yK]:=⟨_,rfl⟩;have w_tv7:=WB rT yK;rw[<- e_tv7]at w_tv7
 obtain⟨Fh,e_pv8⟩:∃x:Pf,x=fM 0:=⟨_,rfl⟩;have w_pv8:=MC 0;rw[<- e_pv8]at w_pv8;obtain⟨TU,e_pv9⟩:∃x:Pf,x=Im 4 0 (L0 0 []) [] [] [Fh]:=⟨_,rfl⟩;have w_pv9:=QI 4 [Fh];simp only[G4,O5]at w_pv9;rw[<- e_pv9]at w_pv9;obtain⟨Dz,e_pv10⟩:∃x:Pf,x=Im 5 0 (L0 0 []) [] [] [Fh]:=⟨_,rfl⟩;have w_pv10:=QI 5 [Fh];simp only[G4,O5]at w_pv10;rw[<- e_pv10]at w_pv10;obtain⟨AI,e_tv11⟩:∃x:Tm,x=vT 1:=⟨_,rfl⟩;have w_tv11:=sX 1;rw[<- e_tv11]at w_tv11;obtain⟨gZ0,e_tv12⟩:∃x:Tm,x=nT 11 [AI]:=⟨_,rfl⟩;have w_tv12:=Gu AI;rw[<- e_tv12]at w_tv12;obtain⟨Dq,e_tv13⟩:∃x:Tm,x=nT 12 [AI]:=⟨_,rfl⟩;have w_tv13:=RI AI;rw[<- e_tv13]at w_tv13;obtain⟨Hp,e_tv14⟩:∃x:Tm,x=fQ g [gZ0,Dq]:=⟨_,rfl⟩;have w_tv14:=qV g [gZ0,Dq] sS;simp only[G4,O5]at w_tv14;rw[<- e_tv14]at w_tv14;obtain⟨Pd,e_fv15⟩:∃x:Fm,x=I3 Dq kB:=⟨_,rfl⟩;have w_fv15:=CM Dq kB;rw[<- e_fv15]at w_fv15;obtain⟨Fe,e_pv16⟩:∃x:Pf,x=c9 rT:=⟨_,rfl⟩;have w_pv16:=Cz rT;rw[<- e_pv16]at w_pv16;obtain⟨Fz,e_pv17⟩:∃x:Pf,x=dQ Pd Dz Fe:=⟨_,rfl⟩;have w_pv17:=IR Pd Dz Fe;rw[<- e_pv17]at w_pv17;obtain⟨Ov,e_tv18⟩:∃x:Tm,x=fQ g [kB,Dq]:=⟨_,rfl⟩
 have w_tv18:=qV g [kB,Dq] sS;simp only[G4,O5]at w_tv18;rw[<- e_tv18]at w_tv18;obtain⟨iy0,e_fv19⟩:∃x:Fm,x=I3 Hp Ov:=⟨_,rfl⟩;have w_fv19:=CM Hp Ov;rw[<- e_fv19]at w_fv19;obtain⟨ON,e_pv20⟩:∃x:Pf,x=c9 yK:=⟨_,rfl⟩;have w_pv20:=Cz yK;rw[<- e_pv20]at w_pv20;obtain⟨Oy,e_pv21⟩:∃x:Pf,x=dQ iy0 TU ON:=⟨_,rfl⟩;have w_pv21:=IR iy0 TU ON;rw[<- e_pv21]at w_pv21;obtain⟨Oe,e_tv22⟩:∃x:Tm,x=vT 2:=⟨_,rfl⟩;have w_tv22:=sX 2;rw[<- e_tv22]at w_tv22;obtain⟨Oa,e_tv23⟩:∃x:Tm,x=GB b c iG Oe:=⟨_,rfl⟩;have w_tv23:=LK b c iG Oe;rw[<- e_tv23]at w_tv23;obtain⟨hO0,e_tv24⟩:∃x:Tm,x=nT 11 [Oa]:=⟨_,rfl⟩;have w_tv24:=Gu Oa;rw[<- e_tv24]at w_tv24;obtain⟨ha0,e_tv25⟩:∃x:Tm,x=fQ g [hO0,kB]:=⟨_,rfl⟩;have w_tv25:=qV g [hO0,kB] sS;simp only[G4,O5]at w_tv25;rw[<- e_tv25]at w_tv25;obtain⟨hQ0,e_fv26⟩:∃x:Fm,x=I3 Hp ha0:=⟨_,rfl⟩;have w_fv26:=CM Hp ha0;rw[<- e_fv26]at w_fv26;obtain⟨TF,e_pv27⟩:∃x:Pf,x=dQ hQ0 Dz Oy:=⟨_,rfl⟩;have w_pv27:=IR hQ0 Dz Oy;rw[<- e_pv27]at w_pv27;obtain⟨g20,e_tv28⟩:∃x:Tm,x=nT 5 [AI]:=⟨_,rfl⟩;have w_tv28:=qW 5 [AI];simp only[G4,O5]at w_tv28;rw[<- e_tv28]at w_tv28
 obtain⟨h70,e_tv29⟩:∃x:Tm,x=GB b c iG g20:=⟨_,rfl⟩;have w_tv29:=LK b c iG g20;rw[<- e_tv29]at w_tv29;obtain⟨il0,e_fv30⟩:∃x:Fm,x=fP h70:=⟨_,rfl⟩;have w_fv30:=Xj h70 (by rw[e_tv29,e_tv28,e_tv11,e_tv7,e_tv6,e_tv5,e_tv4,e_tv3];exact x3) (by rw[e_tv29,e_tv28,e_tv11,e_tv7,e_tv6,e_tv5,e_tv4,e_tv3];exact cH k3 dD);rw[<- e_fv30]at w_fv30;obtain⟨hj0,e_pv31⟩:∃x:Pf,x=Im 3 0 (L0 0 []) [] [] [Fz,TF]:=⟨_,rfl⟩;have w_pv31:=QI 3 [Fz,TF];simp only[G4,O5]at w_pv31;rw[<- e_pv31]at w_pv31;obtain⟨in0,e_pv32⟩:∃x:Pf,x=d9 il0 iG hj0:=⟨_,rfl⟩;have w_pv32:=CD il0 iG hj0;rw[<- e_pv32]at w_pv32;obtain⟨g10,e_pv33⟩:∃x:Pf,x=dP Fh in0:=⟨_,rfl⟩;have w_pv33:=Jp Fh in0;rw[<- e_pv33]at w_pv33;obtain⟨hL0,e_tv34⟩:∃x:Tm,x=nT 4 []:=⟨_,rfl⟩;have w_tv34:=qW 4 [];simp only[G4,O5]at w_tv34;rw[<- e_tv34]at w_tv34;obtain⟨he0,e_tv35⟩:∃x:Tm,x=GB b c iG hL0:=⟨_,rfl⟩;have w_tv35:=LK b c iG hL0;rw[<- e_tv35]at w_tv35;obtain⟨iq0,e_fv36⟩:∃x:Fm,x=fP he0:=⟨_,rfl⟩;have w_fv36:=Xj he0 (by rw[e_tv35,e_tv34,e_tv7,e_tv6,e_tv5,e_tv4,e_tv3];exact x1) (by rw[e_tv35,e_tv34,e_tv7,e_tv6,e_tv5,e_tv4,e_tv3];exact cH k1 dD);rw[<- e_fv36]at w_fv36
 obtain⟨ie0,e_tv37⟩:∃x:Tm,x=nT 10 [b,c]:=⟨_,rfl⟩;have w_tv37:=WB b c;rw[<- e_tv37]at w_tv37;obtain⟨is0,e_pv38⟩:∃x:Pf,x=c9 b:=⟨_,rfl⟩;have w_pv38:=Cz b;rw[<- e_pv38]at w_pv38;obtain⟨ia0,e_pv39⟩:∃x:Pf,x=c9 c:=⟨_,rfl⟩;have w_pv39:=Cz c;rw[<- e_pv39]at w_pv39;obtain⟨ic0,e_pv40⟩:∃x:Pf,x=Im 3 0 (L0 0 []) [] [] [is0,ia0]:=⟨_,rfl⟩;have w_pv40:=QI 3 [is0,ia0];simp only[G4,O5]at w_pv40;rw[<- e_pv40]at w_pv40;obtain⟨g50,e_pv41⟩:∃x:Pf,x=d9 iq0 ie0 ic0:=⟨_,rfl⟩;have w_pv41:=CD iq0 ie0 ic0;rw[<- e_pv41]at w_pv41;obtain⟨Tu,e_tv42⟩:∃x:Tm,x=GB b c iG kB:=⟨_,rfl⟩;have w_tv42:=LK b c iG kB;rw[<- e_tv42]at w_tv42;obtain⟨hJ0,e_fv43⟩:∃x:Fm,x=fP Tu:=⟨_,rfl⟩;have w_fv43:=Xj Tu (by rw[e_tv42,e_tv7,e_tv6,e_tv5,e_tv4,e_tv3];exact x0) (by rw[e_tv42,e_tv7,e_tv6,e_tv5,e_tv4,e_tv3];exact cH k0 dD);rw[<- e_fv43]at w_fv43;obtain⟨g60,e_pv44⟩:∃x:Pf,x=fN 16 hJ0 kB g50 g10:=⟨_,rfl⟩;have w_pv44:=Xf 16 hJ0 kB g50 g10;rw[<- e_pv44]at w_pv44;obtain⟨hT0,e_tv45⟩:∃x:Tm,x=GB b c iG AI:=⟨_,rfl⟩;have w_tv45:=LK b c iG AI;rw[<- e_tv45]at w_tv45;obtain⟨g80,e_tv46⟩:∃x:Tm,x=nT 11 [hT0]:=⟨_,rfl⟩;have w_tv46:=Gu hT0;rw[<- e_tv46]at w_tv46
 obtain⟨hG0,e_fv47⟩:∃x:Fm,x=X4 g80:=⟨_,rfl⟩;have w_fv47:=wY g80 (by rw[e_tv46,e_tv45,e_tv11,e_tv7,e_tv6,e_tv5,e_tv4,e_tv3];exact x7) (by rw[e_tv46,e_tv45,e_tv11,e_tv7,e_tv6,e_tv5,e_tv4,e_tv3];exact cH k7 dD);rw[<- e_fv47]at w_fv47;obtain⟨ih0,e_pv48⟩:∃x:Pf,x=d9 hG0 nJ TU:=⟨_,rfl⟩;have w_pv48:=CD hG0 nJ TU;rw[<- e_pv48]at w_pv48;obtain⟨ib0,e_pv49⟩:∃x:Pf,x=dP g60 ih0:=⟨_,rfl⟩;have w_pv49:=Jp g60 ih0;rw[<- e_pv49]at w_pv49;obtain⟨FQ0,e_pv50⟩:∃x:Pf,x=bO jF ib0:=⟨_,rfl⟩;have w_pv50:=Mg jF ib0;rw[<- e_pv50]at w_pv50;obtain⟨g30,e_tv51⟩:∃x:Tm,x=nT 11 [Tu]:=⟨_,rfl⟩;have w_tv51:=Gu Tu;rw[<- e_tv51]at w_tv51;obtain⟨g70,e_fv52⟩:∃x:Fm,x=X4 g30:=⟨_,rfl⟩;have w_fv52:=wY g30 (by rw[e_tv51,e_tv42,e_tv7,e_tv6,e_tv5,e_tv4,e_tv3];exact x8) (by rw[e_tv51,e_tv42,e_tv7,e_tv6,e_tv5,e_tv4,e_tv3];exact cH k8 dD);rw[<- e_fv52]at w_fv52;obtain⟨Gh0,e_fv53⟩:∃x:Fm,x=qF 4 jF g70:=⟨_,rfl⟩;have w_fv53:=Jo jF g70;rw[<- e_fv53]at w_fv53;have Fy:L0 1 []=jF:=by rw[e_yv0]
 rw[Fy]at kC;have HE:L0 1 []=jF:=by rw[e_yv0]
 rw[HE]at nM;have Pg:L0 4 [L0 1 [],pN]=KD:=by rw[e_yv2,e_yv1,e_yv0]
 rw[Pg]at ZO;have g1:EU b c g=Gh0:=by rw[e_fv53,e_fv52,e_tv51,e_tv42,e_tv7,e_tv6,e_tv5,e_tv4,e_tv3,e_yv0];rfl
 have g2:EO b c g=FQ0:=by rw[e_pv50,e_pv49,e_pv48,e_fv47,e_tv46,e_tv45,e_pv44,e_fv43,e_tv42,e_pv41,e_pv40,e_pv39,e_pv38,e_tv37,e_fv36,e_tv35,e_tv34,e_pv33,e_pv32,e_pv31,e_fv30,e_tv29,e_tv28,e_pv27,e_fv26,e_tv25,e_tv24,e_tv23,e_tv22,e_pv21,e_pv20,e_fv19,e_tv18,e_pv17,e_pv16,e_fv15,e_tv14,e_tv13,e_tv12,e_tv11,e_pv10,e_pv9,e_pv8,e_tv7,e_tv6,e_tv5,e_tv4,e_tv3,e_yv0];rfl
 rw[g1,g2]at wc r2 ⊢;by_cases q_ea0:Ay=0;rotate_left
 ·refine⟨m4,N9,Ay,a0,fun h=>absurd h q_ea0,?_⟩;refine H2 bv0 ?_;intro X hP G0 hf X0 hn hR K1 G1;refine V3 @q_ea0 (P3 w_yv0 kC) ?_;refine N3 ?_;simp[go_sem,hP,G0,hn,m4,N9] <;> (try omega);all_goals exact f9
 by_cases q_ea1:AF=0;rotate_left
 ·refine⟨m4,N9,AF,a1,fun h=>absurd h q_ea1,?_⟩;refine H2 bv0 ?_;intro X hP G0 hf X0 hn hR K1 G1;refine V3 (j2 @q_ea0 @q_ea1) (cQ w_yv0 kC w_yv0 nM) ?_;refine N3 ?_;simp[go_sem,hP,G0,hn,m4,N9] <;> (try omega);all_goals exact f9
 by_cases q_ea2:ea2=0;rotate_left
 ·refine⟨m4,N9,ea2,a2,fun h=>absurd h q_ea2,?_⟩;refine H2 bv0 ?_;intro X hP G0 hf X0 hn hR K1 G1;refine V3 (j3 @q_ea0 @q_ea1 @q_ea2) (Te w_yv0 kC w_yv0 nM w_yv0 w_yv1 w_yv2 ZO) ?_;refine N3 ?_;simp[go_sem,hP,G0,hn,m4,N9] <;> (try omega);all_goals exact f9
 refine⟨f',p',e',r1,r2,?_⟩;refine H2 bv0 ?_;intro X hP G0 hf X0 hn hR K1 G1;refine V3 (j3 @q_ea0 @q_ea1 @q_ea2) (cC w_yv0 kC w_yv0 nM w_yv0 w_yv1 w_yv2 ZO (cC w_yv0 w_tv3 w_tv4 w_tv3 w_tv5 w_tv3 w_tv4 w_tv6 (T9 w_tv7 w_pv8 w_pv9 w_pv8 w_pv10))) ?_;refine V3 H0 (cC w_tv11 w_tv12 w_tv11 w_tv13 w_tv14 w_tv11 w_tv13 w_tv3 (T9 w_fv15 w_tv3 w_tv4 w_pv16 w_pv17)) ?_;refine V3 H0 (cC w_tv3 w_tv11 w_tv13 w_tv18 w_fv19 w_tv3 w_tv5 w_tv3 (cC w_tv4 w_tv6 w_pv20 w_pv21 w_tv22 w_tv23 w_tv24 w_tv3 (vM w_tv25 w_fv26 w_pv27 w_tv11 w_tv28 w_tv29 w_fv30))) ?_;refine V3 H0 (cC w_pv8 w_pv31 w_pv32 w_pv33 w_tv34 w_tv35 w_fv36 w_tv37 (cC w_pv38 w_pv39 w_pv40 w_pv41 w_tv3 w_tv42 w_fv43 w_tv3 (M0 w_pv44))) ?_;exact O1 H0 (cC w_tv11 w_tv45 w_tv46 w_fv47 w_tv3 w_tv5 w_pv48 w_pv49 (vM w_pv50 w_tv3 w_tv42 w_tv51 w_fv52 w_fv53 wc))
def pn0{f:Tm}{F G:Q0 []->(y8 .C0 .C0).V}(B6:Dn [] f (.fn .C0 .C0) F)(hg:Dn [] g (.fn .C0 .C0) G)(cf:f.A0<=2000)(cg:g.A0<=2000):
  ∃(f':Fm) (p':Pf) (e:Int),s6 e/\(e=0->f' = EF f g/\p' = Ey f g/\(EF f g).chk=0/\(Ey f g).chk=0)/\cU 27 [f.dv,(P9 f).dv,g.dv,(P9 g).dv] (.H1 [f'.dv,p'.dv,j0 e]):=by
 obtain⟨Ay,a0,-,kC⟩:=Bl B6 oO (pN) rfl;obtain⟨AF,a1,-,nM⟩:=Bl hg oO (pN) rfl;obtain⟨ps,Zv,ZW⟩:=fk0 B6 hg cf cg;obtain⟨f',p',e',⟨r1,-⟩,r2,wc⟩:=MD (sn0 B6 hg) oO ps oO;have d1:Dn [N0,N0,N0] (nT 3 [g,nT 3 [f,vT 2]]) .C0 _:=.app (F7 hg _) (.app (F7 B6 _) (.var (.succ (.succ .zero))));have d0:Dn [N0] (nT 3 [g,nT 3 [f,vT 0]]) .C0 _:=.app (F7 hg _) (.app (F7 B6 _) (.var .zero));have k1:(nT 3 [g,nT 3 [f,vT 2]]).A0<=100000:=by rw[cO,cO];show _+(_+1+1)+1<=_;omega
 have k0:(nT 3 [g,nT 3 [f,vT 0]]).A0<=100000:=by rw[cO,cO];show _+(_+1+1)+1<=_;omega
 have x0:=nY d0 (by simp only[B4,fC];omega);have x1:=nY d1 (by simp only[B4,fC];omega);obtain⟨ep,b0,Zo⟩:=cD0 B6 cf;obtain⟨eq,b1,wb1⟩:=cD0 hg cg;generalize lL:P9 f=p at *;generalize yH:P9 g=q at *;obtain⟨jF,e_yv0⟩:∃x:Ty,x=pN:=⟨_,rfl⟩;have w_yv0:=IG;rw[<- e_yv0]at w_yv0;obtain⟨OY,e_tv1⟩:∃x:Tm,x=vT 1:=⟨_,rfl⟩;have w_tv1:=sX 1;rw[<- e_tv1]at w_tv1;obtain⟨nL,e_tv2⟩:∃x:Tm,x=vT 0:=⟨_,rfl⟩;have w_tv2:=sX 0;rw[<- e_tv2]at w_tv2;obtain⟨kB,e_tv3⟩:∃x:Tm,x=fQ g [nL]:=⟨_,rfl⟩;have w_tv3:=qV g [nL] sS;simp only[G4,O5]at w_tv3;rw[<- e_tv3]at w_tv3;obtain⟨Hs,e_fv4⟩:∃x:Fm,x=I3 OY kB:=⟨_,rfl⟩;have w_fv4:=CM OY kB;rw[<- e_fv4]at w_fv4;obtain⟨pv5,e_pv5⟩:∃x:Pf,x=fM 1:=⟨_,rfl⟩;have w_pv5:=MC 1;rw[<- e_pv5]at w_pv5;obtain⟨Ox,e_pv6⟩:∃x:Pf,x=fM 0:=⟨_,rfl⟩;have w_pv6:=MC 0;rw[<- e_pv6]at w_pv6;obtain⟨Ow,e_pv7⟩:∃x:Pf,x=dQ Hs pv5 Ox:=⟨_,rfl⟩;have w_pv7:=IR Hs pv5 Ox;rw[<- e_pv7]at w_pv7;obtain⟨yJ,e_tv8⟩:∃x:Tm,x=vT 2:=⟨_,rfl⟩;have w_tv8:=sX 2;rw[<- e_tv8]at w_tv8;obtain⟨OW,e_tv9⟩:∃x:Tm,x=fQ f [yJ]:=⟨_,rfl⟩;have w_tv9:=qV f [yJ] sS;simp only[G4,O5]at w_tv9
 rw[<- e_tv9]at w_tv9;obtain⟨Oj,e_tv10⟩:∃x:Tm,x=fQ g [OW]:=⟨_,rfl⟩;have w_tv10:=qV g [OW] sS;simp only[G4,O5]at w_tv10;rw[<- e_tv10]at w_tv10;obtain⟨iu0,e_fv11⟩:∃x:Fm,x=X4 Oj:=⟨_,rfl⟩;have w_fv11:=wY Oj (by rw[e_tv10,e_tv9,e_tv8];exact x1) (by rw[e_tv10,e_tv9,e_tv8];exact cH k1 dD);rw[<- e_fv11]at w_fv11;obtain⟨NX,e_pv12⟩:∃x:Pf,x=d9 iu0 nL Ow:=⟨_,rfl⟩;have w_pv12:=CD iu0 nL Ow;rw[<- e_pv12]at w_pv12;obtain⟨TC,e_yv13⟩:∃x:Ty,x=L0 1 []:=⟨_,rfl⟩;have w_yv13:=sM;rw[<- e_yv13]at w_yv13;obtain⟨NL,e_pv14⟩:∃x:Pf,x=jW nL p:=⟨_,rfl⟩;have w_pv14:=em0 nL p;rw[<- e_pv14]at w_pv14;obtain⟨Oc,e_pv15⟩:∃x:Pf,x=jW nL q:=⟨_,rfl⟩;have w_pv15:=em0 nL q;rw[<- e_pv15]at w_pv15;obtain⟨Fe,e_pv16⟩:∃x:Pf,x=dP Oc NX:=⟨_,rfl⟩;have w_pv16:=Jp Oc NX;rw[<- e_pv16]at w_pv16;obtain⟨Fz,e_pv17⟩:∃x:Pf,x=dP NL Fe:=⟨_,rfl⟩;have w_pv17:=Jp NL Fe;rw[<- e_pv17]at w_pv17;obtain⟨Gg0,e_pv18⟩:∃x:Pf,x=bO TC Fz:=⟨_,rfl⟩;have w_pv18:=Mg TC Fz;rw[<- e_pv18]at w_pv18;obtain⟨OC,e_tv19⟩:∃x:Tm,x=fQ f [nL]:=⟨_,rfl⟩;have w_tv19:=qV f [nL] sS;simp only[G4,O5]at w_tv19;rw[<- e_tv19]at w_tv19
 obtain⟨iv0,e_tv20⟩:∃x:Tm,x=fQ g [OC]:=⟨_,rfl⟩;have w_tv20:=qV g [OC] sS;simp only[G4,O5]at w_tv20;rw[<- e_tv20]at w_tv20;obtain⟨hU0,e_fv21⟩:∃x:Fm,x=X4 iv0:=⟨_,rfl⟩;have w_fv21:=wY iv0 (by rw[e_tv20,e_tv19,e_tv2];exact x0) (by rw[e_tv20,e_tv19,e_tv2];exact cH k0 dD);rw[<- e_fv21]at w_fv21;obtain⟨FO0,e_fv22⟩:∃x:Fm,x=qF 4 TC hU0:=⟨_,rfl⟩;have w_fv22:=Jo TC hU0;rw[<- e_fv22]at w_fv22;have Fy:pN=jF:=by rw[e_yv0]
 rw[Fy]at kC;have HE:pN=jF:=by rw[e_yv0]
 rw[HE]at nM;have g1:EF f g=FO0:=by rw[e_fv22,e_fv21,e_tv20,e_tv19,e_yv13,e_tv2];rfl
 have g2:Ey f g=Gg0:=by rw[e_pv18,e_pv17,e_pv16,e_pv15,e_pv14,e_yv13,e_pv12,e_fv11,e_tv10,e_tv9,e_tv8,e_pv7,e_pv6,e_pv5,e_fv4,e_tv3,e_tv2,e_tv1,<- lL,<- yH];rfl
 rw[g1,g2]at wc r2 ⊢;by_cases q_ea0:Ay=0;rotate_left
 ·refine⟨m4,N9,Ay,a0,fun h=>absurd h q_ea0,?_⟩;refine H2 UH ?_;intro X hP G0 hf X0 hn hR K1 G1;refine V3 @q_ea0 (P3 w_yv0 kC) ?_;refine N3 ?_;simp[go_sem,hP,G0,hn,m4,N9] <;> (try omega);all_goals exact f9
 by_cases q_ea1:AF=0;rotate_left
 ·refine⟨m4,N9,AF,a1,fun h=>absurd h q_ea1,?_⟩;refine H2 UH ?_;intro X hP G0 hf X0 hn hR K1 G1;refine V3 (j2 @q_ea0 @q_ea1) (cQ w_yv0 kC w_yv0 nM) ?_;refine N3 ?_;simp[go_sem,hP,G0,hn,m4,N9] <;> (try omega);all_goals exact f9
 by_cases q_ep:ep=0;rotate_left
 ·refine⟨m4,N9,ep,b0,fun h=>absurd h q_ep,?_⟩;refine H2 UH ?_;intro X hP G0 hf X0 hn hR K1 G1;refine V3 (j3 @q_ea0 @q_ea1 @q_ep) (T9 w_yv0 kC w_yv0 nM Zo) ?_;refine N3 ?_;simp[go_sem,hP,G0,hn,m4,N9] <;> (try omega);all_goals exact f9
 by_cases q_eq:eq=0;rotate_left
 ·refine⟨m4,N9,eq,b1,fun h=>absurd h q_eq,?_⟩;refine H2 UH ?_;intro X hP G0 hf X0 hn hR K1 G1;refine V3 (j4 @q_ea0 @q_ea1 @q_ep @q_eq) (nD w_yv0 kC w_yv0 nM Zo wb1) ?_;refine N3 ?_;simp[go_sem,hP,G0,hn,m4,N9] <;> (try omega);all_goals exact f9
 refine⟨f',p',e',r1,r2,?_⟩;refine H2 UH ?_;intro X hP G0 hf X0 hn hR K1 G1;refine V3 (j4 @q_ea0 @q_ea1 @q_ep @q_eq) (cC w_yv0 kC w_yv0 nM Zo wb1 w_tv1 w_tv2 (cC w_tv3 w_fv4 w_pv5 w_pv6 w_pv7 w_tv8 w_tv9 w_tv10 (E8 w_fv11 w_tv2 w_pv12))) ?_;exact O1 H0 (cC w_yv13 w_tv2 w_pv14 w_tv2 w_pv15 w_pv16 w_pv17 w_pv18 (vM w_yv13 w_tv2 w_tv19 w_tv20 w_fv21 w_fv22 wc))
def He(f:Fm)(p:Pf)(e:Int):Prop:=∃(a:T) (fi:Fm) (pb:Pf) (n:Nat),(a = .C0\/a = .list)/\f=qF 4 a.ty fi/\p=bO a.ty pb/\(¬pb.o0=8/\¬pb.o0=12)/\(∃g,fi=qF 5 N0.ty g)/\fi.A0<=4000/\PS p/\p.A0<=1000000/\n<=1000000/\fO [] [] p f e n
def SX(p:Pf):Prop:=∃(a:T) (fi:Fm) (pb:Pf),(a = .C0\/a = .list)/\p=bO a.ty pb/\(¬pb.o0=8/\¬pb.o0=12)/\(∃g,fi=qF 5 N0.ty g)/\fi.A0<=4000/\PS pb/\pb.A0<=1000000/\Ok true [a] [] pb fi
def z70(h:Ok false Γ hs p f)(hk:p.o0=8):∃(s:T) (a:Pf) (fa:Fm),p=bO s.ty a/\f=qF 4 s.ty fa/\Ok true (s::Γ) (Q5 hs 1) a fa:=by
 cases h with
 | alli k bH ha=>exact⟨_,_,_,rfl,rfl,ha⟩
 | and i ha=>cases i <;> simp[xT,Pf.o0]at hk
 | _=>simp[fM,tF,c9,jW,d9,dP,fN,dQ,Pf.o0]at hk
def Dp0(h:He f p 0):SX p:=by
 obtain⟨a,fi,pb,n,ha,rfl,rfl,hk,h5,hc,ps,cp,-,f',u,-,hI,-⟩:=h;obtain⟨-,-,-,ho⟩:=hI rfl;cases ho with
 | chk ho hd bS hn=>
  obtain⟨s,q,fa,e1,e2,h2⟩:=z70 ho rfl;simp only[bO,Im.injEq,FG,and_true,true_and]at e1;simp only[qF,oV.injEq,FG,and_true,true_and]at e2;obtain⟨e3,rfl⟩:=e1;obtain⟨-,rfl⟩:=e2;obtain rfl:=eN e3;have hb:PS pb:=by cases ps with|mk _ _ _ _ _ _ _ h=>exact h pb (bM.2 rfl)
  have hq:(bO a.ty pb).A0=1+0+0+(pb.A0+0):=rfl;exact⟨a,fi,pb,ha,rfl,hk,h5,hc,hb,oO,h2⟩
def z80{G:Q0 []->(y8 .C0 .C0).V}(hg:Dn [] g (.fn .C0 .C0) G)(cg:g.A0<=1500):∃e,He (gF g) (P9 g) e:=by
 obtain⟨e0,l0,i0⟩:=Si Yc hg oO;have N4:=Cy g;have hci:=eG (y5 g);have TE:=LJ g;exact⟨e0,.C0,_,_,_,.inl rfl,rfl,rfl,(by decide:¬(10:Int)=8/\¬(10:Int)=12),⟨_,rfl⟩,oO,ED hg oO,oO,oO,i0⟩
def ss0(hb:CT .C0 b)(hg:CT (.fn .C0 (.fn .C0 .C0)) g):∃e,He (EE b g) (Ex b g) e:=by
 obtain⟨⟨B,hb⟩,cb,-⟩:=hb;obtain⟨⟨G,hg⟩,cg,-⟩:=hg;obtain⟨e,n,hn,-,hI⟩:=sk0 hb hg cb cg;obtain⟨ps,cp,-⟩:=fh0 hb hg cb cg;have c0:=jQ 6 b g (vT 0);have v0:(vT 0).A0=1:=rfl;have i0:=eG (H6 6 b g (vT 0));exact⟨e,.C0,_,_,n,.inl rfl,rfl,rfl,(by decide:¬(16:Int)=8/\¬(16:Int)=12),⟨_,rfl⟩,oO,ps,oO,oO,hI⟩
def st0(hb:CT .C0 b)(hg:CT (.fn .C0 (.fn .list (.fn .C0 .C0))) g):∃e,He (EG b g) (Ez b g) e:=by
 obtain⟨⟨B,hb⟩,cb,-⟩:=hb;obtain⟨⟨G,hg⟩,cg,-⟩:=hg;obtain⟨e,n,hn,-,hI⟩:=sp0 hb hg cb cg;obtain⟨ps,cp,-⟩:=fl0 hb hg cb cg;have c0:=jQ 9 b g (vT 0);have v0:(vT 0).A0=1:=rfl;have i0:=eG (H6 9 b g (vT 0));exact⟨e,.list,_,_,n,.inr rfl,rfl,rfl,(by decide:¬(17:Int)=8/\¬(17:Int)=12),⟨_,rfl⟩,oO,ps,oO,oO,hI⟩
def su0{f:Tm}{F G:Q0 []->(y8 .C0 .C0).V}(hf:Dn [] f (.fn .C0 .C0) F)(hg:Dn [] g (.fn .C0 .C0) G)(cf:f.A0<=1500)(cg:g.A0<=1500):∃e,He (EF f g) (Ey f g) e:=by
 obtain⟨e,n,hn,-,hI⟩:=so0 hf hg oO oO;obtain⟨ps,cp,-⟩:=fk0 hf hg oO oO;have ci:=eG (nT 3 [g,nT 3 [f,vT 0]]);have a2:=cO g (nT 3 [f,vT 0]);have b2:=cO f (vT 0);have v0:(vT 0).A0=1:=rfl;exact⟨e,.C0,_,_,n,.inl rfl,rfl,rfl,(by decide:¬(11:Int)=8/\¬(11:Int)=12),⟨_,rfl⟩,oO,ps,oO,oO,hI⟩
def po0(hb:CT .C0 b)(hc:CT .C0 c)(hg:CT (.fn .C0 (.fn .C0 .C0)) g)(cb:b.A0<=100)(cc:c.A0<=100):∃e,He (EU b c g) (EO b c g) e:=by
 obtain⟨⟨B,hb⟩,-,-⟩:=hb;obtain⟨⟨C,hc⟩,-,-⟩:=hc;obtain⟨⟨G,hg⟩,cg,-⟩:=hg;obtain⟨e,n,hn,-,hI⟩:=ph0 hb hc hg cb cc cg;obtain⟨ps,cp,-,-⟩:=ep0 hb hc hg cb cc cg;have c0:=qS b c g (vT 0);have v0:(vT 0).A0=1:=rfl;have ci:=eG (U7 (A6 b c g (vT 0)));have cf:=nS (A6 b c g (vT 0));exact⟨e,.C0,_,_,n,.inl rfl,rfl,rfl,(by decide:¬(11:Int)=8/\¬(11:Int)=12),⟨_,rfl⟩,oO,ps,oO,oO,hI⟩
def Dq0{α:Type}{X:Ctx}{k kk:List Item}{s:St}(E:α->Prop)(S:α->St)(h1:(∀x,E x->W X kk (S x))->W X k s)(h2:∀x,E x->W X kk (S x)):W X k s:=h1 h2
def Hh(f:Fm)(p:Pf)(e:Int):Prop:=e=0->p.o0=0\/∃e0,He f p e0
def Fz0(b:Nat)(l:List Int):DV->G3->Prop:=fun r φ=>∃(f:Fm) (p:Pf) (q:Nat),SX p/\q<=l.length/\r = .H1 [f.dv,p.dv]/\φ=[(b,R5 l q)]
def dy0(l:List Int){p:Nat}(hp:p<=l.length):∃F:Q0 []->(y8 .C0 .C0).V,Dn [] (Aj l p).1 (y8 .C0 .C0) F/\(Aj l p).1.A0<=1500/\(Aj l p).2<=l.length:=by
 obtain⟨F,h1,h2,h3⟩:=o20 l hp;exact⟨F,h1,h2,h3⟩
def gw0(m:Nat)(hm:m<3):CT .C0 (g8 m)/\(g8 m).A0<=100:=by
 have h:=Qn m;exact⟨⟨Ss [] m,oO,QY [] m⟩,oO⟩
def f6:Tm:=U0 2 0 Y0 [nT 5 [vT 0]]
def JR:∃F:Q0 []->(y8 .C0 .C0).V,Dn [] f6 (.fn .C0 .C0) F:=⟨_,.lam (a:=.C0) fY (.succ (.var .zero))⟩
def f20:Ok true [N0] [] (d9 (X4 (y5 f6)) (y5 f6) (c9 (y5 f6))) (X4 (y5 f6)):=by
 obtain⟨G,hg⟩:=JR;obtain⟨F,hd⟩:=GL hg;have hf:FDn [N0] (X4 (y5 f6)):=bY hd;have hy:(y5 f6).typeE (gT [N0])=(N0.ty,0):=kK;refine .chk (.exi (s:=N0) (fa:=I3 (y5 f6) (y5 f6)) gi0 hf kK kK hd dD hy (.chk (.refl gi0 hd dD hy) (.eq hd hd) dD rfl) kK kK rfl) hf dD rfl
def z90:SX (P9 f6):=by
 obtain⟨G,hg⟩:=JR;have ps:=ED hg dD;have hb:PS (d9 (X4 (y5 f6)) (y5 f6) (c9 (y5 f6))):=by cases ps with|mk _ _ _ _ _ _ _ h=>exact h _ (bM.2 rfl)
 exact⟨.C0,_,_,.inl rfl,rfl,(by decide:¬(10:Int)=8/\¬(10:Int)=12),⟨_,rfl⟩,dD,hb,dD,f20⟩
def Aa0:cU 26 [f6.dv] (.H1 [(gF f6).dv,(P9 f6).dv,j0 0]):=by
 obtain⟨F,hd⟩:=JR;obtain⟨f',p',e,h1,h2,h3,w⟩:=UZ hd dD;have e0:=h3 kK kK kK;subst e0;obtain⟨rfl,rfl,-,-⟩:=h2 rfl;exact w
def mP0(b:Nat)(l:List Int)(p:Nat)(hl:l.length<=500)(hp:p<=l.length):lF W0 gl 7 [M3 b] [(b,R5 l p)] (Fz0 b l):=by
 refine H2 Tryz.func7 ?_;intro X hP G0 hf X0 hn hR K1 G1;refine N2 ?_;refine Q1 ?_;refine G2 [] tT (mQ (fun x:Nat × Nat=>x.1<=3/\x.2<=l.length) (fun x:Nat × Nat=>[sV 0 (M3 b),sP 2,sL 2 [.v (j0 0),.v (j0 0),.own 0 [],.own 0 [],.own 0 []],sP 3,sL 3 [.v (j0 0),.v (j0 0),.v (j0 0),.own 0 [],.own 0 [],.own 0 [],.own 0 []],sV 18 (j0 x.1),sB  b [.v (.sl (P2 l)),.v (j0 x.2)]]) (fun x:Nat × Nat=>3 - x.1) (0,p) (⟨Nat.zero_le _,hp⟩) ?_);rintro⟨i,q0⟩ ⟨hi,yH⟩ Z1;simp only at hi yH;by_cases h3:i<3;rotate_left
 ·obtain⟨F,hd⟩:=JR;have s0:=z90;clear hd;have wv:=mX 0;have wn:=qW 5 [vT 0];simp only[G4,O5]at wn;have wl:=eF Y0 (nT 5 [vT 0]);have wf:=Aa0
  have wp:cU 8 [] Y0.dv:=IQ;rw[show U0 2 0 Y0 [nT 5 [vT 0]]=f6 from rfl]at wl;have h1:=P5 (vT 0);have h2:=O3 (vT 0);have h4:=P5 (nT 5 [vT 0]);have h5:=O3 (nT 5 [vT 0]);have jN:=aA (gF f6);have I7:=rZ (P9 f6);have U8:=DQ (gF f6);have DE:=Cm (P9 f6);generalize gF f6=ff at *;generalize P9 f6=pp at *;generalize f6=st at *;generalize nT 5 [vT 0]=t5 at *;generalize vT 0=v0 at *;generalize Y0=y at *;refine V3 (j7 @h3 @h1 @h2 @h4 @h5 @jN @I7) (T9 wp wv wn wl wf) ?_;refine gA hP hf X0 (.H1 [ff.dv,pp.dv]) [(b,R5 l q0)] (by simp[go_sem,hP,G0,hn,jN,I7,U8,DE]) (by simp[go_sem,v7]) sS ?_ hR.2;rw[hR.1];exact⟨ff,pp,q0,s0,yH,rfl,rfl⟩
 have wx:=fX b l q0 5 dD oO;obtain⟨k0,k1,k2⟩:=Gq l yH (n:=5) dD;have HO:Y2 l q0 (((5:Nat)):Int)=Y2 l q0 5:=rfl;rw[HO]at k0 k1 k2;generalize Y2 l q0 5=nd at *;obtain⟨k,q1⟩:=nd;simp only at k0 k1 k2 wx;refine N1 @h3 (M0 wx) ?_;apply Dq0 (fun x:Fm × Pf × Int × Nat=>Hh x.1 x.2.1 x.2.2.1/\x.2.2.2<=l.length) (fun x=>[sV 0 (M3 b),sP 2,sL 2 [.v (j0 0),.v (j0 0),.own 0 [],.own 0 [],.own 0 []],sP 3,sL 3 [.v (j0 0),.v (j0 0),.v (j0 0),.own 0 [],.own 0 [],.own 0 [],.own 0 []],sV 18 (j0 i),sP 4,sL 4 (mB x.1),sP 5,sL 5 (nF x.2.1),sV 6 (j0 x.2.2.1),sB b [.v (.sl (P2 l)),.v (j0 x.2.2.2)]])
 ·intro Q3;by_cases c0:k=0
  ·have wn:=bI0 b l hl q1 k2;obtain⟨C1,pU⟩:=eq0 l k2;generalize l8 l 2 (L0 1 []) [] q1=xd at *;obtain⟨t1,q2⟩:=xd;simp only at wn C1 pU;obtain⟨t2,q3,Oh,C2,wr⟩:=bO0 l hl q2 pU;have wr:=wr b;obtain⟨e0,S0⟩:=ss0 C1 C2;obtain⟨⟨B,hb⟩,cb,-⟩:=C1;obtain⟨⟨G,hg⟩,cg,-⟩:=C2;obtain⟨f',p',e',-,r2,wg⟩:=pl0 hb hg cb cg;have hG:Hh f' p' e':=fun h=>.inr ⟨e0,by rw[(r2 h).1,(r2 h).2.1];exact S0⟩;have h1:=P5 t1;have h2:=O3 t1;have h4:=P5 t2;have h5:=O3 t2;refine N1 (j5 @c0 @h1 @h2 @h4 @h5) (E8 wn wr wg) ?_;refine Q1 ?_;refine aM [] sG ?_ sG (Q3 (f',p',e',q3) ⟨hG,Oh⟩);simp[go_sem]
  by_cases c1:k=1
  ·have wn:=bI0 b l hl q1 k2;obtain⟨C1,pU⟩:=eq0 l k2;generalize l8 l 2 (L0 1 []) [] q1=xd at *;obtain⟨t1,q2⟩:=xd;simp only at wn C1 pU;obtain⟨t2,q3,Oh,C2,wr⟩:=kL0 l hl q2 pU;have wr:=wr b;obtain⟨e0,S0⟩:=st0 C1 C2;obtain⟨⟨B,hb⟩,cb,-⟩:=C1;obtain⟨⟨G,hg⟩,cg,-⟩:=C2;obtain⟨f',p',e',-,r2,wg⟩:=pm0 hb hg cb cg;have hG:Hh f' p' e':=fun h=>.inr ⟨e0,by rw[(r2 h).1,(r2 h).2.1];exact S0⟩;have h1:=P5 t1;have h2:=O3 t1;have h4:=P5 t2;have h5:=O3 t2;refine N1 (j6 @c0 @c1 @h1 @h2 @h4 @h5) (E8 wn wr wg) ?_;refine Q1 ?_;refine aM [] sG ?_ sG (Q3 (f',p',e',q3) ⟨hG,Oh⟩);simp[go_sem]
  by_cases c2:k=2
  ·have wa:=fX b l q1 3 dD oO;obtain⟨i0,i1,i2⟩:=Gq l k2 (n:=3) dD;have yI:Y2 l q1 (((3:Nat)):Int)=Y2 l q1 3:=rfl;rw[yI]at i0 i1 i2;generalize Y2 l q1 3=na at *;obtain⟨m1,q2⟩:=na;simp only at i0 i1 i2 wa;have wb:=fX b l q2 3 dD oO;obtain⟨y0,y1,y2⟩:=Gq l i2 (n:=3) dD;have M7:Y2 l q2 (((3:Nat)):Int)=Y2 l q2 3:=rfl;rw[M7]at y0 y1 y2;generalize Y2 l q2 3=nb at *;obtain⟨m2,q3⟩:=nb;simp only at y0 y1 y2 wb;obtain⟨m1,rfl⟩:=bt0 i0;obtain⟨m2,rfl⟩:=bt0 y0;have ZP:=Gl m1 oO;have wm2:=Gl m2 oO;obtain⟨C1,cb⟩:=gw0 m1 oO;obtain⟨C3,cc⟩:=gw0 m2 oO;obtain⟨t2,q4,hq4,C2,wr⟩:=bO0 l hl q3 y2;have wr:=wr b;obtain⟨e0,S0⟩:=po0 C1 C3 C2 cb cc;obtain⟨⟨B,hb⟩,-,-⟩:=C1;obtain⟨⟨C,hc⟩,-,-⟩:=C3;obtain⟨⟨G,hg⟩,cg,-⟩:=C2;obtain⟨f',p',e',-,r2,wg⟩:=lA0 hb hc hg cb cc cg;have hG:Hh f' p' e':=fun h=>.inr ⟨e0,by rw[(r2 h).1,(r2 h).2.1];exact S0⟩;have h1:=P5 (g8 m1);have h2:=O3 (g8 m1);have h4:=P5 t2;have h5:=O3 t2;clear r2 S0 hb hc;generalize g8 m1=n1 at *;generalize g8 m2=n2 at *;refine N1 (j7 @c0 @c1 @c2 @h1 @h2 @h4 @h5) (nD wa ZP wb wm2 wr wg) ?_;refine Q1 ?_;refine aM [] sG ?_ sG (Q3 (f',p',e',q4) ⟨hG,hq4⟩);simp[go_sem]
  have ws:=b40 b l q1 hl k2;obtain⟨F,f1,f2,f3⟩:=dy0 l k2;generalize Aj l q1=sd at *;obtain⟨t1,q2⟩:=sd;simp only at ws f1 f2 f3;obtain⟨fa,pa,ea,-,ra,-,TH⟩:=UZ f1 oO;have h1:=P5 t1;have h2:=O3 t1;by_cases c3:k=3;rotate_left
  ·obtain⟨e0,S0⟩:=z80 f1 oO;have hG:Hh fa pa ea:=fun h=>.inr ⟨e0,by rw[(ra h).1,(ra h).2.1];exact S0⟩;refine N1 (j6 @c0 @c1 @c2 @c3 @h1 @h2) (P3 ws TH) ?_;refine Q1 ?_;refine aM [] sG ?_ sG (Q3 (fa,pa,ea,q2) ⟨hG,f3⟩);simp[go_sem]
  have wt:=b40 b l q2 hl f3;obtain⟨G,g1,g2,g3⟩:=dy0 l f3;generalize Aj l q2=sd at *;obtain⟨t2,q3⟩:=sd;simp only at wt g1 g2 g3;obtain⟨fb,pb,eb,-,rb,-,ZC⟩:=UZ g1 oO;have h4:=P5 t2;have h5:=O3 t2;have jN:=Cm pa;have I7:=Cm pb;have hz:Hh m4 N9 0:=fun _=>.inl rfl;by_cases c4:ea=0;rotate_left
  ·refine N1 (j8 @c0 @c1 @c2 @c3 @h1 @h2 @h4 @h5) (cQ ws wt TH ZC) ?_;refine R4 @c4 ?_;refine Q1 ?_;refine aB rfl ?_ ?_;· intro h;simp[c4]at h
   intro _;refine Q1 ?_;refine aM [] sG ?_ sG (Q3 (m4,N9,0,q3) ⟨hz,g3⟩);simp[go_sem,m4,N9]
  by_cases c5:eb=0;rotate_left
  ·refine N1 (j8 @c0 @c1 @c2 @c3 @h1 @h2 @h4 @h5) (cQ ws wt TH ZC) ?_;refine R4 (j2 @c4 @c5) ?_;refine Q1 ?_;refine aB rfl ?_ ?_;· intro h;simp[c4,c5]at h
   intro _;refine Q1 ?_;refine aM [] sG ?_ sG (Q3 (m4,N9,0,q3) ⟨hz,g3⟩);simp[go_sem,m4,N9]
  obtain⟨e0,S0⟩:=su0 f1 g1 oO oO;obtain⟨f',p',e',-,r2,wg⟩:=pn0 f1 g1 oO oO;have hG:Hh f' p' e':=fun h=>.inr ⟨e0,by rw[(r2 h).1,(r2 h).2.1];exact S0⟩;rw[<- (ra c4).2.1,<- (rb c5).2.1]at wg;have U8:=aA f';have DE:=rZ p';refine N1 (j8 @c0 @c1 @c2 @c3 @h1 @h2 @h4 (j7 @h5 @c4 @c5 @jN @I7 @U8 @DE)) (T9 ws wt TH ZC wg) ?_;refine Q1 ?_;refine aM [] sG ?_ sG (Q3 (f',p',e',q3) ⟨hG,g3⟩);simp[go_sem]
 rintro⟨f,pr,e,q⟩ ⟨hG,hq⟩;simp only at hG hq;have NR:=Z1 (i+1,q) ⟨by show i+1<=3;omega,hq⟩ (by show 3 - (i+1)<3 - i;omega);have h1:=DQ f;have h2:=aA f;have h4:=Cm pr;have h5:=rZ pr;by_cases qe:e=0;rotate_left;· refine W3 (wr []) tT @qe NR
 by_cases qk:pr.o0=0;· refine W3 (wr []) tT (j2 @qe @qk) NR
 obtain⟨e0,S0⟩:=(hG qe).resolve_left qk;have S1:=S0;obtain⟨a,fi,pb,n,-,-,-,-,-,-,ps,cp,pV,hI⟩:=S1;obtain⟨f',u,-,w⟩:=du0 (Γ:=[]) (hs:=[]) ⟨dD,dD,sS,sS⟩ sS ps oO hI pV;have w:cU 28 [.sl [],.agg [.sl [],.sl []],pr.dv] (.H1 [Kp f' u,j0 (S5 pr.chk e0)]):=w;have hz:S5 pr.chk e0=0->e0=0:=fun h=>(aW h).2;generalize S5 pr.chk e0=e1 at *;by_cases q1:e1=0;rotate_left
 ·refine N1 (j3 @qe @qk @h4) (M0 w) ?_;refine W3 (wr []) tT @q1 NR
 ·refine V3 (j4 @qe @qk @h4 @q1) (M0 w) ?_;refine gA hP hf X0 (.H1 [f.dv,pr.dv]) [(b,R5 l q)] (by simp[go_sem,hP,G0,hn,h1,h2,h4,h5]) (by simp[go_sem,v7]) sS ?_ hR.2;rw[hR.1];rw[hz q1]at S0;exact⟨f,pr,q,Dp0 S0,hq,rfl,rfl⟩
def gx0(i:Int):cU 62 [j0 i] (vT i).dv:=by
 have w:=Mc i;generalize vT i=r at *;exact B2 Tryz.func62 H0 (M0 w)
def sv0(g x:Tm):cU 61 [g.dv,.sl [x.E0]] (nT 3 [g,x]).dv:=by
 have w:cU 158 [j0 3,.sl [g.E0,x.E0]] (nT 3 [g,x]).dv:=by
  show P8 _ _ _ _ _ (.agg [j0 3,j0 0,j0 0,.sl [],.sl [g.E0,x.E0]]) _;exact B2 Tryz.func158 H0 H0
 generalize nT 3 [g,x]=r at *;refine A3 Tryz.func61 fun X zX=>?_;refine N2 ?_;refine W8 ?_;refine V3 H0 (M0 w) ?_;refine bV ?_;exact O1 H0 H0
def Ab0(a b:Tm):cU 159 [a.dv,b.dv] (I3 a b).dv:=by
 rw[sW];exact B2 Tryz.func159 H0 H0
def gy0(k:Int)(y:Ty)(f:Fm):cU 64 [j0 k,y.dv,f.dv] (qF k y f).dv:=by
 rw[dL];exact B2 Tryz.func64 H0 H0
def Ac0(t:Tm)(hs:t.shape=true)(hi:t.idx 549755813888)(hc:t.A0<=4096):cU 66 [t.dv] (X4 t).dv:=by
 have w1:=VP t 0 1 hs hi dD dD dD oO;have w2:=gx0 0;have w3:=Ab0 (vT 0) (t.V0 0 1);have w4:=gy0 5 B8 (I3 (vT 0) (t.V0 0 1));have w5:=Me;show P8 _ _ _ _ _ (qF 5 B8 (I3 (vT 0) (t.V0 0 1))).dv _;generalize qF 5 B8 (I3 (vT 0) (t.V0 0 1))=f2 at *;generalize I3 (vT 0) (t.V0 0 1)=f1 at *;generalize t.V0 0 1=u at *;generalize vT 0=v0 at *;generalize B8=y at *;exact B2 Tryz.func66 H0 (T9 w5 w2 w1 w3 w4)
def sw0(t:Tm):cU 69 [t.dv] (c9 t).dv:=by
 rw[RE];exact B2 Tryz.func69 H0 H0
def xa0(y:Ty)(p:Pf):cU 67 [y.dv,p.dv] (bO y p).dv:=by
 rw[MA];exact B2 Tryz.func67 H0 H0
def pp0(f:Fm)(t:Tm)(p:Pf):cU 68 [f.dv,t.dv,p.dv] (d9 f t p).dv:=by
 rw[CI];exact B2 Tryz.func68 H0 H0
abbrev NJ:Ty:=L0 4 [B8,B8]
def xb0:cU 59 [] NJ.dv:=by
 have w5:=Me;have w:cU 157 [B8.dv,.sl [B8.E0]] NJ.dv:=by
  show P8 _ _ _ [.agg [j0 1,.sl []],.sl [[j0 1,.sl []]]] _ (.agg [j0 4,.sl [[j0 1,.sl []],[j0 1,.sl []]]]) _;refine A3 Tryz.func157 fun X zX=>?_;refine N2 ?_;refine W8 ?_;refine N2 ?_;refine bV ?_;exact O1 H0 H0
 generalize NJ=z at *;generalize B8=y at *;exact B2 Tryz.func59 H0 (E8 w5 w5 w)
def pq0(t:Tm)(y:Ty)(w:cU 48 [.sl [],t.dv] (.H1 [y.dv,j0 0])):cU 58 [t.dv,y.dv] (j0 0):=by
 have w2:cU 139 [y.dv,y.dv] (O2 true):=by
  have w:=Cw y y;rw[IZ]at w;exact B2 Tryz.func139 H0 (M0 w)
 exact B2 Tryz.func58 H0 (P3 w w2)
def sx0(w1:cU 108 [f.dv] (j0 0))(w2:cU 38 [p.dv] (j0 0)):cU 63 [f.dv,p.dv] (.H1 [f.dv,p.dv,j0 0]):=by
 exact B2 Tryz.func63 H0 (P3 w1 w2)
section
def xc0:cU 17 [f6.dv] (.H1 [(gF f6).dv,(P9 f6).dv,j0 0]):=by
 obtain⟨G,hg⟩:=JR;obtain⟨F,hd⟩:=GL hg;have wt:=bB0 S8 hg dD;rw[show (f6.typeE []).2=0 from kK,if_pos rfl]at wt;have wc:=pq0 f6 NJ wt;have wn:=xb0;have wv:=gx0 0;have wa:=sv0 f6 (vT 0);have wy:=Me;have wx:=Ac0 (y5 f6) (Z5 hd) (sF _ _ (Z5 hd) (gW hd _ dD)) dD;have wq:=gy0 4 B8 (X4 (y5 f6));have wr:=sw0 (y5 f6);have ws:=pp0 (X4 (y5 f6)) (y5 f6) (c9 (y5 f6));have wl:=xa0 B8 (d9 (X4 (y5 f6)) (y5 f6) (c9 (y5 f6)));have w1:=CH S8 (Ew hg) dD;rw[show (gF f6).chk=0 from kK]at w1;have w2:=fO0 S8 NH (ED hg dD) dD;rw[show (P9 f6).chk=0 from kK]at w2;have wm:=sx0 w1 w2;rw[show qF 4 B8 (X4 (y5 f6))=gF f6 from rfl]at wq;rw[show bO B8 (d9 (X4 (y5 f6)) (y5 f6) (c9 (y5 f6)))=P9 f6 from rfl]at wl;rw[show nT 3 [f6,vT 0]=y5 f6 from rfl]at wa;clear w1 w2 wt hd hg;generalize gF f6=f1 at *;generalize P9 f6=p1 at *;generalize d9 (X4 (y5 f6)) (y5 f6) (c9 (y5 f6))=p2 at *;generalize c9 (y5 f6)=p3 at *;generalize X4 (y5 f6)=f2 at *;generalize y5 f6=t1 at *;generalize vT 0=t2 at *;generalize f6=t3 at *;generalize NJ=y2 at *;generalize B8=y1 at *
 exact B2 Tryz.func17 H0 (cC wn wc wv wa wy wx wq wy (T9 wx wr ws wl wm))
end
abbrev Hf:Tm:=U0 2 0 B8 [y5 f6]
def Ad0:GV 8 Hf [MV.Z3 3]=some (.Z3 4,6):=kK
section
def Ae0:cU 12 [.sl [],.sl [],hZ [],(P9 f6).dv] (.H1 [Hf.dv,j0 0]):=by
 obtain⟨G,hg⟩:=JR;obtain⟨F,hd⟩:=GL hg;have hs:=Z5 hd;have hf:FDn [N0] (X4 (y5 f6)):=bY hd;have ha:Ok true [] [] (P9 f6) (gF f6):=.chk (.alli (s:=N0) Yc lE f20) (Ew hg) dD rfl;obtain⟨u,u1,u2,wb⟩:=(gV0 S8 ha).inf (Ω:=[]) (kn:=[]) sS sS sS ⟨rfl,fun i f h=>by simp at h⟩;obtain rfl:u=0:=by simpa using u1
 have wi:=Ro (g:=[]) S8 NH Th sS sS (ED hg dD) dD (Ew hg) sS dD dD wb;rw[show (P9 f6).chk=0 from kK]at wi;have j1:=XJ (p:=c9 (y5 f6)) (hs:=[]) S8 (.eq hd hd) rfl dD fun b=>fX0 (by show (16:Int)<=18;decide) b (fW0 rfl rfl b);have j2':=vC (p:=d9 (X4 (y5 f6)) (y5 f6) (c9 (y5 f6))) (hs:=[]) S8 hf rfl dD sS (go0 rfl rfl rfl j1);have j3':=vC (p:=P9 f6) (hs:=[]) (f:=gF f6) S8 (Ew hg) rfl dD sS (XK S8 rfl rfl rfl Yc j2');have m0:=fR0 (s:=(Sco.mk 0 0 [] []).bind.var (vT 0)) ⟨dD,dD,dD,dD⟩ (fun e he=>by obtain rfl:=bM.1 he;have:=(EnD.here (Θ:=[N0]) (YB .C0 []) dD dD).dn;exact⟨I5 _,this.2.1,this.2.2.1,this.2.2.2.1⟩) hs (sF _ _ hs (gW hd _ dD)) dD;have hu:(y5 f6).scB ((Sco.mk 0 0 [] []).bind.var (vT 0)).vs ((Sco.mk 0 0 [] []).bind.var (vT 0)).dep 0=y5 f6:=kK;rw[hu]at m0
 obtain⟨t,e2,-,-,h1,-,w⟩:=Sw (P:=fun t e=>t=Hf/\e=0) (.inl rfl) wi j3' (wZ (by show (8:Int)<=8;decide) (fT0 (y:=B8) (s:=Sco.mk 0 0 [] []) sS sS (wZ (by show (8:Int)<=10;decide) (fU0 m0)) (fun t e _ _ h=>by
  have e0:=h.2 dD;obtain rfl:=h.1 e0;subst e0;exact⟨Hf,0,.inl rfl,dD,⟨rfl,rfl⟩,gm0 B8 dD⟩)))
 obtain⟨rfl,rfl⟩:=h1 rfl;exact w
def xd0:cU 4 [] (O2 true):=by
 have w1:=xc0;have w2:=Ae0;have w3:=bA0 S8 Hf [.C0] .C0 (show Q0 [.C0] from ((3:Nat),())) (4:Nat) 6 8 Ad0 kK kK ⟨trivial,lE,trivial⟩ sS tT lE 1000 dD 3 dD (by simp[jV,oH,MV.nles,MV.nle]);rw[eS0 dD]at w3;have w3:cU 14 [Hf.dv,.sl [[j0 1,j0 3,.sl [],.sl []]],j0 1000] (.H1 [.agg [j0 1,j0 4,.sl [],.sl []],j0 6,j0 0]):=w3;have h1:f6.dv = .agg [j0 2,j0 0,j0 1,.sl [],.sl [[j0 5,j0 0,j0 0,.sl [],.sl [[j0 1,j0 0,j0 0,.sl [],.sl []]]]]]:=rfl;rw[h1]at w1;generalize Hf=t at *;generalize P9 f6=p at *;generalize gF f6=f at *;exact B2 Tryz.func4 H0 (E8 w1 w2 w3)
end
def Vx(h:s6 e):cU 10 [j0 e] (O2 true):=by
 rcases h with rfl|rfl|rfl|rfl
 all_goals
  exact B2 Tryz.func10 H0 H0
def sy0{x:Pf}(he:e≠0)(w0:cU 11 [.sl [],hZ [],x.dv] (vO f 0 e)):
  cU 9 [.sl [],hZ [],x.dv] (.H1 [N9.dv,.sl [],j0 e]):=by
 simp only[vO,if_neg he,O5]at w0;refine H2 Tryz.func9 ?_;intro X hP G0 hf X0 hn hR K1 G1;refine E4 (bx [1000004,1000005]) tT ?_;refine V3 @he (M0 w0) ?_;refine N3 ?_;simp[go_sem,hP,G0,hn,N9] <;> (try omega);all_goals exact f9
def Zm(y:Ty)(f:Fm)(c:Bool)(h:(qF 4 y f).nb=true):(C8 c y f).nb=true:=by cases c <;> simpa [C8,qF,Cs,Cs.all] using h
section
def sA0(h:SX p):((f5 false B8 p).chk≠0/\cU 9 [.sl [],hZ [],(f5 false B8 p).dv] (.H1 [N9.dv,.sl [],j0 (f5 false B8 p).chk])) \/
  ∃(a:T) (u:Nat) (q:Pf) (fb:Fm) (ta tb:Tm) (ea eb:Int) (D:(y8 a .C0).V),(a = .C0\/a = .list)/\(u=0\/u=1)/\cU 9 [.sl [],hZ [],(f5 false B8 p).dv] (.H1 [q.dv,.sl [[O2 true],[O2 (u=0)]],j0 0]) /\
   cU 11 [.sl [],hZ [],q.dv] (vO (C8 true B8 (C8 (u=0) a.ty fb)) 0 0) /\
   (s6 ea/\ta.A0<=4096/\(ea=0->Dn [] ta (.fn .C0 (.fn a .C0)) (fun _ _=>D))/\cU 12 [.sl [],.sl [],hZ [],(f5 false B8 p).dv] (.H1 [ta.dv,j0 ea])) /\
   s6 eb/\tb.A0<=4096/\(eb=0->u=1->Dn [] tb (.fn a .C0) (fun _=>D))/\cU 12 [.sl [],.sl [],hZ [],q.dv] (.H1 [tb.dv,j0 eb]):=by
 obtain⟨a,fb,pb,ha,rfl,hk,⟨g,rfl⟩,hc,ps,cp,ho⟩:=h;have xY:a.ok:=by rcases ha with rfl|rfl <;> exact (by decide:(1:Nat)<=64)
 obtain⟨hdb,nH,M7⟩:FDn [a] (qF 5 N0.ty g)/\(qF 5 N0.ty g).A0<=4096/\(qF 5 N0.ty g).nb=true:=by cases ho with|chk _ hd hc hn=>exact⟨hd,hc,hn⟩
 obtain⟨u,hu,w1,w2,w3⟩:=w80 xY ho ps oO (fun c=>.q (by cases c <;> simp) xY (Mz hdb [N0])) (fun c=>Zm _ _ c (by simpa [qF,Cs,Cs.all] using M7)) hc;have w0:=w3 false false sS;by_cases hW:(f5 false B8 (bO a.ty pb)).chk=0;rotate_left;· exact .inl ⟨hW,sy0 (f:=C8 false N0.ty (C8 false a.ty (qF 5 N0.ty g))) hW w0⟩
 have KI:(f5 false N0.ty (f5 false a.ty pb)).chk=0:=hW;have c1:(f5 false a.ty pb).chk=0:=Pf.chk_arg KI (bM.2 rfl);have c2:pb.chk=0:=Pf.chk_arg c1 (bM.2 rfl);rw[KI]at w0;rw[c1]at w1;rw[c2]at w2;have wm:=w90 hu hk w0 w1 w2;have hJ:JA [a] (Q5 [] 1) pb (qF 5 N0.ty g):=(Dl0 ho).1 rfl;have hd1:∀c,FDn [] (C8 c a.ty (qF 5 N0.ty g)):=fun c=>.q (by cases c <;> simp) xY hdb;have Ce:∀c,(C8 c a.ty (qF 5 N0.ty g)).nb=true:=fun c=>Zm _ _ c (by simpa [qF,Cs,Cs.all] using M7);have eC:∀c,(C8 c a.ty (qF 5 N0.ty g)).A0<=4090:=fun c=>by show 1+0+((qF 5 N0.ty g).A0+0)<=_;omega
 have g9:∀c,(C8 c a.ty (qF 5 N0.ty g)).v6=true:=fun c=>by cases c <;> rfl
 have AM:∀c d,FDn [] (C8 c N0.ty (C8 d a.ty (qF 5 N0.ty g))):=fun c d=>.q (by cases c <;> simp) lE (.q (by cases d <;> simp) xY (Mz hdb [N0]));have dG:∀c d,(C8 c N0.ty (C8 d a.ty (qF 5 N0.ty g))).nb=true:=fun c d=>Zm _ _ c (by simpa [qF,Cs,Cs.all] using Ce d);have bS:∀c d,(C8 c N0.ty (C8 d a.ty (qF 5 N0.ty g))).A0<=4096:=fun c d=>by show 1+0+((C8 d a.ty (qF 5 N0.ty g)).A0+0)<=_;have:=eC d;omega
 obtain⟨v,wo,bt⟩:=fZ0 (Ti 1 0 dD dD) xY hJ (hd1 false) (Ce false) (by have:=eC false;exact cH this dD);obtain⟨r,D,k1,m⟩:=bt [] .nil (g9 false);obtain rfl:=(Ct.all .ex:Ct (C8 false a.ty (qF 5 N0.ty g)) (.fn a .C0)).uniq k1;obtain⟨v1,wo1,ma,-⟩:=VX false wo (g9 false) (AM false false) (dG false false) (bS false false) m;obtain⟨ta,ea,la,na,da,-,wa⟩:=Sw (.inl rfl) w0 wo1 (ma rfl);rcases (show u=0\/u=1 from oO) with rfl|rfl
 ·have w4:=w3 true true (fun _=>rfl);rw[show (f5 true N0.ty (f5 true a.ty pb)).chk=(f5 false N0.ty (f5 false a.ty pb)).chk from rfl,KI]at w4;obtain⟨v',wo',bt'⟩:=z20 (Ti 1 0 dD dD) ha hJ (hd1 true) (Ce true) (by have:=eC true;exact cH this dD);obtain⟨r',D',aP,m'⟩:=bt' [] .nil (g9 true);obtain⟨v2,wo2,-,mb⟩:=VX true wo' (g9 true) (AM true true) (dG true true) (bS true true) m';obtain⟨tb,eb,lb,nb,-,-,wb⟩:=Sw (.inl rfl) w4 wo2 (mb rfl);exact .inr ⟨a,0,_,_,ta,tb,ea,eb,D () (),ha,.inl rfl,wm,w4,⟨la,na,da rfl,wa⟩,lb,nb,(fun _ h=>by cases h),wb⟩
 ·have w4:=w3 true false (fun h=>by cases h);rw[show (f5 true N0.ty (f5 false a.ty pb)).chk=(f5 false N0.ty (f5 false a.ty pb)).chk from rfl,KI]at w4;obtain⟨v2,wo2,-,mb⟩:=VX true wo (g9 false) (AM true false) (dG true false) (bS true false) m;obtain⟨tb,eb,lb,nb,db,-,wb⟩:=Sw (.inl rfl) w4 wo2 (mb rfl);exact .inr ⟨a,1,_,_,ta,tb,ea,eb,D () (),ha,.inr rfl,wm,w4,⟨la,na,da rfl,wa⟩,lb,nb,fun h _=>db rfl h,wb⟩
end
def er0{v:Val}{c:Nat}{wk:Int}:s6 (tE t v c wk).2.2/\((tE t v c wk).2.2=0->(tE t v c wk).1=v):=by
 rcases rT0 t v c wk with h|h|h;· exact⟨.inr (.inr (.inl h)),fun h0=>oO⟩
 ·exact⟨.inr (.inr (.inr h)),fun h0=>oO⟩
 ·exact⟨.inl h.1,fun _=>h.2⟩
def kw0(l:List Int) :
  cU 3 [.sl (P2 l)] (O2 true):=by
 have wr:=xd0;refine H2 Tryz.func3 ?_;intro X hP G0 hf X0 hn hR K1 G1;by_cases hl:l.length<=500;rotate_left;· exact O1 @hl (E8 wr (f50 l) wr)
 refine V3 @hl (P3 wr (f50 l)) ?_;refine U6 tT fun K hK=>?_;repeat (refine⟨oO,?_⟩)
 refine IV hP G0 (CI0 l) sG rfl sG sS nN ?_;rintro rr φ ⟨b,rfl,rfl⟩ -;simp[go_sem,hP,G0,hn];refine K4 ?_;clear hK K;refine U6 tT fun K hK=>?_;repeat (refine⟨oO,?_⟩)
 refine IV hP G0 (mP0 b l 0 hl oO) sG rfl sG sS nN ?_;rintro rr φ ⟨f,p,q0,S0,hq,rfl,rfl⟩ -;have h2:=aA f;have h5:=rZ p;simp[go_sem,hP,G0,hn,h2,h5];refine K4 ?_;clear hK K;have wp:cU 8 [] (.agg [j0 1,.sl []]):=IQ;have hW:(f5 false B8 p).dv = .agg [j0 8,j0 0,j0 1,.sl [],.sl [],.sl [],.sl [p.E0]]:=rfl;have w:=sA0 S0;have tQ:s6 (f5 false B8 p).chk:=w70 _;generalize (f5 false B8 p).chk=ew at *;rw[hW]at w;rcases w with⟨q1,wm⟩|⟨a,u,q,fb,ta,tb,ea,eb,D,ha,hu,wm,wi,⟨la,na,da,wa⟩,lb,nb,db,wb⟩
 ·have wl:=Vx tQ;have hz:N9.dv = .agg [j0 0,j0 0,j0 0,.sl [],.sl [],.sl [],.sl []]:=rfl;rw[hz]at wm;exact O1 (j2 @h5 @q1) (E8 wp wm wl)
 have wl:=Vx (e:=0) (.inl rfl);have wi:cU 11 [.sl [],hZ [],q.dv] (.H1 [.agg [j0 6,j0 1,.sl [],.sl [],.sl [[j0 (if decide (u=0)=true then 6 else 4),j0 a.ty.o0,.sl (a.ty.B0.map P1),.sl [],.sl [fb.E0]]],.sl []],j0 0]):=wi;by_cases q2:ea=0;rotate_left;· exact O1 (j2 @h5 @q2) (nD wp wm wi wa wb wl)
 by_cases q3:eb=0;rotate_left;· exact O1 (j3 @h5 @q2 @q3) (nD wp wm wi wa wb wl)
 refine N1 @h5 (T9 wp wm wi wa wb) ?_;rcases hu with rfl|rfl;· exact O1 (j2 @q2 @q3) H0
 have da:=da q2;have db:=db q3 rfl;have K9:a.plain:=by rcases ha with rfl|rfl <;> trivial
 have hpy:a.ty.plain:=by rcases ha with rfl|rfl <;> exact⟨fun h=>absurd h dD,trivial⟩
 have xY:a.ok:=by rcases ha with rfl|rfl <;> exact (by decide:(1:Nat)<=64)
 have wv:=vE0 a.ty b l q0 hl hq hpy;have NU:=eC0 (l:=l) a.ty hq;obtain⟨x,hx,OS⟩:=Xz l a q0 K9;rw[hx]at wv;generalize (oC l a.ty q0).2=q4 at *;have wn:=fX b l q4 50 dD oO;obtain⟨y0,y1,y2⟩:=Gq l NU (n:=50) dD;have M7:Y2 l q4 (((50:Nat)):Int)=Y2 l q4 50:=rfl;rw[M7]at y0 y1 y2;generalize Y2 l q4 50=nd at *;obtain⟨m,q5⟩:=nd;simp only at y0 y1 y2 wn;obtain⟨m,rfl⟩:=bt0 y0;have hM:MV.les 100 (jV [.C0,a] (show Q0 [.C0,a] from ((m:Nat),(x,())))):=⟨by show (m:Int)<=100;omega,MV.les_mono dD (show MV.les 5 [oH a x] from⟨OS,trivial⟩)⟩;obtain⟨c1,d1,s1⟩:=cB0 (l:=[.C0,a]) (r:=.C0) da (show Q0 [.C0,a] from ((m:Nat),(x,()))) ⟨trivial,lE,K9,xY,trivial⟩ tT;obtain⟨c2,d2,s2⟩:=cB0 (l:=[a]) (r:=.C0) db (show Q0 [a] from (x,())) ⟨K9,xY,trivial⟩ tT;have wca:=bC0 (l:=[.C0,a]) (r:=.C0) S8 da oO _ (D x) ⟨trivial,lE,K9,xY,trivial⟩ sS tT lE (s1 d1 (I5 _)) 30000 dD 100 dD (Rc _ hM);have wcb:=bC0 (l:=[a]) (r:=.C0) S8 db oO _ (D x) ⟨K9,xY,trivial⟩ sS tT lE (s2 d2 (I5 _)) 30000 dD 100 dD (Rc _ hM.2);rw[show (zU [.C0,a] (show Q0 [.C0,a] from ((m:Nat),(x,())))).map vZ=[[j0 1,j0 (m:Int),.sl [],.sl []],(bB a x).E0] from rfl]at wca
 rw[show (zU [a] (show Q0 [a] from (x,()))).map vZ=[(bB a x).E0] from rfl]at wcb;have fa:=er0 (t:=ta) (v:=bB .C0 (D x)) (c:=c1) (wk:=(30000:Nat));have fb2:=er0 (t:=tb) (v:=bB .C0 (D x)) (c:=c2) (wk:=(30000:Nat));clear s1 s2 hM hx OS da db;generalize bB a x=vx at *;generalize bB .C0 (D x)=vr at *;generalize tE ta vr c1 (30000:Nat)=ra at *;generalize tE tb vr c2 (30000:Nat)=rb at *;obtain⟨va,na2,ei⟩:=ra;obtain⟨vb,nb2,ej⟩:=rb;simp only at wca wcb fa fb2;refine N1 (j2 @q2 @q3) (cQ wv wn wca wcb) ?_;by_cases z1:ei=0;rotate_left
 ·have kU:=Vx fa.1;exact O1 @z1 (M0 kU)
 by_cases z2:ej=0;rotate_left;· exact O1 (j2 @z1 @z2) (M0 wl)
 obtain rfl:=fa.2 z1;obtain rfl:=fb2.2 z2;have ws:=kS0 vb vb;rw[show vb.same vb=true from (Val.same_iff vb vb).2 rfl]at ws;exact O1 (j2 @z1 @z2) (M0 ws)
end
section
open Go.ChangeShapes Go.WideShapes Go.ChangeAt Go.RowKit
section
variable{H:Type}{enc:TypeId × Value->H}{P:Program}{W:World}{hl:Bool}
def xe0{t e:TypeId}(ht:P.underlying t=some (.array n e)){fuel:Nat}{cs:List Value}{ds:List (DataW H)}{p:List MemPlace}(h:mP enc P W 0 (fun _=>true) hl fuel t cs=some (.agg ds,p)){d:DataW H}(hd:ds[i]? = some d):
  ∃fuel q,mP enc P W 0 (fun _=>true) hl fuel e ((cs.drop (i * P.cellsOf e)).take (P.cellsOf e))=some (d,q):=by
 cases fuel with
 | zero=>simp[mP]at h
 | succ fuel=>
  simp only[mP,ht]at h;split at h
  ·obtain⟨xs,hm,hx⟩:=vV.1 h;have AJ:xs.map (·.1)=ds:=by simpa using congrArg Prod.fst hx
   have hi:i<n:=by
    have:=(uA hd).1;rw[<- AJ,List.length_map,Lib.mapM_length hm,List.length_range]at this;exact this
   obtain⟨b,hb,hf⟩:=Lib.mapM_at hm i i (by simp[hi]);rw[<- AJ,cI,hb]at hd;cases hd;exact⟨fuel,b.2,hf⟩
  ·cases h
def Yk{t e:TypeId}{E g:Nat}(ht:P.underlying t=some (.array n e)){TS:List TypeId}(hT:JX P TS=true)(he:e∈TS)(hE:P.cellsOf e=E)(gM:0<E){fuel:Nat}{cs:List Value}{ds:List (DataW H)}{p:List MemPlace}
  (h:mP enc P W 0 (fun _=>true) hl fuel t cs=some (.agg ds,p)) {els:List (List DV)} (c8:ds.map pG=els) (hb:∀d∈ds,Rows.uptoBulk d<=1048576) (hc:∀k,W.cell? ⟨g,k,none⟩=cs[k]?) (hlen:els.length<=M5):RV (tN W) W (.sl els) (.slice (some ⟨g,0,none⟩) els.length els.length):=by
 have key:∀i el,els[i]? = some el->el.length=E/\∀j d,el[j]? = some d->d.isCell=true/\∃v,cs[i * E+j]? = some v/\RV (tN W) W d v:=by
  intro i el hi;rw[<- c8,cI]at hi;obtain⟨d,hd,rfl⟩:=vV.1 hi;obtain⟨f,q,h1⟩:=xe0 ht h hd;obtain⟨h2,h3,h4⟩:=dl0 hT f e he _ (d,q) h1 (hb d (uE hd));rw[hE]at h2 h3 h4;rw[h2]at h3;refine⟨h3,fun j c hj=>?_⟩;have I1:j<E:=by rw[<- h3];exact (uA hj).1
  have hv:=uB (show j<((cs.drop (i * E)).take E).length by rw[h2];exact I1);have h5:=h4 j c _ hj hv;refine⟨h5.1,_,?_,h5.2⟩;rw[<- hv,List.getElem?_take_of_lt I1,List.getElem?_drop]
 refine Qu (E:=E) (f:=fun k=>(W.cell? ⟨g,k,none⟩).getD undef) hlen (I5 _) (fun el hm=>?_) (fun el hm c gJ=>?_) (fun k hk=>?_) (fun i j el d hi hj=>?_)
 ·obtain⟨i,hi⟩:=Iw hm;exact (key i el hi).1
 ·obtain⟨i,hi⟩:=Iw hm;obtain⟨j,hj⟩:=Iw gJ;exact ((key i el hi).2 j c hj).1
 ·have hi:k / E<els.length:=(Nat.div_lt_iff_lt_mul gM).2 hk;have he:=uB hi;obtain⟨k1,k2⟩:=key _ _ he;have hj:k % E<els[k / E].length:=by rw[k1];exact Nat.mod_lt _ gM
  obtain⟨-,v,hv,-⟩:=k2 _ _ (uB hj);rw[Nat.mul_comm,Nat.div_add_mod]at hv;rw[Nat.zero_add,tN,hc,hv];exact⟨rfl,v,rfl⟩
 ·obtain⟨-,v,hv,hr⟩:=(key i el hi).2 j d hj;show RV (tN W) W d ((W.cell? ⟨g,i * E+j,none⟩).getD undef);rw[hc,hv];exact hr
end
def xf0 {W : World} (h : laidMet W0 [("math/bits.deBruijn32tab", Rows.laid_math_bits_deBruijn32tab), ("proofprograms/tree.rules", Rows.laid_proofprograms_tree_rules), ("proofprograms/tree.arities", Rows.laid_proofprograms_tree_arities)] W) :
  Wf gl (tN W) W:=by
 have g1 : W0.globalNamed "math/bits.deBruijn32tab" = some 0 := kK; have g2 : W0.globalNamed "proofprograms/tree.rules" = some 1 := kK; have g3 : W0.globalNamed "proofprograms/tree.arities" = some 2 := kK; obtain ⟨ps, ⟨a1, t1, cs1, fu1, p1, q1, n1, m1, v1, d1, ⟨a2, t2, cs2, fu2, p2, q2, n2, m2, v2, d2, ⟨a3, t3, cs3, fu3, p3, q3, n3, m3, v3, d3, -, -⟩, -⟩, -⟩, -⟩ := h; obtain rfl := Iq (g1.symm.trans n1); obtain rfl := Iq (g2.symm.trans n2); obtain rfl := Iq (g3.symm.trans n3); refine ⟨fun _ _ h => .inl h, fun g els hm => ?_⟩; have Fc : (g = 0 /\ els = EJ) \/ (g = 1 /\ els = CZ) \/ (g = 2 /\ els = A7) := by simpa [gl] using hm
 rcases Fc with⟨rfl,rfl⟩|⟨rfl,rfl⟩|⟨rfl,rfl⟩
 ·obtain rfl:=Iq ((show (W0.globals[0]?).map (·.type)=some 259 from kK).symm.trans m1);exact⟨32,Yk (E:=1) (TS:=[5]) Tryz.underlying259 kK (bM.2 rfl) kK dD d1 kK dD (fun k=>by rw[ko0 g1 v1];simp) dD⟩
 ·obtain rfl:=Iq ((show (W0.globals[1]?).map (·.type)=some 341 from kK).symm.trans m2);exact⟨21,Yk (E:=8) (TS:=[305,3,4]) Tryz.underlying341 kK (List.mem_cons_self ..) kK dD d2 kK dD (fun k=>by rw[ko0 g2 v2];simp) dD⟩
 ·obtain rfl:=Iq ((show (W0.globals[2]?).map (·.type)=some 373 from kK).symm.trans m3);exact⟨14,Yk (E:=1) (TS:=[3]) Tryz.underlying373 kK (bM.2 rfl) kK dD d3 kK dD (fun k=>by rw[ko0 g3 v3];simp) dD⟩
end
end Go.Proofs.YtmilnfebjgkkcaaGreatDoor.Lift
