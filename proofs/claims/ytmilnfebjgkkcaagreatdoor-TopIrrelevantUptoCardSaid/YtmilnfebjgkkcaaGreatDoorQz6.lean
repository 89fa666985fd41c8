import Derived.Test.YtmilnfebjgkkcaaGreatDoorQz5
import Derived.Test.YtmilnfebjgkkcaaGreatDoorRows
import Derived.ProofKit
import Derived.OpenShut
import Derived.JoinedCond
import Derived.ChangeSlices
import Derived.ChangeArms
import Derived.ChangeOld
import Derived.ChangeSame
import Derived.Maps.RangeRun
import Derived.Laws.MakeOwn
set_option maxHeartbeats 8000000
set_option maxRecDepth 100000
set_option linter.all false
namespace Go.Proofs.YtmilnfebjgkkcaaGreatDoor.Lift
open BitVec renaming ofInt->yL
open Bool renaming and_true->kf0,true_and->Ld
open ChangeMaps renaming setBlock->j10
open DV renaming agg->eM
open DataW renaming Trod->jZ0,trod->mP,trod_int->jX0,trod_slice->jY0
open Fm renaming B0->lP,args_mk->FO,E0->L3,cells_eq->aA,chk->wK,A0->D7,count_eq->sI,count_mem->oZ,counts_append->AZ,fit_len->yX,ind->aU,o0->cM,kind_mk->Ik,length_cells->cX,mk->oV,M1->mN,terms_mk->FN,R2->wJ,timesN_le->a00,type_mk->Le,typedN->Cp,typedN_eq->PK,upN_eq->tY
open Instr renaming findNow->Lo
open Int renaming add_nonneg->ke0,toNat_natCast->aO0
open IntKind renaming u32->Pk
open Lift.Loc renaming heap->kI,P0->mI
open Lift.Trans renaming refl->oU
open List renaming all_append->PM,all_cons->bn0,all_eq_true->yR,cons_append->R6,contains_iff_mem->bh0,drop_eq_getElem_cons->Ln,eq_nil_of_length_eq_zero->Pr,ext_getElem->aG0,getD_eq_getElem?_getD->jO,getElem?_append_left->cJ,getElem?_append_right->cK,getElem?_map->cI,getElem?_of_mem->Iw,getElem?_take_of_lt->tX,length_append->mJ,length_cons->B4,length_map->fV,length_nil->fC,map->Y3,map_append->FV,map_congr_left->kW,map_cons->G4,map_id->yW,map_map->wI,map_nil->O5,mem_append->t6,mem_cons->u5,mem_flatMap->Ug,mem_iff_getElem->yM,mem_map->F9,mem_range->DP,mem_reverse->j30,mem_singleton->bM,nil_append->aT,nodup_range->i00,pairwise_cons->bj0,range->oT,range'_succ->qJ,replicate->wG,take->FE,take_append_drop->FK,take_of_length_le->DS
open List.Perm renaming refl->bi0
open List.cons renaming injEq->FG
open Nat renaming le_refl->I5,min_eq_left->It,mul_one->bc0,or_lt_two_pow->Ix,pow_le_pow_right->Ux,pow_lt_pow_right->ka0,pow_pos->UF,pow_succ->js0,zero_add->G8,zero_le->aH
open Ne renaming symm->f8
open Option renaming bind_eq_some_iff->mH,map_eq_some_iff->vV
open Pf renaming B0->Bf,E0->lN,A0->qP,V4->Be,length_cells->fW,small->Iv,M1->Bd
open RS renaming objs->H8
open Region renaming wanted->fD
open Result renaming andThen->Lp
open SV renaming v->b7
open T renaming fn->y8,C0->N0,ok_ty->M9,ty_inj->eN
open Tm renaming args_mk->M8,E0->E3,cells_eq->O3,L4->AV,checkN_iff->lO,A0->D3,count_eq->V6,count_mem->L9,counts_append->gR,eta->Cn,fold->P5,fr_eq->qQ,frs_cons->DY,frs_nil->Bc,idx_eq->oX,idx_of->sF,ind->m7,index_mk->fE,V1->f7,inferN_eq->oW,kind_mk->Z9,len_counts->Lt,length_cells->mM,loopN->aV,mk->U0,natE->PL,natEs->kX,shape_node->j9,R2->t8,type_mk->kL,typedE->AW,upN_eq->cL
open _root_.Go.Proofs.Tryz renaming func186->iL,func225->kh0,func229->kj0,func234->DZ,func264->j70,func266->j90,func271->bm0,func28->kd0,func291->j60,func308->bq0,func334->j40,func338->j50,func350->UE,func384->bo0,func84->kc0,prog->W0
open Ty renaming E0->P1,checkN_iff->wE,length_cells->DT,mk->L0,same_iff->y9
open Value renaming okWide->j00
open World renaming cell?->rW
open _root_.Array renaming getElem?_eq_some_iff->fB,getElem?_setIfInBounds_ne->Pl
open Go
variable{L:List Int}{P:Program}{TS:List TypeId}{a c s s0:T}{b p:Pf}{base bm d h i n na u v:Nat}{e ea k:Int}{f fa fb:Fm}{fn:Func}{g:List Ty}{hs:List Fm}{ml:List (Int × DV)}{o:Oper}{pi:List DV}{r:DV}{t:Tm}{w w':World}{y:Ty}{Γ Δ Θ:List T}
section
open Go.ChangeShapes Go.WideShapes Go.ChangeAt Go.RowKit
def Nm(P:Program):List Field->Nat->Nat->Bool
 | [],o,n=>o==n
 | f::r,o,n=>f.offset==o&&Nm P r (o+P.cellsOf f.type) n
def SU(P:Program)(TS:List TypeId)(t:TypeId):Bool:=
 match P.underlying t with
 | some .bool=>P.cellsOf t==1
 | some (.int _)=>P.cellsOf t==1
 | some (.slice e)=>P.cellsOf t==1&&decide (0<P.cellsOf e)&&TS.contains e
 | some (.struct fs)=>Nm P fs.toList 0 (P.cellsOf t)&&fs.toList.all fun f=>TS.contains f.type
 | _=>false
def JX(P:Program)(TS:List TypeId):Bool:=TS.all (SU P TS)
mutual
def pG{H:Type}:DataW H->List DV
 | .lit (.bool b)=>[O2 b]
 | .lit (.int k n)=>[.K0 (.int k n)]
 | .nil=>[.sl []]
 | .slice elems _=>[.sl (Sa elems)]
 | .agg parts=>Sb parts
 | _=>[]
def Sa{H:Type}:List (DataW H)->List (List DV)
 | []=>[]
 | d::r=>pG d::Sa r
def Sb{H:Type}:List (DataW H)->List DV
 | []=>[]
 | d::r=>pG d++Sb r
end
theorem cC0{H:Type}(l:List (DataW H)):Sa l=l.map pG:=by
 induction l with
 | nil=>rfl
 | cons a r ih=>simp[Sa,ih]
theorem lw0{H:Type}(l:List (DataW H)):Sb l=l.flatMap pG:=by
 induction l with
 | nil=>rfl
 | cons a r ih=>simp[Sb,ih]
def tN(w:World):Nat->Nat->Prop:=fun b o=>∃v,w.cell? ⟨b,o,none⟩=some v
def wX(w:World)(ds:List DV)(cs:List Value):Prop:=
 ds.length=cs.length/\∀(i:Nat) (c:DV) (v:Value),ds[i]? = some c->cs[i]? = some v->c.isCell=true/\RV (tN w) w c v
theorem wX.nil(w:World):wX w [] []:=⟨rfl,sS⟩
theorem wX.one{c:DV}{v:Value}(h1:c.isCell=true)(h2:RV (tN w) w c v):wX w [c] [v]:=by
 refine⟨rfl,fun i x u hx hu=>?_⟩;cases i with
 | zero=>simp at hx hu;subst hx hu;exact⟨h1,h2⟩
 | succ i=>simp at hx
theorem wX.append{ds es:List DV}{cs us:List Value}(h1:wX w ds cs)(h2:wX w es us):wX w (ds++es) (cs++us):=by
 refine⟨by simp[h1.1,h2.1],fun i c v hc hv=>?_⟩;by_cases hi:i<ds.length
 ·rw[cJ hi]at hc;rw[cJ (by rw[<- h1.1];exact hi)]at hv;exact h1.2 i c v hc hv
 ·rw[cK oO]at hc;rw[cK (by rw[<- h1.1];omega),<- h1.1]at hv;exact h2.2 _ c v hc hv
theorem eT0{H:Type}{d:DataW H}{l:List (DataW H)}(h:d∈l):Rows.uptoBulk d<=Rows.uptoBulkAll l:=by
 induction l with
 | nil=>cases h
 | cons x r ih=>
  simp only[Rows.uptoBulkAll];cases u5.1 h with
  | inl e=>subst e;omega
  | inr e=>have:=ih e;omega
theorem wy0{H:Type}(d:DataW H):1<=Rows.uptoBulk d:=by
 cases d with
 | lit l=>cases l <;> simp[Rows.uptoBulk]
 | _=>simp[Rows.uptoBulk]
theorem eU0{H:Type}(l:List (DataW H)):l.length<=Rows.uptoBulkAll l:=by
 induction l with
 | nil=>simp[Rows.uptoBulkAll]
 | cons x r ih=>have:=wy0 x;simp only[Rows.uptoBulkAll,B4];omega
section
variable{H:Type}{enc:TypeId × Value->H}{P:Program}{w w':World}
theorem eV0(h:JX P TS=true){t:TypeId}(ht:t∈TS):SU P TS t=true:=yR.1 h t ht
theorem dl0{hd:Bool}(hT:JX P TS=true):∀(fuel:Nat) (t:TypeId),t∈TS->∀(cs:List Value) (x:DataW H × List MemPlace),mP enc P w 0 (fun _=>true) hd fuel t cs=some x->Rows.uptoBulk x.1<=1048576 ->
  cs.length=P.cellsOf t/\wX w (pG x.1) cs:=by
 intro fuel
 induction fuel with
 | zero=>intro t _ cs x h;simp[mP]at h
 | succ fuel ih=>
  intro t ht cs x h hb;have hk:=eV0 hT ht;unfold SU at hk;split at hk
  ·rename_i hu;obtain⟨b,rfl,rfl⟩:=DataW.trod_bool hu h;exact⟨by simpa using (beq_iff_eq.1 hk).symm,.one rfl (.K0 _ tT)⟩
  ·rename_i k hu;obtain⟨n,rfl,rfl,hw⟩:=jX0 hu h;exact⟨by simpa using (beq_iff_eq.1 hk).symm,.one rfl (.K0 _ (by simpa [Lit.wf,aY] using hw))⟩
  ·rename_i e hu;simp only[uH,beq_iff_eq,decide_eq_true_eq,bh0]at hk;obtain⟨⟨gN,Y5⟩,HH⟩:=hk;rcases jY0 hu h with⟨rfl,rfl⟩|⟨a,len,cap,elems,rest,n,hn,rfl,rfl,-,hl,hm,hlen,Cg,KB,-⟩;· exact⟨by simp[gN],.one rfl (.sl0 _ _)⟩
   ·obtain rfl:fuel=n:=oO;refine⟨by simp[gN],.one rfl ?_⟩;simp only[pG,cC0,wI];simp only[Rows.uptoBulk]at hb;have qA:=eU0 (elems.map (·.1));simp only[fV]at qA
    have hbe:∀y∈elems,Rows.uptoBulk y.1<=1048576:=fun y hy=>by
     have:=eT0 (List.mem_map_of_mem (f:=(·.1)) hy);omega
    have each:∀i y,elems[i]? = some y->∃us,w.cells? 0 (a.add (i * P.cellsOf e)) (P.cellsOf e)=some us/\us.length=P.cellsOf e/\wX w (pG y.1) us:=by
     intro i y hy;have hi:i<len:=by rw[<- hlen];exact (uA hy).1
     have h1:=Cg i hi;rw[hy,mH]at h1;obtain⟨us,h2,h3⟩:=h1;exact⟨us,h2,ih e HH us y h3 (hbe y (uE hy))⟩
    cases hq:elems with
    | nil=>
     rw[hq]at hlen;simp only[fC]at hlen;subst hlen;exact .sl0 _ _
    | cons y0 r0=>
     have gM:0<len:=by rw[<- hlen,hq];simp
     rw[<- hq];have W5:∀i y,elems[i]? = some y->∀j,j<P.cellsOf e->∃us,us.length=P.cellsOf e/\wX w (pG y.1) us/\w.cell? ((a.add (i * P.cellsOf e)).add j)=us[j]?:=by
      intro i y hy j hj;obtain⟨us,h1,h2,h3⟩:=each i y hy;exact⟨us,h2,h3,(World.cells?_some h1).2.2 j hj⟩
     have hH0:a.spot=none:=by
      obtain⟨us,h1,-,h3⟩:=W5 0 y0 (by rw[hq];rfl) 0 Y5;rw[Nat.zero_mul]at h3;cases hs:a.spot with
      | none=>rfl
      | some q=>
       have I1:0<us.length:=oO;rw[uB I1]at h3;have:(a.add 0).add 0=a:=by simp[Addr.add]
       rw[this]at h3;unfold rW at h3;simp[hs]at h3;split at h3 <;> cases h3
     obtain⟨ab,ao,asp⟩:=a;simp only at hH0;subst hH0;have Uf:∀i j,((⟨ab,ao,none⟩:Addr).add (i * P.cellsOf e)).add j=⟨ab,ao+(i * P.cellsOf e+j),none⟩:=by
      intro i j;rw[pC,pC,Nat.add_assoc]
     have Hj:∀i j,i<elems.length->j<P.cellsOf e->w.cell? ⟨ab,ao+(i * P.cellsOf e+j),none⟩=some ((w.cell? ⟨ab,ao+(i * P.cellsOf e+j),none⟩).getD undef):=by
      intro i j hi hj;obtain⟨us,h1,-,h3⟩:=W5 i _ (uB hi) j hj;rw[Uf]at h3;rw[h3,uB oO];rfl
     have key:=RV.sl (D:=tN w) (w:=w) (elems.map (fun y=>pG y.1)) ab ao cap (P.cellsOf e) (fun i j=>(w.cell? ⟨ab,ao+(i * P.cellsOf e+j),none⟩).getD undef) (by simp[M5];omega) (by simp;omega)
      (by
       intro q eX;obtain⟨y,hy,rfl⟩:=F9.1 eX;obtain⟨i,hi⟩:=Iw hy;obtain⟨us,-,h2,h3⟩:=each i y hi;rw[h3.1,h2])
      (by
       intro q eX c hc;obtain⟨y,hy,rfl⟩:=F9.1 eX;obtain⟨i,hi⟩:=Iw hy;obtain⟨us,-,h2,h3⟩:=each i y hi;obtain⟨j,hj⟩:=Iw hc;have Hm:=(uA hj).1;exact (h3.2 j c (us[j]'(by rw[<- h3.1];exact Hm)) hj (uB (by rw[<- h3.1];exact Hm))).1)
      (fun i j hi hj=>Hj i j (by simpa using hi) hj) (fun i j hi hj=>⟨_,Hj i j (by simpa using hi) hj⟩)
      (by
       intro i j q c hi hj;rw[cI]at hi;cases hy:elems[i]? with
       | none=>simp[hy]at hi
       | some y=>
        simp[hy]at hi;subst hi;obtain⟨us0,-,g2,g3⟩:=each i y hy;have Hm:j<P.cellsOf e:=by rw[<- g2,<- g3.1];exact (uA hj).1
        obtain⟨us,h1,h2,h3⟩:=W5 i y hy j Hm;rw[Uf]at h3;have hu:us[j]? = some us[j]:=uB oO;rw[h3,hu];exact (h2.2 j c us[j] hj hu).2)
     simp only[fV,hlen]at key;exact key
  ·rename_i fs hu;simp only[uH,yR,bh0]at hk;obtain⟨gN,Y5⟩:=hk;obtain⟨xs,n,hn,rfl,bT,OS,hx⟩:=DataW.trod_struct hu h;obtain rfl:fuel=n:=oO;refine⟨bT,?_⟩;simp only[pG,lw0];simp only[Rows.uptoBulk]at hb
   have hbe:∀y∈xs,Rows.uptoBulk y.1<=1048576:=fun y hy=>by
    have:=eT0 (List.mem_map_of_mem (f:=(·.1)) hy);omega
   have main:∀(gs:List Field) (ys:List (DataW H × List MemPlace)) (o:Nat),(∀f∈gs,f.type∈TS)->(∀y∈ys,Rows.uptoBulk y.1<=1048576)->Nm P gs o (P.cellsOf t)=true->gs.length=ys.length ->
     (∀(i:Nat) (f:Field),gs[i]? = some f->mP enc P w 0 (fun _=>true) hd fuel f.type ((cs.drop f.offset).take (P.cellsOf f.type))=ys[i]?)->wX w ((ys.map (·.1)).flatMap pG) (cs.drop o):=by
    intro gs
    induction gs with
    | nil=>
     intro ys o _ _ ht hl _;obtain rfl:ys=[]:=Pr (by simpa using hl.symm);simp only[Nm,beq_iff_eq]at ht;rw[ht,<- bT,List.drop_length];exact .nil w
    | cons f r l6=>
     intro ys o hm OU ht hl oI;cases ys with
     | nil=>simp at hl
     | cons y ys=>
      simp only[Nm,uH,beq_iff_eq]at ht;have h0:=oI 0 f rfl;rw[ht.1]at h0;obtain⟨q1,q2⟩:=ih f.type (hm f sS) _ y h0 (OU y sS);have Q3:=l6 ys (o+P.cellsOf f.type) (fun g hg=>hm g (by simp[hg])) (fun z hz=>OU z (by simp[hz])) ht.2 (by simpa using hl) (fun i g hg=>by simpa using oI (i+1) g (by simpa using hg));have e:cs.drop o=(cs.drop o).take (P.cellsOf f.type)++cs.drop (o+P.cellsOf f.type):=by
       rw[<- List.drop_drop,FK]
      rw[e];simp only[G4,List.flatMap_cons];exact q2.append Q3
   have:=main fs.toList xs 0 (fun f hf=>Y5 f hf) hbe gN (by simp[OS]) (fun i f hf=>hx i f (by simpa using hf))
   simpa using this
  ·cases hk
theorem o30(hT:JX P TS=true){sp:Nat->Bool}{held:Bool}:∀(fuel:Nat) (t:TypeId),t∈TS->∀(cs:List Value) (x:DataW H × List MemPlace),mP enc P w base (fun _=>true) held fuel t cs=some x->(∀p∈x.2,sp p.block=true) ->
  mP enc P w base sp held fuel t cs=some x:=by
 intro fuel
 induction fuel with
 | zero=>intro t _ cs x h;simp[mP]at h
 | succ fuel ih=>
  intro t ht cs x h hs;have hk:=eV0 hT ht;unfold SU at hk;split at hk
  ·rename_i hu;obtain⟨b,rfl,rfl⟩:=DataW.trod_bool hu h;simp[mP,hu]
  ·rename_i k hu;obtain⟨n,rfl,rfl,hw⟩:=jX0 hu h;simp[mP,hu,hw]
  ·rename_i e hu;simp only[uH,beq_iff_eq,decide_eq_true_eq,bh0]at hk;obtain⟨⟨gN,Y5⟩,HH⟩:=hk;have Gc0:cs=[.slice none 0 0]\/∃a len cap,cs=[.slice (some a) len cap]:=by
    rcases jY0 hu h with⟨rfl,-⟩|⟨a,len,cap,_,_,_,_,rfl,-⟩;· exact .inl rfl
    ·exact .inr ⟨a,len,cap,rfl⟩
   rcases Gc0 with rfl|⟨a,len,cap,rfl⟩
   ·simp only[mP,hu]at h ⊢;exact h
   ·simp only[mP,hu]at h ⊢;split at h
    ·rename_i ZA;rw[if_pos ZA];simp only[if_true,mH,vV]at h;obtain⟨elems,h1,rest,h2,rfl⟩:=h;have iC:∀y∈elems++rest,∀p∈y.2,sp p.block=true:=fun y hy p hp=>hs p (t6.2 (.inr (Ug.2 ⟨y,hy,hp⟩)));have step:∀(i:Nat) (y:DataW H × List MemPlace),y∈elems++rest->(w.cells? base (a.add (i * P.cellsOf e)) (P.cellsOf e)).bind (mP enc P w base (fun _=>true) held fuel e)=some y->(w.cells? base (a.add (i * P.cellsOf e)) (P.cellsOf e)).bind (mP enc P w base sp held fuel e)=some y:=by
      intro i y hy h;rw[mH]at h ⊢;obtain⟨us,q1,q2⟩:=h;exact⟨us,q1,ih e HH us y q2 (iC y hy)⟩
     have e1:=mapM_carry (g:=fun i=>(w.cells? base (a.add (i * P.cellsOf e)) (P.cellsOf e)).bind (mP enc P w base sp held fuel e)) h1 (fun i y _ hy hi=>step i y (t6.2 (.inl hy)) hi);rw[e1];simp only[Option.bind_some];have e2:=mapM_carry (g:=fun j=>(w.cells? base (a.add ((len+j) * P.cellsOf e)) (P.cellsOf e)).bind (mP enc P w base sp held fuel e)) h2 (fun i y _ hy hi=>step _ y (t6.2 (.inr hy)) hi);by_cases hz:elems.length+rest.length=0
     ·have dW:rest=[]:=Pr oO;have hlen:rest.length=cap - len:=by simpa using mapM_some_length h2
      have n8:cap - len=0:=by rw[<- hlen,dW];rfl
      subst dW;rw[n8];split <;> simp
     ·have KB:sp a.block=true:=by
       have hn:0<(elems.length+rest.length) * P.cellsOf e:=Nat.mul_pos oO Y5;exact hs (.cell a.block (a.off+0)) (t6.2 (.inl (MemPlace.mem_row.2 ⟨0,hn,rfl⟩)))
      rw[if_pos KB,e2];rfl
    ·cases h
  ·rename_i fs hu;simp only[uH,yR,bh0]at hk;obtain⟨gN,Y5⟩:=hk;obtain⟨xs,n,hn,rfl,bT,OS,hx⟩:=DataW.trod_struct hu h;obtain rfl:fuel=n:=oO;unfold mP at h ⊢;rw[hu]at h ⊢;simp only[bT,if_true,vV]at h ⊢;obtain⟨ys,h1,h2⟩:=h
   have hy:∀y∈ys,∀p∈y.2,sp p.block=true:=fun y hy p hp=>hs p (by
    have:xs.flatMap (·.2)=ys.flatMap (·.2):=(congrArg Prod.snd h2).symm;rw[this];exact Ug.2 ⟨y,hy,hp⟩)
   exact⟨ys,mapM_carry h1 (fun f y hf K8 hr=>ih f.type (Y5 f hf) _ y hr (hy y K8)),h2⟩
  ·cases hk
theorem o40(hT:JX P TS=true)(hw:∀b,b<w.heap.size->w'.heap[b]? = w.heap[b]?){sp:Nat->Bool}{held:Bool}{t:TypeId}(ht:t∈TS){v:Value}{d:DataW H}{ps:List MemPlace}(h:jZ0 enc P w base (fun _=>true) held t v d ps)
  (hs:∀p∈ps,sp p.block=true):jZ0 enc P w' base sp held t v d ps:=by
 obtain⟨fuel,h⟩:=h;refine⟨fuel,DataW.trod_carry _ _ _ _ (o30 hT fuel t ht _ _ h hs) fun p hp=>?_⟩;have I1:=DataW.trod_lt fuel t _ _ h p hp;cases p with
 | cell b o=>simp only[World.sameAt,rW];rw[hw b I1]
 | map b=>exact hw b I1
end
theorem rU0{H:Type}{enc:TypeId × Value->H}{t e:TypeId}(ht:P.underlying t=some (.slice e))(he:P.underlying e=some (.int .i64))(hT:JX P [t,e]=true){v:Value}{d:DataW H}{ps:List MemPlace}(h:jZ0 enc P w 0 (fun _=>true) true t v d ps)(W5:v.cells = #[v])
  (hb:Rows.uptoBulk d<=1048576):∃l:List Int,RV (tN w) w (.sl (l.map fun n=>[j0 n])) v/\l.length<=1048576:=by
 obtain⟨fuel,h⟩:=h;rw[W5]at h;have key:∃l:List Int,pG d=[.sl (l.map fun n=>[j0 n])]/\l.length<=1048576:=by
  rcases jY0 ht h with⟨-,hx⟩|⟨a,len,cap,elems,rest,n,hn,-,hx,-,hl,hm,hlen,Cg,KB,-⟩;· cases hx;exact⟨[],rfl,sS⟩
  ·cases hx;simp only[Rows.uptoBulk]at hb;have qA:=eU0 (elems.map (·.1));simp only[fV]at qA;have each:∀y∈elems,∃m:Int,pG y.1=[j0 m]:=by
    intro y hy;obtain⟨i,hi⟩:=Iw hy;have J8:i<len:=by rw[<- hlen];exact (uA hi).1
    have h1:=Cg i J8;rw[hi,mH]at h1;obtain⟨us,-,h3⟩:=h1;obtain⟨m,-,rfl,-⟩:=jX0 he h3;exact⟨m,rfl⟩
   have:∃l:List Int,elems.map (fun y=>pG y.1)=l.map fun n=>[j0 n]:=by
    clear Cg hlen qA h hb KB
    induction elems with
    | nil=>exact⟨[],rfl⟩
    | cons y r ih=>
     obtain⟨m,hm⟩:=each y sS;obtain⟨l,hl⟩:=ih fun z hz=>each z (by simp[hz]);exact⟨m::l,by simp[hm,hl]⟩
   obtain⟨l,hl⟩:=this;have AB:l.length=elems.length:=by simpa using (congrArg List.length hl).symm
   refine⟨l,?_,oO⟩;simp only[pG,cC0,wI];exact congrArg (fun q=>[DV.sl q]) hl
 obtain⟨l,h1,h2⟩:=key;obtain⟨-,h3⟩:=dl0 hT fuel t sS _ _ h hb;rw[h1]at h3;exact⟨l,(h3.2 0 _ v rfl rfl).2,h2⟩
theorem mH0{r:Reach}{t e:TypeId}(ht:P.underlying t=some (.slice e)){v:Value}(h:j00 P w r base t v):v.cells = #[v]:=by
 cases v <;> first|rfl|(simp[j00,Cell.okWide,Cell.ok,ht]at h)
theorem WZ{D':Nat->Nat->Prop}(h:Ext [] (tN w) w D' w'):∀b,b<w.heap.size->w'.heap[b]? = w.heap[b]?:=fun b hb=>h.block b hb sS fun ⟨_,⟨_,h1⟩,h2⟩=>by rw[h1]at h2;cases h2
theorem wz0{D':Nat->Nat->Prop}(h:Ext [] (tN w) w D' w')(may:MemPlace->Prop):w.keptBut w' may:=by
 refine⟨h.os,h.output,fun i hi=>?_⟩;rw[WZ h i hi];cases hq:w.heap[i]? with
 | none=>rfl
 | some o=>cases o <;> first|rfl|exact⟨rfl,rfl,rfl,fun _ _=>rfl⟩|exact .inr ⟨rfl,rfl⟩
theorem mI0{H:Type}{enc:TypeId × Value->H}{P:Program}{f:Func}{s:ChangeSpec}{iQ aC handsOn again:Bool}{W W':World}{D':Nat->Nat->Prop}{args:Array Value}{v:Value}{ds gs:List (DataW H)}{before pa pv:List MemPlace}
  (hW:DataW.Whole enc P f.params.toList s.vars iQ W args.toList ds gs before)
  (bU:∀(b:Nat) (sp:Nat->Bool) (hd:Bool),DataW.TrodAll enc P W' b sp hd f.resultTypes.toList (v.resultList f.resultTypes.size) (s.fn H (ds++gs)).results [])
  (V2:∀sp:Nat->Bool,(∀p∈before,sp p.block=true)->DataW.TrodAll enc P W' 0 sp true f.params.toList args.toList (s.fn H (ds++gs)).args pa)
  (hN0:∀sp:Nat->Bool,(∀p∈before,sp p.block=true)->DataW.TrodVars enc P W' sp s.vars (s.fn H (ds++gs)).vars pv)
  (kT:before=pa++pv) (hx:Ext [] (tN W) W D' W')
  (O8:∀(j:Nat) (t:TypeId) (r:Value),f.resultTypes[j]? = some t->(v.resultList f.resultTypes.size)[j]? = some r->j00 P W' .any 0 t r) :
  s.post enc P f iQ aC handsOn again W args v W':=by
 have I1:∀p∈before,p.block<W.heap.size:=fun p hp=>hW.lt p hp;have hold:∀p∈before,(fun b=>decide (b<W.heap.size)) p.block=true:=fun p hp=>by simpa using I1 p hp
 refine⟨ds,gs,before,[],pa,pv,hW,bU _ _ _,V2 _ hold,hN0 _ hold,World.keptBut_mono (fun p hp=>⟨hp,?_⟩) (wz0 hx (·∈before)),fun _=>?_⟩
 ·rw[kT,t6]at hp;exact Or.inr hp
 ·obtain⟨_,_,_,_,_,hz,hn⟩:=hW;refine⟨O8,_,_,([]++pa)++pv,⟨[]++pa,pv,trodAll_append (V2 _ (fun _ _=>rfl)) (bU _ _ _),hN0 _ (fun _ _=>rfl),rfl,?_,?_⟩,?_⟩
  ·intro b off hp;have V7:MemPlace.cell b off∈before:=by rw[kT];simpa using hp
   have h2:W'.frozen? ⟨b,off,none⟩=W.frozen? ⟨b,off,none⟩:=by
    simp only[World.frozen?,WZ hx b (I1 _ V7)]
   rw[h2];exact hz b off V7
  ·intro ha;have:=hn ha;rw[kT]at this
   simpa using this
  ·intro p hp _;rw[kT]
   simpa using hp
end
section
section
variable{X:Ctx}{s s0:St}{k:List Item}
def oG(ml:List (Int × DV))(n:Int)(d:DV):List (Int × DV):=match xM ml n with
 | some _=>ml
 | none=>ml++[(n,d)]
theorem fB0(n:Int):∀(es:List MapEntry) (j:Nat) (r:Nat) (v:Value),(∀e∈es,∃k,e.key = .int .i64 k)->Lo (.int .i64) (.int .i64 n) es j=some (some (r,v))->∃i e,r=j+i/\es[i]? = some e/\e.key = .int .i64 n
 | [],j,r,v,_,h=>by simp[Lo]at h
 | e::es,j,r,v,hk,h=>by
  obtain⟨k,oK⟩:=hk e sS;unfold Lo at h;simp only[oK,Instr.sameNow,if_true]at h;by_cases Dx:n=k
  ·subst Dx;simp only[beq_self_eq_true]at h;cases h;exact⟨0,e,rfl,rfl,oK⟩
  ·have X1:(n==k)=false:=by simpa using Dx
   rw[X1]at h;obtain⟨i,e',h1,h2,h3⟩:=fB0 n es (j+1) r v (fun e he=>hk e (by simp[he])) h;exact⟨i+1,e',oO,by simpa using h2,h3⟩
theorem k60{T:TypeId}{x i y:Operand}(ho:o.op = .mapUpdate T x i y)(hd:o.dst=none)(hT:Ag X.P T=true){b:Nat}{n:Int}{ml:List (Int × DV)}{dv:DV}
  (hx:M2 X (get s) x=some (.v (.K0 (.map (some b))))) (hi:M2 X (get s) i=some (.v (.K0 (.int .i64 n)))) (hy:M2 X (get s) y=some (.v dv)) (hm:get s (.heap b)=some (.mp ml)) (u4:∀p∈ml,p.2=dv) (hl:(xM ml n).isSome=true):bX X s o (L2 s (.heap b) (.mp ml)):=by
 intro G a w R next Q hK
 obtain⟨dv',L8⟩:=Option.isSome_iff_exists.1 hl;have hv:=(X6 (O4 R hx)).1;have HA:=(X6 (O4 R hi)).1;have rQ:RV G.D w dv (a.eval y):=O4 R hy;obtain⟨key,e,h1,h2⟩:=QQ hT;obtain⟨es,cl,m1,m2,m3,mc,mb⟩:=R.holds _ _ hm;obtain⟨r,v,f1,-⟩:=(QR (G:=G) (w:=w) n ml es.toList 0 (by simpa using m2) fun i k d e hi he=>m3 i k d e hi (by simpa using he)).1 dv' L8;have Tt:∀e∈es.toList,∃k,e.key = .int .i64 k:=by
  intro e he;obtain⟨i,hi,rfl⟩:=yM.1 he;have I1:i<ml.length:=by simp at hi;omega
  exact⟨_,(m3 i (ml[i]).1 (ml[i]).2 _ (uB I1) sS).1⟩
 obtain⟨i0,e0,g1,g2,g3⟩:=fB0 n es.toList 0 r v Tt f1;have dW:r=i0:=oO;subst dW;have g2:es[r]? = some e0:=by simpa using g2
 refine bP (by intro c e;rw[ho]at e;cases e) ?_;have C9:(execOp a.eval o).run X.P w = .ok .skip { w with heap:=w.heap.setIfInBounds b (.map (es.modify r fun e=>{ e with key:=.int .i64 n,val:=a.eval y }) cl) }:=by
  simp[execOp,ho,hv,HA,Instr.mapUpdate,run_underlying h1,Qy m1,Vc h2,Vq h2 f1,c00 _ m1,g2,g3,Instr.keyThatStays,Instr.sameBits,Lp]
 rw[C9,Mj,hd];have qA:b<w.heap.size:=(fB.1 m1).1;have A4:∀o,¬G.D b o:=fun o=>R.data _ _ b o hm rfl rfl;have As:∀b',b'≠b->(w.heap.setIfInBounds b (.map (es.modify r fun e=>{ e with key:=.int .i64 n,val:=a.eval y }) cl))[b']? = w.heap[b']?:=fun b' X2=>Pl (f8 X2);have T':Trans X G a w G a { w with heap:=w.heap.setIfInBounds b (.map (es.modify r fun e=>{ e with key:=.int .i64 n,val:=a.eval y }) cl) } (fun b'=>b' = b):=by
  refine⟨rfl,fun h=>h.keep rfl fun D hD=>?_,rfl,rfl,rfl,sS,fun b' X2 hn=>As b' hn,fun b' X2=>?_,fun b' o hD=>⟨hD,.of (As b' fun e=>by subst e;exact A4 o hD)⟩,fun _ _ h k=>absurd h k,R.nil⟩
  ·refine (As D fun e=>?_).trans hD;subst e;rw[m1]at hD;cases hD
  ·subst X2;exact (R.own _ _ b' hm rfl).imp id fun h=>.inl h.1
 refine hK G a _ ?_;refine R.step T' (fun l u=>l = .heap b/\u = .mp ml) (fun l u h=>?_) (fun l u h=>?_) (fun l u l' u' b' h h' _ _=>h.1.trans h'.1.symm)
 ·rw[T5]at h;by_cases L8:kI b=l;· rw[if_pos L8]at h;cases h;exact .inl ⟨L8.symm,rfl⟩
  ·rw[if_neg L8]at h;refine .inr ⟨h,fun _ _=>rfl,fun b' X2 he=>?_,fun _ _=>rfl,fun _ _=>rfl⟩;subst he;exact L8 (R.sep _ _ _ _ b' hm h rfl X2)
 ·obtain⟨rfl,rfl⟩:=h;refine⟨⟨es.modify r fun e=>{ e with key:=.int .i64 n,val:=a.eval y },cl,?_,by simp[m2],fun i' k d e s9 he=>?_,mc,fun i' e he=>?_⟩,fun b' X2=>?_⟩;· simp[qA]
  ·rw[Array.getElem?_modify]at he;split at he
   ·rename_i cG;subst cG;obtain⟨e1,Tn,rfl⟩:=vV.1 he;rw[g2]at Tn;cases Tn;obtain⟨q1,-⟩:=m3 _ k d e0 s9 g2;rw[g3]at q1;have ZX:d=dv:=u4 _ (uE s9);subst ZX;exact⟨q1,rQ.mono T'.grow⟩
   ·obtain⟨q1,q2⟩:=m3 i' k d e s9 he;exact⟨q1,q2.mono T'.grow⟩
  ·rw[Array.getElem?_modify]at he;split at he
   ·obtain⟨e1,Tn,rfl⟩:=vV.1 he;exact mb i' e1 Tn
   ·exact mb i' e he
  ·cases X2;exact⟨.inr rfl,R.own _ _ b hm rfl,fun _ o=>A4 o⟩
theorem VU{L1:List Nat}{ops:Array Oper}{l:List Oper}{K:St->Prop}{T ty:TypeId}{x i y:Operand}{pos:String}{af:Array Edge}{q:Option (Prop × St)}{b:Nat}{n:Int}{ml:List (Int × DV)}{dv:DV}(hT:Ag X.P T=true)
  (hx:M2 X (get s) x=some (.v (.K0 (.map (some b))))) (hi:M2 X (get s) i=some (.v (.K0 (.int .i64 n)))) (hy:M2 X (get s) y=some (.v dv)) (hm:get s (.heap b)=some (.mp ml)) (u4:∀p∈ml,p.2=dv) (hq:q=none)
  (h:vc X L1 ops l (L2 s (.heap b) (.mp (oG ml n dv))) K):cB X L1 ops l K ⟨none,.mapUpdate T x i y,ty,pos,af,none⟩ s q:=by
 subst hq;cases hl:xM ml n with
 | none=>
  have e:oG ml n dv=ml++[(n,dv)]:=by unfold oG;rw[hl]
  rw[e]at h;exact kY0 hT hx hi hy hm hl rfl h
 | some d=>
  have e:oG ml n dv=ml:=by unfold oG;rw[hl]
  rw[e]at h;exact wS rfl (k60 (o:=⟨none,.mapUpdate T x i y,ty,pos,af,none⟩) rfl rfl hT hx hi hy hm u4 (by rw[hl];rfl)) (bW h)
theorem mJ0{T:TypeId}{x:Operand}(ho:o.op = .range T x)(hd:o.dst=some d)(hn:d<X.n)(hT:Ag X.P T=true){b:Nat}{ml:List (Int × DV)}
  (hx:M2 X (get s) x=some (.v (.K0 (.map (some b))))) (hm:get s (.heap b)=some (.mp ml)) {G:Gh} {a:Act} {w:World} (R:Rel X G s a w) (next:Act->World->Prop) (Q:Exit->Act->World->Prop)
  (hK:∀r,newB r s->X.w0.heap.size<=r->∀G' a' w',Rel X G' (L2 (L2 s (.P0 d) (.one (.v (.K0 (.pointer (some ⟨r,0,none⟩)))))) (.heap r) (.ob (.it b ml.length []))) a' w'->next a' w'):o.wpIn X.F 0 X.P a w next Q:=by
 have hv:=(X6 (O4 R hx)).1;obtain⟨key,e,h1,h2⟩:=QQ hT;obtain⟨es,cl,m1,m2,m3,mc,mb⟩:=R.holds _ _ hm;subst mc;refine bP (by intro c e;rw[ho]at e;cases e) ?_;have C9:(execOp a.eval o).run X.P w = .ok (.value (.pointer (some ⟨w.heap.size,0,none⟩))) (w.alloc (.mapIter (some b) ml.length #[] ml.length)):=by
  simp[execOp,ho,hv,Instr.range,run_underlying h1,Qy m1,Lp]
 rw[C9,fF,hd];have hp:=qT a (some d) (.pointer (some ⟨w.heap.size,0,none⟩))
 have T':Trans X G a w G (a.put (some d) (.pointer (some ⟨w.heap.size,0,none⟩))) (w.alloc (.mapIter (some b) ml.length #[] ml.length)) (fun _=>False):=
  ⟨hp.1,fun h=>(h.heap fun b hb=>aI w _ b hb).put hp.2,rfl,rfl,rfl,sS,fun b hb _=>aI w _ b hb,fun _ h=>h.elim,fun b k hD=>⟨hD,.of (aI w _ _ (R.wf.lt hD))⟩,fun b k hD dV=>absurd hD dV,R.nil⟩
 refine hK w.heap.size (IW R) R.ext.size G _ _ ?_;refine R.step T' (fun l u=>(l = .P0 d/\u = .one (.v (.K0 (.pointer (some ⟨w.heap.size,0,none⟩)))))\/(l = .heap w.heap.size/\u = .ob (.it b ml.length []))) (fun l u h=>?_) (fun l u h=>?_) (fun l u l' u' b h h' hb X2=>?_)
 ·rw[T5,T5]at h;by_cases h1:kI w.heap.size=l;· rw[if_pos h1]at h;cases h;exact .inl (.inr ⟨h1.symm,rfl⟩)
  ·rw[if_neg h1]at h;by_cases h3:mI d=l;· rw[if_pos h3]at h;cases h;exact .inl (.inl ⟨h3.symm,rfl⟩)
   ·rw[if_neg h3]at h;exact .inr ⟨h,fun n hn=>zC _ _ _ _ (fun e=>h3 (by rw[hn,e])),fun b hb DA=>DA.elim,fun _ _=>rfl,fun _ _=>rfl⟩
 ·rcases h with⟨rfl,rfl⟩|⟨rfl,rfl⟩
  ·refine⟨?_,fun b hb=>by cases hb⟩;show B7 G _ (.v _) _;rw[zB _ _ _ (by rw[R.size];exact hn)];exact .K0 _ tT
  ·refine⟨Ej w _,fun b hb=>?_⟩;cases hb;exact⟨.inl (I5 _),.inl R.ext.size,fun _ o hD=>absurd (R.wf.lt hD) (Nat.lt_irrefl _)⟩
 ·rcases h with⟨rfl,rfl⟩|⟨rfl,rfl⟩;· cases hb
  ·rcases h' with⟨rfl,rfl⟩|⟨rfl,rfl⟩;· cases X2
   ·rfl
theorem o50{L1:List Nat}{ops:Array Oper}{l:List Oper}{K:St->Prop}{d:Tmp}{T ty:TypeId}{x:Operand}{pos:String}{af:Array Edge}{q:Option (Prop × St)}{b:Nat}{ml:List (Int × DV)}(hn:d<X.n)(hT:Ag X.P T=true)
  (hx:M2 X (get s) x=some (.v (.K0 (.map (some b))))) (hm:get s (.heap b)=some (.mp ml)) (hq:q=none)
  (h:∀r,newB r s->X.w0.heap.size<=r->vc X L1 ops l (L2 (L2 s (.P0 d) (.one (.v (.K0 (.pointer (some ⟨r,0,none⟩)))))) (.heap r) (.ob (.it b ml.length []))) K):cB X L1 ops l K ⟨some d,.range T x,ty,pos,af,none⟩ s q:=by
 subst hq;intro m rP G a w R0;obtain⟨p1,p3⟩:=pA rP;simp only[B4,qJ,wpOpsIn,p1,fD,if_true];exact mJ0 (o:=⟨some d,.range T x,ty,pos,af,none⟩) rfl rfl hn hT hx hm R0 _ _ fun b hb hw G' a' w' R'=>bW (h b hb hw) (m+1) p3 G' a' w' R'
theorem o60{it:Operand}(ho:o.op = .next it false)(hd:o.dst=some d)(hn:d<X.n){r b n:Nat}{seen:List Nat}{ml:List (Int × DV)}
  (hx:M2 X (get s) it=some (.v (.K0 (.pointer (some ⟨r,0,none⟩))))) (hr:get s (.heap r)=some (.ob (.it b n seen))) (hm:get s (.heap b)=some (.mp ml)) (tS:n=ml.length) (HK:∀p∈ml,aY (.int .i64 p.1)) {G:Gh} {a:Act} {w:World} (R:Rel X G s a w) (next:Act->World->Prop) (Q:Exit->Act->World->Prop)
  (h0:(∀i,i<n->i∈seen)->∀G' a' w',Rel X G' (L2 s (.P0 d) (.one (.v (.H1 [.K0 (.bool false)])))) a' w'->next a' w')
  (h1:∀i k dv,ml[i]? = some (k,dv)->i∉seen->∀G' a' w',Rel X G' (L2 (L2 s (.P0 d) (.one (.v (.H1 [.K0 (.bool true),.K0 (.int .i64 k),dv])))) (.heap r) (.ob (.it b n (seen++[i])))) a' w'->next a' w'):o.wpIn X.F 0 X.P a w next Q:=by
 subst tS;have hv:=(X6 (O4 R hx)).1;obtain⟨es,cl,m1,m2,m3,mc,mb⟩:=R.holds _ _ hm;have u6:w.heap[r]? = some (.mapIter (some b) ml.length seen.toArray ml.length):=R.holds _ _ hr;subst mc;have h60:∀x∈es.toList,∃i,es[i]? = some x/\x.born=i/\i<ml.length:=by
  intro x hx;obtain⟨i,hi,rfl⟩:=yM.1 hx;have h1:es[i]? = some (es.toList[i]):=sS;exact⟨i,h1,mb i _ h1,by simp at hi;omega⟩
 refine bP (by intro c e;rw[ho]at e;cases e) ?_;rcases run_next_at (P:=X.P) w o.type r b ml.length ml.length seen.toArray es ml.length u6 m1 (fun x hx=>by obtain⟨i,-,h2,h3⟩:=h60 x hx;omega) (I5 _) with⟨hz,O7⟩|⟨e,he,w1,Fs,O7⟩
 ·have C9:(execOp a.eval o).run X.P w = .ok (.value (.tuple #[.bool false])) w:=by simp[execOp,ho,hv,O7,Lp]
  rw[C9,fF,hd];refine h0 (fun i hi=>?_) G _ w (R.setSlot (oU X G a w R.nil) rfl rfl (fun _ h=>h) hn (.H1 _ _ rfl fun i c v hc hv=>?_))
  ·have I1:i<es.size:=oO;have DK:leftOf es seen.toArray = #[]:=Array.eq_empty_of_size_eq_zero hz;have:=mb i es[i] (uG I1)
   false_or_by_contra
   rename_i xZ;have iC:es[i]∈leftOf es seen.toArray:=by
    unfold leftOf;simp[this,xZ]
   rw[DK]at iC;simp at iC
  ·cases i with
   | zero=>simp at hc hv;subst hc hv;exact .K0 _ tT
   | succ i=>simp at hc
 ·have iC:e∈es.toList/\e.born∉seen:=by unfold leftOf at he;simpa using he
  obtain⟨i,hi,Cf,J8⟩:=h60 e iC.1;obtain⟨k0,oK⟩:∃k0,ml[i]? = some k0:=⟨_,uB J8⟩;obtain⟨kk,dv⟩:=k0;obtain⟨q1,q2⟩:=m3 i kk dv e oK hi;have C9:(execOp a.eval o).run X.P w = .ok (.value (.tuple #[.bool true,e.key,e.val])) (j10 w1 r (.mapIter (some b) ml.length (seen.toArray.push e.born) ml.length)):=by simp[execOp,ho,hv,O7,Lp]
  rw[C9,fF,hd,q1];have hp:=qT a (some d) (.tuple #[.bool true,.int .i64 kk,e.val]);have vP:w1.heap=w.heap:=by rcases Fs with rfl|rfl <;> rfl
  have OP:w1.heap.size=w.heap.size:=by rw[vP]
  have Oq:r<w.heap.size:=(fB.1 u6).1;have A4:∀o,¬G.D r o:=fun o=>R.data _ _ r o hr rfl rfl
  have As:∀b',b'≠r->(j10 w1 r (.mapIter (some b) ml.length (seen.toArray.push e.born) ml.length)).heap[b']? = w.heap[b']?:=fun b' X2=>by
   show (w1.heap.setIfInBounds r _)[b']? = _;rw[Pl (f8 X2),vP]
  have T':Trans X G a w G (a.put (some d) (.tuple #[.bool true,.int .i64 kk,e.val])) (j10 w1 r (.mapIter (some b) ml.length (seen.toArray.push e.born) ml.length)) (fun b'=>b' = r):=by
   refine⟨hp.1,fun h=>h.keep hp.2 fun D hD=>?_,?_,?_,?_,?_,fun b' X2 hn=>As b' hn,fun b' X2=>?_,fun b' o hD=>⟨hD,.of (As b' fun e=>by subst e;exact A4 o hD)⟩,fun _ _ h k=>absurd h k,R.nil⟩
   ·refine (As D fun e=>?_).trans hD;subst e;rw[u6]at hD;cases hD
   ·rcases Fs with rfl|rfl <;> rfl
   ·rcases Fs with rfl|rfl <;> rfl
   ·rcases Fs with rfl|rfl <;> rfl
   ·show w.heap.size<=(w1.heap.setIfInBounds r _).size;simp[OP]
   ·subst X2;exact (R.own _ _ b' hr rfl).imp id fun h=>.inl h.1
  refine h1 i kk dv oK (by rw[<- Cf];exact iC.2) G _ _ ?_;refine R.step T' (fun l u=>(l = .P0 d/\u = .one (.v (.H1 [.K0 (.bool true),.K0 (.int .i64 kk),dv])))\/(l = .heap r/\u = .ob (.it b ml.length (seen++[i])))) (fun l u h=>?_) (fun l u h=>?_) (fun l u l' u' b' h h' hb X2=>?_)
  ·rw[T5,T5]at h;by_cases L8:kI r=l;· rw[if_pos L8]at h;cases h;exact .inl (.inr ⟨L8.symm,rfl⟩)
   ·rw[if_neg L8]at h;by_cases h3:mI d=l;· rw[if_pos h3]at h;cases h;exact .inl (.inl ⟨h3.symm,rfl⟩)
    ·rw[if_neg h3]at h;refine .inr ⟨h,fun n hn=>zC _ _ _ _ (fun e=>h3 (by rw[hn,e])),fun b' X2 he=>?_,fun _ _=>rfl,fun _ _=>rfl⟩;subst he;exact L8 (R.sep _ _ _ _ b' hr h rfl X2)
  ·rcases h with⟨rfl,rfl⟩|⟨rfl,rfl⟩
   ·refine⟨?_,fun b hb=>by cases hb⟩;show B7 G _ (.v _) _;rw[zB _ _ _ (by rw[R.size];exact hn)];refine .H1 _ _ rfl fun j c v hc hv=>?_
    match j with
    | 0=>simp at hc hv;subst hc hv;exact .K0 _ tT
    | 1=>simp at hc hv;subst hc hv;exact .K0 _ (HK _ (uE oK))
    | 2=>simp at hc hv;subst hc hv;exact q2.mono T'.grow
    | j+3=>simp at hc
   ·refine⟨?_,fun b' X2=>?_⟩
    ·show (w1.heap.setIfInBounds r _)[r]? = _;simp[OP,Oq,Ob.obj,Cf]
    ·cases X2;exact⟨.inr rfl,R.own _ _ r hr rfl,fun _ o=>A4 o⟩
  ·rcases h with⟨rfl,rfl⟩|⟨rfl,rfl⟩;· cases hb
   ·rcases h' with⟨rfl,rfl⟩|⟨rfl,rfl⟩;· cases X2
    ·rfl
theorem eb0{L1:List Nat}{ops:Array Oper}{l:List Oper}{K:St->Prop}{d:Tmp}{ty:TypeId}{it:Operand}{pos:String}{af:Array Edge}{q:Option (Prop × St)}{r b n:Nat}{seen:List Nat}{ml:List (Int × DV)}(hn:d<X.n)
  (hx:M2 X (get s) it=some (.v (.K0 (.pointer (some ⟨r,0,none⟩))))) (hr:get s (.heap r)=some (.ob (.it b n seen))) (hm:get s (.heap b)=some (.mp ml)) (tS:n=ml.length) (HK:∀p∈ml,aY (.int .i64 p.1)) (hq:q=none)
  (h0:(∀i,i<n->i∈seen)->vc X L1 ops l (L2 s (.P0 d) (.one (.v (.H1 [.K0 (.bool false)])))) K)
  (h1:∀i k dv,ml[i]? = some (k,dv)->i∉seen->vc X L1 ops l (L2 (L2 s (.P0 d) (.one (.v (.H1 [.K0 (.bool true),.K0 (.int .i64 k),dv])))) (.heap r) (.ob (.it b n (seen++[i])))) K):cB X L1 ops l K ⟨some d,.next it false,ty,pos,af,none⟩ s q:=by
 subst hq;intro m rP G a w R0;obtain⟨p1,p3⟩:=pA rP;simp only[B4,qJ,wpOpsIn,p1,fD,if_true];exact o60 (o:=⟨some d,.next it false,ty,pos,af,none⟩) rfl rfl hn hx hr hm tS HK R0 _ _ (fun h G' a' w' R'=>bW (h0 h) (m+1) p3 G' a' w' R') fun i k dv hi hs G' a' w' R'=>bW (h1 i k dv hi hs) (m+1) p3 G' a' w' R'
theorem mK0{it:Operand}(ho:o.op = .entry it)(hd:o.dst=some d)(hn:d<X.n){r b n i:Nat}{seen:List Nat}{ml:List (Int × DV)}{kk:Int}{dv:DV}
  (hx:M2 X (get s) it=some (.v (.K0 (.pointer (some ⟨r,0,none⟩))))) (hr:get s (.heap r)=some (.ob (.it b n (seen++[i])))) (hm:get s (.heap b)=some (.mp ml)) (tS:n=ml.length) (hi:ml[i]? = some (kk,dv)) (HK:aY (.int .i64 kk)) :
  bX X s o (L2 s (.P0 d) (.one (.v (.H1 [.K0 (.int .i64 kk),dv])))):=by
 intro G a w R next Q hK
 subst tS;have hv:=(X6 (O4 R hx)).1;obtain⟨es,cl,m1,m2,m3,mc,mb⟩:=R.holds _ _ hm;have u6:w.heap[r]? = some (.mapIter (some b) ml.length (seen++[i]).toArray ml.length):=R.holds _ _ hr;subst mc;have J8:i<es.size:=by rw[m2];exact (uA hi).1
 have he:es[i]? = some es[i]:=uG J8;obtain⟨q1,q2⟩:=m3 i kk dv _ hi he;have hb:=mb i _ he;have A4:(es.toList.map (·.born)).Nodup:=by
  have e:es.toList.map (·.born)=oT es.size:=by
   apply aG0;· simp
   ·intro p h1 h2;have hp:p<es.size:=by simpa using h2
    simpa using mb p _ (uG hp)
  rw[e];exact i00
 have O7:=run_entry_at (P:=X.P) w r b ml.length seen.toArray es ml.length es[i] (by rw[u6,hb];simp) m1 sS A4;refine bP (by intro c e;rw[ho]at e;cases e) ?_;have C9:(execOp a.eval o).run X.P w = .ok (.value (.tuple #[es[i].key,es[i].val])) w:=by simp[execOp,ho,hv,O7,Lp]
 rw[C9,fF,hd];refine hK G _ w (R.setSlot (oU X G a w R.nil) rfl rfl (fun _ h=>h) hn (.H1 _ _ rfl fun j c v hc hv=>?_))
 match j with
 | 0=>simp at hc hv;subst hc hv;rw[q1];exact .K0 _ HK
 | 1=>simp at hc hv;subst hc hv;exact q2
 | j+2=>simp at hc
theorem dm0{L1:List Nat}{ops:Array Oper}{l:List Oper}{K:St->Prop}{d:Tmp}{ty:TypeId}{it:Operand}{pos:String}{af:Array Edge}{q:Option (Prop × St)}{r b n i:Nat}{seen:List Nat}{ml:List (Int × DV)}{kk:Int}{dv:DV}(hn:d<X.n)
  (hx:M2 X (get s) it=some (.v (.K0 (.pointer (some ⟨r,0,none⟩))))) (hr:get s (.heap r)=some (.ob (.it b n (seen++[i])))) (hm:get s (.heap b)=some (.mp ml)) (tS:n=ml.length) (hi:ml[i]? = some (kk,dv)) (HK:aY (.int .i64 kk)) (hq:q=none)
  (h:vc X L1 ops l (L2 s (.P0 d) (.one (.v (.H1 [.K0 (.int .i64 kk),dv])))) K):cB X L1 ops l K ⟨some d,.entry it,ty,pos,af,none⟩ s q:=by
 subst hq;exact wS rfl (mK0 (o:=⟨some d,.entry it,ty,pos,af,none⟩) rfl rfl hn hx hr hm tS hi HK) (bW h)
end
end
section
def LCM(P:Program)(gl:X8)(f:FuncId)(args:List DV)(b:Nat)(ml:List (Int × DV))(R:DV->List (Int × DV)->Prop):Prop:=
 ∀(D:Nat->Nat->Prop) (w:World) (vs:Array Value),Wf gl D w->vs.size=args.length->(∀(i:Nat) (x:DV) (v:Value),args[i]? = some x->vs[i]? = some v->RV D w x v)->Nc ⟨D,fun _=>0,fun _=>(none,0)⟩ w b ml->(∀o,¬D b o) ->
  Calls P f vs w fun e w'=>∃v D' r jI,e = .returned v/\R r jI/\Ext [b] D w D' w'/\Wf gl D' w'/\RV D' w' r v/\Nc ⟨D',fun _=>0,fun _=>(none,0)⟩ w' b jI/\∀o,¬D' b o
def gU0(P:Program)(gl:X8)(f:FuncId)(args:List DV)(b:Nat)(ml:List (Int × DV))(R:DV->List (Int × DV)->Prop):Prop:=Rt P f/\LCM P gl f args b ml R
def Nn(P:Program)(gl:X8)(f:FuncId)(args:List DV)(b:Nat)(ml:List (Int × DV))(r:DV)(jI:List (Int × DV)):Prop:=gU0 P gl f args b ml fun x m=>x=r/\m=jI
theorem dn0{gl:X8}{f:FuncId}{args:List DV}{bm:Nat}{ml:List (Int × DV)}{R:DV->List (Int × DV)->Prop}{body:Code}(hf:P.funcs[f]? = some fn)
  (h:∀X:Ctx,X.P=P->X.gl=gl->X.f=f->X.fn=fn->X.n=fn.ntmps->X.md = .fm bm R->X.ids=[bm]->(∀x∈args,DV.fit x)->W X [.code body] (bA 0 args++[(.heap bm,.mp ml)]))
  (hb : fn.body = some body := by rfl) (Dp : (fn.name == "runtime.NumGoroutine") = false := by kernel_rfl) (hn : args.length <= fn.ntmps := by exact uF rfl) : gU0 P gl f args bm ml R := by
 refine⟨⟨fn,hf,by simp[hb],Dp⟩,?_⟩;intro D w vs dX P6 V2 FD0 A4 cs
 let X:Ctx:={ P:=P,gl:=gl,f:=f,fn:=fn,n:=fn.ntmps,ids:=[bm],D0:=D,w0:=w,R:=fun _ _=>True,md:=.fm bm R }
 have G1:∀x∈args,DV.fit x:=by
  intro x hx;obtain⟨i,hi,rfl⟩:=List.mem_iff_getElem.1 hx;exact RV.fit (V2 i _ vs[i] (uB hi) (uG oO))
 have hW:=h X rfl rfl rfl rfl rfl rfl rfl G1
 let a:Act:={ tmps:=vs++Array.replicate (fn.ntmps - vs.size) undef,defers:=[] }
 have Rl:Rel X { D:=D,ν:=fun _=>0,τ:=fun _=>(none,0) } (bA 0 args++[(.heap bm,.mp ml)]) a w:=by
  have d8:∀l v,get (bA 0 args++[(.heap bm,.mp ml)]) l=some v->(∃i x,l = .P0 i/\v = .one (.v x)/\args[i]? = some x)\/(l = .heap bm/\v = .mp ml):=by
   intro l v hl;rw[eE]at hl;rcases Option.or_eq_some_iff.1 hl with hl|⟨-,hl⟩
   ·obtain⟨i,x,h1,h2,h3⟩:=QL hl;exact .inl ⟨i,x,by simpa using h1,h2,h3⟩
   ·simp only[get]at hl;split at hl;· rename_i e;cases hl;exact .inr ⟨e.symm,rfl⟩
    ·cases hl
  refine⟨by simp[a,X];omega,⟨[],rfl,List.nodup_nil,sS⟩,Ext.refl _ _ _,dX,rfl,fun l v hl=>?_,fun l v l' v' b hl L8 hb X2=>?_,fun l v b hl hb=>?_,fun l v b o hl hb _=>?_⟩
  ·rcases d8 l v hl with⟨i,x,rfl,rfl,hx⟩|⟨rfl,rfl⟩
   ·have hi:i<vs.size:=by rw[P6];exact (uA hx).1
    have hv:vs[i]? = some vs[i]:=uG hi;show RV D w x _;have:a.tmps.getD i undef=vs[i]:=by
     simp[a,Array.getElem?_append_left hi,hv]
    rw[this];exact V2 i x _ hx hv
   ·exact FD0
  ·rcases d8 l v hl with⟨i,x,rfl,rfl,hx⟩|⟨rfl,rfl⟩;· cases hb
   ·rcases d8 l' v' L8 with⟨i,x,rfl,rfl,hx⟩|⟨rfl,rfl⟩;· cases X2
    ·rfl
  ·rcases d8 l v hl with⟨i,x,rfl,rfl,hx⟩|⟨rfl,rfl⟩;· cases hb
   ·simp only[D5,uC]at hb;subst hb;exact .inr ⟨List.mem_singleton.2 rfl,rfl⟩
  ·rcases d8 l v hl with⟨i,x,rfl,rfl,hx⟩|⟨rfl,rfl⟩;· cases hb
   ·simp only[D5,uC]at hb;subst hb;exact A4 o
 let b:Frame:={ (default:Frame) with fn:=f,kind:=.normal }
 have Hl:Frame.enter P f vs .normal=b.atR a [.code body]:=by
  simp[Frame.enter,Frame.atR,hf,hb,b,a];rfl
 obtain⟨w',fr,⟨v,D',r,jI,k1,⟨k2,k3,k4,k5,k6⟩,h3,h4⟩,h2⟩:=hW _ a w b cs rfl rfl rfl Rl;rw[<- Hl]at h2;exact⟨.returned v,w',fr,⟨v,D',r,jI,rfl,k1,k2,k3,k4,k5,k6⟩,h2,h3,h4⟩
section
variable{X:Ctx}{s:St}{k:List Item}
theorem fC0{Q:DV->List (Int × DV)->Prop}(t9:X.md = .fm bm Q)(An:X.P.funcs[X.f]? = some X.fn)(hr:rJ X (get s) X.fn.results.toList=some r)(hm:get s (.heap bm)=some (.mp ml))(hR:Q r ml){m:List Item}(oN:Np X m):W X m s:=by
 intro G a w b cs hf hk jM R;obtain⟨Ds,OX,-⟩:=R.defers;obtain⟨w',qH,k1,R',k3,k4,k5,k6,k7⟩:=Vk (cs:=cs) Ds a w { b.atR a m with mode:=.returning } OX R rfl rfl;obtain⟨v,h1,h2⟩:=VB R' hr;refine⟨w',qH,?_,.head (oN a w b cs (jM.trans (by simp[Ctx.rd,t9]))) k1⟩;simp only[Nz,t9];exact⟨v,G.D,r,ml,hR,⟨R'.ext,R'.wf,h2,R'.holds _ _ hm,fun o=>R'.data _ _ bm o hm rfl rfl⟩,k5.trans hf,k3,k4,k6.trans hk,X.fn,by rw[k5];exact (congrArg _ hf).trans An,by rw[k7];exact h1⟩
theorem XW(hP:X.P=P){f:FuncId}(hf:X.f=f)(X0:X.fn=fn)(t9:X.md = .fm bm fun x m=>x=r/\m=ml){kk:List Item}
  (h:P.funcs[f]? = some fn/\rJ X (get s) fn.results.toList=some r/\get s (.heap bm)=some (.mp ml)):W X (.code .ret::kk) s:=by
 subst hP hf X0;exact fC0 t9 h.1 h.2.1 h.2.2 ⟨rfl,rfl⟩ Rs
theorem XX(hP:X.P=P){f:FuncId}(hf:X.f=f)(X0:X.fn=fn)(t9:X.md = .fm bm fun x m=>x=r/\m=ml)
  (h:P.funcs[f]? = some fn/\rJ X (get s) fn.results.toList=some r/\get s (.heap bm)=some (.mp ml)):W X [] s:=by
 subst hP hf X0;exact fC0 t9 h.1 h.2.1 h.2.2 ⟨rfl,rfl⟩ Ml
theorem Rel.callM{G:Gh}{a:Act}(R:Rel X G s a w){b:Nat}{jI:List (Int × DV)}(hm:get s (.heap b)=some (.mp ml)){D':Nat->Nat->Prop}(hx:Ext [b] G.D w D' w')(dX:Wf X.gl D' w'){v:Value}(hr:RV D' w' r v)
  (hh:Nc ⟨D',fun _=>0,fun _=>(none,0)⟩ w' b jI) (A4:∀o,¬D' b o) {d:Nat} (hd:d<X.n) :
  Rel X { D:=D',ν:=G.ν,τ:=G.τ } (L2 (L2 s (.P0 d) (.one (.v r))) (.heap b) (.mp jI)) (a.put (some d) v) w':=by
 have hp:=qT a (some d) v;have T:Trans X G a w { D:=D',ν:=G.ν,τ:=G.τ } (a.put (some d) v) w' (fun b'=>b' = b\/mA G.D w b'):=by
  refine⟨hp.1,fun h=>h.keep hp.2 fun D hD=>(hx.block D (fB.1 hD).1 (fun BO=>?_) (R.wf.unsoft hD sS sS)).trans hD,hx.os,hx.tape,hx.output,hx.size,fun b' hb hn=>hx.block b' hb (by simpa using fun h=>hn (.inl h)) fun h=>hn (.inr h),fun b' hb=>?_,hx.grow,fun b o hD hn=>⟨.inl (hx.new b o hD hn),dX.there b o hD⟩,R.nil⟩
  ·obtain rfl:D=b:=by simpa using BO
   obtain⟨es,cl,h4,_⟩:=R.holds _ _ hm;rw[hD]at h4;cases h4
  ·rcases hb with rfl|hb;· exact (R.own _ _ b' hm rfl).imp id fun h=>.inl h.1
   ·exact (R.ext.soft hb).imp id .inr
 refine R.step T (fun l u=>(l = .P0 d/\u = .one (.v r))\/(l = .heap b/\u = .mp jI)) (fun l u h=>?_) (fun l u h=>?_) (fun l u l' u' b h h' hb X2=>?_)
 ·rw[T5,T5]at h;by_cases h1:kI b=l;· rw[if_pos h1]at h;cases h;exact .inl (.inr ⟨h1.symm,rfl⟩)
  ·rw[if_neg h1]at h;by_cases h3:mI d=l;· rw[if_pos h3]at h;cases h;exact .inl (.inl ⟨h3.symm,rfl⟩)
   ·rw[if_neg h3]at h;refine .inr ⟨h,fun n hn=>zC _ _ _ _ (fun e=>h3 (by rw[hn,e])),fun b' X2 he=>?_,fun _ _=>rfl,fun _ _=>rfl⟩;rcases he with rfl|he;· exact h1 (R.sep _ _ _ _ b' hm h rfl X2)
    ·exact R.unsoft h X2 he
 ·rcases h with⟨rfl,rfl⟩|⟨rfl,rfl⟩
  ·refine⟨?_,fun b hb=>by cases hb⟩;show RV D' w' r _;rw[zB _ _ _ (by rw[R.size];exact hd)];exact hr
  ·refine⟨hh,fun b' X2=>?_⟩;cases X2;exact⟨.inr (.inl rfl),R.own _ _ b hm rfl,fun _ o=>A4 o⟩
 ·rcases h with⟨rfl,rfl⟩|⟨rfl,rfl⟩;· cases hb
  ·rcases h' with⟨rfl,rfl⟩|⟨rfl,rfl⟩;· cases X2
   ·rfl
theorem b50{f:FuncId}{args:Array Operand}{X5:Array TypeId}(ho:o.op = .call { callee:=.value (.func f),args:=args,argTypes:=X5 })
  {ds:List DV} (V2:aZ X (get s) args.toList=some ds) {b:Nat} {ml jI:List (Int × DV)} {r:DV} (hc:Nn X.P X.gl f ds b ml r jI) (hm:get s (.heap b)=some (.mp ml)) {d:Nat} (hd:o.dst=some d) (C7:d<X.n) :
  bX X s o (L2 (L2 s (.P0 d) (.one (.v r))) (.heap b) (.mp jI)):=by
 intro G a w R0 next Q hK
 obtain⟨q1,q2⟩:=FZ R0 V2;have Fw:args.size=ds.length:=by simpa using q1
 refine bP (by intro c e;rw[ho]at e;cases e) ?_;have O7:(execOp a.eval o).run X.P w = .ok (.enter f (args.map a.eval)) w:=by
  simp[execOp,ho,resolve,Act.eval,Deferred.ofValue,invoke,Qf hc.1]
 rw[O7,Wa];refine (hc.2 G.D w _ R0.wf (by simp[<- q1]) (fun i x v hx hv=>q2 i x v hx (by simpa using hv)) (R0.holds _ _ hm) (fun o=>R0.data _ _ b o hm rfl rfl)).mono ?_;rintro e w' ⟨v,D',r',m',rfl,⟨rfl,rfl⟩,Fg,dX,Du,hh,A4⟩;rw[hd];exact hK _ _ w' (R0.callM hm Fg dX Du hh A4 C7)
theorem Wv{L1:List Nat}{ops:Array Oper}{l:List Oper}{K:St->Prop}{d:Tmp}{f:FuncId}{args:Array Operand}{X5:Array TypeId}{ty:TypeId}{pos:String}{af:Array Edge}{gl:X8}(hP:X.P=P)(G0:X.gl=gl)
  {ds J9:List DV} {b:Nat} {ml jI:List (Int × DV)} {r:DV} (hc:Nn P gl f J9 b ml r jI) (V2:aZ X (get s) args.toList=some ds) (c8:ds=J9) (hm:get s (.heap b)=some (.mp ml)) (C7:d<X.n)
  (h:vc X L1 ops l (L2 (L2 s (.P0 d) (.one (.v r))) (.heap b) (.mp jI)) K) :
  cB X L1 ops l K ⟨some d,.call { callee:=.value (.func f),args:=args,argTypes:=X5 },ty,pos,af,none⟩ s (H4 X L1 s ⟨some d,.call { callee:=.value (.func f),args:=args,argTypes:=X5 },ty,pos,af,none⟩):=by
 subst c8;have e:H4 X L1 s ⟨some d,.call { callee:=.value (.func f),args:=args,argTypes:=X5 },ty,pos,af,none⟩=none:=by
  simp only[H4,dA,N8,oB,A9];split <;> rfl
 rw[e];exact wS rfl (b50 (o:=⟨some d,.call { callee:=.value (.func f),args:=args,argTypes:=X5 },ty,pos,af,none⟩) rfl V2 (by rw[hP,G0];exact hc) hm rfl C7) (bW h)
theorem QC{s0:St}{L1:List Nat}{ops:Array Oper}{K:St->Prop}{l:List Oper}{k:St->List Ev->Prop}{ev:List Ev}{fp wr:List Loc}{d:Tmp}{f:FuncId}{args:Array Operand}{X5:Array TypeId}{ty:TypeId}{pos:String}{af:Array Edge}{s1:St}
  (hk:∀s ev,k s ev->VD X ops s0 l s ev K) {P:Program} {gl:X8} (hP:X.P=P) (G0:X.gl=gl) {ds J9:List DV} {b:Nat} {ml jI:List (Int × DV)} {r:DV} (hc:Nn P gl f J9 b ml r jI) (V2:aZ X (get s) args.toList=some ds) (c8:ds=J9) (hm:get s (.heap b)=some (.mp ml)) (C7:d<X.n)
  (h:rM k ev s (S6 args.toList++[.heap b]) [] [(.P0 d,some (.one (.v r))),(.heap b,some (.mp jI))]) :
  Ae X ops s0 l K k ⟨some d,.call { callee:=.value (.func f),args:=args,argTypes:=X5 },ty,pos,af,none⟩ ev s fp wr (H4 X L1 s1 ⟨some d,.call { callee:=.value (.func f),args:=args,argTypes:=X5 },ty,pos,af,none⟩):=by
 subst c8;have e:H4 X L1 s1 ⟨some d,.call { callee:=.value (.func f),args:=args,argTypes:=X5 },ty,pos,af,none⟩=none:=by
  simp only[H4,dA,N8,oB,A9];split <;> rfl
 rw[e];show VD X ops s0 _ s ev K;refine Bv ⟨S6 args.toList++[.heap b],[(.P0 d,some (.one (.v r))),(.heap b,some (.mp jI))],[]⟩ (fun s' hs _=>zN (.inl rfl) ?_) (hk _ _ (by exact h));refine (b50 (o:=⟨some d,.call { callee:=.value (.func f),args:=args,argTypes:=X5 },ty,pos,af,none⟩) rfl (Gb hs (fun m hm=>VE hm) V2) (by rw[hP,G0];exact hc) (hs _ _ (Cv (t6.2 (.inr (bM.2 rfl))) hm)) rfl C7).congr fun m=>?_;rfl
end
end
section
section
variable{X:Ctx}{s:St}
theorem EY0{b:Nat}{l r:List SV}{kk:List Item}(A5:get s (.heap b)=some (.row (l++r)))(h:W X kk (L2 s (.heap b) (.row l))):W X kk s:=by
 intro G a w b' cs hf nO hr R;refine h G a w b' cs hf nO hr ?_;have hb:jT G w b l:=by
  obtain⟨c,e,h1,h2,h3⟩:=R.holds _ _ A5;rw[mJ]at h2;refine⟨c,e,h1,oO,fun i x hx=>?_⟩;have I1:=(uA hx).1;exact h3 i x (by rw[cJ I1];exact hx)
 have key:∀l' v,get (L2 s (.heap b) (.row l)) l' = some v->∃v0,get s l' = some v0/\D5 G l' v=D5 G l' v0:=by
  intro l' v hl;rw[T5]at hl;split at hl
  ·subst_vars;cases hl;exact⟨_,A5,rfl⟩
  ·exact⟨v,hl,rfl⟩
 refine⟨R.size,R.defers,R.ext,R.wf,R.nil,fun l v hl=>?_,fun l v l' v' b' hl L8 V8 Z8=>?_,fun l v b' hl V8=>?_,fun l v b' o hl V8 ht=>?_⟩
 ·rw[T5]at hl;split at hl
  ·subst_vars;cases hl;exact hb
  ·exact R.holds _ _ hl
 ·obtain⟨v0,k1,k2⟩:=key _ _ hl;obtain⟨v1,k3,k4⟩:=key _ _ L8;rw[k2]at V8;rw[k4]at Z8;exact R.sep _ _ _ _ _ k1 k3 V8 Z8
 ·obtain⟨v0,k1,k2⟩:=key _ _ hl;rw[k2]at V8;exact R.own _ _ _ k1 V8
 ·obtain⟨v0,k1,k2⟩:=key _ _ hl;rw[k2]at V8;exact R.data _ _ _ o k1 V8 ht
end
end
section
def Hd(k:Int):List Int->List Int
 | []=>[k]
 | a::r=>if k<=a then k::a::r else a::Hd k r
def zZ:List Int->List Int
 | []=>[]
 | a::r=>Hd a (zZ r)
theorem ec0(k:Int)(l:List Int):(Hd k l).Perm (k::l):=by
 induction l with
 | nil=>exact bi0 _
 | cons a r ih=>
  unfold Hd;split;· exact bi0 _
  ·exact (ih.cons a).trans (List.Perm.swap k a r)
theorem do0(l:List Int):(zZ l).Perm l:=by
 induction l with
 | nil=>exact bi0 _
 | cons a r ih=>exact (ec0 a _).trans (ih.cons a)
theorem mL0(k:Int){l:List Int}(h:l.Pairwise (·<=·)):(Hd k l).Pairwise (·<=·):=by
 induction l with
 | nil=>simp[Hd]
 | cons a r ih=>
  obtain⟨h1,h2⟩:=bj0.1 h;unfold Hd;split
  ·rename_i hk;refine bj0.2 ⟨fun b hb=>?_,h⟩;rcases u5.1 hb with rfl|hb;· exact hk
   ·exact Int.le_trans hk (h1 b hb)
  ·rename_i hk;refine bj0.2 ⟨fun b hb=>?_,ih h2⟩;rcases u5.1 ((ec0 k r).mem_iff.1 hb) with rfl|hb;· omega
   ·exact h1 b hb
theorem lx0(l:List Int):(zZ l).Pairwise (·<=·):=by
 induction l with
 | nil=>exact List.Pairwise.nil
 | cons a r ih=>exact mL0 a ih
theorem wA0{l ks:List Int}(h:l.Pairwise (·<=·))(hp:l.Perm ks):l=zZ ks:=
 List.Perm.eq_of_pairwise (le:=fun a b=>a<=b) (fun _ _ _ _ h1 h2=>Int.le_antisymm h1 h2) h (lx0 ks) (hp.trans (do0 ks).symm)
theorem ed0(l:List Int):(zZ l).length=l.length:=(do0 l).length_eq
abbrev rN:DV:=.K0 (.bool true)
def kQ(ml:List (Int × DV)):List Int->List (Int × DV)
 | []=>ml
 | n::r=>kQ (oG ml n rN) r
theorem QD(ml:List (Int × DV))(l:List Int)(n:Int):kQ ml (l++[n])=oG (kQ ml l) n rN:=by
 induction l generalizing ml with
 | nil=>rfl
 | cons a r ih=>exact ih _
def vJ(ml:List (Int × DV)):Prop:=(∀p∈ml,p.2=rN)/\∀p∈ml,aY (.int .i64 p.1)
theorem Sc{n:Int}(h:vJ ml)(hn:aY (.int .i64 n)):vJ (oG ml n rN):=by
 unfold oG;split;· exact h
 ·exact⟨fun p hp=>by rcases t6.1 hp with hp|hp;exact h.1 p hp;simp at hp;rw[hp],fun p hp=>by rcases t6.1 hp with hp|hp;exact h.2 p hp;simp at hp;rw[hp];exact hn⟩
theorem Xa(ml:List (Int × DV))(n:Int):(oG ml n rN).length<=ml.length+1:=by unfold oG;split <;> simp
theorem Re(ml:List (Int × DV))(l:List Int):(kQ ml l).length<=ml.length+l.length:=by
 induction l generalizing ml with
 | nil=>exact I5 _
 | cons n r ih=>have:=ih (oG ml n rN);have:=Xa ml n;simp only[kQ,B4];omega
def Tm.marksN:Tm->Int->List (Int × DV)->List (Int × DV)
 | .mk k i _ a,d,ml=>markss a (d+W2 k) (if k=1/\d<=i then oG ml (i - d) rN else ml)
where
 markss:List Tm->Int->List (Int × DV)->List (Int × DV)
  | [],_,ml=>ml
  | x::r,d,ml=>markss r d (x.marksN d ml)
theorem Tm.marksN_eq(t:Tm)(d:Int)(ml:List (Int × DV)):t.marksN d ml=marksN.markss t.B0 (d+W2 t.o0) (if t.o0=1/\d<=t.O0 then oG ml (t.O0 - d) rN else ml):=by cases t;rfl
theorem Tm.markss_snoc(l:List Tm)(x:Tm)(d:Int)(ml:List (Int × DV)):marksN.markss (l++[x]) d ml=x.marksN d (marksN.markss l d ml):=by
 induction l generalizing ml with
 | nil=>rfl
 | cons a r ih=>exact ih _
theorem dp0{n:Int}(h:0<=n)(h2:n<=1099511627776):aY (.int .i64 n):=⟨by show (-9223372036854775808:Int)<=n;omega,by show n<=(9223372036854775807:Int);omega⟩
theorem eW0(t:Tm):∀(d:Int) (ml:List (Int × DV)),0<=d->t.idx 1099511627776->vJ ml->vJ (t.marksN d ml)/\(t.marksN d ml).length<=ml.length+t.A0:=by
 induction t using m7 with
 | h t ih=>
 intro d ml hd hi hs;have aQ:=(oX t _).1 hi;have key:∀(l:List Tm) (d:Int) (ml:List (Int × DV)),0<=d->(∀x∈l,x∈t.B0)->vJ ml->vJ (Tm.marksN.markss l d ml)/\(Tm.marksN.markss l d ml).length<=ml.length+D3.Z0 l:=by
  intro l
  induction l with
  | nil=>intro d ml _ _ h;exact⟨h,I5 _⟩
  | cons a r l6=>
   intro d ml hd hl h;obtain⟨h1,h2⟩:=ih a (hl a sS) d ml hd (aQ.2 a (hl a sS)) h;obtain⟨h3,h4⟩:=l6 d (a.marksN d ml) hd (fun x hx=>hl x (by simp[hx])) h1;exact⟨h3,by simp only[Tm.marksN.markss,D3.Z0];omega⟩
 have hb:=lT t.o0;rw[Tm.marksN_eq,V6];split
 ·rename_i h1;obtain⟨h2,h3⟩:=key t.B0 (d+W2 t.o0) (oG ml (t.O0 - d) rN) oO (fun _ h=>h) (Sc hs (dp0 oO oO));have:=Xa ml (t.O0 - d);exact⟨h2,oO⟩
 ·obtain⟨h2,h3⟩:=key t.B0 (d+W2 t.o0) ml oO (fun _ h=>h) hs;exact⟨h2,oO⟩
def xJ(ml:List (Int × DV)):List Int:=ml.map (·.1)
theorem zD0(t:Tm):∀(d:Int) (b:Nat) (ml:List (Int × DV)),0<=d->d+t.A0<=1099511627776->t.idx 1099511627776->vJ ml ->
  Nn W0 gl 388 [t.dv,j0 d,.K0 (.map (some b))] b ml (.H1 []) (t.marksN d ml):=by
 induction t using m7 with
 | h t ih=>
 intro d b ml hd hdc hi hs;have aQ:=(oX t _).1 hi;have N4:=V6 t;have kE:=lT t.o0;have qE:=Tm.marksN_eq t d ml;refine dn0 Tryz.func388 ?_;intro X hP G0 hf X0 hn t9 K1 G1;have hlen:=Tm.fit_len (G1 t.dv sS);simp only[bA,R6,aT];obtain⟨m0,AQ⟩:∃m0,m0=if t.o0=1/\d<=t.O0 then oG ml (t.O0 - d) rN else ml:=⟨_,rfl⟩
 have bK:vJ m0:=by
  rw[AQ];split;· exact Sc hs (dp0 oO oO)
  ·exact hs
 rw[<- AQ]at qE;apply vF [sV 1 (j0 d),sV 2 (.K0 (.map (some b))),sP 3,sL 3 (gG t),(.heap  b,.mp (m0)),sV 25 (j0 0),sV 24 (j0 t.B0.length),sV 23 (.sl (t.B0.map E3))]
 ·intro Q3;by_cases h1:t.o0=1
  ·by_cases h2:d<=t.O0
   ·rw[if_pos ⟨h1,h2⟩]at AQ;have TK:¬t.O0<d:=oO;refine U1 (j2 @h1 @h2) ?_;refine Q1 ?_;refine O9 [] fun K hK=>?_;simp[go_sem,hP,G0,hn];repeat (refine⟨oO,?_⟩)
    refine VU (b:=b) (n:=t.O0 - d) (ml:=ml) (dv:=rN) (by rw[hP];kernel_rfl) sG sG sG sG hs.1 (by rfl) ?_;simp[go_sem];refine hK _ ?_;clear hK K;refine N2 ?_;refine m5 ?_;refine G2 [] (j2 @h1 @AQ) Q3
   ·rw[if_neg fun h=>h2 h.2]at AQ;refine U1 (j2 @h1 @h2) ?_;refine m5 ?_;refine G2 [] (j2 @h1 @AQ) Q3
  ·rw[if_neg fun h=>h1 h.1]at AQ;refine U1 @h1 ?_;refine m5 ?_;refine G2 [] (j2 @h1 @AQ) Q3
 ·refine Q1 ?_;refine aM [] sG (by simp[go_sem,Tm.marksN.markss] <;> omega) sG (dB (t.B0) (fun done=>vJ (Tm.marksN.markss done (d+W2 t.o0) m0)) (fun done rest=>[sV 1 (j0 d),sV 2 (.K0 (.map (some b))),sP 3,sL 3 (gG t),(.heap  b,.mp (Tm.marksN.markss done (d+W2 t.o0) m0)),sV 25 (j0 done.length),sV 24 (j0 t.B0.length),sV 23 (.sl (t.B0.map E3))]) (bK) ?_ ?_)
  ·intro done x rest hL B3 hI Z1;have I1:=E5 hL;have U2:=uE B3;have aF:=L9 U2;have w:=ih x U2 (d+W2 t.o0) b (Tm.marksN.markss done (d+W2 t.o0) m0) oO oO (aQ.2 x U2) hI;refine K5 ?_;refine U1 @B3 ?_;refine U6 tT fun K hK=>?_;refine Z7 tT (Mo t) ?_;repeat (refine⟨oO,?_⟩)
   refine QC (fun _ _=>iN) hP G0 w sH rfl sG nN ?_;simp[go_sem,hP,G0,hn];refine K4 ?_;clear hK K;refine W3 (wr []) @Tm.markss_snoc tT (Z1 (by rw[Tm.markss_snoc];exact (eW0 x _ _ oO (aQ.2 x U2) hI).1))
  ·intro hI;refine T7 ?_;refine N2 ?_;refine Q1 ?_;first|refine XW hP hf X0 t9 ?_|refine XX hP hf X0 t9 ?_
   simp[go_sem,hP,G0,hn,qE]
theorem Mw:∀{n:Nat} {l:List Nat},l.Nodup->(∀i∈l,i<n)->l.length<=n
 | 0,l,_,hl=>by
  cases l with
  | nil=>exact I5 _
  | cons a r=>exact absurd (hl a sS) oO
 | n+1,l,h,hl=>by
  by_cases hm:n∈l
  ·have hp:=List.perm_cons_erase hm
   have h1:=Mw (n:=n) (l:=l.erase n) (h.erase n) fun i hi=>by
    have h2:=(List.Nodup.mem_erase_iff h).1 hi;have:=hl i h2.2;omega
   rw[hp.length_eq,B4];omega
  ·have:=Mw (n:=n) (l:=l) h fun i hi=>by
    have h2:=hl i hi;have:i≠n:=fun e=>hm (e ▸ hi);omega
   omega
theorem o70{l:List Nat}(h:l.Nodup)(hl:∀i∈l,i<n)(u4:∀i,i<n->i∈l):l.Perm (oT n):=
 (List.perm_ext_iff_of_nodup h i00).2 fun a=>⟨fun ha=>DP.2 (hl a ha),fun ha=>u4 a (DP.1 ha)⟩
def EN(ml:List (Int × DV))(i:Nat):Int:=(ml.getD i (0,rN)).1
theorem o80(ml:List (Int × DV)):(oT ml.length).map (EN ml)=xJ ml:=by
 apply aG0;· simp[xJ]
 ·intro i h1 h2;have hi:i<ml.length:=by simpa [xJ] using h2
  simp[EN,xJ,jO,hi]
theorem eX0{d:DV}(h:ml[i]? = some (k,d)):EN ml i=k:=by unfold EN;rw[jO,h];rfl
theorem o90{seen:List Nat}(h:seen.Nodup)(hl:∀i∈seen,i<ml.length)(u4:∀i,i<ml.length->i∈seen)(hs:L.Pairwise (·<=·))(hp:L.Perm (seen.map (EN ml))):L=zZ (xJ ml):=
 wA0 hs (hp.trans (by rw[<- o80];exact (o70 h hl u4).map _))
theorem pa0(h:L.Pairwise (·<=·))(h1:∀a∈L.drop i,k<a)(h2:∀a∈L.take i,a<=k):(L.take i++k::L.drop i).Pairwise (·<=·):=by
 have hq:(L.take i++L.drop i).Pairwise (·<=·):=by rw[FK];exact h
 obtain⟨q1,q2,q3⟩:=List.pairwise_append.1 hq;refine List.pairwise_append.2 ⟨q1,bj0.2 ⟨fun a ha=>Int.le_of_lt (h1 a ha),q2⟩,fun a ha b hb=>?_⟩;rcases u5.1 hb with rfl|hb;· exact h2 a ha
 ·exact q3 a ha b hb
theorem wB0(L:List Int)(k:Int)(i:Nat):(L.take i++k::L.drop i).Perm (L++[k]):=by
 refine List.perm_middle.trans ?_;rw[FK];exact (List.perm_append_comm (l₁:=[k]) (l₂:=L))
theorem pb0{full:List (List DV)}(hE:∀e∈full,e.length=1){d:DV}(h:full[i]? = some [d]):(C4 full)[i]? = some (.v d):=by
 induction full generalizing i with
 | nil=>simp at h
 | cons e r ih=>
  have he:=hE e sS;obtain⟨x,rfl⟩:=List.length_eq_one_iff.1 he;have hc:C4 ([x]::r) = .v x::C4 r:=rfl;rw[hc];cases i with
  | zero=>simp at h;subst h;rfl
  | succ i=>simp at h ⊢;exact ih (fun e he=>hE e (by simp[he])) h
theorem eY0(L:List Int)(k:Int)(rest:List (List DV)):(P2 L++[[j0 k]]++rest).take (L.length+1)=P2 (L++[k]):=by
 have e:P2 L++[[j0 k]]=P2 (L++[k]):=by simp[P2]
 rw[e];exact List.take_left' (by simp[P2])
theorem fD0{full rest:List (List DV)}(h:∀e∈full,e.length=1)(h2:∀e∈rest,e.length=1):∀e∈full.take n++[[j0 k]]++rest,e.length=1:=by
 intro e he;rcases t6.1 he with he|he
 ·rcases t6.1 he with he|he;· exact h e (List.mem_of_mem_take he)
  ·simp at he;subst he;rfl
 ·exact h2 e he
theorem eZ0(L:List Int)(i:Nat)(y:Int):(P2 L).set i [j0 y]=P2 (L.set i y):=by simp[P2,List.map_set]
theorem fE0{p:Nat}{z:Int}(hp:p<=L.length):(L.take p++z::L.drop p).set p k=L.take p++k::L.drop p:=by
 have hl:(L.take p).length=p:=by simp;omega
 rw[List.set_append_right _ _ oO,hl,Nat.sub_self];rfl
theorem rV0{p:Nat}{y z:Int}(hy:L[p]? = some y):(L.take (p+1)++z::L.drop (p+1)).set (p+1) y=L.take p++y::L.drop p:=by
 obtain⟨h1,h2⟩:=uA hy;rw[fE0 oO];have e1:L.take (p+1)=L.take p++[y]:=by rw[List.take_add_one,hy];rfl
 have e2:L.drop p=y::L.drop (p+1):=by rw[Ln h1,h2]
 rw[e1,e2];simp
theorem fF0{F:List (List DV)}(h:∀e∈F,e.length=1)(hi:i<F.length)(y:Int):put (C4 F) i [.v (.K0 (.int .i64 y))]=C4 (F.set i [j0 y]):=by
 have:=Xr (E:=1) h (i:=i) hi (z:=[j0 y]) rfl;rw[bc0]at this;exact this
theorem fG0{F:List (List DV)}(h:∀e∈F,e.length=1)(i:Nat)(y:Int):∀e∈F.set i [j0 y],e.length=1:=by
 intro e he;rcases List.mem_or_eq_of_mem_set he with he|rfl;· exact h e he
 ·rfl
theorem gg0{α:Type}{X:Ctx}{k kk:List Item}{s:St}(E:α->Prop)(S:α->St)(h1:(∀x,E x->W X kk (S x))->W X k s)(h2:∀x,E x->W X kk (S x)):W X k s:=h1 h2
def JY(b r:Nat)(ml:List (Int × DV)):List Nat × Option (Nat × Nat × List (List DV) × List Int)->St
 | (seen,none)=>[(.P0 2,.one (.own 0 [])),(.P0 3,.one (.own 0 [])),(.P0 7,.one (.v (M3 r))),(.heap b,.mp ml),(.heap r,.ob (.it b ml.length seen))]
 | (seen,some (bk,cap,full,L))=>[(.P0 2,.one (.own 0 [])),(.P0 3,.one (.v (iV bk L.length cap))),(.P0 7,.one (.v (M3 r))),(.heap b,.mp ml),(.heap r,.ob (.it b ml.length seen)),(.heap bk,.row (C4 full))]
def gK0(n0 b r:Nat)(ml:List (Int × DV)):List Nat × Option (Nat × Nat × List (List DV) × List Int)->Prop
 | (seen,none)=>seen=[]
 | (seen,some (bk,cap,full,L))=>(seen.Nodup/\∀i∈seen,i<ml.length)/\full.length=cap/\(∀e∈full,e.length=1)/\full.take L.length=P2 L/\L.length<=cap/\L.Pairwise (·<=·)/\L.Perm (seen.map (EN ml))/\¬bk=b/\¬bk=r/\n0<=bk
theorem ee0(b:Nat)(ml:List (Int × DV))(hs:vJ ml)(Kz:ml.length<=1000000) :
  Nn W0 gl 327 [.K0 (.map (some b))] b ml (.sl (P2 (zZ (xJ ml)))) ml:=by
 refine dn0 Tryz.func327 ?_;intro X hP G0 hf X0 hn t9 K1 G1;simp only[bA,R6,aT];refine N2 ?_;refine Q1 ?_;refine O9 [7] fun K hK=>?_;simp[go_sem,hP,G0,hn];refine o50 (b:=b) (ml:=ml) nN (by rw[hP];kernel_rfl) sH sG (by rfl) ?_;intro r hr hrw;simp[newB]at hr;have u6:¬r=b:=fun e=>hr e.symm;simp[go_sem,hP,G0,hn,hr,u6];refine K4 ?_;clear hK K;refine Q1 ?_;refine aM [] sG (by simp[go_sem,hr,u6,JY,Ac]) (by simp[go_sem,JY]) (mQ (gK0 X.w0.heap.size b r ml) (JY b r ml) (fun x=>ml.length - x.1.length) ([],none) rfl ?_);clear G1;rintro⟨seen,rep⟩ hI ih
 apply gg0 (fun x:Nat × Int × Nat × Nat × List (List DV) × List Int=>((x.1<ml.length/\x.1∉seen)/\EN ml x.1=x.2.1/\seen.Nodup/\∀i∈seen,i<ml.length)/\x.2.2.2.2.1.length=x.2.2.2.1/\(∀e∈x.2.2.2.2.1,e.length=1)/\x.2.2.2.2.1.take (x.2.2.2.2.2.length+1)=P2 (x.2.2.2.2.2++[x.2.1])/\x.2.2.2.2.2.length+1<=x.2.2.2.1/\x.2.2.2.2.2.Pairwise (·<=·)/\x.2.2.2.2.2.Perm (seen.map (EN ml))/\¬x.2.2.1=b/\¬x.2.2.1=r/\X.w0.heap.size<=x.2.2.1)
  (fun x=>[(.P0 2,.one (.own 0 [])),(.P0 3,.one (.v (iV x.2.2.1 (x.2.2.2.2.2.length+1) x.2.2.2.1))),(.P0 4,.one (.v (j0 x.2.1))),(.P0 5,.one (.v (j0 x.2.2.2.2.2.length))),(.P0 7,.one (.v (M3 r))),(.heap b,.mp ml),(.heap r,.ob (.it b ml.length (seen++[x.1]))),(.heap x.2.2.1,.row (C4 x.2.2.2.2.1))])
 ·intro Q3;rcases rep with _|⟨bk,cap,full,L⟩;simp only[gK0]at hI;subst hI;simp only[JY];refine Q1 ?_;refine O9 [8] fun K hK=>?_;simp[go_sem,hP,G0,hn,hr,u6];refine eb0 (r:=r) (b:=b) (n:=ml.length) (seen:=[]) (ml:=ml) nN (by simp[go_sem,hr,u6]) (by simp[go_sem,hr,u6]) (by simp[go_sem,hr,u6]) rfl hs.2 (by rfl) ?_ ?_
  ·intro u4;simp[go_sem,hP,G0,hn,hr,u6];refine K4 ?_;clear hK K;refine Z6 ?_;refine Q1 ?_;have AQ:ml=[]:=by
    cases ml with
    | nil=>rfl
    | cons a l=>exact absurd (u4 0 sS) sS
   have nO:zZ (xJ ml)=[]:=by rw[AQ];rfl
   refine N2 ?_;refine Q1 ?_;first|refine XW hP hf X0 t9 ?_|refine XX hP hf X0 t9 ?_
   simp[go_sem,hP,G0,hn,nO,c7]
  ·intro i k dv DH xZ;have TX:=eX0 DH;have ZV:aY (.int .i64 k):=hs.2 _ (uE DH);have J8:i<ml.length:=(uA DH).1;simp[go_sem,hP,G0,hn,hr,u6];refine K4 ?_;clear hK K;refine sZ ?_;refine Q1 ?_;refine O9 [10] fun K hK=>?_;simp[go_sem,hP,G0,hn,hr,u6];refine dm0 (r:=r) (b:=b) (n:=ml.length) (i:=i) (seen:=[]) (ml:=ml) (kk:=k) (dv:=dv) nN (by simp[go_sem,hr,u6]) (by simp[go_sem,hr,u6]) (by simp[go_sem,hr,u6]) rfl DH ZV (by rfl) ?_;simp[go_sem,hP,G0,hn,hr,u6];refine K4 ?_;clear hK K;refine R4 (j2 @hr @u6) ?_;refine Q1 ?_;refine O9 [17] fun K hK=>?_;simp[go_sem,hP,G0,hn,hr,u6];refine my0 (E:=1) (B:=8) (zs:=[[j0 k]]) (zd:=[j0 0]) (by simp[go_sem,hr,u6]) (by simp[go_sem,hP,hr,u6]) (by simp[go_sem,hP]) (by rw[hP];kernel_rfl) rfl ⟨dD,dD⟩ (by rw[hP];rfl) nN sS (by simp[M5]) sS rfl ?_;intro bk cap hc M7 oP;simp[newB]at M7;have k1:¬bk=b:=fun e=>M7.2 e.symm;have k2:¬bk=r:=fun e=>M7.1 e.symm;simp[go_sem,hP,G0,hn,hr,u6,k1,k2,M7.1,M7.2];refine K4 ?_;clear hK K;have bU:=Q3 (i,k,bk,cap,[j0 k]::wG (cap - 1) [j0 0],[]) ⟨⟨⟨J8,xZ⟩,TX,List.nodup_nil,sS⟩,by simp at hc ⊢;omega,sS,by simp[P2],hc,List.Pairwise.nil,bi0 _,k1,k2,oP⟩;simp only at bU
   repeat (first|refine Gi ?_|refine GF ?_|refine Gw ?_|refine JH rfl ?_)
   refine aM [] sG (by simp[go_sem,hr,u6,k1,k2,M7.1,M7.2,Eg] <;> omega) sG bU
  obtain⟨Ky,pW,TR,ZH,hI5,hI6,Tw,k1,k2,ii0⟩:=hI;have FC0:L.length<=1000000:=by
   have h1:=Tw.length_eq;have h2:=Mw Ky.1 Ky.2;rw[fV]at h1;omega
  have bJ:L.length<=2147483648:=oO;have aP:¬b=bk:=fun e=>k1 e.symm;have bI:¬r=bk:=fun e=>k2 e.symm;simp only[JY];refine Q1 ?_;refine O9 [8] fun K hK=>?_;simp[go_sem,hP,G0,hn,hr,u6,k1,k2,aP,bI,bJ];refine eb0 (r:=r) (b:=b) (n:=ml.length) (seen:=seen) (ml:=ml) nN (by simp[go_sem,hr,u6,k1,k2,aP,bI,bJ]) (by simp[go_sem,hr,u6,k1,k2,aP,bI,bJ]) (by simp[go_sem,hr,u6,k1,k2,aP,bI,bJ]) rfl hs.2 (by rfl) ?_ ?_
  ·intro u4;simp[go_sem,hP,G0,hn,hr,u6,k1,k2,aP,bI,bJ];refine K4 ?_;clear hK K;refine Z6 ?_;refine Q1 ?_;have nO:=o90 Ky.1 Ky.2 u4 hI6 Tw;have hFL:full=P2 L++full.drop L.length:=by rw[<- ZH,FK]
   have hiL:(P2 L).length=L.length:=by simp[P2]
   have pZ:dK bk (P2 L) (.v (.K0 (.slice (some ⟨bk,0,none⟩) L.length cap))) = .v (.sl (P2 L)):=WM hiL.symm hI5;refine EY0 (b:=bk) (l:=C4 (P2 L)) (r:=C4 (full.drop L.length)) (by simp[go_sem,hr,u6,k1,k2,aP,bI,bJ];rw[<- IE,<- hFL]) ?_;refine WI (b:=bk) (E:=1) (ys:=P2 L) (by simp[go_sem,hr,u6,k1,k2,aP,bI,bJ]) (by simp[P2]) (by rw[hiL];unfold M5;omega) ii0 ?_;simp[go_sem,xV,EI,vE,VG,VH,VI,Vs,WK,Wk,Wl,Wm,WL,Wn,Wo,pZ,hr,u6,k1,k2,aP,bI,bJ];refine N2 ?_;refine Q1 ?_;first|refine XW hP hf X0 t9 ?_|refine XX hP hf X0 t9 ?_
   simp[go_sem,hP,G0,hn,<- nO]
  ·intro i k dv DH xZ;have TX:=eX0 DH;have ZV:aY (.int .i64 k):=hs.2 _ (uE DH);have J8:i<ml.length:=(uA DH).1;simp[go_sem,hP,G0,hn,hr,u6,k1,k2,aP,bI,bJ];refine K4 ?_;clear hK K;refine sZ ?_;refine Q1 ?_;refine O9 [10] fun K hK=>?_;simp[go_sem,hP,G0,hn,hr,u6,k1,k2,aP,bI,bJ];refine dm0 (r:=r) (b:=b) (n:=ml.length) (i:=i) (seen:=seen) (ml:=ml) (kk:=k) (dv:=dv) nN (by simp[go_sem,hr,u6,k1,k2,aP,bI,bJ]) (by simp[go_sem,hr,u6,k1,k2,aP,bI,bJ]) (by simp[go_sem,hr,u6,k1,k2,aP,bI,bJ]) rfl DH ZV (by rfl) ?_;simp[go_sem,hP,G0,hn,hr,u6,k1,k2,aP,bI,bJ];refine K4 ?_;clear hK K;refine R4 (j7 @hr @u6 @k1 @k2 @aP @bI @bJ) ?_;refine Q1 ?_;refine O9 [17] fun K hK=>?_;simp[go_sem,hP,G0,hn,hr,u6,k1,k2,aP,bI,bJ];refine cn0 (E:=1) (B:=8) (b:=bk) (n:=L.length) (cap:=cap) (full:=full) (zs:=[[j0 k]]) (zd:=[j0 0]) (by simp[go_sem,hr,u6,k1,k2,aP,bI,bJ]) (by simp[go_sem,hP,hr,u6,k1,k2,aP,bI,bJ]) (by simp[go_sem,hr,u6,k1,k2,aP,bI,bJ]) (by simp[go_sem,hP]) (by rw[hP];kernel_rfl) rfl ⟨dD,dD⟩ (by rw[hP];rfl) nN pW hI5 (by simp[M5];omega) TR sS rfl ?_ ?_
   ·intro hle;simp[go_sem,hP,G0,hn,hr,u6,k1,k2,aP,bI,bJ];refine K4 ?_;clear hK K;have FN0:L.length+1<=cap:=hle;have bU:=Q3 (i,k,bk,cap,full.take L.length++[[j0 k]]++full.drop (L.length+1),L) ⟨⟨⟨J8,xZ⟩,TX,Ky⟩,by simp;omega,fD0 TR fun e he=>TR e (List.mem_of_mem_drop he),by rw[ZH];exact eY0 _ _ _,FN0,hI6,Tw,k1,k2,ii0⟩;simp only at bU;refine m5 ?_;refine G2 [] (j8 @hr @u6 @k1 @k2 @aP @bI @bJ @Eg) bU
   ·intro I1 NM s8 hc M7 oP;simp[newB]at M7;have k3:¬NM=b:=fun e=>by simp[e]at M7
    have k4:¬NM=r:=fun e=>by simp[e]at M7
    have Ca:¬b=NM:=fun e=>k3 e.symm;have k4':¬r=NM:=fun e=>k4 e.symm;simp[go_sem,hP,G0,hn,hr,u6,k1,k2,aP,bI,bJ,k3,k4,Ca,k4',M7];refine K4 ?_;clear hK K;have dE:L.length+1<=s8:=hc;have bU:=Q3 (i,k,NM,s8,full.take L.length++[[j0 k]]++wG (s8 - (L.length+1)) [j0 0],L) ⟨⟨⟨J8,xZ⟩,TX,Ky⟩,by simp;omega,fD0 TR fun e he=>by rw[(List.mem_replicate.1 he).2];rfl,by rw[ZH];exact eY0 _ _ _,dE,hI6,Tw,k3,k4,oP⟩;simp only at bU;refine m5 ?_;refine G2 [] (j8 @hr @u6 @k1 @k2 @aP @bI @bJ (j6 @k3 @k4 @Ca @k4' @M7 @Eg)) bU
 ·rintro⟨i,k,bk,cap,F0,L⟩ ⟨⟨⟨q1,q2⟩,q3,q4,q5⟩,q6,q7,q8,q9,eL,eK,k1,k2,fA⟩;simp only at q1 q2 q3 q6 q7 q8 q9 eL eK k1 k2 fA ⊢;have FC0:L.length<=1000000:=by
   have h1:=eK.length_eq;have h2:=Mw q4 q5;rw[fV]at h1;omega
  have bJ:L.length+1<=2147483648:=oO;have aP:¬b=bk:=fun e=>k1 e.symm;have bI:¬r=bk:=fun e=>k2 e.symm;refine Q1 ?_
  refine aM [] sG (by simp[go_sem,hr,u6,k1,k2,aP,bI,bJ,Ac,Eg]) sG (mQ
   (fun x:Nat × List (List DV)=>x.1<=L.length/\x.2.length=cap/\(∀e∈x.2,e.length=1)/\(∃z,x.2.take (L.length+1)=P2 (L.take x.1++z::L.drop x.1))/\∀a∈L.drop x.1,k<a)
   (fun x=>[(.P0 2,.one (.own 0 [])),(.P0 3,.one (.v (iV bk (L.length+1) cap))),(.P0 4,.one (.v (j0 k))),(.P0 5,.one (.v (j0 x.1))),(.P0 7,.one (.v (M3 r))),(.heap b,.mp ml),(.heap r,.ob (.it b ml.length (seen++[i]))),(.heap bk,.row (C4 x.2))])
   (fun x=>x.1) (L.length,F0) ⟨I5 _,q6,q7,⟨k,by simp[q8]⟩,sS⟩ ?_)
  rintro⟨p,F⟩ ⟨w1,w2,w3,⟨z,w4⟩,w5⟩ T8;simp only at w1 w2 w3 w4 w5 ⊢;apply gg0 (fun _:Unit=>∀a∈L.take p,a<=k) (fun _=>[(.P0 2,.one (.own 0 [])),(.P0 3,.one (.v (iV bk (L.length+1) cap))),(.P0 4,.one (.v (j0 k))),(.P0 5,.one (.v (j0 p))),(.P0 7,.one (.v (M3 r))),(.heap b,.mp ml),(.heap r,.ob (.it b ml.length (seen++[i]))),(.heap bk,.row (C4 F))])
  ·intro hx;rcases p with _|p
   ·refine R4 (j7 @hr @u6 @k1 @k2 @aP @bI @bJ) ?_;refine Z6 ?_;refine m5 ?_;refine G2 [] (j8 @hr @u6 @k1 @k2 @aP @bI @bJ @Eg) (hx () sS)
   ·have K9:p<L.length:=oO;obtain⟨y,hy⟩:∃y,L[p]? = some y:=⟨_,uB K9⟩;have hFy:F[p]? = some [j0 y]:=by
     have h1:(F.take (L.length+1))[p]? = some [j0 y]:=by
      rw[w4];refine zL ?_;rw[cJ (by simp;omega),tX oO,hy]
     rw[tX oO]at h1;exact h1
    have oI:=pb0 w3 hFy;have Oq:(C4 F).length=cap:=by rw[sK w3,w2,bc0]
    have Dl:p<cap:=oO;have GI0:p+1<cap:=oO;refine U6 (j8 @hr @u6 @k1 @k2 @aP @bI @bJ @oI) fun K hK=>?_;refine K4 ?_;clear hK K;by_cases hk:k<y
    ·refine sZ ?_;have BY:=fF0 w3 (i:=p+1) oO y;refine U6 (j8 @hr @u6 @k1 @k2 @aP @bI @bJ (j3 @oI @Oq @BY)) fun K hK=>?_;refine K4 ?_;clear hK K;refine R4 (j7 @hr @u6 @k1 @k2 @aP @bI @bJ) ?_;have e2:L.drop p=y::L.drop (p+1):=by
      obtain⟨h1,h2⟩:=uA hy;rw[Ln h1,h2]
     have bU:=T8 (p,F.set (p+1) [j0 y]) ⟨oO,by simp[w2],fG0 w3 _ _,⟨y,by rw[List.take_set,w4,eZ0,rV0 hy]⟩,by
      intro a ha;rw[e2]at ha;rcases u5.1 ha with rfl|ha;· exact hk
      ·exact w5 a ha⟩ sS
     simp only at bU;refine m5 ?_;refine G2 [] (j8 @hr @u6 @k1 @k2 @aP @bI @bJ @Eg) bU
    ·refine Z6 ?_;have hle:∀a∈L.take (p+1),a<=k:=by
      intro a ha;obtain⟨q,hq,rfl⟩:=yM.1 ha;rw[List.length_take]at hq;rw[List.getElem_take];have h1:=uA hy;obtain⟨h2,h3⟩:=h1;rcases Nat.lt_or_ge q p with h|h
      ·have:=List.pairwise_iff_getElem.1 eL q p oO h2 h;omega
      ·have hqp:q=p:=oO;subst hqp;omega
     refine m5 ?_;refine G2 [] (j8 @hr @u6 @k1 @k2 @aP @bI @bJ @Eg) (hx () hle)
  ·rintro⟨⟩ hle;have Oq:(C4 F).length=cap:=by rw[sK w3,w2,bc0]
   have Dl:p<cap:=oO;have BY:=fF0 w3 (i:=p) oO k;refine U6 (j8 @hr @u6 @k1 @k2 @aP @bI @bJ (j2 @Oq @BY)) fun K hK=>?_;refine K4 ?_;clear hK K;have hLl:(L.take p++k::L.drop p).length=L.length+1:=by simp;omega
   have A4:(seen++[i]).Nodup:=by
    rw[List.nodup_append];exact⟨q4,sS,by intro a ha c hc;simp at hc;subst hc;intro e;exact q2 (e ▸ ha)⟩
   have u4:∀j∈seen++[i],j<ml.length:=by
    intro j hj;rcases t6.1 hj with hj|hj;· exact q5 j hj
    ·simp at hj;subst hj;exact q1
   have fS:=Mw A4 u4;have bU:=ih (seen++[i],some (bk,cap,F.set p [j0 k],L.take p++k::L.drop p)) ⟨⟨A4,u4⟩,by simp[w2],fG0 w3 _ _,by rw[hLl,List.take_set,w4,eZ0,fE0 w1],by rw[hLl];exact q9,pa0 eL w5 hle,(wB0 L k p).trans (by rw[FV,G4,O5,q3];exact eK.append_right [k]),k1,k2,fA⟩ (by simp at fS ⊢;omega);simp only[JY]at bU;rw[hLl]at bU;refine m5 ?_;refine G2 [] (j8 @hr @u6 @k1 @k2 @aP @bI @bJ @Eg) bU
end
section
def gT(Γ:List T):List Ty:=Γ.reverse.map T.ty
theorem sO(a:T)(Γ:List T):gT (a::Γ)=gT Γ++[a.ty]:=by simp[gT]
theorem gB(Γ:List T):(gT Γ).length=Γ.length:=by simp[gT]
theorem XY{F:Q0 Γ->a.V}(h:Dn Γ t a F):Nv t (gT Γ) a:=Vt h
theorem Dc(h:∀a∈Γ,a.ok):∀x∈gT Γ,x.ok:=by
 intro x hx;obtain⟨a,ha,rfl⟩:=F9.1 hx;exact M9 (h a (j30.1 ha))
def CK(Γ:List T)(hs:List Fm)(v h:Nat):Prop:=Γ.length+v<=14/\hs.length+h<=16/\(∀a∈Γ,a.ok)/\∀f∈hs,FDn Γ f/\f.A0<=4096
abbrev Q5(hs:List Fm)(n:Int):List Fm:=hs.map fun h=>h.V0 0 n
theorem CK.below(k:CK Γ hs (v+1) h)(bH:s.ok):CK (s::Γ) (Q5 hs 1) v h:=by
 obtain⟨k1,k2,k3,k4⟩:=k;refine⟨by simp only[B4];omega,by simpa using k2,fun a ha=>?_,fun f hf=>?_⟩
 ·rcases u5.1 ha with rfl|ha;· exact bH
  ·exact k3 a ha
 ·obtain⟨f,Fp,rfl⟩:=F9.1 hf;exact⟨f80 (k4 f Fp).1 [s],by rw[Bm];exact (k4 f Fp).2⟩
theorem CK.below2(k:CK Γ hs (v+2) h){r:T}(bH:s.ok)(hr:r.ok):CK (r::s::Γ) (Q5 hs 2) v h:=by
 obtain⟨k1,k2,k3,k4⟩:=k;refine⟨by simp only[B4];omega,by simpa using k2,fun a ha=>?_,fun f hf=>?_⟩
 ·rcases u5.1 ha with rfl|ha;· exact hr
  ·rcases u5.1 ha with rfl|ha;· exact bH
   ·exact k3 a ha
 ·obtain⟨f,Fp,rfl⟩:=F9.1 hf;exact⟨f80 (k4 f Fp).1 [r,s],by rw[Bm];exact (k4 f Fp).2⟩
theorem CK.with{Γ:List T}{hs:List Fm}{v h:Nat}(k:CK Γ hs v (h+1)){f:Fm}(hf:FDn Γ f)(hc:f.A0<=4096):CK Γ (hs++[f]) v h:=by
 obtain⟨k1,k2,k3,k4⟩:=k;refine⟨k1,by simp only[mJ,B4,fC];omega,k3,fun x hx=>?_⟩;rcases t6.1 hx with hx|hx;· exact k4 x hx
 ·simp at hx;subst hx;exact⟨hf,hc⟩
theorem CK.less{v' h':Nat}(k:CK Γ hs v h)(h1:v'<=v)(h2:h'<=h):CK Γ hs v' h':=⟨by have:=k.1;omega,by have:=k.2.1;omega,k.2.2⟩
theorem Mx(k:CK Γ hs v h){F:Q0 Γ->a.V}(ht:Dn Γ t a F):(t.typeE (gT Γ)=(a.ty,0)/\t.A0<=4096)\/(t.typeE (gT Γ)).2=4:=by
 have hc:gD (gT Γ)=0:=by
  have:=gb0 (G:=Γ.reverse) (by have:=k.1;simp;omega) fun a ha=>k.2.2.1 a (j30.1 ha);exact this
 unfold Tm.typeE AW;rw[if_pos hc];by_cases h1:t.L4=0
 ·rw[if_pos h1];have h2:=(lO t).1 h1;rcases XY ht with h3|h3;· exact .inl ⟨h3,h2.2⟩
  ·exact .inr h3
 ·rw[if_neg h1]
  right
  unfold AV at h1 ⊢;rw[if_pos (Z5 ht)]at h1 ⊢;split at h1;· rename_i h;rw[if_pos h]
  ·exact absurd rfl h1
abbrev I9(g:List Ty)(hs:List Fm):DV:=.agg [.sl [],.sl (g.map P1),.sl (hs.map L3)]
abbrev Kp(f:Fm)(u:List Int):DV:=.agg [j0 f.o0,j0 f.I0.o0,.sl (f.I0.B0.map P1),.sl (f.M1.map E3),.sl (f.B0.map L3),.sl (P2 u)]
theorem e00(g:List Fm):FE g.length (Y3 L3 g)=Y3 L3 g:=by rw[DS];simp
theorem QE(l g:List Ty)(hs:List Fm)(hh:∀f∈hs,f.good 1073741824/\f.A0<=4096)(hl:l.length<=16)(hg:g.length<=16)(Zr:hs.length<=16) :
  cU 328 [I9 g hs,.sl (l.map P1)] (I9 (g++l) (Q5 hs l.length)):=by
 refine A3 Tryz.func328 fun X zX=>?_;have vQ:g.length<=2147483647:=oO;refine U1 (j2 @CB @DT) ?_;refine Q1 ?_;refine G2 [(1005,0)] tT (y7 (hs) (fun done rest=>[sP 2,sL 2 [.v (.sl []),.v (.sl (g.map P1)),.v (.sl (hs.map L3))],sP 4,sL 4 [.own 0 [],.own 0 [],.own 0 []],sV 1 (.sl (l.map P1)),sP 5,sL 5 [.v (.sl []),.v (.sl ((g++l).map P1)),.own 1005 (done.map fun h=>(h.V0 0 l.length).E0)],(.tok 1005,.tk 5 done.length),sV 23 (.sl (hs.map L3)),sV 24 (j0 hs.length),sV 25 (j0 done.length)]) ?_ ?_)
 ·intro done x rest hL B3 Z1;have I1:=E5 hL;have U2:=uE B3;refine K5 ?_;refine N1 @B3 (M0 (MS x 0 l.length (hh x U2).1 oO oO dD (by have:=(hh x U2).2;omega))) ?_;refine W3 (wr [(1005,36)]) (aA (x.V0 0 l.length)) tT Z1
 ·refine K2 ?_;refine Z6 ?_;exact O1 H0 H0
theorem Ww(g:List Ty)(hs:List Fm)(f:Fm)(Zr:hs.length<=16):cU 262 [I9 g hs,f.dv] (I9 g (hs++[f])):=by
 have KJ:hs.length<=2147483647:=oO;exact B2 Tryz.func262 (j2 @e00 @cX) H0
theorem Rf(g:List Ty)(hs:List Fm)(v h:Nat)(h1:g.length+v<=16)(h2:hs.length+h<=16):cU 261 [I9 g hs,j0 v,j0 h] (j0 0):=by
 have q1:¬(16:Int)<(g.length:Int)+v:=oO;have q2:¬(16:Int)<(hs.length:Int)+h:=oO;exact B2 Tryz.func261 (j2 @q1 @q2) H0
theorem My(hf:FDn (s0::Γ) f){s:Tm}{X:Q0 Γ->s0.V}(hs:Dn Γ s s0 X)(N5:Γ.length<=1000000)(cf:f.A0<=1000000)(cs:s.A0<=1000000):
  cU 333 [f.dv,s.dv] (.H1 [(if I6 f s=0 then f.Y1 0 0 s else m4).dv,j0 (I6 f s)]):=by
 have w:=zj0 hf hs N5 cf cs;generalize (if I6 f s=0 then f.Y1 0 0 s else m4)=u at *;exact B2 Tryz.func333 H0 (M0 w)
theorem VV(k:CK Γ hs v h){F:Q0 Γ->a.V}(ht:Dn Γ t a F)(hc:t.A0<=1000000)(kd:Int)(hk:a.ty.o0=kd):
  ∃e,s6 e/\(e=0->t.A0<=4096/\t.typeE (gT Γ)=(a.ty,0))/\cU 270 [I9 (gT Γ) hs,t.dv,j0 kd] (j0 e):=by
 have w:=UM t (gT Γ) (fun x hx=>by have:=(Dc k.2.2.1 x hx).2;omega) (gV t (Z5 ht)) oO;rcases Mx k ht with⟨h1,h2⟩|h1
 ·have h1':=h1;rw[h1]at w;simp only at w;refine⟨0,.inl rfl,fun _=>⟨h2,h1'⟩,?_⟩;exact B2 Tryz.func270 @hk (M0 w)
 ·generalize t.typeE (gT Γ)=te at *;obtain⟨y,e⟩:=te;simp only at h1 w;subst h1;refine⟨4,.inr (.inr (.inl rfl)),fun h=>by simp at h,?_⟩;exact B2 Tryz.func270 H0 (M0 w)
def fM(i:Int):Pf:=.mk 1 i (L0 0 []) [] [] []
def tF(a b:Pf):Pf:=.mk 3 0 (L0 0 []) [] [] [a,b]
def xT(k:Int)(a:Pf):Pf:=.mk k 0 (L0 0 []) [] [] [a]
def bO(y:Ty)(a:Pf):Pf:=.mk 8 0 y [] [] [a]
def jW(t:Tm)(a:Pf):Pf:=.mk 9 0 (L0 0 []) [t] [] [a]
def d9(f:Fm)(t:Tm)(a:Pf):Pf:=.mk 10 0 (L0 0 []) [t] [f] [a]
def dP(a b:Pf):Pf:=.mk 11 0 (L0 0 []) [] [] [a,b]
def fN(k:Int)(f:Fm)(t:Tm)(a b:Pf):Pf:=.mk k 0 (L0 0 []) [t] [f] [a,b]
def c9(t:Tm):Pf:=.mk 18 0 (L0 0 []) [t] [] []
def dQ(f:Fm)(a b:Pf):Pf:=.mk 19 0 (L0 0 []) [] [f] [a,b]
namespace Fm
def fr:Fm->Bool
 | .mk k _ _ a=>k=1||(k=2&&frs a)
where
 frs:List Fm->Bool
  | []=>true
  | a::r=>a.fr&&frs r
def nb:Fm->Bool
 | .mk k y _ a=>k=1||(k=2&&fr.frs a)||(k=5&&(fr.frs a&&(y.o0=3||(y.o0=1&&!top a))))||((k=4||k=6)&&all a)
where
 top:List Fm->Bool
  | a::_=>a.o0=2
  | []=>false
 all:List Fm->Bool
  | []=>true
  | a::r=>a.nb&&all r
theorem nb_fr(h:f.fr=true):f.nb=true/\(f.o0=1\/f.o0=2):=by
 cases f with
 | mk k y t a=>
  simp only[fr,Bool.or_eq_true,decide_eq_true_eq,uH]at h;rcases h with rfl|⟨rfl,h⟩ <;> simp_all[nb,cM]
theorem nb_two{a b:Fm}(hk:k=2\/k=3)(h:(U5 k a b).nb=true):k=2/\a.fr=true/\b.fr=true:=by
 rcases hk with rfl|rfl <;> simp[U5,nb,fr.frs]at h;exact⟨rfl,h⟩
theorem nb_ex(h:(qF 5 y f).nb=true):f.fr=true/\(y.o0=3\/(y.o0=1/\¬f.o0=2)):=by simpa [qF,nb,fr.frs,nb.top] using h
theorem nb_all(hk:k=4\/k=6\/k=7)(h:(qF k y f).nb=true):f.nb=true:=by
 rcases hk with rfl|rfl|rfl <;> simpa [qF,nb,nb.all] using h
theorem nb_q(hk:k=4\/k=5\/k=6\/k=7)(h:(qF k y f).nb=true):f.nb=true/\¬(k=4/\y.o0=1/\f.o0=3)/\¬(k=5/\y.o0=1/\f.o0=2):=by
 by_cases h5:k=5
 ·subst h5;obtain⟨h1,h2⟩:=nb_ex h;exact⟨(nb_fr h1).1,oO,oO⟩
 ·have h:=nb_all oO h;refine⟨h,fun e=>?_,oO⟩;cases f with
  | mk q y t a=>
   have e:=e.2.2;simp only[cM]at e;subst e;simp[nb]at h
theorem gL0{g:Fm->Fm}(h:∀f:Fm,(g f).o0=f.o0)(k:Int)(y:Ty)(ts t0:List Tm)(a:List Fm)(ih:∀x∈a,(g x).fr=x.fr/\(g x).nb=x.nb):(oV k y ts (a.map g)).fr=(oV k y t0 a).fr/\(oV k y ts (a.map g)).nb=(oV k y t0 a).nb:=by
 have h1:nb.top (a.map g)=nb.top a:=by cases a <;> simp[nb.top,h]
 have h2:fr.frs (a.map g)=fr.frs a/\nb.all (a.map g)=nb.all a:=by
  clear h1
  induction a with
  | nil=>exact⟨rfl,rfl⟩
  | cons x r l6=>
   have:=l6 fun z hz=>ih z (by simp[hz]);have hx:=ih x sS;simp only[G4,fr.frs,nb.all,hx,this,and_self]
 simp only[fr,nb,h1,h2,and_self]
theorem nb_up(f:Fm)(p b:Int):(f.V0 p b).fr=f.fr/\(f.V0 p b).nb=f.nb:=by
 induction f using aU generalizing p with
 | h f ih=>
 rw[upN_eq];cases f with
 | mk k y t a=>exact gL0 (fun f=>by rw[upN_eq];rfl) k y _ t a fun x hx=>ih x hx _
theorem nb_in(f:Fm)(p d:Int)(s:Tm):(f.Y1 p d s).fr=f.fr/\(f.Y1 p d s).nb=f.nb:=by
 induction f using aU generalizing d with
 | h f ih=>
 rw[inN_eq];cases f with
 | mk k y t a=>exact gL0 (fun f=>by rw[inN_eq];rfl) k y _ t a fun x hx=>ih x hx _
end Fm
inductive Ok:Bool->List T->List Fm->Pf->Fm->Prop
 | chk {Γ:List T} {hs:List Fm} {p:Pf} {f:Fm} (h:Ok false Γ hs p f) (hd:FDn Γ f) (hc:f.A0<=4096) (hn:f.nb=true):Ok true Γ hs p f
 | hyp {Γ:List T} {hs:List Fm} (k:CK Γ hs 0 0) {i:Nat} {f:Fm} (hi:hs[hs.length - 1 - i]? = some f) (I1:i<hs.length):Ok false Γ hs (fM i) f
 | andi {Γ:List T} {hs:List Fm} {a b:Pf} {fa fb:Fm} (ha:Ok true Γ hs a fa) (hb:Ok true Γ hs b fb):Ok false Γ hs (tF a b) (U5 2 fa fb)
 | and {Γ:List T} {hs:List Fm} {a:Pf} {fa fb:Fm} (i:Bool) (ha:Ok true Γ hs a (U5 2 fa fb)):Ok false Γ hs (xT (if i then 5 else 4) a) (if i then fb else fa)
 | refl {Γ:List T} {hs:List Fm} (k:CK Γ hs 0 0) {t:Tm} {F:Q0 Γ->N0.V} (ht:Dn Γ t .C0 F) (hc:t.A0<=4096) (hy:t.typeE (gT Γ)=(N0.ty,0)):Ok false Γ hs (c9 t) (I3 t t)
 | alli {Γ:List T} {hs:List Fm} (k:CK Γ hs 1 0) {s:T} (bH:s.ok) {a:Pf} {fa:Fm} (ha:Ok true (s::Γ) (Q5 hs 1) a fa):Ok false Γ hs (bO s.ty a) (qF 4 s.ty fa)
 | alle {Γ:List T} {hs:List Fm} (k:CK Γ hs 0 0) {s:T} {t:Tm} {F:Q0 Γ->s.V} (ht:Dn Γ t s F) (hc:t.A0<=4096) (hy:t.typeE (gT Γ)=(s.ty,0)) {a:Pf} {fa:Fm} (ha:Ok true Γ hs a (qF 4 s.ty fa)) (hp:I6 fa t=0):Ok false Γ hs (jW t a) (fa.Y1 0 0 t)
 | exi {Γ:List T} {hs:List Fm} (k:CK Γ hs 0 0) {s:T} {f:Fm} (hf:FDn Γ (qF 5 s.ty f)) (hk:(qF 5 s.ty f).chk=0) (hg:(qF 5 s.ty f).typedN (gT Γ)=0) {t:Tm} {F:Q0 Γ->s.V} (ht:Dn Γ t s F) (hc:t.A0<=4096) (hy:t.typeE (gT Γ)=(s.ty,0)) {a:Pf} {fa:Fm}
   (ha:Ok true Γ hs a fa) (hp:I6 f t=0) (hm:(f.Y1 0 0 t).MatE fa=0) (gK:fa.fr=true):Ok false Γ hs (d9 (qF 5 s.ty f) t a) (qF 5 s.ty f)
 | exe {Γ:List T} {hs:List Fm} (k:CK Γ hs 1 1) {s:T} {a b:Pf} {fa fo:Fm} (ha:Ok true Γ hs a (qF 5 s.ty fa)) (hb:Ok true (s::Γ) (Q5 hs 1++[fa]) b (fo.V0 0 1)) (aG:FDn Γ fo):Ok false Γ hs (dP a b) fo
 | ind {Γ:List T} {hs:List Fm} (k:CK Γ hs 1 1) {f:Fm} (hf:FDn (.C0::Γ) f) (hk:f.chk=0) (hg:f.typedN (gT (.C0::Γ))=0) {t:Tm} {F:Q0 Γ->T.V .C0} (ht:Dn Γ t .C0 F) (hc:t.A0<=4096) (hy:t.typeE (gT Γ)=(N0.ty,0)) {a b:Pf} {fa fb:Fm}
   (ha:Ok true Γ hs a fa) (hp:I6 f (nT 4 [])=0) (hm:(f.Y1 0 0 (nT 4 [])).MatE fa=0) (hb:Ok true (.C0::Γ) (Q5 hs 1++[f]) b fb) (hq:I6 (f.V0 1 1) (nT 5 [vT (0:Nat)])=0) (hn:((f.V0 1 1).Y1 0 0 (nT 5 [vT (0:Nat)])).MatE fb=0) (hr:I6 f t=0) (h5:f.o0=5):Ok false Γ hs (fN 16 f t a b) (f.Y1 0 0 t)
 | lists {Γ:List T} {hs:List Fm} (k:CK Γ hs 2 1) {f:Fm} (hf:FDn (.list::Γ) f) (hk:f.chk=0) (hg:f.typedN (gT (.list::Γ))=0) {t:Tm} {F:Q0 Γ->T.V .list} (ht:Dn Γ t .list F) (hc:t.A0<=4096) (hy:t.typeE (gT Γ)=(T.list.ty,0)) {a b:Pf} {fa fb:Fm}
   (ha:Ok true Γ hs a fa) (hp:I6 f (nT 7 [])=0) (hm:(f.Y1 0 0 (nT 7 [])).MatE fa=0) (hb:Ok true (.list::.C0::Γ) (Q5 hs 2++[f.V0 1 1]) b fb) (hq:I6 (f.V0 1 2) (nT 8 [vT (1:Nat),vT (0:Nat)])=0) (hn:((f.V0 1 2).Y1 0 0 (nT 8 [vT (1:Nat),vT (0:Nat)])).MatE fb=0) (hr:I6 f t=0) (h5:f.o0=5):Ok false Γ hs (fN 17 f t a b) (f.Y1 0 0 t)
 | sub {Γ:List T} {hs:List Fm} (k:CK Γ hs 0 0) {f:Fm} (hf:FDn (.C0::Γ) f) (hk:f.chk=0) (hg:f.typedN (gT (.C0::Γ))=0) {a b:Pf} {s s':Tm} {fb:Fm} (cs:s.A0<=1000000) (N7:s'.A0<=1000000) {S S':Q0 Γ->N0.V} (c8:Dn Γ s .C0 S) (hds':Dn Γ s' .C0 S')
   (ha:Ok true Γ hs a (I3 s s')) (hb:Ok true Γ hs b fb) (hp:I6 f s=0) (hm:(f.Y1 0 0 s).MatE fb=0) (hr:I6 f s' = 0):Ok false Γ hs (dQ f a b) (f.Y1 0 0 s')
def fO(Γ:List T)(hs:List Fm)(p:Pf)(f:Fm)(e:Int)(n:Nat):Prop:=
 ∃(f':Fm) (u:List Int),u.length<=n/\(e=0->f' = f/\FDn Γ f/\f.A0<=4096/\Ok true Γ hs p f)/\cU 106 [I9 (gT Γ) hs,p.dv] (.H1 [Kp f' u,j0 e])
def tK(Γ:List T)(hs:List Fm)(p:Pf)(f:Fm)(e:Int)(n:Nat):Prop:=
 ∃(f':Fm) (u:List Int),u.length<=n/\(e=0->f' = f/\FDn Γ f/\f.A0<=1000000/\Ok false Γ hs p f)/\cU 186 [I9 (gT Γ) hs,p.dv] (.H1 [f'.dv,.sl (P2 u),j0 e])
theorem E7(h:tK Γ hs p f e n)(M7:f.nb=true:=by rfl):fO Γ hs p f (S5 e f.chk) n:=by
 obtain⟨f',u,h1,h2,w⟩:=h;by_cases q1:e=0
 ·obtain⟨rfl,h3,h4,h6⟩:=h2 q1;have w1:=Gm h3 oO;have w2:=mx0 h3 oO;by_cases q2:f'.chk=0
  ·have h5:f'.A0<=4096:=by unfold Fm.chk at q2;split at q2 <;> omega
   rw[show S5 e f'.chk=0 by unfold S5;rw[if_pos q1,q2]];rw[q2]at w1 w2;simp only[decide_true,Bool.true_and]at w2;by_cases q3:f'.v6=true
   ·refine⟨f',u,h1,fun _=>⟨rfl,h3,h5,.chk h6 h3 h5 M7⟩,?_⟩;exact B2 Tryz.func106 (j2 @q1 @q3) (E8 w w1 w2)
   ·have q3:f'.v6=false:=by simpa using q3
    refine⟨f',[],Nat.zero_le _,fun _=>⟨rfl,h3,h5,.chk h6 h3 h5 M7⟩,?_⟩;exact B2 Tryz.func106 (j3 @q1 @q3 @c7) (E8 w w1 w2)
  ·have q4:f'.chk=4:=by unfold Fm.chk at q2 ⊢;split at q2;rename_i hh;rw[if_pos hh];exact absurd rfl q2
   rw[show S5 e f'.chk=4 by unfold S5;rw[if_pos q1,q4]];rw[q4]at w1;refine⟨m4,[],Nat.zero_le _,fun h=>by simp at h,?_⟩;refine H2 Tryz.func106 ?_;intro X hP G0 hf X0 hn hR K1 G1;refine V3 @q1 (P3 w w1) ?_;refine N3 ?_;simp[go_sem,hP,G0,hn,m4,c7] <;> (try omega)
 ·rw[show S5 e f.chk=e by unfold S5;rw[if_neg q1]];refine⟨m4,[],Nat.zero_le _,fun h=>absurd h q1,?_⟩;refine H2 Tryz.func106 ?_;intro X hP G0 hf X0 hn hR K1 G1;refine V3 @q1 (M0 w) ?_;refine N3 ?_;simp[go_sem,hP,G0,hn,m4,c7] <;> (try omega)
theorem Ja{fx:Fm}(k:CK Γ hs 0 0)(hI:fO Γ hs p fx e n)(hf:FDn (s::Γ) f)(cf:f.A0<=1000000){F:Q0 Γ->s.V}(ht:Dn Γ t s F)(ct:t.A0<=1000000):
  ∃(e':Int) (u:List Int),u.length<=n/\(e' = 0->e=0/\I6 f t=0/\(f.Y1 0 0 t).MatE fx=0/\Ok true Γ hs p fx)/\(s6 e->(fx=f.Y1 0 0 t)->s6 e')/\cU 334 [I9 (gT Γ) hs,p.dv,f.dv,t.dv] (.H1 [.sl (P2 u),j0 e']):=by
 obtain⟨f',u,h1,h2,w⟩:=hI;have wp:=My hf ht (by have:=k.1;omega) cf ct;by_cases q1:e=0;rotate_left
 ·refine⟨e,[],aH _,fun h=>absurd h q1,fun h _=>h,?_⟩;exact B2 j40 (j2 @q1 @c7) (M0 w)
 obtain⟨rfl,h3,h4,h5⟩:=h2 q1;by_cases q2:I6 f t=0;rotate_left
 ·rw[if_neg q2]at wp;refine⟨I6 f t,[],aH _,fun h=>absurd h q2,fun _ _=>Ms ht,?_⟩;generalize I6 f t=pe at *;exact B2 j40 (j3 @q1 @q2 @c7) (P3 w wp)
 rw[if_pos q2]at wp;have wm:=dV0 (wT ht hf) h3 (by have:=(IY hf q2).1;have:=k.1;omega) (by have:=k.1;omega);have r3:=eI0 (b:=f') (wT ht hf);refine⟨(f.Y1 0 0 t).MatE f',u,h1,fun h=>⟨q1,q2,h,h5⟩,fun _ h=>r3 h.symm,?_⟩;generalize (f.Y1 0 0 t).MatE f' = e3 at *;generalize f.Y1 0 0 t=wnt at *;exact B2 j40 (j2 @q1 @q2) (E8 w wp wm)
end
section
theorem Jy{F:Q0 Γ->a.V}(h:Dn Γ t a F)(Ω:List T):∃F':Q0 (Γ++Ω)->a.V,Dn (Γ++Ω) t a F':=by
 have h1:=SG (Γ:=[]) (Ξ:=Ω) h Γ sS;rw[Wq t Ω.length Γ.length (Z5 h) (QZ h)]at h1;have h2:∀L,L=Γ++Ω->(∃F':Q0 L->a.V,Dn L t a F')->∃F':Q0 (Γ++Ω)->a.V,Dn (Γ++Ω) t a F':=by rintro _ rfl h;exact h
 exact h2 _ sS ⟨_,h1⟩
theorem Mz(h:FDn Γ f)(Ω:List T):FDn (Γ++Ω) f:=by
 induction h with
 | eq h1 h2=>obtain⟨_,k1⟩:=Jy h1 Ω;obtain⟨_,k2⟩:=Jy h2 Ω;exact .eq k1 k2
 | two hk _ _ i1 i2=>exact .two hk i1 i2
 | q hk ha _ ih=>exact .q hk ha ih
theorem dq0:cU 280 [.agg [j0 0,.sl []]] (O2 true):=QP (L0 0 [])
theorem rW0(h:FDn Γ f):cU 338 [f.dv] (O2 true):=by
 cases h with
 | @eq _ s t F G h1 h2=>
  rw[sW];refine A3 j50 fun X zX=>?_;refine E4 (bx [1000001]) tT ?_;exact O1 H0 (M0 dq0)
 | @two _ k a b hk h1 h2=>
  rw[wU];refine A3 j50 fun X zX=>?_;refine E4 (bx [1000001]) tT ?_;rcases hk with rfl|rfl
  all_goals
   exact O1 H0 (M0 dq0)
 | @q _ k a f hk ha h=>
  have wc:=FY a.ty (by have:=(M9 ha).2;omega);rw[(wE _).2 (M9 ha),if_pos rfl]at wc;rw[dL];refine A3 j50 fun X zX=>?_;refine E4 (bx [1000001]) tT ?_;rcases hk with rfl|rfl|rfl|rfl
  all_goals
   exact O1 H0 (M0 wc)
theorem rX0(K3:D6 gl 2=some A7){F:Q0 Γ->a.V}(h:Dn Γ t a F)(hc:t.A0<=1000000):cU 310 [t.dv] (.H1 [j0 t.A0,O2 true]):=by
 have w:=Vb K3 t (gV t (Z5 h)) oO;rw[Tm.lQ,Z5 h]at w;exact w
theorem Wx(h:FDn Γ f):(∀x∈f.M1,∃F:Q0 Γ->N0.V,Dn Γ x .C0 F)/\∀a∈f.B0,(H3 f.o0=0/\FDn Γ a)\/(H3 f.o0=1/\∃s:T,s.ok/\f.I0=s.ty/\FDn (s::Γ) a):=by
 cases h with
 | @eq _ s t F G h1 h2=>
  refine⟨fun x hx=>?_,fun a ha=>by cases ha⟩;simp[I3,mN]at hx;rcases hx with rfl|rfl;· exact⟨_,h1⟩
  ·exact⟨_,h2⟩
 | @two _ k a b hk h1 h2=>
  refine⟨fun x hx=>(by cases hx),fun x hx=>.inl ⟨?_,?_⟩⟩
  ·show H3 k=0;unfold H3;rw[if_neg oO]
  ·simp[U5,lP]at hx;rcases hx with rfl|rfl;· exact h1
   ·exact h2
 | @q _ k s f hk hs h=>
  refine⟨fun x hx=>(by cases hx),fun x hx=>.inr ⟨?_,s,hs,rfl,?_⟩⟩
  ·show H3 k=1;unfold H3;rw[if_pos hk]
  ·simp[qF,lP]at hx;subst hx;exact h
theorem rY0(K3:D6 gl 2=some A7)(h:FDn Γ f)(hc:f.A0<=1000000):cU 274 [f.dv] (.H1 [j0 f.A0,O2 true]):=by
 induction f using aU generalizing Γ with
 | h f ih=>
 have wf:=rW0 h;obtain⟨hp1,hp2⟩:=Wx h;have kF:=sI f;refine H2 Tryz.func274 ?_;intro X hP G0 hf X0 hn hR K1 G1;obtain⟨gQ,fU⟩:=yX (G1 f.dv sS);refine E4 (bx [1000001]) tT ?_;refine V3 H0 (M0 wf) ?_;refine Q1 ?_;refine G2 [] (j2 @D3.Z0.eq_1 @D3.Z0.eq_2) (y7 (f.M1) (fun done rest=>[sV 19 (j0 done.length),sV 18 (j0 f.M1.length),sV 17 (.sl (f.M1.map E3)),sV 1 (.ref f.cs),sV 4 (j0 ((1+D3.Z0 done:Nat):Int))]) ?_ ?_)
 ·intro done y rest hL hg Z1;have I1:=E5 hL;have aF:D3.Z0 f.M1=D3.Z0 done+(y.A0+D3.Z0 rest):=by rw[hL,gR];rfl
  obtain⟨F,hd⟩:=hp1 y (uE hg);have w:=rX0 K3 hd oO;refine V3 @hg (M0 w) ?_;refine W3 (wr []) (j3 @gR @D3.Z0.eq_1 @D3.Z0.eq_2) tT Z1
 refine N2 ?_;refine Q1 ?_;refine G2 [] (j2 @D7.Z0.eq_1 @D7.Z0.eq_2) (y7 (f.B0) (fun done rest=>[sV 37 (j0 done.length),sV 36 (j0 f.B0.length),sV 35 (.sl (f.B0.map L3)),sV 4 (j0 ((1+D3.Z0 f.M1+D7.Z0 done:Nat):Int))]) ?_ ?_)
 ·intro done y rest hL hg Z1;have I1:=E5 hL;have aF:D7.Z0 f.B0=D7.Z0 done+(y.A0+D7.Z0 rest):=by rw[hL,AZ];rfl
  have hm:=uE hg
  obtain⟨Γ',hd⟩:∃Γ',FDn Γ' y:=by
   rcases hp2 y hm with⟨_,h⟩|⟨_,s,_,_,h⟩;· exact⟨_,h⟩
   ·exact⟨_,h⟩
  have w:=ih y hm hd oO;refine V3 @hg (M0 w) ?_;refine W3 (wr []) (j3 @AZ @D7.Z0.eq_1 @D7.Z0.eq_2) tT Z1
 exact O1 @kF H0
theorem Rg(K3:D6 gl 2=some A7)(h:FDn Γ f)(hc:f.A0<=1000000):cU 190 [f.dv] (.H1 [j0 (if f.chk=0 then f.A0 else 0:Nat),j0 f.chk]):=by
 have w:=rY0 K3 h hc;unfold wK;refine A3 Tryz.func190 fun X zX=>?_;refine E4 (bx [1000001]) tT ?_;refine N1 H0 (M0 w) ?_;by_cases h2:4096<f.A0;· exact O1 @h2 H0
 ·exact O1 @h2 H0
theorem CH(K3:D6 gl 2=some A7)(h:FDn Γ f)(hc:f.A0<=1000000):cU 108 [f.dv] (j0 f.chk):=by
 have w:=Rg K3 h hc;refine A3 Tryz.func108 fun X zX=>?_;refine E4 (bx [1000001]) tT ?_;exact O1 H0 (M0 w)
def GK(Γ:List T):Prop:=Γ.length<=1000000/\∀a∈Γ,a.ok
theorem XZ(k:GK Γ){F:Q0 Γ->a.V}(h:Dn Γ t a F)(hc:t.A0<=1000000):
  ∃(z:DV) (e:Int),s6 e/\(e=0->z = .agg (Q4 a.ty))/\(∃x y w,z = .agg [j0 x,.sl y,j0 w])/\((t.V1 (gT Γ)).2=0->e=0)/\cU 146 [.sl ((gT Γ).map Q4),t.dv] (.H1 [z,j0 e]):=by
 have hg:=Dc k.2;have hl:(gT Γ).length+t.A0<=2147483648:=by have:=k.1;simp only[gB];omega
 rcases XY h with h1|h1
 ·have w:=LH t (gT Γ) hl (Z5 h) hg (by rw[h1]);rw[h1]at w;exact⟨_,0,.inl rfl,fun _=>rfl,⟨_,_,_,rfl⟩,fun _=>rfl,w⟩
 ·have w:=b10 t (gT Γ) hl (Z5 h) hg (e:=4) dD h1;exact⟨_,4,.inr (.inr (.inl rfl)),fun h=>absurd h dD,⟨_,_,_,rfl⟩,(fun h=>by rw[h1]at h;cases h),w⟩
theorem fH0(k:GK Γ){F:Q0 Γ->a.V}(h:Dn Γ t a F)(hc:t.A0<=1000000)(kd:Int)(hk:a.ty.o0=kd):∃e,s6 e/\((t.V1 (gT Γ)).2=0->e=0)/\cU 214 [.sl ((gT Γ).map Q4),t.dv,j0 kd] (j0 e):=by
 obtain⟨z,e,l,h1,h2,h3,w⟩:=XZ k h hc;refine⟨e,l,h3,?_⟩;have wi:=mR a.ty kd;simp only[hk,decide_true]at wi;obtain⟨x,y,v,rfl⟩:=h2;by_cases q:e=0
 ·rw[<- h1 q]at wi;refine A3 Tryz.func214 fun X zX=>?_;refine E4 (bx [1000004]) tT ?_;exact O1 @q (P3 w wi)
 ·refine A3 Tryz.func214 fun X zX=>?_;refine E4 (bx [1000004]) tT ?_;exact O1 @q (M0 w)
theorem fI0(k:GK Γ){F:Q0 Γ->N0.V}(h:Dn Γ t .C0 F)(hc:t.A0<=1000000):∃e,s6 e/\((t.V1 (gT Γ)).2=0->e=0)/\cU 215 [.sl ((gT Γ).map Q4),t.dv] (j0 e):=by
 obtain⟨e,l,h3,w⟩:=fH0 k h hc 1 rfl;refine⟨e,l,h3,?_⟩;refine A3 Tryz.func215 fun X zX=>?_;refine E4 (bx [1000003]) tT ?_;exact O1 H0 (M0 w)
theorem wC0(g:List Ty):FE g.length (Y3 Q4 g)=Y3 Q4 g:=by rw[DS];simp
theorem RD(g l:List Ty)(hl:∀x∈l,x.ok)(h1:g.length<=1000000/\l.length<=16):cU 213 [.sl (g.map Q4),.sl (l.map P1)] (.sl ((g++l).map Q4)):=by
 have w:=Qb l hl oO;have hg:g.length<=2147483647:=oO;have fU:l.length<=2147483647:=oO;exact B2 Tryz.func213 (j2 @wC0 @Xy) (M0 w)
theorem e10(a b:Ty)(hb:b.ok):cU 207 [.agg (Q4 a),b.dv] (O2 (a.same b)):=by
 have w1:=wP b hb;have w2:=LN a b;simp only[W7]at w1 w2 ⊢;refine A3 Tryz.func207 fun X zX=>?_;refine E4 (bx [1000002,1000003]) tT ?_;exact O1 H0 (P3 w1 w2)
theorem ef0{α:Type}{P:α->Int->Prop}{l:List α}(h:∀a∈l,∃e,P a e):∃E:α->Int,∀a∈l,P a (E a):=by
 classical
 exact⟨fun a=>if q:a∈l then (h a q).choose else 0,fun a q=>by simp only[dif_pos q];exact (h a q).choose_spec⟩
def BB{α:Type}(E:α->Int):List α->Int
 | []=>0
 | a::r=>if E a=0 then BB E r else E a
theorem eg0{α:Type}{E:α->Int}{l r:List α}{a:α}(h:∀x∈l,E x=0)(ha:E a≠0):BB E (l++a::r)=E a:=by
 induction l with
 | nil=>simp[BB,ha]
 | cons b l ih=>simp only[R6,BB,h b sS,if_true];exact ih fun x hx=>h x (by simp[hx])
theorem Rh{α:Type}{E:α->Int}{l:List α}(h:∀x∈l,E x=0):BB E l=0:=by
 induction l with
 | nil=>rfl
 | cons b l ih=>simp only[BB,h b sS,if_true];exact ih fun x hx=>h x (by simp[hx])
theorem dr0{α:Type}{E:α->Int}{l:List α}(h:∀x∈l,s6 (E x)):s6 (BB E l):=by
 induction l with
 | nil=>exact .inl rfl
 | cons b l ih=>
  unfold BB;split;· exact ih fun x hx=>h x (by simp[hx])
  ·exact h b sS
theorem e20{α:Type}{P:α->Prop}{l:List α}{a:α}(h:∀x∈l,P x)(ha:P a):∀x∈l++[a],P x:=by
 intro x hx;rcases t6.1 hx with hx|hx;· exact h x hx
 ·rw[bM.1 hx];exact ha
theorem e30(h:t.natE g=0):(t.V1 g).2=0:=by
 unfold PL AW at h;by_cases q:t.L4=0
 ·simp only[if_pos q]at h;by_cases q2:(t.V1 g).2=0;· exact q2
  ·rw[if_neg q2]at h;exact h
 ·simp only[if_neg q]at h;exact absurd h q
theorem rZ0{l:List Tm}(h:kX l g=0):∀t∈l,t.natE g=0:=by
 induction l with
 | nil=>intro t ht;cases ht
 | cons a r ih=>
  simp only[kX]at h;by_cases q:a.natE g=0
  ·rw[if_pos q]at h;intro t ht;rcases u5.1 ht with rfl|ht;· exact q
   ·exact ih h t ht
  ·rw[if_neg q]at h;exact absurd h q
theorem pc0{l:List Fm}(h:Cp.typeds l g=0):∀t∈l,t.typedN g=0:=by
 induction l with
 | nil=>intro t ht;cases ht
 | cons a r ih=>
  simp only[Cp.typeds]at h;by_cases q:a.typedN g=0
  ·rw[if_pos q]at h;intro t ht;rcases u5.1 ht with rfl|ht;· exact q
   ·exact ih h t ht
  ·rw[if_neg q]at h;exact absurd h q
theorem Vh(h:f.typedN g=0):(∀t∈f.M1,t.natE g=0)/\∀a∈f.B0,a.typedN (if H3 f.o0=1 then g++[f.I0] else g)=0:=by
 rw[PK]at h;by_cases q:kX f.M1 g=0;· rw[if_pos q]at h;exact⟨rZ0 q,pc0 h⟩
 ·rw[if_neg q]at h;exact absurd h q
theorem XB(h:FDn Γ f)(hc:Γ.length+f.A0<=1000000)(k:∀a∈Γ,a.ok):∃e,s6 e/\(f.typedN (gT Γ)=0->e=0)/\cU 196 [.sl ((gT Γ).map Q4),f.dv] (j0 e):=by
 induction f using aU generalizing Γ with
 | h f ih=>
 obtain⟨hp1,hp2⟩:=Wx h;have kF:=sI f
 have hk:f.o0=1\/f.o0=2\/f.o0=3\/H3 f.o0=1:=by cases h with
  | eq=>exact .inl rfl
  | two hk=>exact hk.elim (fun h=>.inr (.inl h)) fun h=>.inr (.inr (.inl h))
  | @q _ kk _ _ hk=>exact .inr (.inr (.inr (by show H3 kk=1;unfold H3;rw[if_pos hk])))
 obtain⟨E,hE⟩:=ef0 (l:=f.M1) fun x hx=>by
  obtain⟨F,hd⟩:=hp1 x hx;exact fI0 ⟨oO,k⟩ hd (by have:=L9 hx;omega)
 by_cases h1:f.o0=1
 ·refine⟨BB E f.M1,dr0 fun x hx=>(hE x hx).1,fun h=>Rh fun x hx=>(hE x hx).2.1 (e30 ((Vh h).1 x hx)),?_⟩;refine H2 Tryz.func196 ?_;intro X hP G0 hf X0 hn hR K1 G1;obtain⟨gQ,fU⟩:=yX (G1 f.dv sS);refine E4 (bx [1000003]) tT ?_;refine U1 @h1 ?_;refine Q1 ?_;refine G2 [] tT (dB (f.M1) (fun done=>∀x∈done,E x=0) (fun done rest=>[sV 44 (j0 done.length),sV 43 (j0 f.M1.length),sV 42 (.sl (f.M1.map E3)),sV 0 (.sl ((gT Γ).map Q4))]) sS ?_ ?_)
  ·intro done y rest hL hg hI Z1;have I1:=E5 hL;obtain⟨_,_,w⟩:=hE y (uE hg);refine N1 @hg (M0 w) ?_;by_cases q:E y=0;· refine W3 (wr []) tT @q (Z1 (e20 hI q))
   ·rw[hL,eg0 hI q]at hR;exact O1 @q H0
  ·intro hI;rw[Rh hI]at hR;exact O1 H0 H0
 obtain⟨Δ,hΔ,O8,hD,NP⟩:∃Δ:List T,Δ.length<=Γ.length+1/\(∀a∈Δ,a.ok)/\(∀a∈f.B0,FDn Δ a)/\((H3 f.o0=0/\Δ=Γ)\/(H3 f.o0=1/\f.I0.ok/\gT Δ=gT Γ++[f.I0])):=by
  by_cases hq:H3 f.o0=1
  ·cases h with
   | eq=>exact absurd rfl h1
   | @two _ kk _ _ hk=>exact absurd hq (by show H3 kk≠1;unfold H3;rw[if_neg oO];decide)
   | @q _ kk s x nO hs hx=>exact⟨s::Γ,sS,fun a ha=>by
     rcases u5.1 ha with rfl|ha;· exact hs
     ·exact k a ha,fun a ha=>by simp[qF,lP]at ha;subst ha;exact hx,.inr ⟨hq,M9 hs,sO s Γ⟩⟩
  ·exact⟨Γ,oO,k,fun a ha=>by
    rcases hp2 a ha with h|h;· exact h.2
    ·exact absurd h.1 hq,.inl ⟨by have:=rA f.o0;omega,rfl⟩⟩
 obtain⟨E2,S7⟩:=ef0 (l:=f.B0) fun x hx=>ih x hx (hD x hx) (by have:=oZ hx;omega) O8
 refine⟨BB E2 f.B0,dr0 fun x hx=>(S7 x hx).1,fun h=>Rh fun x hx=>(S7 x hx).2.1 (by
  have:=(Vh h).2 x hx;rcases NP with⟨h1,h2⟩|⟨h1,-,h2⟩;· rw[if_neg oO]at this;rw[h2];exact this
  ·rw[if_pos h1]at this;rw[h2];exact this),?_⟩
 refine H2 Tryz.func196 ?_;intro X hP G0 hf X0 hn hR K1 G1;obtain⟨gQ,fU⟩:=yX (G1 f.dv sS);refine E4 (bx [1000003]) tT ?_;apply vF [sV 30 (j0 0),sV 29 (j0 f.B0.length),sV 28 (.sl (f.B0.map L3)),sV 0 (.sl ((gT Δ).map Q4)),sV 3 (.ref f.cs)]
 ·intro Q3;rcases NP with⟨h2,rfl⟩|⟨h2,h3,h4⟩
  ·unfold H3 at h2;have h5:f.o0=2\/f.o0=3:=by
    rcases hk with h|h|h|h;· exact absurd h h1
    ·exact .inl h
    ·exact .inr h
    ·unfold H3 at h;omega
   rcases h5 with h5|h5
   all_goals
    refine U1 @h5 ?_;refine m5 ?_;refine G2 [] tT Q3
  ·have w:=RD (gT Γ) [f.I0] (by simpa using h3) ⟨by rw[gB];omega,sS⟩;rw[<- h4]at w;have h5:f.o0=4\/f.o0=5\/f.o0=6\/f.o0=7:=by
    by_cases h:f.o0=4\/f.o0=5\/f.o0=6\/f.o0=7;· exact h
    ·unfold H3 at h2;rw[if_neg h]at h2;cases h2
   generalize (gT Δ).map Q4=D at *;rcases h5 with h5|h5|h5|h5
   all_goals
    refine V3 @h5 (M0 w) ?_;refine m5 ?_;refine G2 [] tT Q3
 refine Q1 ?_;refine G2 [] tT (dB (f.B0) (fun done=>∀x∈done,E2 x=0) (fun done rest=>[sV 30 (j0 done.length),sV 29 (j0 f.B0.length),sV 28 (.sl (f.B0.map L3)),sV 0 (.sl ((gT Δ).map Q4)),sV 3 (.ref f.cs)]) sS ?_ ?_)
 ·intro done y rest hL hg hI Z1;have I1:=E5 hL;obtain⟨_,_,w⟩:=S7 y (uE hg);refine N1 @hg (M0 w) ?_;by_cases q:E2 y=0;· refine W3 (wr []) tT @q (Z1 (e20 hI q))
  ·rw[hL,eg0 hI q]at hR;exact O1 @q H0
 ·intro hI;rw[Rh hI]at hR;exact O1 H0 H0
theorem mM0(s t:Tm):cU 216 [s.dv,t.dv] (I3 s t).dv:=by
 rw[sW];refine A3 Tryz.func216 fun X zX=>?_;refine E4 (bx [1000002,1000003]) tT ?_;exact O1 H0 H0
theorem wD0(k:Int)(l:List Fm):cU 199 [j0 k,.sl (l.map L3)] (oV k (L0 0 []) [] l).dv:=by
 exact G7 Tryz.func199 H0 H0
theorem Wy(k:Int)(y:Ty)(f:Fm):cU 204 [j0 k,y.dv,f.dv] (qF k y f).dv:=by
 rw[dL];refine A3 Tryz.func204 fun X zX=>?_;refine E4 (bx [1000004,1000005]) tT ?_;exact O1 H0 H0
theorem Ri(n:Int)(h:0<=n/\n<=4096):cU 109 [j0 n] (O2 true):=by
 obtain⟨h1,h2⟩:=h;exact B2 Tryz.func109 (j2 @h1 @h2) H0
theorem e40(h:FDn Γ f)(hc:Γ.length+f.A0<=1000000):AllT (fun t _=>t.leastN 536870912=true) f 0:=by
 have key:∀d:Int,AllT (fun t _=>t.leastN 536870912=true) f d:=by
  induction f using aU generalizing Γ with
  | h f ih=>
  intro d;obtain⟨h1,h2⟩:=Wx h;have h3:=sI f;refine .mk (fun t ht=>?_) fun a ha=>?_
  ·obtain⟨F,hd⟩:=h1 t ht;exact gW hd _ (by have:=L9 ht;omega)
  ·have:=oZ ha;rcases h2 a ha with⟨_,h⟩|⟨_,s,_,_,h⟩;· exact ih a ha h oO _
   ·exact ih a ha h (by simp only[B4];omega) _
 exact key 0
theorem Tf{F:Q0 Γ->a.V}(h:Dn Γ t a F)(hc:Γ.length+t.A0<=1000000):Gd t:=⟨Z5 h,sF t _ (Z5 h) (gW h _ oO)⟩
theorem BM(h:f.A0<=4096):f.chk=0:=by unfold wK;rw[if_neg oO]
theorem dt0(K3:D6 gl 2=some A7)(h:FDn Γ f)(N5:Γ.length<=1000)(hc:f.A0<=4096)(p k:Int)(hp:0<=p/\p<=4096)(hk:0<=k/\k<=4096):cU 34 [f.dv,j0 p,j0 k] (.H1 [(f.V0 p k).dv,j0 0]):=by
 have hg:=lU h 1073741824 oO;have w1:=CH K3 h oO;rw[BM hc]at w1;have w2:=eK0 f hg oO (e40 h oO);have w3:=Rz f p k hg oO oO oO;generalize f.V0 p k=u at *;refine A3 Tryz.func34 fun X zX=>?_;refine E4 (bx [1000003]) tT ?_;exact O1 H0 (T9 w1 (Ri p hp) (Ri k hk) w2 w3)
theorem wE0(K3:D6 gl 2=some A7)(h:FDn Γ f)(hc:f.A0<=4096):cU 382 [f.dv] (.H1 [j0 f.A0,j0 0]):=by
 have w1:=Rg K3 h oO;rw[BM hc,if_pos rfl]at w1;refine A3 Tryz.func382 fun X zX=>?_;refine E4 (bx [1000001]) tT ?_;exact O1 H0 (M0 w1)
theorem wF0(K3:D6 gl 2=some A7)(t:Tm)(h:t.shape=true)(hc:t.A0<=4096):cU 383 [t.dv] (.H1 [j0 t.A0,j0 0]):=by
 have w1:=Qi K3 t (gV t h) oO;rw[(lO t).2 ⟨h,hc⟩,if_pos rfl]at w1;refine A3 Tryz.func383 fun X zX=>?_;refine E4 (bx [1000001]) tT ?_;exact O1 H0 (M0 w1)
theorem e50{s:Tm}(h:I6 f s=0):f.A0<=4096/\s.L4=0/\(f.A0:Int)+f.R2 0 * ((s.A0:Int) - 1)<=4096:=by
 unfold I6 at h;obtain⟨h1,h2⟩:=aW h;obtain⟨h2,h3⟩:=aW h2;refine⟨?_,h2,?_⟩;· unfold wK at h1;split at h1 <;> omega
 ·split at h3 <;> omega
theorem r00(K3:D6 gl 2=some A7)(hf:FDn (s0::Γ) f){s:Tm}{X:Q0 Γ->s0.V}(hs:Dn Γ s s0 X)(N5:Γ.length<=1000)(hp:I6 f s=0):cU 351 [f.dv,j0 0,s.dv] (.H1 [(f.Y1 0 0 s).dv,j0 0]):=by
 obtain⟨q1,q2,q3⟩:=e50 hp;have q2:=((lO s).1 q2).2;have hg:=lU hf 1073741824 (by simp only[B4];omega);have gs:=Tf hs oO;have w1:=wE0 K3 hf q1;have w2:=wF0 K3 s gs.1 q2;have w3:=eK0 f hg oO (e40 hf (by simp only[B4];omega));have w4:=Wp s gs oO (gW hs _ oO);have w5:=QV f 0 hg oO dD;have w6:=RT f 0 s hg oO dD (.inl ⟨gs,oO⟩);have ht:=a00 f 0;generalize f.Y1 0 0 s=u at *;have hm:(f.R2 0:Int) * ((s.A0:Int) - 1)<=16777216/\-4096<=(f.R2 0:Int) * ((s.A0:Int) - 1):=by
  constructor
  ·calc (f.R2 0:Int) * ((s.A0:Int) - 1)<=(f.R2 0:Int) * 4096:=Int.mul_le_mul_of_nonneg_left oO oO
    _<=_:=oO
  ·calc (-4096:Int)<=(f.R2 0:Int) * (-1):=oO
    _<=_:=Int.mul_le_mul_of_nonneg_left oO oO
 have q3:¬4096<(f.A0:Int)+f.R2 0 * ((s.A0:Int) - 1):=oO;refine H2 Tryz.func351 ?_;intro X hP G0 hf X0 hn hR K1 G1;refine E4 (bx [1000003,1000005]) tT ?_;exact O1 @q3 (vM w1 (Ri 0 dD) w2 w3 w4 w5 w6)
theorem r20(K3:D6 gl 2=some A7)(h:FDn Γ f)(N5:Γ.length<=1000)(hc:f.A0<=4096)(h0:f.R2 0=0):cU 352 [f.dv,j0 0] (.H1 [(f.Y1 0 0 M6).dv,j0 0]):=by
 have hg:=lU h 1073741824 oO;have w1:=CH K3 h oO;rw[BM hc]at w1;have w5:=QV f 0 hg oO dD;rw[h0]at w5;have w6:=RT f 0 M6 hg oO dD (.inr h0);have w6:cU 286 [f.dv,j0 0,.agg [j0 0,j0 0,j0 0,.sl [],.sl []]] (f.Y1 0 0 M6).dv:=w6;generalize f.Y1 0 0 M6=u at *;refine A3 Tryz.func352 fun X zX=>?_;refine E4 (bx [1000002]) tT ?_;exact O1 H0 (cQ w1 (Ri 0 dD) w5 w6)
theorem r30(K3:D6 gl 2=some A7){a b:Tm}{F G:Q0 Γ->s.V}(ha:Dn Γ a s F)(hb:Dn Γ b s G)(N5:Γ.length<=1000000)(ca:a.A0<=1000000)(cb:b.A0<=1000000):cU 341 [a.dv,b.dv,j0 1000] (j0 (a.matchE b 1000)):=by
 have wa:=ID K3 a (gV a (Z5 ha)) oO;have wb:=ID K3 b (gV b (Z5 hb)) oO;have ws:=cv0 a b;have Dt:=cv0 (aV 1000 a 0).1 (aV 1000 b 0).1
 have na:a.L4=0->cU 288 [a.dv,j0 1000] (.H1 [(aV 1000 a 0).1.dv,j0 (aV 1000 a 0).2.1,j0 (aV 1000 a 0).2.2]):=fun h=>
  di0 K3 a 1000 (gV a (Z5 ha)) (gW ha _ oO) dD (MN N5 1000 ha ((lO a).1 h).2)
 have nb:b.L4=0->cU 288 [b.dv,j0 1000] (.H1 [(aV 1000 b 0).1.dv,j0 (aV 1000 b 0).2.1,j0 (aV 1000 b 0).2.2]):=fun h=>
  di0 K3 b 1000 (gV b (Z5 hb)) (gW hb _ oO) dD (MN N5 1000 hb ((lO b).1 h).2)
 have hm:=Tm.matchE.eq_1 a b 1000;generalize a.matchE b 1000=m at *;generalize aV 1000 a 0=la at *;generalize aV 1000 b 0=lb at *;obtain⟨ua,va,ea⟩:=la;obtain⟨ub,vb,eb⟩:=lb;simp only at Dt na nb hm;refine A3 Tryz.func341 fun X zX=>?_;refine N1 H0 (M0 wa) ?_;by_cases h1:a.L4=0;rotate_left
 ·rw[if_neg h1]at hm;exact O1 (j2 @h1 @hm) H0
 rw[if_pos h1]at hm;refine N1 @h1 (M0 wb) ?_;by_cases h2:b.L4=0;rotate_left
 ·rw[if_neg h2]at hm;exact O1 (j2 @h2 @hm) H0
 rw[if_pos h2]at hm;refine U1 @h2 ?_;by_cases h3:a.same b=true
 ·rw[if_pos h3]at hm;exact O1 (j2 @h3 @hm) (M0 ws)
 rw[if_neg h3]at hm;have h3:a.same b=false:=by simpa using h3
 refine N1 @h3 (P3 ws (na h1)) ?_;by_cases h4:ea=0;rotate_left
 ·rw[if_neg h4]at hm;exact O1 (j2 @h4 @hm) H0
 rw[if_pos h4]at hm;refine N1 @h4 (M0 (nb h2)) ?_;by_cases h5:eb=0;rotate_left
 ·rw[if_neg h5]at hm;exact O1 (j2 @h5 @hm) H0
 rw[if_pos h5]at hm;refine U1 @h5 ?_;by_cases h6:ua.same ub=true
 ·rw[if_pos h6]at hm;exact O1 (j2 @h6 @hm) (M0 Dt)
 ·rw[if_neg h6]at hm;have h6:ua.same ub=false:=by simpa using h6
  exact O1 (j2 @h6 @hm) (M0 Dt)
theorem r40(K3:D6 gl 2=some A7)(a:Fm):∀{Γ:List T},FDn Γ a->Γ.length+a.A0<=1000000->∀b,FDn Γ b->Γ.length+b.A0<=1000000->cU 282 [a.dv,b.dv] (j0 (a.matE b)):=by
 induction a using aU with
 | h a ih=>
 intro Γ ha ca b hb cb;have wt:=Cw a.I0 b.I0;have e:=a.matE_eq b;refine A3 Tryz.func282 fun X zX=>?_;refine E4 (bx [1000002,1000003]) tT ?_;by_cases hk:a.o0=b.o0;rotate_left;· exact O1 (j2 @hk @e) H0
 by_cases ht:a.I0.same b.I0=true;rotate_left
 ·have ht:a.I0.same b.I0=false:=by simpa using ht
  rw[if_neg (by simp[ht])]at e;exact O1 (j3 @hk @ht @e) (M0 wt)
 obtain⟨p1,p2,p3,Δ,p4,p5⟩:=dU0 ha hb hk ((y9 _ _).1 ht);rw[if_pos ⟨hk,ht⟩]at e;have ea:=a.count_eq;have eb:=b.count_eq;have h1:=Lt a.M1;have h2:=Fm.len_counts a.B0;refine V3 (j2 @hk @ht) (M0 wt) ?_;refine Q1 ?_;refine G2 [] tT (dB (a.M1) (fun done=>zE Ko done b.M1=0) (fun done rest=>[sV 2 (.ref a.cs),sV 3 (.ref b.cs),sV 25 (.sl (a.M1.map E3)),sV 26 (j0 a.M1.length),sV 27 (j0 done.length)]) (rfl) ?_ ?_)
 ·intro done x rest hL hg hI Z1;have I1:=E5 hL;obtain⟨y,hy⟩:∃y,b.M1[done.length]? = some y:=⟨_,uB oO⟩;obtain⟨q,F,G,g1,g2⟩:=p2 _ x y hg hy;have c1:=L9 (uE hg);have c2:=L9 (uE hy);have w:=r30 K3 g1 g2 oO oO oO;refine N1 (j2 @hg @hy) (M0 w) ?_;by_cases hz:x.matchE y 1000=0;· refine W3 (wr []) tT @hz (Z1 (Nj hI hy hz))
  ·rw[hL,MT hI hy hz,S5,if_neg (show Ko x y≠0 from hz)]at e;exact O1 (j2 @hz @e) H0
 ·intro hI;rw[hI,S5,if_pos rfl]at e;refine N2 ?_;refine Q1 ?_;refine G2 [] tT (dB (a.B0) (fun done=>zE Fm.matE done b.B0=0) (fun done rest=>[sV 3 (.ref b.cs),sV 44 (.sl (a.B0.map L3)),sV 45 (j0 a.B0.length),sV 46 (j0 done.length)]) (rfl) ?_ ?_)
  ·intro done x rest hL hg hI Z1;have I1:=E5 hL;obtain⟨y,hy⟩:∃y,b.B0[done.length]? = some y:=⟨_,uB oO⟩;obtain⟨g1,g2⟩:=p5 _ x y hg hy;have U2:=uE hg;have c1:=oZ U2;have c2:=oZ (uE hy);have w:=ih x U2 g1 oO y g2 oO;refine N1 (j2 @hg @hy) (M0 w) ?_;by_cases hz:x.matE y=0;· refine W3 (wr []) tT @hz (Z1 (Nj hI hy hz))
   ·rw[hL,MT hI hy hz]at e;exact O1 (j2 @hz @e) H0
  ·intro hI;rw[hI]at e;exact O1 @e H0
theorem r50(K3:D6 gl 2=some A7){a b:Fm}(ha:FDn Γ a)(hb:FDn Γ b)(ca:Γ.length+a.A0<=1000000)(cb:Γ.length+b.A0<=1000000):cU 202 [a.dv,b.dv] (j0 (a.MatE b)):=by
 have w:=r40 K3 a ha ca b hb cb;unfold Fm.MatE;have w1:=CH K3 ha oO;have w2:=CH K3 hb oO;unfold S5;generalize a.chk=e1 at *;generalize b.chk=e2 at *;generalize a.matE b=e at *;refine H2 Tryz.func202 ?_;intro X hP G0 hf X0 hn hR K1 G1;by_cases q1:e1=0;rotate_left
 ·rw[if_neg q1]at hR;exact O1 @q1 (M0 w1)
 rw[if_pos q1]at hR;by_cases q2:e2=0;rotate_left
 ·rw[if_neg q2]at hR;exact O1 (j2 @q1 @q2) (P3 w1 w2)
 rw[if_pos q2]at hR;exact O1 (j2 @q1 @q2) (E8 w1 w2 w)
theorem Tm.marksN_len(t:Tm):∀(d:Int) (ml:List (Int × DV)),(t.marksN d ml).length<=ml.length+t.A0:=by
 induction t using m7 with
 | h t ih=>
 intro d ml;have key:∀(l:List Tm) (d:Int) (ml:List (Int × DV)),(∀x∈l,x∈t.B0)->(Tm.marksN.markss l d ml).length<=ml.length+D3.Z0 l:=by
  intro l
  induction l with
  | nil=>intro d ml _;exact I5 _
  | cons a r l6=>
   intro d ml hl;have h2:=ih a (hl a sS) d ml;have h4:=l6 d (a.marksN d ml) (fun x hx=>hl x (by simp[hx]));simp only[Tm.marksN.markss,D3.Z0];omega
 rw[Tm.marksN_eq,V6];split
 ·have h3:=key t.B0 (d+W2 t.o0) (oG ml (t.O0 - d) rN) (fun _ h=>h);have:=Xa ml (t.O0 - d);omega
 ·have h3:=key t.B0 (d+W2 t.o0) ml (fun _ h=>h);omega
def eP(t:Tm):List Int:=if t.L4=0 then zZ (xJ (t.marksN 0 [])) else []
theorem Bn(t:Tm):(eP t).length<=t.A0:=by
 unfold eP;split
 ·rw[ed0];have:=t.marksN_len 0 [];simp[xJ]at this ⊢;exact this
 ·exact aH _
def gX(a b:List Int):List Int:=zZ (xJ (kQ (kQ [] a) b))
theorem Bk(a b:List Int):(gX a b).length<=a.length+b.length:=by
 unfold gX;rw[ed0];have h1:=Re [] a;have h2:=Re (kQ [] a) b;simp[xJ]at h1 ⊢;omega
def eQ(u:List Int)(n:Int):List Int:=(u.filter fun a=>decide (n<=a)).map fun a=>a - n
theorem Gr(u:List Int)(n:Int):(eQ u n).length<=u.length:=by
 unfold eQ;rw[fV];exact List.length_filter_le _ _
theorem r60(u:List Int)(a n:Int):eQ (u++[a]) n=if n<=a then eQ u n++[a - n] else eQ u n:=by
 unfold eQ;rw[List.filter_append,FV];by_cases h:n<=a <;> simp[h]
theorem wG0(n:Int):eQ [] n=[]:=rfl
theorem eh0(ml:List (Int × DV)):kQ ml []=ml:=rfl
theorem XC:vJ []:=⟨sS,sS⟩
theorem zE0(t:Tm)(hs:t.shape=true)(hc:t.A0<=1000000)(hi:t.idx 1099511627776):cU 368 [t.dv] (.H1 [.sl (P2 (eP t)),j0 t.L4]):=by
 have wc:=IB t (gV t hs) oO;have eZ:eP t=if t.L4=0 then zZ (xJ (t.marksN 0 [])) else []:=rfl
 refine H2 Tryz.func368 ?_;intro X hP G0 hf X0 hn hR K1 G1;refine N1 H0 (M0 wc) ?_;by_cases q:t.L4=0
 ·rw[if_pos q]at eZ;obtain⟨m1,m2⟩:=eW0 t 0 [] dD hi XC;have Kz:(t.marksN 0 []).length<=1000000:=by simp at m2;omega
  refine U1 @q ?_;refine Q1 ?_;refine O9 [11] fun K hK=>?_;simp[go_sem,hP,G0,hn];refine Vr nN (by rfl) ?_;intro b hb oP;simp[newB]at hb;simp[go_sem,hP,G0,hn];refine K4 ?_;clear hK K;have wm:=zD0 t 0 b [] dD oO hi XC;have ws:=ee0 b (t.marksN 0 []) m1 Kz;refine U6 tT fun K hK=>?_;repeat (refine⟨oO,?_⟩)
  first|refine Wv hP G0 wm sH rfl sG nN ?_|refine QC (fun _ _=>iN) hP G0 wm sH rfl sG nN ?_
  simp[go_sem,hP,G0,hn];refine K4 ?_;clear hK K;refine U6 tT fun K hK=>?_;repeat (refine⟨oO,?_⟩)
  first|refine Wv hP G0 ws sH rfl sG nN ?_|refine QC (fun _ _=>iN) hP G0 ws sH rfl sG nN ?_
  simp[go_sem,hP,G0,hn];refine K4 ?_;clear hK K;exact aN (j2 @eZ @q)
 ·rw[if_neg q]at eZ;exact O1 (j3 @q @eZ @c7) H0
theorem Sd(t:Tm)(hs:t.shape=true)(hc:t.A0<=4096)(hi:t.idx 1099511627776):cU 332 [t.dv] (.sl (P2 (eP t))):=by
 have w:=zE0 t hs oO hi;exact B2 Tryz.func332 H0 (M0 w)
theorem Em(a c:List Int)(h:a.length+c.length<=1000000):cU 260 [.sl (P2 a),.sl (P2 c)] (.sl (P2 (gX a c))):=by
 refine H2 Tryz.func260 ?_;intro X hP G0 hf X0 hn hR K1 G1;have OK:∀n∈a,aY (.int .i64 n):=((Rw a).1 (G1 (.sl (P2 a)) sS)).2;have Dl:∀n∈c,aY (.int .i64 n):=((Rw c).1 (G1 (.sl (P2 c)) sS)).2;refine N2 ?_;refine Q1 ?_;refine O9 [10] fun K hK=>?_;simp[go_sem,hP,G0,hn];refine Vr nN (by rfl) ?_;intro b hb oP;simp[newB]at hb;simp[go_sem,hP,G0,hn];refine K4 ?_;clear hK K;refine N2 ?_;refine Q1 ?_;refine G2 [] @eh0 (dB (a) (fun done=>vJ (kQ [] done)) (fun done rest=>[sV 1 (.sl (P2 c)),(.P0 4,.one (.own 0 [])),sV 5 (.K0 (.map (some b))),(.heap  b,.mp (kQ [] done)),sV 11 (.sl (P2 a)),sV 12 (j0 a.length),sV 13 (j0 done.length)]) (XC) ?_ ?_)
 ·intro done x rest hL B3 hI Z1;have I1:=E5 hL;have U2:=uE B3;have fT:=zL B3;refine K5 ?_;refine R4 @fT ?_;refine U6 tT fun K hK=>?_;refine VU (b:=b) (n:=x) (ml:=kQ [] done) (dv:=rN) (by rw[hP];kernel_rfl) sG sG sG sG hI.1 (by rfl) ?_;simp[go_sem];refine K4 ?_;clear hK K;refine W3 (wr []) @QD tT (Z1 (by rw[QD];exact Sc hI (OK x U2)))
 ·intro hI;refine T7 ?_;refine N2 ?_;refine Q1 ?_;refine G2 [] @eh0 (dB (c) (fun done=>vJ (kQ (kQ [] a) done)) (fun done rest=>[(.P0 4,.one (.own 0 [])),sV 5 (.K0 (.map (some b))),(.heap  b,.mp (kQ (kQ [] a) done)),sV 20 (.sl (P2 c)),sV 21 (j0 c.length),sV 22 (j0 done.length)]) (hI) ?_ ?_)
  ·intro done x rest hL B3 hI Z1;have I1:=E5 hL;have U2:=uE B3;have fT:=zL B3;refine K5 ?_;refine R4 @fT ?_;refine U6 tT fun K hK=>?_;refine VU (b:=b) (n:=x) (ml:=kQ (kQ [] a) done) (dv:=rN) (by rw[hP];kernel_rfl) sG sG sG sG hI.1 (by rfl) ?_;simp[go_sem];refine K4 ?_;clear hK K;refine W3 (wr []) @QD tT (Z1 (by rw[QD];exact Sc hI (Dl x U2)))
  ·intro hI;have h1:=Re [] a;have h2:=Re (kQ [] a) c;have ws:=ee0 b (kQ (kQ [] a) c) hI (by simp at h1;omega);refine T7 ?_;refine U6 tT fun K hK=>?_;repeat (refine⟨oO,?_⟩)
   first|refine Wv hP G0 ws sH rfl sG nN ?_|refine QC (fun _ _=>iN) hP G0 ws sH rfl sG nN ?_
   simp[go_sem,hP,G0,hn];refine K4 ?_;clear hK K;refine N3 ?_;simp[go_sem,hP,G0,hn,gX] <;> (try omega)
theorem QF(u:List Int)(n:Nat)(h:u.length<=1000000):cU 330 [.sl (P2 u),j0 n] (.sl (P2 (eQ u n))):=by
 refine H2 Tryz.func330 ?_;intro X hP G0 hf X0 hn hR K1 G1;have hpu:∀a∈u,aY (.int .i64 a):=((Rw u).1 (G1 (.sl (P2 u)) sS)).2;refine N2 ?_;refine Q1 ?_;refine G2 [(1005,0)] (j2 @wG0 @c7) (y7 (u) (fun done rest=>[sV 1 (j0 n),(.P0 4,.one (.own 0 [])),(.P0 5,.one (.own 1005 (P2 (eQ done n)))),(.tok 1005,.tk 1 (eQ done n).length),sV 8 (.sl (P2 u)),sV 9 (j0 u.length),sV 10 (j0 done.length)]) ?_ ?_)
 ·intro done x rest hL B3 Z1;have I1:=E5 hL;have U2:=uE B3;have hpx:=hpu x U2;have GS0:x<=9223372036854775807:=hpx.2;have fT:=zL B3;have hol:=Gr done n;have TG:=r60 done x n;refine K5 ?_;refine R4 @fT ?_;by_cases q:(n:Int)<=x
  ·rw[if_pos q]at TG;rw[TG]at Z1;have V8:-9223372036854775808<=x - (n:Int):=oO;have Z8:x - (n:Int)<=9223372036854775807:=oO;have Fl:(eQ done n).length<=16777215:=oO;have BZ:(eQ done n).length+1<=1000000:=oO;refine W3 (wr [(1005,22)]) (j4 @cl0 @Wj @c7 @cj0) @q Z1
  ·rw[if_neg q]at TG;rw[TG]at Z1;refine W3 (wr [(1005,1005)]) tT @q Z1
 ·refine K2 ?_;refine Z6 ?_;exact O1 H0 H0
theorem jR:m4.dv = .agg [.K0 (.int .i64 0),.K0 (.int .i64 0),.sl [],.sl [],.sl []]:=rfl
theorem XD(i:Int):(fM i).dv = .agg [j0 1,j0 i,j0 0,.sl [],.sl [],.sl [],.sl []]:=rfl
theorem Xb(a b:Pf):(tF a b).dv = .agg [j0 3,j0 0,j0 0,.sl [],.sl [],.sl [],.sl [a.E0,b.E0]]:=rfl
theorem Se(k:Int)(a:Pf):(xT k a).dv = .agg [j0 k,j0 0,j0 0,.sl [],.sl [],.sl [],.sl [a.E0]]:=rfl
theorem MA(y:Ty)(a:Pf):(bO y a).dv = .agg [j0 8,j0 0,j0 y.o0,.sl (y.B0.map P1),.sl [],.sl [],.sl [a.E0]]:=by
 show eM _=_;rw[Pf.cells_eq];rfl
theorem Eo(t:Tm)(a:Pf):(jW t a).dv = .agg [j0 9,j0 0,j0 0,.sl [],.sl [t.E0],.sl [],.sl [a.E0]]:=rfl
theorem CI(f:Fm)(t:Tm)(a:Pf):(d9 f t a).dv = .agg [j0 10,j0 0,j0 0,.sl [],.sl [t.E0],.sl [f.E0],.sl [a.E0]]:=rfl
theorem Eu(a b:Pf):(dP a b).dv = .agg [j0 11,j0 0,j0 0,.sl [],.sl [],.sl [],.sl [a.E0,b.E0]]:=rfl
theorem Jz(k:Int)(f:Fm)(t:Tm)(a b:Pf):(fN k f t a b).dv = .agg [j0 k,j0 0,j0 0,.sl [],.sl [t.E0],.sl [f.E0],.sl [a.E0,b.E0]]:=rfl
theorem RE(t:Tm):(c9 t).dv = .agg [j0 18,j0 0,j0 0,.sl [],.sl [t.E0],.sl [],.sl []]:=rfl
theorem Bx(f:Fm)(a b:Pf):(dQ f a b).dv = .agg [j0 19,j0 0,j0 0,.sl [],.sl [],.sl [f.E0],.sl [a.E0,b.E0]]:=rfl
theorem e60{F:Q0 Γ->N0.V}(h:Dn Γ t .C0 F):s6 (t.natE (gT Γ)):=by
 unfold PL AW;by_cases h1:t.L4=0
 ·rw[if_pos h1];rcases XY h with h3|h3;· rw[h3];exact .inl rfl
  ·rw[if_neg (by rw[h3];decide),h3];exact .inr (.inr (.inl rfl))
 ·rw[if_neg h1];simp only[if_neg h1];exact da0 (Z5 h)
theorem Rj(h:FDn Γ f):s6 (f.typedN (gT Γ)):=by
 induction h with
 | @eq Γ s t F G h1 h2=>
  rw[PK];show s6 (if kX [s,t] _=0 then 0 else kX [s,t] _);have a1:=e60 h1;have a2:=e60 h2;simp only[kX];by_cases q1:s.natE (gT Γ)=0
  ·by_cases q2:t.natE (gT Γ)=0;· simp only[q1,q2,if_true];exact .inl rfl
   ·simp only[q1,if_true,q2,if_false];exact a2
  ·simp only[q1,if_false];exact a1
 | @two Γ k a b hk h1 h2 E9 T8=>
  have e0:H3 k=0:=by rcases hk with rfl|rfl <;> rfl
  rw[PK];show s6 (if (0:Int)=0 then Cp.typeds [a,b] (if H3 k=1 then _ else gT Γ) else 0);rw[e0,if_pos rfl,if_neg dD];simp only[Cp.typeds];by_cases q1:a.typedN (gT Γ)=0
  ·by_cases q2:b.typedN (gT Γ)=0;· simp only[q1,q2,if_true];exact .inl rfl
   ·simp only[q1,if_true,q2,if_false];exact T8
  ·simp only[q1,if_false];exact E9
 | @q Γ k a f hk ha h ih=>
  have e0:H3 k=1:=if_pos hk;rw[PK];show s6 (if (0:Int)=0 then Cp.typeds [f] (if H3 k=1 then gT Γ++[a.ty] else gT Γ) else 0);rw[e0,if_pos rfl,if_pos rfl,<- sO];simp only[Cp.typeds];by_cases q1:f.typedN (gT (a::Γ))=0;· simp only[q1,if_true];exact .inl rfl
  ·simp only[q1,if_false];exact ih
theorem CK.ctx(k:CK Γ hs v h):gD (gT Γ)=0:=gb0 (G:=Γ.reverse) (by have:=k.1;simp;omega) fun a ha=>k.2.2.1 a (j30.1 ha)
theorem CJ(k:CK Γ hs 0 0)(hi:hs[hs.length - 1 - i]? = some f)(I1:i<hs.length):tK Γ hs (fM i) f 0 0:=by
 have hm:=k.2.2.2 f (uE hi);refine⟨f,[],I5 _,fun _=>⟨rfl,hm.1,oO,.hyp k hi I1⟩,?_⟩;have kA:hs[((hs.length:Int) - 1 - i).toNat]? = some f:=by
  rw[show ((hs.length:Int) - 1 - i).toNat=hs.length - 1 - i from oO,hi]
 rw[XD];refine A3 iL fun X zX=>?_;have q:¬(hs.length:Int)<=i:=oO;have GR0:=k.2.1;exact O1 (j4 @q @kA @hi @c7) H0
theorem e70{a:Pf}{eb:Int}{nb:Nat}(ha:fO Γ hs a fa ea na)(hb:fO Γ hs b fb eb nb)(hn:na+nb<=1000000):tK Γ hs (tF a b) (U5 2 fa fb) (S5 ea eb) (na+nb):=by
 obtain⟨TJ,ua,a1,a2,wa⟩:=ha;obtain⟨Tv,ub,b1,b2,wb⟩:=hb;have l1:=fW a;have l2:=fW b;by_cases q1:ea=0
 ·rw[show S5 ea eb=eb by unfold S5;rw[if_pos q1]];have wt:=zk0 2 TJ Tv;have wu:=Em ua ub oO;refine⟨U5 2 TJ Tv,gX ua ub,by have:=Bk ua ub;omega,fun h=>?_,?_⟩
  ·obtain⟨rfl,a3,a4,a5⟩:=a2 q1;obtain⟨rfl,b3,b4,b5⟩:=b2 h;have hc:(U5 2 TJ Tv).A0=1+0+(TJ.A0+(Tv.A0+0)):=rfl;exact⟨rfl,.two (.inl rfl) a3 b3,oO,.andi a5 b5⟩
  rw[Xb];rw[wU]at wt ⊢;generalize gX ua ub=uu at *;exact B2 iL @q1 (cQ wa wb wt wu)
 ·rw[show S5 ea eb=ea by unfold S5;rw[if_neg q1]];refine⟨m4,[],aH _,fun h=>absurd h q1,?_⟩;rw[Xb];exact B2 iL (j3 @q1 @jR @c7) (M0 wa)
theorem XE{a b:Fm}(h:FDn Γ (U5 k a b)):FDn Γ a/\FDn Γ b:=by
 generalize hq:U5 k a b=q at h;cases h with
 | eq _ _=>simp[U5,I3]at hq
 | two hk h1 h2=>simp only[U5,oV.injEq,FG,and_true,true_and]at hq;obtain⟨-,rfl,rfl⟩:=hq;exact⟨h1,h2⟩
 | q _ _ _=>simp[U5,qF]at hq
theorem nB(h:FDn Γ (qF k s.ty f)):s.ok/\FDn (s::Γ) f:=by
 generalize hq:qF k s.ty f=q at h;cases h with
 | eq _ _=>simp[qF,I3]at hq
 | two _ _ _=>simp[U5,qF]at hq
 | q hk ha h=>
  simp only[qF,oV.injEq,FG,and_true,true_and]at hq;obtain⟨-,h1,rfl⟩:=hq;have:=eN h1;subst this;exact⟨ha,h⟩
theorem CY0{s:Tm}(h:FDn Γ (I3 s t)):∃F G,Dn Γ s .C0 F/\Dn Γ t .C0 G:=by
 generalize hq:I3 s t=q at h;cases h with
 | eq h1 h2=>simp only[I3,oV.injEq,FG,and_true,true_and]at hq;obtain⟨rfl,rfl⟩:=hq;exact⟨_,_,h1,h2⟩
 | two _ _ _=>simp[U5,I3]at hq
 | q _ _ _=>simp[I3,qF]at hq
theorem XF{a:Pf}(i:Bool)(ha:fO Γ hs a (U5 2 fa fb) ea na):tK Γ hs (xT (if i then 5 else 4) a) (if i then fb else fa) ea na:=by
 obtain⟨f',u,a1,a2,wa⟩:=ha;have l1:=fW a;by_cases q1:ea=0
 ·obtain⟨rfl,a3,a4,a5⟩:=a2 q1;have hd:=XE a3;have hc:(U5 2 fa fb).A0=1+0+(fa.A0+(fb.A0+0)):=rfl;have wa:cU 106 [I9 (gT Γ) hs,a.dv] (.H1 [.agg [j0 2,j0 0,.sl [],.sl [],.sl [fa.E0,fb.E0],.sl (P2 u)],j0 ea]):=wa;have l2:=cX fa;have l3:=cX fb;cases i
  ·refine⟨fa,u,a1,fun _=>⟨rfl,hd.1,by show fa.A0<=_;omega,.and false a5⟩,?_⟩;rw[Se];show P8 _ _ _ [_,eM [j0 4,_,_,_,_,_,_]] _ _ _;exact B2 iL @q1 (M0 wa)
  ·refine⟨fb,u,a1,fun _=>⟨rfl,hd.2,by show fb.A0<=_;omega,.and true a5⟩,?_⟩;rw[Se];show P8 _ _ _ [_,eM [j0 5,_,_,_,_,_,_]] _ _ _;exact B2 iL @q1 (M0 wa)
 ·refine⟨m4,[],aH _,fun h=>absurd h q1,?_⟩;rw[Se];cases i
  ·show P8 _ _ _ [_,eM [j0 4,_,_,_,_,_,_]] _ _ _;exact B2 iL (j3 @q1 @jR @c7) (M0 wa)
  ·show P8 _ _ _ [_,eM [j0 5,_,_,_,_,_,_]] _ _ _;exact B2 iL (j3 @q1 @jR @c7) (M0 wa)
theorem CC(k:CK Γ hs 0 0){F:Q0 Γ->N0.V}(ht:Dn Γ t .C0 F)(hc:t.A0<=100000):∃e,s6 e/\(e=0->t.A0<=4096)/\tK Γ hs (c9 t) (I3 t t) e 0:=by
 obtain⟨e,e1,e2,w⟩:=VV k ht oO 1 rfl;refine⟨e,e1,fun h=>(e2 h).1,I3 t t,[],I5 _,fun h=>⟨rfl,.eq ht ht,?_,.refl k ht (e2 h).1 (e2 h).2⟩,?_⟩
 ·have gK:(I3 t t).A0=1+(t.A0+(t.A0+0))+0:=rfl;omega
 have we:=CT0 t t;have l1:=mM t;rw[sW]at we ⊢;rw[RE];exact B2 iL @c7 (P3 we w)
theorem MB(k:CK Γ hs 1 0)(Aq:s.ok){a:Pf}(ha:fO (s::Γ) (Q5 hs 1) a fa ea na)(hn:na<=1000000):tK Γ hs (bO s.ty a) (qF 4 s.ty fa) ea na:=by
 obtain⟨f',u,a1,a2,wa⟩:=ha;have l1:=fW a;have wr:=Rf (gT Γ) hs 1 0 (by have:=k.1;simp only[gB];omega) (by have:=k.2.1;omega);have wb:=QE [s.ty] (gT Γ) hs (fun f hf=>⟨lU (k.2.2.2 f hf).1 _ (by have:=k.1;have:=(k.2.2.2 f hf).2;omega),(k.2.2.2 f hf).2⟩) sS (by have:=k.1;simp only[gB];omega) (by have:=k.2.1;omega);rw[sO]at wa;have wb:cU 328 [I9 (gT Γ) hs,.sl [s.ty.E0]] (I9 (gT Γ++[s.ty]) (Q5 hs 1)):=wb;have wq:=EU0 4 s.ty f';have wo:=QF u 1 oO;have hl:=Gr u 1;have hr:tK Γ hs (bO s.ty a) (qF 4 s.ty fa) ea na↔tK Γ hs (bO s.ty a) (qF 4 s.ty fa) ea na:=Iff.rfl;have okA:ea=0->Ok false Γ hs (bO s.ty a) (qF 4 s.ty fa):=fun h=>.alli k Aq (a2 h).2.2.2;generalize gT Γ++[s.ty]=g2 at *;generalize Q5 hs 1=W9 at *;by_cases q1:ea=0
 ·obtain⟨rfl,a3,a4,a5⟩:=a2 q1;have hc:(qF 4 s.ty f').A0=1+0+(f'.A0+0):=rfl;refine⟨qF 4 s.ty f',eQ u 1,oO,fun _=>⟨rfl,.q (.inl rfl) Aq a3,oO,okA q1⟩,?_⟩;generalize eQ u 1=uu at *;rw[MA];rw[dL]at wq ⊢;have w:cU 263 [I9 (gT Γ) hs,.agg [j0 8,j0 0,j0 s.ty.o0,.sl (s.ty.B0.map P1),.sl [],.sl [],.sl [a.E0]]] (.H1 [.agg [j0 4,j0 s.ty.o0,.sl (s.ty.B0.map P1),.sl [],.sl [f'.E0]],.sl (P2 uu),j0 ea]):=by
   exact B2 Tryz.func263 @q1 (T9 wr wb wa wq wo)
  exact B2 iL H0 (M0 w)
 ·refine⟨m4,[],aH _,fun h=>absurd h q1,?_⟩;rw[MA];have w:cU 263 [I9 (gT Γ) hs,.agg [j0 8,j0 0,j0 s.ty.o0,.sl (s.ty.B0.map P1),.sl [],.sl [],.sl [a.E0]]] (.H1 [.agg [j0 0,j0 0,.sl [],.sl [],.sl []],.sl (P2 []),j0 ea]):=by
   exact B2 Tryz.func263 (j2 @q1 @c7) (E8 wr wb wa)
  exact B2 iL (j2 @jR @c7) (M0 w)
end
section
namespace Fm
def cls:Fm->Int × Int
 | .mk k _ _ a=>if k=1 then (0,6) else if k=2 then (max (fst a).1 (last a).1,min (fst a).2 (last a).2) else if k=3 then ((last a).1,min (fst a).2 (last a).2) else if k=5 then (1,0) else ((last a).1,0)
where
 fst:List Fm->Int × Int
  | a::_=>a.cls
  | []=>(0,0)
 last:List Fm->Int × Int
  | []=>(0,0)
  | a::r=>match r with
   | []=>a.cls
   | _=>last r
end Fm
theorem RF(h:FDn Γ f):f.cls.1=(if f.v6=true then 1 else 0)/\(f.cls.2=0\/f.cls.2=6):=by
 induction h with
 | eq h1 h2=>exact⟨rfl,.inr rfl⟩
 | @two Γ k a b hk h1 h2 i1 i2=>
  rcases hk with rfl|rfl
  ·rw[Vu];show max a.cls.1 b.cls.1=_/\(min a.cls.2 b.cls.2=0\/min a.cls.2 b.cls.2=6);rw[i1.1,i2.1];refine⟨by cases a.v6 <;> cases b.v6 <;> rfl,oO⟩
  ·rw[cs0];exact⟨i2.1,(show min a.cls.2 b.cls.2=0\/min a.cls.2 b.cls.2=6 from oO)⟩
 | @q Γ k s f hk hs h i=>
  by_cases h5:k=5;· subst h5;exact⟨rfl,.inl rfl⟩
  ·rw[zD _ _ oO];have e:(qF k s.ty f).cls=(f.cls.1,0):=by
    show (if k=1 then _ else if k=2 then _ else if k=3 then _ else if k=5 then _ else _)=_;rw[if_neg oO,if_neg oO,if_neg oO,if_neg h5];rfl
   rw[e];exact⟨i.1,.inl rfl⟩
abbrev clD(p:Int × Int):DV:=.K0 (.int .u8 (p.1+p.2))
theorem e80(b:Bool):cU 379 [O2 b] (.H1 [j0 (if b then 4 else 5),j0 (if b then 3 else 2)]):=by
 cases b
 all_goals
  exact B2 Tryz.func379 H0 H0
theorem wH0(hk:k=4\/k=5\/k=6\/k=7)(M7:(qF k y f).nb=true):cU 350 [(qF k y f).dv] (.H1 [O2 false,M6.dv,m4.dv,O2 false]):=by
 obtain⟨-,n1,n2⟩:=Fm.nb_q hk M7;have wt:=e80 true;have wf:=e80 false;rw[dL];clear M7;rcases hk with rfl|rfl|rfl|rfl
 ·by_cases hy:y.o0=1
  ·have n1:¬f.o0=3:=fun h=>n1 ⟨rfl,hy,h⟩;refine H2 UE ?_;intro X hP G0 hf X0 hn hR K1 G1;refine V3 (j2 @hy @n1) (M0 wt) ?_;refine N3 ?_;simp[go_sem,hP,G0,hn,M6,m4] <;> (try omega);all_goals exact f9
  ·refine H2 UE ?_;intro X hP G0 hf X0 hn hR K1 G1;refine V3 @hy (M0 wt) ?_;refine N3 ?_;simp[go_sem,hP,G0,hn,M6,m4] <;> (try omega);all_goals exact f9
 ·by_cases hy:y.o0=1
  ·have n2:¬f.o0=2:=fun h=>n2 ⟨rfl,hy,h⟩;refine H2 UE ?_;intro X hP G0 hf X0 hn hR K1 G1;refine V3 (j2 @hy @n2) (M0 wf) ?_;refine N3 ?_;simp[go_sem,hP,G0,hn,M6,m4] <;> (try omega);all_goals exact f9
  ·refine H2 UE ?_;intro X hP G0 hf X0 hn hR K1 G1;refine V3 @hy (M0 wf) ?_;refine N3 ?_;simp[go_sem,hP,G0,hn,M6,m4] <;> (try omega);all_goals exact f9
 all_goals
  refine H2 UE ?_;intro X hP G0 hf X0 hn hR K1 G1;refine V3 H0 (M0 wf) ?_;refine N3 ?_;simp[go_sem,hP,G0,hn,M6,m4] <;> (try omega);all_goals exact f9
theorem zF0(h:FDn Γ f)(M7:f.nb=true):cU 291 [f.dv] (clD f.cls):=by
 induction h with
 | @eq Γ s t F G h1 h2=>
  rw[show (I3 s t).cls=(0,6) from rfl,sW];exact B2 j60 H0 H0
 | @two Γ k a b hk h1 h2 i1 i2=>
  obtain⟨-,n1,n2⟩:=Fm.nb_two hk M7;have n1:=(Fm.nb_fr n1).1;have n2:=(Fm.nb_fr n2).1;have l1:=cX a;have l2:=cX b;have wa:=i1 n1;have wb:=i2 n2;obtain⟨a1,a2⟩:=RF h1;obtain⟨b1,b2⟩:=RF h2;have e:(U5 k a b).cls=if k=2 then (max a.cls.1 b.cls.1,min a.cls.2 b.cls.2) else (b.cls.1,min a.cls.2 b.cls.2):=by rcases hk with rfl|rfl <;> rfl
  rw[e,wU];generalize a.cls=p at *;generalize b.cls=q at *;obtain⟨p1,p2⟩:=p;obtain⟨q1,q2⟩:=q;simp only at a1 a2 b1 b2 wa wb;clear e i1 i2 M7;generalize a.v6=ca at *;generalize b.v6=cb at *;rcases hk with rfl|rfl
  all_goals
   refine H2 j60 ?_;intro X hP G0 hf X0 hn hR K1 G1;refine V3 H0 (P3 wb wa) ?_;refine Q1 ?_;first|refine xD hP hf X0 hR ?_|refine xE hP hf X0 hR ?_
   simp[go_sem,hP,G0,hn] <;> (try omega);subst a1 b1;rcases a2 with rfl|rfl <;> rcases b2 with rfl|rfl <;> cases ca <;> cases cb <;> rfl
 | @q Γ k s f hk hs h i=>
  obtain⟨n1,-⟩:=Fm.nb_q hk M7;have l1:=cX f;have w:=i n1;have wb:=wH0 hk M7;obtain⟨b1,b2⟩:=RF h;have e:(qF k s.ty f).cls=if k=5 then (1,0) else (f.cls.1,0):=by rcases hk with rfl|rfl|rfl|rfl <;> rfl
  rw[dL]at wb;rw[e,dL];generalize f.cls=q at *;obtain⟨q1,q2⟩:=q;simp only at b1 b2 w;clear e i M7;generalize f.v6=ca at *;rcases hk with rfl|rfl|rfl|rfl
  all_goals
   refine H2 j60 ?_;intro X hP G0 hf X0 hn hR K1 G1;refine V3 H0 (P3 w wb) ?_;refine Q1 ?_;first|refine xD hP hf X0 hR ?_|refine xE hP hf X0 hR ?_
   simp[go_sem,hP,G0,hn] <;> (try omega);subst b1;rcases b2 with rfl|rfl <;> cases ca <;> rfl
theorem LI(K3:D6 gl 2=some A7)(h:FDn Γ f)(M7:f.nb=true)(hc:f.A0<=1000000):cU 130 [f.dv] (.H1 [O2 (decide (f.chk=0)&&f.v6),j0 f.chk]):=by
 have w1:=CH K3 h hc;have w2:=zF0 h M7;obtain⟨a1,a2⟩:=RF h;have w:cU 221 [f.dv,.K0 (.int .u8 1)] (.H1 [O2 (decide (f.chk=0)&&f.v6),j0 f.chk]):=by
  generalize f.cls=p at *;obtain⟨p1,p2⟩:=p;generalize f.v6=c at *;generalize f.chk=e at *;refine H2 Tryz.func221 ?_;intro X hP G0 hf X0 hn hR K1 G1;refine E4 (bx [1000002]) tT ?_;by_cases q1:e=0
  ·refine N1 @q1 (P3 w1 w2) ?_;refine Q1 ?_;first|refine xD hP hf X0 hR ?_|refine xE hP hf X0 hR ?_
   simp[go_sem,hP,G0,hn,q1] <;> (try omega);simp only at a1 a2;subst a1;rcases a2 with rfl|rfl <;> cases c <;> rfl
  ·exact O1 @q1 (M0 w1)
 refine H2 Tryz.func130 ?_;intro X hP G0 hf X0 hn hR K1 G1;refine E4 (bx [1000001]) tT ?_;exact O1 H0 (M0 w)
end
section
theorem tyw(k:CK Γ hs v h){F:Q0 Γ->a.V}(ht:Dn Γ t a F)(hc:t.A0<=1000000):
  ∃(y:Ty) (e:Int),s6 e/\(e=0->y=a.ty/\t.A0<=4096/\t.typeE (gT Γ)=(a.ty,0))/\cU 161 [.sl ((gT Γ).map P1),t.dv] (.H1 [y.dv,j0 e]):=by
 have w:=UM t (gT Γ) (fun x hx=>by have:=(Dc k.2.2.1 x hx).2;omega) (gV t (Z5 ht)) oO;refine⟨_,_,?_,fun h0=>?_,w⟩
 ·rcases Mx k ht with⟨h1,h2⟩|h1;· rw[h1];exact .inl rfl
  ·rw[h1];exact .inr (.inr (.inl rfl))
 ·rcases Mx k ht with⟨h1,h2⟩|h1;· exact⟨by rw[h1],h2,h1⟩
  ·rw[h1]at h0;simp at h0
theorem e90(k:CK Γ hs 0 0){F:Q0 Γ->s.V}(ht:Dn Γ t s F)(ct:t.A0<=1000000){a:Pf}(yI:na<=900000)(ha:fO Γ hs a (qF 4 s.ty fa) ea na):
  ∃e,(e=0->ea=0)/\(s6 ea->s6 e)/\tK Γ hs (jW t a) (fa.Y1 0 0 t) e (na+t.A0):=by
 obtain⟨f',u,a1,a2,wa⟩:=ha;obtain⟨y,e1,r1,r2,w1⟩:=tyw k ht ct;have l1:=fW a;have l2:=mM t;have hg:t.idx 1099511627776:=sF t _ (Z5 ht) (gW ht _ (by have:=k.1;omega));by_cases q1:e1=0;rotate_left
 ·refine⟨e1,fun h=>absurd h q1,fun _=>r1,m4,[],aH _,fun h=>absurd h q1,?_⟩;have w:cU 264 [I9 (gT Γ) hs,(jW t a).dv] (.H1 [m4.dv,.sl (P2 []),j0 e1]):=by
   rw[Eo,jR];exact B2 j70 (j2 @q1 @c7) (M0 w1)
  rw[Eo,jR]at w ⊢;exact B2 iL @c7 (M0 w)
 obtain⟨rfl,OJ,Pg⟩:=r2 q1;by_cases q2:ea=0;rotate_left
 ·refine⟨ea,fun h=>h,fun h=>h,m4,[],aH _,fun h=>absurd h q2,?_⟩;have w:cU 264 [I9 (gT Γ) hs,(jW t a).dv] (.H1 [m4.dv,.sl (P2 []),j0 ea]):=by
   rw[Eo,jR];exact B2 j70 (j3 @q1 @q2 @c7) (P3 w1 wa)
  rw[Eo,jR]at w ⊢;exact B2 iL @c7 (M0 w)
 obtain⟨rfl,a3,a4,a5⟩:=a2 q2;have hd:=nB a3;have hc:(qF 4 s.ty fa).A0=1+0+(fa.A0+0):=rfl;have wp:=My hd.2 ht (by have:=k.1;omega) oO ct;have wf:=Sd t (Z5 ht) OJ hg;have wu:=Em u (eP t) (by have:=Bn t;omega);have hl:=Bk u (eP t);have fU:=Bn t;have ws:=gU s.ty s.ty;rw[(y9 s.ty s.ty).2 rfl]at ws;have lfa:=cX fa;have wa:cU 106 [I9 (gT Γ) hs,a.dv] (.H1 [.agg [j0 4,j0 s.ty.o0,.sl (s.ty.B0.map P1),.sl [],.sl [fa.E0],.sl (P2 u)],j0 ea]):=by
  have:Kp (qF 4 s.ty fa) u = .agg [j0 4,j0 s.ty.o0,.sl (s.ty.B0.map P1),.sl [],.sl [fa.E0],.sl (P2 u)]:=rfl;rw[this]at wa;exact wa
 refine⟨I6 fa t,fun _=>q2,fun _=>Ms ht,if I6 fa t=0 then fa.Y1 0 0 t else m4,gX u (eP t),oO,fun h=>⟨by rw[if_pos h],wT ht hd.2,by have:=(IY hd.2 h).1;omega,.alle k ht OJ Pg a5 h⟩,?_⟩;generalize (if I6 fa t=0 then fa.Y1 0 0 t else m4)=v at *;generalize I6 fa t=pe at *;generalize gX u (eP t)=uu at *;have w:cU 264 [I9 (gT Γ) hs,(jW t a).dv] (.H1 [v.dv,.sl (P2 uu),j0 pe]):=by
  rw[Eo];exact B2 j70 (j3 @q1 @q2 @c7) (nD w1 wa wf wu ws wp)
 rw[Eo]at w ⊢;exact B2 iL @c7 (M0 w)
theorem CL(k:CK Γ hs 0 0)(hf:FDn Γ (qF 5 s.ty f))(cf:f.A0<=900000){F:Q0 Γ->s.V}(ht:Dn Γ t s F)(ct:t.A0<=1000000){a:Pf}(yI:na<=900000)(ha:fO Γ hs a fa ea na)(gK:fa.fr=true:=by rfl):
  ∃e,(e=0->ea=0/\(qF 5 s.ty f).chk=0/\(qF 5 s.ty f).typedN (gT Γ)=0)/\(s6 ea->fa=f.Y1 0 0 t->s6 e)/\tK Γ hs (d9 (qF 5 s.ty f) t a) (qF 5 s.ty f) e (na+t.A0):=by
 have hd:=nB hf;obtain⟨y,e1,r1,r2,w1⟩:=tyw k ht ct;obtain⟨e2,u,p1,p2,p3,wp⟩:=Ja k ha hd.2 oO ht ct;have hc:(qF 5 s.ty f).A0=1+0+(f.A0+0):=rfl;have wt:=dX0 hf (gT Γ) (Dc k.2.2.1) (by have:=k.1;simp only[gB];omega) (by have:=k.1;omega);rw[show S5 (gD (gT Γ)) (S5 (qF 5 s.ty f).chk ((qF 5 s.ty f).typedN (gT Γ)))=S5 (qF 5 s.ty f).chk ((qF 5 s.ty f).typedN (gT Γ)) by unfold S5;rw[if_pos k.ctx]]at wt;have I1:s6 (S5 (qF 5 s.ty f).chk ((qF 5 s.ty f).typedN (gT Γ))):=tD (Bw _) (Rj hf);have hz:S5 (qF 5 s.ty f).chk ((qF 5 s.ty f).typedN (gT Γ))=0->(qF 5 s.ty f).chk=0/\(qF 5 s.ty f).typedN (gT Γ)=0:=aW;generalize S5 (qF 5 s.ty f).chk ((qF 5 s.ty f).typedN (gT Γ))=e0 at *;have l1:=Pf.length_cells a;have l2:=Tm.length_cells t;have l3:=Fm.length_cells f;have kF:(qF 5 s.ty f).E0=[j0 5,j0 s.ty.o0,.sl (s.ty.B0.map Ty.E0),.sl [],.sl [f.E0]]:=by rw[Fm.cells_eq];rfl
 have hg:t.idx 1099511627776:=Tm.idx_of t _ (Z5 ht) (gW ht _ (by have:=k.1;omega));rw[dL]at wt;by_cases q0:e0=0;rotate_left
 ·refine⟨e0,fun h=>absurd h q0,fun _ _=>I1,m4,[],Nat.zero_le _,fun h=>absurd h q0,?_⟩;have w:cU 265 [I9 (gT Γ) hs,(d9 (qF 5 s.ty f) t a).dv] (.H1 [m4.dv,.sl (P2 []),j0 e0]):=by
   rw[CI,jR,kF];exact B2 Tryz.func265 (j2 @q0 @c7) (M0 wt)
  rw[CI,jR]at w ⊢;exact B2 Tryz.func186 @c7 (M0 w)
 by_cases q1:e1=0;rotate_left
 ·refine⟨e1,fun h=>absurd h q1,fun _ _=>r1,m4,[],Nat.zero_le _,fun h=>absurd h q1,?_⟩;have w:cU 265 [I9 (gT Γ) hs,(d9 (qF 5 s.ty f) t a).dv] (.H1 [m4.dv,.sl (P2 []),j0 e1]):=by
   rw[CI,jR,kF];exact B2 Tryz.func265 (j3 @q0 @q1 @c7) (P3 wt w1)
  rw[CI,jR]at w ⊢;exact B2 Tryz.func186 @c7 (M0 w)
 obtain⟨rfl,OJ,Pg⟩:=r2 q1;have ws:=gU s.ty s.ty;rw[(Ty.same_iff s.ty s.ty).2 rfl]at ws;have wf:=Sd t (Z5 ht) OJ hg;have wu:=Em u (eP t) (by have:=Bn t;omega);have hl:=Bk u (eP t);have fU:=Bn t;refine⟨e2,fun h=>⟨(p2 h).1,hz q0⟩,p3,qF 5 s.ty f,gX u (eP t),oO,fun h=>⟨rfl,hf,oO,.exi k hf (hz q0).1 (hz q0).2 ht OJ Pg (p2 h).2.2.2 (p2 h).2.1 (p2 h).2.2.1 gK⟩,?_⟩;generalize gX u (eP t)=uu at *;have w:cU 265 [I9 (gT Γ) hs,(d9 (qF 5 s.ty f) t a).dv] (.H1 [(qF 5 s.ty f).dv,.sl (P2 uu),j0 e2]):=by
  rw[CI,dL,kF];exact B2 Tryz.func265 (j3 @q0 @q1 @c7) (nD wt w1 ws wp wf wu)
 rw[CI,dL]at w ⊢;exact B2 Tryz.func186 @c7 (M0 w)
theorem fJ0(t:Tm):∀p:Int,0<=p->(t.V0 p 1).R2 p=0/\(t.V0 p 1).V0 (p+1) (-1)=t:=by
 induction t using m7 with
 | h t ih=>
 intro p hp;have hb:=lT t.o0;have e1:∀l:List Tm,(∀a∈l,a∈t.B0)->t8.B5 (l.map fun x=>x.V0 (p+W2 t.o0) 1) (p+W2 t.o0)=0:=by
  intro l
  induction l with
  | nil=>intro _;rfl
  | cons a r l6=>
   intro h;have h1:=(ih a (h a sS) (p+W2 t.o0) oO).1;have h2:=l6 fun b hb=>h b (by simp[hb]);simp only[G4,t8.B5,h1,h2];try rfl
 have e2:(t.B0.map fun x=>(x.V0 (p+W2 t.o0) 1).V0 (p+1+W2 t.o0) (-1))=t.B0:=by
  conv=>rhs;rw[<- yW t.B0]
  refine kW fun x hx=>?_;rw[show p+1+W2 t.o0=p+W2 t.o0+1 from oO];exact (ih x hx _ oO).2
 constructor
 ·rw[cL,Tm.timesN_eq,Z9,fE,M8,e1 _ fun _ h=>h];by_cases h1:t.o0=1
  ·by_cases h2:p<=t.O0
   ·have e5:(if t.o0=1/\p<=t.O0 then t.O0+1 else t.O0)=t.O0+1:=if_pos ⟨h1,h2⟩;rw[e5,if_neg fun h=>by have:=h.2;omega];try rfl
   ·have e5:(if t.o0=1/\p<=t.O0 then t.O0+1 else t.O0)=t.O0:=if_neg fun h=>h2 h.2;rw[e5,if_neg fun h=>by have:=h.2;omega];try rfl
  ·rw[if_neg fun h=>h1 h.1];try rfl
 ·rw[cL (t.V0 p 1),cL t,Z9,fE,kL,M8,wI];have e3:((fun x:Tm=>x.V0 (p+1+W2 t.o0) (-1)) ∘ fun x:Tm=>x.V0 (p+W2 t.o0) 1)=fun x:Tm=>(x.V0 (p+W2 t.o0) 1).V0 (p+1+W2 t.o0) (-1):=rfl;rw[e3,e2];have e4:(if t.o0=1/\p+1<=(if t.o0=1/\p<=t.O0 then t.O0+1 else t.O0) then (if t.o0=1/\p<=t.O0 then t.O0+1 else t.O0)+-1 else (if t.o0=1/\p<=t.O0 then t.O0+1 else t.O0))=t.O0:=by
   by_cases h1:t.o0=1
   ·by_cases h2:p<=t.O0;· simp only[h1,h2,and_self,true_and,if_true];rw[if_pos oO];omega
    ·simp only[h1,h2,and_false,true_and,if_false];rw[if_neg oO]
   ·simp[h1]
  rw[e4];exact Cn t
theorem Xc(t:Fm):∀p:Int,0<=p->(t.V0 p 1).R2 p=0/\(t.V0 p 1).V0 (p+1) (-1)=t:=by
 induction t using aU with
 | h t ih=>
 intro p hp;have hb:=rA t.o0;have e0:∀l:List Tm,t8.B5 (l.map fun x=>x.V0 p 1) p=0:=by
  intro l
  induction l with
  | nil=>rfl
  | cons a r l6=>
   have h1:=(fJ0 a p hp).1;simp only[G4,t8.B5,h1,l6];try rfl
 have e1:∀l:List Fm,(∀a∈l,a∈t.B0)->wJ.B5 (l.map fun x=>x.V0 (p+H3 t.o0) 1) (p+H3 t.o0)=0:=by
  intro l
  induction l with
  | nil=>intro _;rfl
  | cons a r l6=>
   intro h;have h1:=(ih a (h a sS) (p+H3 t.o0) oO).1;have h2:=l6 fun b hb=>h b (by simp[hb]);simp only[G4,wJ.B5,h1,h2];try rfl
 have e2:(t.B0.map fun x=>(x.V0 (p+H3 t.o0) 1).V0 (p+1+H3 t.o0) (-1))=t.B0:=by
  conv=>rhs;rw[<- yW t.B0]
  refine kW fun x hx=>?_;rw[show p+1+H3 t.o0=p+H3 t.o0+1 from oO];exact (ih x hx _ oO).2
 have e3:(t.M1.map fun x=>(x.V0 p 1).V0 (p+1) (-1))=t.M1:=by
  conv=>rhs;rw[<- yW t.M1]
  exact kW fun x hx=>(fJ0 x p hp).2
 constructor;· rw[tY,Fm.timesN_eq,Ik,FN,FO,e0,e1 _ fun _ h=>h]
 ·rw[tY (t.V0 p 1),tY t,Ik,Le,FN,FO,wI,wI];have e4:((fun x:Fm=>x.V0 (p+1+H3 t.o0) (-1)) ∘ fun x:Fm=>x.V0 (p+H3 t.o0) 1)=fun x:Fm=>(x.V0 (p+H3 t.o0) 1).V0 (p+1+H3 t.o0) (-1):=rfl;have e5:((fun x:Tm=>x.V0 (p+1) (-1)) ∘ fun x:Tm=>x.V0 p 1)=fun x:Tm=>(x.V0 p 1).V0 (p+1) (-1):=rfl;rw[e4,e2,e5,e3];exact Fm.eta t
theorem JB(k:CK Γ hs 1 1){a b:Pf}{fo:Fm}{eb:Int}{nb:Nat}(hn:na+nb<=1000000)(ha:fO Γ hs a (qF 5 s.ty fa) ea na)
  (hb:ea=0->fO (s::Γ) (Q5 hs 1++[fa]) b (fo.V0 0 1) eb nb) (aG:FDn Γ fo):tK Γ hs (dP a b) fo (S5 ea eb) (na+nb):=by
 obtain⟨f',u,a1,a2,wa⟩:=ha;have l1:=fW a;have l2:=fW b;by_cases q1:ea=0;rotate_left
 ·rw[show S5 ea eb=ea by unfold S5;rw[if_neg q1]];refine⟨m4,[],aH _,fun h=>absurd h q1,?_⟩;have w:cU 266 [I9 (gT Γ) hs,(dP a b).dv] (.H1 [m4.dv,.sl (P2 []),j0 ea]):=by
   rw[Eu,jR];exact B2 j90 (j2 @q1 @c7) (M0 wa)
  rw[Eu,jR]at w ⊢;exact B2 iL @c7 (M0 w)
 rw[show S5 ea eb=eb by unfold S5;rw[if_pos q1]];obtain⟨rfl,a3,a4,a5⟩:=a2 q1;have hd:=nB a3;have hc:(qF 5 s.ty fa).A0=1+0+(fa.A0+0):=rfl;obtain⟨g',v,b1,b2,wb⟩:=hb q1;have wa:cU 106 [I9 (gT Γ) hs,a.dv] (.H1 [.agg [j0 5,j0 s.ty.o0,.sl (s.ty.B0.map P1),.sl [],.sl [fa.E0],.sl (P2 u)],j0 ea]):=by
  have:Kp (qF 5 s.ty fa) u = .agg [j0 5,j0 s.ty.o0,.sl (s.ty.B0.map P1),.sl [],.sl [fa.E0],.sl (P2 u)]:=rfl;rw[this]at wa;exact wa
 have wr:=Rf (gT Γ) hs 1 1 (by have:=k.1;simp only[gB];omega) (by have:=k.2.1;omega);have yC:=QE [s.ty] (gT Γ) hs (fun f hf=>⟨lU (k.2.2.2 f hf).1 _ (by have:=k.1;have:=(k.2.2.2 f hf).2;omega),(k.2.2.2 f hf).2⟩) sS (by have:=k.1;simp only[gB];omega) (by have:=k.2.1;omega);have yC:cU 328 [I9 (gT Γ) hs,.sl [s.ty.E0]] (I9 (gT Γ++[s.ty]) (Q5 hs 1)):=yC;have ww:=Ww (gT Γ++[s.ty]) (Q5 hs 1) fa (by have:=k.2.1;simp;omega);rw[sO]at wb;have lfa:=cX fa;have okE:eb=0->Ok false Γ hs (dP a b) fo:=fun h=>.exe k a5 (b2 h).2.2.2 aG;generalize vQ:gT Γ++[s.ty]=g2 at *;generalize KJ:Q5 hs 1++[fa]=mF at *;generalize Q5 hs 1=W9 at *;by_cases q2:eb=0;rotate_left
 ·refine⟨m4,[],aH _,fun h=>absurd h q2,?_⟩;have w:cU 266 [I9 (gT Γ) hs,(dP a b).dv] (.H1 [m4.dv,.sl (P2 []),j0 eb]):=by
   rw[Eu,jR];exact B2 j90 (j3 @q1 @q2 @c7) (T9 wa wr yC ww wb)
  rw[Eu,jR]at w ⊢;exact B2 iL @c7 (M0 w)
 obtain⟨rfl,b3,b4,b5⟩:=b2 q2;have hud:=Xc fo 0 dD;have hoc:=Bm fo 0 1;have wh:=ze0 (fo.V0 0 1) 0 oO dD oO;rw[hud.1]at wh;have wh:cU 335 [(fo.V0 0 1).dv,j0 0] (O2 false):=wh;have Kt:=MS (fo.V0 0 1) 1 (-1) (lU b3 _ (by have:=k.1;simp only[B4];omega)) dD dD dD oO;have h9:(fo.V0 0 1).V0 1 (-1)=fo:=hud.2;rw[h9]at Kt;have wo:=QF v 1 oO;have ho:=Gr v 1;have wu:=Em u (eQ v 1) oO;have hu:=Bk u (eQ v 1);refine⟨fo,gX u (eQ v 1),oO,fun _=>⟨rfl,aG,oO,okE q2⟩,?_⟩;generalize fo.V0 0 1=f1 at *;generalize gX u (eQ v 1)=uu at *;generalize eQ v 1=ov at *;have w:cU 266 [I9 (gT Γ) hs,(dP a b).dv] (.H1 [fo.dv,.sl (P2 uu),j0 eb]):=by
  rw[Eu];exact B2 j90 (j3 @q1 @q2 @c7) (cC wa wr yC ww wb wh Kt wo (M0 wu))
 rw[Eu]at w ⊢;exact B2 iL @c7 (M0 w)
theorem fK0(k:CK Γ hs 1 1)(hf:FDn (.C0::Γ) f)(cf:f.A0<=4096){F:Q0 Γ->T.V .C0}(ht:Dn Γ t .C0 F)(ct:t.A0<=400000){a b:Pf}{fa fb:Fm}{ea eb:Int}{nb:Nat}(yI:na+nb<=400000)
  (ha:fO Γ hs a fa ea na) (hb:fO (.C0::Γ) (Q5 hs 1++[f]) b fb eb nb) (h5:f.o0=5:=by rfl) :
  ∃e,(e=0->ea=0/\eb=0/\f.typedN (gT (.C0::Γ))=0)/\(s6 ea->s6 eb->fa=f.Y1 0 0 (nT 4 [])->fb=(f.V0 1 1).Y1 0 0 (nT 5 [vT (0:Nat)])->s6 e)/\tK Γ hs (fN 16 f t a b) (f.Y1 0 0 t) e (na+nb+t.A0):=by
 have vQ:gT (.C0::Γ)=gT Γ++[T.ty .C0]:=by simp[gT]
 have k2:CK (.C0::Γ) (Q5 hs 1) 0 1:=(k.less dD (Nat.le_refl 1)).below (by show _<=64;decide);have AK:FDn (.C0::.C0::Γ) (f.V0 1 1):=CU (Γ:=Γ) (Ξ:=[.C0]) hf [.C0] rfl;have oQ:=Bm f 1 1;have C7:Dn (.C0::Γ) (nT 5 [vT (0:Nat)]) .C0 _:=.succ (.var .zero);obtain⟨e1,r1,r2,w1⟩:=VV k ht oO 1 rfl;obtain⟨e2,u2,p1,p2,p3,KC⟩:=Ja (k.less dD dD) ha hf oO (t:=(nT 4 [])) (F:=_) .zero dD;obtain⟨e3,u3,s1,s2,s3,NY⟩:=Ja ((k2.with (hf) (by exact cf)).less dD dD) hb AK oO (t:=(nT 5 [vT (0:Nat)])) C7 dD
 have w0:=QW hf (gT (.C0::Γ)) (Dc fun x hx=>by
  rcases List.mem_cons.1 hx with rfl|hx;· show _<=64;decide
  ·exact k.2.2.1 x hx) (by have:=k.1;simp only[gB,List.length_cons];omega) (by have:=k.1;simp only[List.length_cons];omega)
 have I1:s6 (S5 f.chk (f.typedN (gT (.C0::Γ)))):=tD (Bw _) (Rj hf);have hz:S5 f.chk (f.typedN (gT (.C0::Γ)))=0->f.chk=0/\f.typedN (gT (.C0::Γ))=0:=aW;have okI:S5 f.chk (f.typedN (gT (.C0::Γ)))=0->e1=0->e2=0->e3=0->I6 f t=0->Ok false Γ hs (fN 16 f t a b) (f.Y1 0 0 t):=fun h0 h1 h2 h3 h4=>.ind k hf (aW h0).1 (aW h0).2 ht (r2 h1).1 (r2 h1).2 (p2 h2).2.2.2 (p2 h2).2.1 (p2 h2).2.2.1 (s2 h3).2.2.2 (s2 h3).2.1 (s2 h3).2.2.1 h4 h5;generalize S5 f.chk (f.typedN (gT (.C0::Γ)))=e0 at *;have wp:=My hf ht (by have:=k.1;omega) oO oO;have K9:s6 (I6 f t):=Ms ht;have lL:I6 f t=0->(f.Y1 0 0 t).A0<=4096:=fun h=>(IY hf h).1;have ZT:FDn Γ (f.Y1 0 0 t):=wT ht hf;have wr:=Rf (gT Γ) hs 1 1 (by have:=k.1;simp only[gB];omega) (by have:=k.2.1;omega);have yC:=QE [T.ty .C0] (gT Γ) hs (fun f hf=>⟨lU (k.2.2.2 f hf).1 _ (by have:=k.1;have:=(k.2.2.2 f hf).2;omega),(k.2.2.2 f hf).2⟩) dD (by have:=k.1;simp only[gB];omega) (by have:=k.2.1;omega);have yC:cU 328 [I9 (gT Γ) hs,.sl [[j0 1,.sl []]]] (I9 (gT Γ++[T.ty .C0]) (Q5 hs 1)):=yC;have ww:=Ww (gT Γ++[T.ty .C0]) (Q5 hs 1) (f) (by have:=k.2.1;simp;omega);have Kt:=MS f 1 1 (lU hf _ (by have:=k.1;simp only[List.length_cons];omega)) dD dD dD oO;rw[vQ]at NY
 rw[sO,show (gT Γ++[T.ty .C0]).map Ty.E0=(gT Γ).map Ty.E0++[[j0 1,.sl []]] by rw[List.map_append];rfl]at w0;have HB:(gT Γ).length<=2147483647:=by have:=k.1;rw[gB];omega
 have wg:=Sd t (Z5 ht);have l1:=Pf.length_cells a;have l2:=Pf.length_cells b;have l3:=Fm.length_cells f;have l4:=Tm.length_cells t;have Ho:=dI 4 [];have Ho:cU 170 [j0 4,.sl []] ((nT 4 [])).dv:=Ho;have Hn:=dI 5 [vT (0:Nat)];have Hn:cU 170 [j0 5,.sl [[j0 1,j0 0,j0 0,.sl [],.sl []]]] ((nT 5 [vT (0:Nat)])).dv:=Hn;have aQ:t.idx 1099511627776:=Tm.idx_of t _ (Z5 ht) (gW ht _ (by have:=k.1;omega));have Zw:(gX (gX (eP t) u2) (eQ u3 1)).length<=na+nb+t.A0:=by
  have:=Bk (gX (eP t) u2) (eQ u3 1);have:=Bk (eP t) u2;have:=Bn t;have:=Gr u3 1;omega
 have OT:=Em (eP t) u2 (by have:=Bn t;omega);have OV:=Em (gX (eP t) u2) (eQ u3 1) (by have:=Bn t;have:=Bk (eP t) u2;have:=Gr u3 1;omega);have wo:=QF u3 1 oO;have hv:∀v,v=(if I6 f t=0 then f.Y1 0 0 t else m4)->I6 f t=0->v=f.Y1 0 0 t:=fun v h h0=>by rw[h,if_pos h0]
 generalize hvq:(if I6 f t=0 then f.Y1 0 0 t else m4)=v at *;have hv:=hv v rfl;generalize I6 f t=pe at *;generalize gX (gX (eP t) u2) (eQ u3 1)=uu at *
 obtain⟨V,U,E,hx⟩:∃(V:Fm) (U:List Int) (E:Int),(e0≠0/\V=m4/\U=[]/\E=e0)\/(e0=0/\((e1≠0/\V=m4/\U=[]/\E=e1)\/(e1=0/\((e2≠0/\V=m4/\U=[]/\E=e2)\/(e2=0/\((e3≠0/\V=m4/\U=[]/\E=e3)\/(e3=0/\V=v/\U=uu/\E=pe))))))):=by
  by_cases q0:e0=0
  ·by_cases q1:e1=0
   ·by_cases q2:e2=0
    ·by_cases q3:e3=0;· exact⟨v,uu,pe,.inr ⟨q0,.inr ⟨q1,.inr ⟨q2,.inr ⟨q3,rfl,rfl,rfl⟩⟩⟩⟩⟩
     ·exact⟨m4,[],e3,.inr ⟨q0,.inr ⟨q1,.inr ⟨q2,.inl ⟨q3,rfl,rfl,rfl⟩⟩⟩⟩⟩
    ·exact⟨m4,[],e2,.inr ⟨q0,.inr ⟨q1,.inl ⟨q2,rfl,rfl,rfl⟩⟩⟩⟩
   ·exact⟨m4,[],e1,.inr ⟨q0,.inl ⟨q1,rfl,rfl,rfl⟩⟩⟩
  ·exact⟨m4,[],e0,.inl ⟨q0,rfl,rfl,rfl⟩⟩
 have hE:E=0->e0=0/\e1=0/\e2=0/\e3=0/\pe=0/\V=v:=by
  intro h;rcases hx with⟨q,-,-,q'⟩|⟨q0,⟨q,-,-,q'⟩|⟨q1,⟨q,-,-,q'⟩|⟨q2,⟨q,-,-,q'⟩|⟨q3,q4,-,q'⟩⟩⟩⟩;· exact absurd (q'.symm.trans h) q
  ·exact absurd (q'.symm.trans h) q
  ·exact absurd (q'.symm.trans h) q
  ·exact absurd (q'.symm.trans h) q
  ·exact⟨q0,q1,q2,q3,q'.symm.trans h,q4⟩
 have hU:U.length<=na+nb+t.A0:=by
  rcases hx with⟨-,-,q,-⟩|⟨-,⟨-,-,q,-⟩|⟨-,⟨-,-,q,-⟩|⟨-,⟨-,-,q,-⟩|⟨-,-,q,-⟩⟩⟩⟩ <;> rw[q] <;> first|exact Nat.zero_le _|exact Zw
 refine⟨E,fun h=>⟨(p2 (hE h).2.2.1).1,(s2 (hE h).2.2.2.1).1,(hz (hE h).1).2⟩,fun g1 g2 g3 g4=>?_,V,U,hU,fun h=>?_,?_⟩
 ·rcases hx with⟨-,-,-,q⟩|⟨-,⟨-,-,-,q⟩|⟨-,⟨-,-,-,q⟩|⟨-,⟨-,-,-,q⟩|⟨-,-,-,q⟩⟩⟩⟩ <;> rw[q];· exact I1
  ·exact r1
  ·exact p3 g1 g3
  ·exact s3 g2 g4
  ·exact K9
 ·obtain⟨h0,h1,h2,h3,h4,h5⟩:=hE h;exact⟨h5.trans (hv h4),ZT,by have:=lL h4;omega,okI h0 h1 h2 h3 h4⟩
 have w:cU 267 [I9 (gT Γ) hs,(fN 16 f t a b).dv] (.H1 [V.dv,.sl (P2 U),j0 E]):=by
  rw[Jz];refine H2 Tryz.func267 ?_;intro X hP G0 hf X0 hn hR K1 G1;refine N1 (j2 @CB @Ty.length_cells) (P3 iM w0) ?_;rcases hx with⟨q0,rfl,rfl,rfl⟩|⟨q0,hx⟩
  ·refine U1 @q0 ?_;refine N3 ?_;simp[go_sem,hP,G0,hn,m4,c7] <;> (try omega);all_goals exact f9
  refine N1 @q0 (M0 w1) ?_;rcases hx with⟨q1,rfl,rfl,rfl⟩|⟨q1,hx⟩
  ·refine U1 @q1 ?_;refine N3 ?_;simp[go_sem,hP,G0,hn,m4,c7] <;> (try omega);all_goals exact f9
  have wf:=wg (r2 q1).1 aQ;refine N1 @q1 (P3 Ho KC) ?_;rcases hx with⟨q2,rfl,rfl,rfl⟩|⟨q2,hx⟩
  ·refine U1 @q2 ?_;refine N3 ?_;simp[go_sem,hP,G0,hn,m4,c7] <;> (try omega);all_goals exact f9
  refine N1 @q2 (Te wr iM yC ww Kt (Ed 0) Hn NY) ?_;rcases hx with⟨q3,rfl,rfl,rfl⟩|⟨q3,rfl,rfl,rfl⟩
  ·refine U1 @q3 ?_;refine N3 ?_;simp[go_sem,hP,G0,hn,m4,c7] <;> (try omega);all_goals exact f9
  exact O1 (j2 @q3 @c7) (T9 wp wf OT wo OV)
 rw[Jz]at w ⊢;exact B2 Tryz.func186 @c7 (M0 w)
theorem r70(k:CK Γ hs 2 1)(hf:FDn (.list::Γ) f)(cf:f.A0<=4096){F:Q0 Γ->T.V .list}(ht:Dn Γ t .list F)(ct:t.A0<=400000){a b:Pf}{fa fb:Fm}{ea eb:Int}{nb:Nat}(yI:na+nb<=400000)
  (ha:fO Γ hs a fa ea na) (hb:fO (.list::.C0::Γ) (Q5 hs 2++[f.V0 1 1]) b fb eb nb) (h5:f.o0=5:=by rfl) :
  ∃e,(e=0->ea=0/\eb=0/\f.typedN (gT (.list::Γ))=0)/\(s6 ea->s6 eb->fa=f.Y1 0 0 (nT 7 [])->fb=(f.V0 1 2).Y1 0 0 (nT 8 [vT (1:Nat),vT (0:Nat)])->s6 e)/\tK Γ hs (fN 17 f t a b) (f.Y1 0 0 t) e (na+nb+t.A0):=by
 have vQ:gT (.list::.C0::Γ)=gT Γ++[T.ty .C0,T.ty .list]:=by simp[gT]
 have k2:CK (.list::.C0::Γ) (Q5 hs 2) 0 1:=(k.less (Nat.le_refl 2) (Nat.le_refl 1)).below2 (by show _<=64;decide) (by show _<=64;decide);have AK:FDn (.list::.list::.C0::Γ) (f.V0 1 2):=CU (Γ:=Γ) (Ξ:=[.list,.C0]) hf [.list] rfl;have oQ:=Bm f 1 2;have C7:Dn (.list::.C0::Γ) (nT 8 [vT (1:Nat),vT (0:Nat)]) .list _:=.cons (.var (.succ .zero)) (.var .zero);obtain⟨e1,r1,r2,w1⟩:=VV k ht oO 2 rfl;obtain⟨e2,u2,p1,p2,p3,KC⟩:=Ja (k.less dD dD) ha hf oO (t:=(nT 7 [])) (F:=_) .nil dD;obtain⟨e3,u3,s1,s2,s3,NY⟩:=Ja ((k2.with (CU (Γ:=Γ) (Ξ:=[.C0]) hf [.list] rfl) (by rw[Bm];exact cf)).less dD dD) hb AK oO (t:=(nT 8 [vT (1:Nat),vT (0:Nat)])) C7 dD
 have w0:=QW hf (gT (.list::Γ)) (Dc fun x hx=>by
  rcases List.mem_cons.1 hx with rfl|hx;· show _<=64;decide
  ·exact k.2.2.1 x hx) (by have:=k.1;simp only[gB,List.length_cons];omega) (by have:=k.1;simp only[List.length_cons];omega)
 have I1:s6 (S5 f.chk (f.typedN (gT (.list::Γ)))):=tD (Bw _) (Rj hf);have hz:S5 f.chk (f.typedN (gT (.list::Γ)))=0->f.chk=0/\f.typedN (gT (.list::Γ))=0:=aW;have okI:S5 f.chk (f.typedN (gT (.list::Γ)))=0->e1=0->e2=0->e3=0->I6 f t=0->Ok false Γ hs (fN 17 f t a b) (f.Y1 0 0 t):=fun h0 h1 h2 h3 h4=>.lists k hf (aW h0).1 (aW h0).2 ht (r2 h1).1 (r2 h1).2 (p2 h2).2.2.2 (p2 h2).2.1 (p2 h2).2.2.1 (s2 h3).2.2.2 (s2 h3).2.1 (s2 h3).2.2.1 h4 h5;generalize S5 f.chk (f.typedN (gT (.list::Γ)))=e0 at *;have wp:=My hf ht (by have:=k.1;omega) oO oO;have K9:s6 (I6 f t):=Ms ht;have lL:I6 f t=0->(f.Y1 0 0 t).A0<=4096:=fun h=>(IY hf h).1;have ZT:FDn Γ (f.Y1 0 0 t):=wT ht hf;have wr:=Rf (gT Γ) hs 2 1 (by have:=k.1;simp only[gB];omega) (by have:=k.2.1;omega);have yC:=QE [T.ty .C0,T.ty .list] (gT Γ) hs (fun f hf=>⟨lU (k.2.2.2 f hf).1 _ (by have:=k.1;have:=(k.2.2.2 f hf).2;omega),(k.2.2.2 f hf).2⟩) dD (by have:=k.1;simp only[gB];omega) (by have:=k.2.1;omega);have yC:cU 328 [I9 (gT Γ) hs,.sl [[j0 1,.sl []],[j0 2,.sl []]]] (I9 (gT Γ++[T.ty .C0,T.ty .list]) (Q5 hs 2)):=yC;have ww:=Ww (gT Γ++[T.ty .C0,T.ty .list]) (Q5 hs 2) (f.V0 1 1) (by have:=k.2.1;simp;omega)
 have Kt:=MS f 1 2 (lU hf _ (by have:=k.1;simp only[List.length_cons];omega)) dD dD dD oO;have FA0:=MS f 1 1 (lU hf _ (by have:=k.1;simp only[List.length_cons];omega)) dD dD dD oO;rw[vQ]at NY;rw[sO,show (gT Γ++[T.ty .list]).map Ty.E0=(gT Γ).map Ty.E0++[[j0 2,.sl []]] by rw[List.map_append];rfl]at w0;have HB:(gT Γ).length<=2147483647:=by have:=k.1;rw[gB];omega
 have wg:=Sd t (Z5 ht);have l1:=Pf.length_cells a;have l2:=Pf.length_cells b;have l3:=Fm.length_cells f;have l4:=Tm.length_cells t;have Ho:=dI 7 [];have Ho:cU 170 [j0 7,.sl []] ((nT 7 [])).dv:=Ho;have Hn:=dI 8 [vT (1:Nat),vT (0:Nat)];have Hn:cU 170 [j0 8,.sl [[j0 1,j0 1,j0 0,.sl [],.sl []],[j0 1,j0 0,j0 0,.sl [],.sl []]]] ((nT 8 [vT (1:Nat),vT (0:Nat)])).dv:=Hn;have aQ:t.idx 1099511627776:=Tm.idx_of t _ (Z5 ht) (gW ht _ (by have:=k.1;omega));have Zw:(gX (gX (eP t) u2) (eQ u3 2)).length<=na+nb+t.A0:=by
  have:=Bk (gX (eP t) u2) (eQ u3 2);have:=Bk (eP t) u2;have:=Bn t;have:=Gr u3 2;omega
 have OT:=Em (eP t) u2 (by have:=Bn t;omega);have OV:=Em (gX (eP t) u2) (eQ u3 2) (by have:=Bn t;have:=Bk (eP t) u2;have:=Gr u3 2;omega);have wo:=QF u3 2 oO;have hv:∀v,v=(if I6 f t=0 then f.Y1 0 0 t else m4)->I6 f t=0->v=f.Y1 0 0 t:=fun v h h0=>by rw[h,if_pos h0]
 generalize hvq:(if I6 f t=0 then f.Y1 0 0 t else m4)=v at *;have hv:=hv v rfl;generalize I6 f t=pe at *;generalize gX (gX (eP t) u2) (eQ u3 2)=uu at *
 obtain⟨V,U,E,hx⟩:∃(V:Fm) (U:List Int) (E:Int),(e0≠0/\V=m4/\U=[]/\E=e0)\/(e0=0/\((e1≠0/\V=m4/\U=[]/\E=e1)\/(e1=0/\((e2≠0/\V=m4/\U=[]/\E=e2)\/(e2=0/\((e3≠0/\V=m4/\U=[]/\E=e3)\/(e3=0/\V=v/\U=uu/\E=pe))))))):=by
  by_cases q0:e0=0
  ·by_cases q1:e1=0
   ·by_cases q2:e2=0
    ·by_cases q3:e3=0;· exact⟨v,uu,pe,.inr ⟨q0,.inr ⟨q1,.inr ⟨q2,.inr ⟨q3,rfl,rfl,rfl⟩⟩⟩⟩⟩
     ·exact⟨m4,[],e3,.inr ⟨q0,.inr ⟨q1,.inr ⟨q2,.inl ⟨q3,rfl,rfl,rfl⟩⟩⟩⟩⟩
    ·exact⟨m4,[],e2,.inr ⟨q0,.inr ⟨q1,.inl ⟨q2,rfl,rfl,rfl⟩⟩⟩⟩
   ·exact⟨m4,[],e1,.inr ⟨q0,.inl ⟨q1,rfl,rfl,rfl⟩⟩⟩
  ·exact⟨m4,[],e0,.inl ⟨q0,rfl,rfl,rfl⟩⟩
 have hE:E=0->e0=0/\e1=0/\e2=0/\e3=0/\pe=0/\V=v:=by
  intro h;rcases hx with⟨q,-,-,q'⟩|⟨q0,⟨q,-,-,q'⟩|⟨q1,⟨q,-,-,q'⟩|⟨q2,⟨q,-,-,q'⟩|⟨q3,q4,-,q'⟩⟩⟩⟩;· exact absurd (q'.symm.trans h) q
  ·exact absurd (q'.symm.trans h) q
  ·exact absurd (q'.symm.trans h) q
  ·exact absurd (q'.symm.trans h) q
  ·exact⟨q0,q1,q2,q3,q'.symm.trans h,q4⟩
 have hU:U.length<=na+nb+t.A0:=by
  rcases hx with⟨-,-,q,-⟩|⟨-,⟨-,-,q,-⟩|⟨-,⟨-,-,q,-⟩|⟨-,⟨-,-,q,-⟩|⟨-,-,q,-⟩⟩⟩⟩ <;> rw[q] <;> first|exact Nat.zero_le _|exact Zw
 refine⟨E,fun h=>⟨(p2 (hE h).2.2.1).1,(s2 (hE h).2.2.2.1).1,(hz (hE h).1).2⟩,fun g1 g2 g3 g4=>?_,V,U,hU,fun h=>?_,?_⟩
 ·rcases hx with⟨-,-,-,q⟩|⟨-,⟨-,-,-,q⟩|⟨-,⟨-,-,-,q⟩|⟨-,⟨-,-,-,q⟩|⟨-,-,-,q⟩⟩⟩⟩ <;> rw[q];· exact I1
  ·exact r1
  ·exact p3 g1 g3
  ·exact s3 g2 g4
  ·exact K9
 ·obtain⟨h0,h1,h2,h3,h4,h5⟩:=hE h;exact⟨h5.trans (hv h4),ZT,by have:=lL h4;omega,okI h0 h1 h2 h3 h4⟩
 have w:cU 268 [I9 (gT Γ) hs,(fN 17 f t a b).dv] (.H1 [V.dv,.sl (P2 U),j0 E]):=by
  rw[Jz];refine H2 Tryz.func268 ?_;intro X hP G0 hf X0 hn hR K1 G1;refine N1 (j2 @CB @Ty.length_cells) (P3 Eb w0) ?_;rcases hx with⟨q0,rfl,rfl,rfl⟩|⟨q0,hx⟩
  ·refine U1 @q0 ?_;refine N3 ?_;simp[go_sem,hP,G0,hn,m4,c7] <;> (try omega);all_goals exact f9
  refine N1 @q0 (M0 w1) ?_;rcases hx with⟨q1,rfl,rfl,rfl⟩|⟨q1,hx⟩
  ·refine U1 @q1 ?_;refine N3 ?_;simp[go_sem,hP,G0,hn,m4,c7] <;> (try omega);all_goals exact f9
  have wf:=wg (r2 q1).1 aQ;refine N1 @q1 (P3 Ho KC) ?_;rcases hx with⟨q2,rfl,rfl,rfl⟩|⟨q2,hx⟩
  ·refine U1 @q2 ?_;refine N3 ?_;simp[go_sem,hP,G0,hn,m4,c7] <;> (try omega);all_goals exact f9
  refine N1 @q2 (cC wr iM Eb yC FA0 ww Kt (Ed 1) (E8 ((Ed 0)) Hn NY)) ?_;rcases hx with⟨q3,rfl,rfl,rfl⟩|⟨q3,rfl,rfl,rfl⟩
  ·refine U1 @q3 ?_;refine N3 ?_;simp[go_sem,hP,G0,hn,m4,c7] <;> (try omega);all_goals exact f9
  exact O1 (j2 @q3 @c7) (T9 wp wf OT wo OV)
 rw[Jz]at w ⊢;exact B2 Tryz.func186 @c7 (M0 w)
theorem JC(k:CK Γ hs 0 0)(hf:FDn (.C0::Γ) f)(cf:f.A0<=900000){a b:Pf}{s s':Tm}{fb:Fm}{ea eb:Int}{nb:Nat}(yI:na+nb<=1000000)(cs:s.A0<=1000000)(N7:s'.A0<=1000000){S:Q0 Γ->N0.V}(c8:Dn Γ s .C0 S)
  (ha:fO Γ hs a (I3 s s') ea na) (hb:fO Γ hs b fb eb nb) :
  ∃e,(e=0->ea=0/\eb=0)/\(s6 ea->s6 eb->fb=f.Y1 0 0 s->s6 e)/\tK Γ hs (dQ f a b) (f.Y1 0 0 s') e nb:=by
 obtain⟨f',u,a1,a2,wa⟩:=ha;obtain⟨e2,u2,p1,p2,p3,KC⟩:=Ja k hb hf oO c8 cs
 have w0:=QW hf (gT (.C0::Γ)) (Dc fun x hx=>by
  rcases u5.1 hx with rfl|hx;· show _<=64;decide
  ·exact k.2.2.1 x hx) (by have:=k.1;simp only[gB,B4];omega) (by have:=k.1;simp only[B4];omega)
 have I1:s6 (S5 f.chk (f.typedN (gT (.C0::Γ)))):=tD (Bw _) (Rj hf);have hz:S5 f.chk (f.typedN (gT (.C0::Γ)))=0->f.chk=0/\f.typedN (gT (.C0::Γ))=0:=aW;generalize S5 f.chk (f.typedN (gT (.C0::Γ)))=e0 at *;rw[sO,show (gT Γ++[T.ty .C0]).map P1=(gT Γ).map P1++[[j0 1,.sl []]] by rw[FV];rfl]at w0;have HB:(gT Γ).length<=2147483647:=by have:=k.1;rw[gB];omega
 have l1:=fW a;have l2:=fW b;have l3:=cX f;by_cases q0:e0=0;rotate_left
 ·refine⟨e0,fun h=>absurd h q0,fun _ _ _=>I1,m4,[],aH _,fun h=>absurd h q0,?_⟩;have w:cU 271 [I9 (gT Γ) hs,(dQ f a b).dv] (.H1 [m4.dv,.sl (P2 []),j0 e0]):=by
   rw[Bx,jR];exact B2 bm0 (j4 @CB @DT @q0 @c7) (P3 iM w0)
  rw[Bx,jR]at w ⊢;exact B2 iL @c7 (M0 w)
 by_cases q1:ea=0;rotate_left
 ·refine⟨ea,fun h=>absurd h q1,fun h _ _=>h,m4,[],aH _,fun h=>absurd h q1,?_⟩;have w:cU 271 [I9 (gT Γ) hs,(dQ f a b).dv] (.H1 [m4.dv,.sl (P2 []),j0 ea]):=by
   rw[Bx,jR];exact B2 bm0 (j5 @CB @DT @q0 @q1 @c7) (E8 iM w0 wa)
  rw[Bx,jR]at w ⊢;exact B2 iL @c7 (M0 w)
 obtain⟨rfl,a3,a4,a5⟩:=a2 q1;obtain⟨S1,S2,h1,h2⟩:=CY0 a3;have wp:=My hf h2 (by have:=k.1;omega) oO N7;have l4:=mM s;have l5:=mM s';have wa:cU 106 [I9 (gT Γ) hs,a.dv] (.H1 [.agg [j0 1,j0 0,.sl [],.sl [s.E0,s'.E0],.sl [],.sl (P2 u)],j0 ea]):=wa;by_cases q2:e2=0;rotate_left
 ·refine⟨e2,fun h=>absurd h q2,fun _ g2 g3=>p3 g2 g3,m4,[],aH _,fun h=>absurd h q2,?_⟩;have w:cU 271 [I9 (gT Γ) hs,(dQ f a b).dv] (.H1 [m4.dv,.sl (P2 []),j0 e2]):=by
   rw[Bx,jR];exact B2 bm0 (j6 @CB @DT @q0 @q1 @q2 @c7) (cQ iM w0 wa KC)
  rw[Bx,jR]at w ⊢;exact B2 iL @c7 (M0 w)
 refine⟨I6 f s',fun _=>⟨q1,(p2 q2).1⟩,fun _ _ _=>Ms h2,if I6 f s' = 0 then f.Y1 0 0 s' else m4,u2,p1,fun h=>⟨by rw[if_pos h],wT h2 hf,by have:=(IY hf h).1;omega,.sub k hf (hz q0).1 (hz q0).2 cs N7 c8 h2 a5 (p2 q2).2.2.2 (p2 q2).2.1 (p2 q2).2.2.1 h⟩,?_⟩;generalize (if I6 f s' = 0 then f.Y1 0 0 s' else m4)=v at *;generalize I6 f s' = pe at *;have w:cU 271 [I9 (gT Γ) hs,(dQ f a b).dv] (.H1 [v.dv,.sl (P2 u2),j0 pe]):=by
  rw[Bx];exact B2 bm0 (j6 @CB @DT @q0 @q1 @q2 @c7) (T9 iM w0 wa KC wp)
 rw[Bx]at w ⊢;exact B2 iL @c7 (M0 w)
structure Hy where
 f:Fm
 v:Nat
def Kq(h:Hy):List DV:=h.f.E0++[j0 h.v]
theorem Ya(h:Hy):Kq h=[j0 h.f.o0,j0 h.f.I0.o0,.sl (h.f.I0.B0.map P1),.sl (h.f.M1.map E3),.sl (h.f.B0.map L3),j0 h.v]:=by rw[Kq,aA];rfl
theorem zG0(h:Hy):(Kq h).length=6:=by rw[Ya];rfl
abbrev iB(g:List Ty)(kn:List Hy):DV:=.agg [j0 g.length,j0 kn.length,.sl (g.map Q4),.sl (kn.map Kq)]
theorem wI0(kn:List Hy):FE kn.length (Y3 Kq kn)=Y3 Kq kn:=by rw[DS];simp
theorem Rk(g l:List Ty)(kn:List Hy)(hl:∀x∈l,x.ok)(h1:g.length<=1000000/\l.length<=16):cU 203 [iB g kn,.sl (l.map P1)] (iB (g++l) kn):=by
 have w:=RD g l hl h1;exact B2 Tryz.func203 H0 (M0 w)
theorem ei0(g:List Ty)(kn:List Hy)(f:Fm)(h1:g.length<=1000000/\kn.length<=1000000):cU 132 [iB g kn,f.dv] (iB g (kn++[⟨f,g.length⟩])):=by
 have KJ:kn.length<=2147483647:=oO;have he:=Ya ⟨f,g.length⟩;exact B2 Tryz.func132 (j3 @wI0 @zG0 @he) H0
theorem RG(v h a b:Nat)(h1:v+a<=16)(h2:h+b<=16):cU 201 [.agg [j0 v,j0 h],j0 a,j0 b] (j0 0):=by
 have q1:¬(16:Int)<(v:Int)+a:=oO;have q2:¬(16:Int)<(h:Int)+b:=oO;exact B2 Tryz.func201 (j2 @q1 @q2) H0
theorem wJ0(g:List Ty)(kn:List Hy)(i:Nat)(hi:i<kn.length){h:Fm}(he:kn[kn.length - 1 - i]? = some ⟨h,v⟩)(hk:kn.length<=1000000)(hv:v<=g.length)(hg:g.length<=1000000)(hf:h.good 1073741824)(hc:h.A0<=900000):
  cU 198 [iB g kn,j0 i] (.H1 [(h.V0 0 (g.length - v)).dv,O2 true]):=by
 have w:=Rz h 0 (g.length - v) hf hc dD oO;have h3:=Ya ⟨h,v⟩;have kA:kn[((kn.length:Int) - 1 - i).toNat]? = some ⟨h,v⟩:=by rw[show ((kn.length:Int) - 1 - i).toNat=kn.length - 1 - i from oO,he]
 have q:¬(kn.length:Int)<=i:=oO;generalize h.V0 0 (g.length - v)=u at *;exact B2 Tryz.func198 (j4 @q @kA @he @h3) (M0 w)
theorem Sf(K3:D6 gl 2=some A7)(hf:FDn (s0::Γ) f){s:Tm}{X:Q0 Γ->s0.V}(hs:Dn Γ s s0 X)(N5:Γ.length<=1000)(hp:I6 f s=0):cU 208 [f.dv,s.dv] (.H1 [(f.Y1 0 0 s).dv,j0 0]):=by
 obtain⟨h1,h2,h3⟩:=e50 hp;have c2:=((lO s).1 h2).2;have w1:=Rg K3 hf oO;rw[if_pos (BM h1),BM h1]at w1;have w2:=Qi K3 s (gV s (Z5 hs)) oO;rw[if_pos h2,h2]at w2;have Ud:=lU hf 1073741824 (by simp only[B4];omega);have w3:=QV f 0 Ud oO dD;have w4:=RT f 0 s Ud oO dD (.inl ⟨Tf hs oO,oO⟩);have hb:=a00 f 0;have h4:(0:Int)<=(f.R2 0:Int) * ((s.A0:Int) - 1):=Int.mul_nonneg oO (by have:=V6 s;omega);have q:¬(4096:Int)<(f.A0:Int)+f.R2 0 * ((s.A0:Int) - 1):=oO;generalize f.Y1 0 0 s=u at *;exact B2 Tryz.func208 @q (cQ w1 w2 w3 w4)
theorem EZ0{F:Q0 Γ->a.V}(h:Dn Γ t a F):t.fr<=Γ.length:=by
 induction h with
 | @var Γ i a p h=>
  have:=h.lt;show (i:Int)+1<=_;omega
 | lam _ _ ih=>simp only[B4]at ih;rw[qQ];simp[N6,Z9,M8,DY,Bc];omega
 | app _ _ i1 i2=>rw[qQ];simp[nT,Z9,M8,DY,Bc];omega
 | zero=>rw[qQ];simp[nT,Z9,M8,Bc]
 | nil=>rw[qQ];simp[nT,Z9,M8,Bc]
 | Z4=>rw[qQ];simp[nT,Z9,M8,Bc]
 | succ _ ih=>rw[qQ];simp[nT,Z9,M8,DY,Bc];omega
 | fst _ ih=>rw[qQ];simp[nT,Z9,M8,DY,Bc];omega
 | snd _ ih=>rw[qQ];simp[nT,Z9,M8,DY,Bc];omega
 | cons _ _ i1 i2=>rw[qQ];simp[nT,Z9,M8,DY,Bc];omega
 | pair _ _ i1 i2=>rw[qQ];simp[nT,Z9,M8,DY,Bc];omega
 | rc _ _ _ _ i1 i2 i3=>rw[qQ];simp[Z9,M8,DY,Bc];omega
 | fold _ _ _ _ i1 i2 i3=>rw[qQ];simp[Z9,M8,DY,Bc];omega
theorem ej0{σ:Type}{S0:Tm->Int->σ->σ}{I:σ->Prop}{Q:Tm->Int->Prop}(hQ:∀t d,Q t d->∀a∈t.B0,Q a (d+W2 t.o0))(h0:∀t d x,Q t d->I x->I (S0 t d x))(t:Tm):∀d x,Q t d->I x->I (tC S0 t d x):=by
 induction t using m7 with
 | h t ih=>
 intro d x q i;rw[WO];have key:∀l:List Tm,(∀a∈l,a∈t.B0)->∀x,I x->I (pF S0 l (d+W2 t.o0) x):=by
  intro l
  induction l with
  | nil=>intro _ x i;exact i
  | cons a r l6=>intro hl x i;exact l6 (fun b hb=>hl b (by simp[hb])) _ (ih a (hl a sS) _ _ (hQ t d q a (hl a sS)) i)
 exact key _ (fun _ h=>h) _ (h0 t d x q i)
theorem pd0{σ:Type}{S0:Tm->Int->σ->σ}{I:σ->Prop}{Q:Tm->Int->Prop}(hQ:∀t d,Q t d->∀a∈t.B0,Q a (d+W2 t.o0))(h0:∀t d x,Q t d->I x->I (S0 t d x))(l:List Tm)(d:Int)(x:σ)(hl:∀a∈l,Q a d)(i:I x):I (pF S0 l d x):=by
 induction l generalizing x with
 | nil=>exact i
 | cons a r ih=>exact ih _ (fun b hb=>hl b (by simp[hb])) (ej0 hQ h0 a d x (hl a sS) i)
abbrev Jj2(n:Nat):DV:=.K0 (.int .u32 n)
theorem Gz{a b:Nat}(ha:a<4294967296)(hb:b<4294967296):SY .u32 a b=((a ||| b:Nat):Int):=by
 have h:a ||| b<4294967296:=Ix (n:=32) ha hb;have e:(yL 32 (a:Int) ||| yL 32 (b:Int)).toNat=a ||| b:=by
  rw[BitVec.toNat_or,BitVec.toNat_ofInt,BitVec.toNat_ofInt]
  congr 1 <;> omega
 show Pk.wrap ((yL 32 (a:Int) ||| yL 32 (b:Int)).toNat:Int)=_;rw[e];exact Cx (by rw[QK];omega)
theorem wK0(a b:Nat)(hb:b<=32):BI .u32 a b=((a / 2 ^ b:Nat):Int):=by
 show Int.fdiv a (2 ^ min (Int.toNat b) 32)=_;rw[aO0,It hb,show (2:Int) ^ b=((2 ^ b:Nat):Int) from sS,Int.fdiv_eq_ediv_of_nonneg _ (Int.natCast_nonneg _)];rfl
theorem wL0(b:Nat)(hb:b<32):SM .u32 1 b=((2 ^ b:Nat):Int):=by
 show Pk.wrap (1 * 2 ^ min (Int.toNat b) 32)=_;rw[aO0,It oO,Int.one_mul,show (2:Int) ^ b=((2 ^ b:Nat):Int) from sS];have:=ka0 (by decide:1<2) hb;generalize 2 ^ b=v at *;exact Cx (by rw[QK];omega)
theorem Sg(u b:Nat)(hu:u<4294967296)(hb:b<=32):cU 205 [Jj2 u,j0 b] (Jj2 (u / 2 ^ b)):=by
 have e:=wK0 u b hb;have h:=Nat.div_le_self u (2 ^ b);generalize u / 2 ^ b=v at *;exact B2 Tryz.func205 @e H0
def Kh(t:Tm)(d:Int)(x:Nat):Nat:=if t.o0=1/\d<=t.O0 then x ||| 2 ^ (t.O0 - d).toNat else x
theorem wM0(n:Nat)(i d:Int)(x:Nat)(hx:x<4294967296)(hi:0<=i/\i<=1000000)(hd:0<=d)(hid:i - d<32):cT 283 [j0 i,j0 d,M3 n] [(n,[Jj2 x])] (.H1 []) [(n,[Jj2 (if d<=i then x ||| 2 ^ (i - d).toNat else x)])]:=by
 by_cases h:d<=i
 ·have e:=wL0 (i - d).toNat oO;have e2:((i - d).toNat:Int)=i - d:=oO;rw[e2]at e;have hp:2 ^ (i - d).toNat<4294967296:=ka0 dD (show (i - d).toNat<32 from oO);have e3:=Gz hx hp;rw[if_pos h];generalize 2 ^ (i - d).toNat=w at *;generalize x ||| w=v at *;refine A3 Tryz.func283 fun X zX=>?_;refine U1 (j3 @h @e @e3) ?_;exact s7 [(n,[Jj2 v])] (j3 @h @e @e3)
 ·rw[if_neg h];refine A3 Tryz.func283 fun X zX=>?_;refine U1 @h ?_;exact s7 [(n,[Jj2 x])] @h
theorem Xd{F:Q0 Γ->a.V}(h:Dn Γ t a F)(N5:Γ.length<=16)(hc:t.A0<=4096):∃u:Nat,u<2 ^ Γ.length/\cU 206 [t.dv] (Jj2 u):=by
 have hp:2 ^ Γ.length<=2 ^ 16:=Ux dD N5;have hQ:∀t d,(Gd t/\t.fr<=Γ.length+d/\d+t.A0<=500000/\0<=d)->∀a∈t.B0,(Gd a/\a.fr<=Γ.length+(d+W2 t.o0)/\d+W2 t.o0+a.A0<=500000/\0<=d+W2 t.o0):=by
  rintro t d ⟨h1,h2,h3,h4⟩ a ha;have:=lT t.o0;have:=V6 t;have:=L9 ha;have hm:=Tm.frs_mem ha;have hp:=Tm.frs_pos t.B0;refine⟨h1.arg a ha,?_,oO,oO⟩;have e:=t.fr_eq;have hl:t.o0=1->t.B0=[]:=fun h=>by have:=(j9 h1.1).1;rw[h]at this;simpa [C5] using this
  rcases Ge t.o0 with⟨h5,h6⟩|⟨h5,h6⟩;· rw[if_neg oO,if_pos h5]at e;omega
  ·by_cases h7:t.o0=1;· rw[hl h7]at ha;cases ha
   ·rw[if_neg h7,if_neg h5]at e;omega
 have h0:∀t d x,(Gd t/\t.fr<=Γ.length+d/\d+t.A0<=500000/\0<=d)->x<2 ^ Γ.length->Kh t d x<2 ^ Γ.length:=by
  rintro t d x ⟨h1,h2,h3,h4⟩ hx;unfold Kh;split
  ·rename_i h5;rw[qQ,if_pos h5.1]at h2;exact Ix hx (ka0 dD oO)
  ·exact hx
 have eZ:=EZ0 h
 have w:=fun n=>Xu (n:=n) (f:=283) (cs:=[M3 n]) (enc:=Jj2) (S0:=Kh) (P:=fun t d x=>(Gd t/\t.fr<=Γ.length+d/\d+t.A0<=500000/\0<=d)/\x<2 ^ Γ.length) (fun t d x h=>if_neg fun q=>h q.1) (fun t d x h l a r e=>⟨hQ t d h.1 a (by rw[e];simp),pd0 hQ h0 l _ _ (fun b hb=>hQ t d h.1 b (by rw[e];simp[hb])) (h0 t d x h.1 h.2)⟩) (fun t d x h1 hd h=>by
  obtain⟨-,hi⟩:=h.1.1.var h1;have h2:=h.1.2.1;rw[qQ,if_pos h1]at h2;have w:=wM0 n t.O0 d x oO (by have:=h.1.2.2.1;omega) hd oO;have e:Kh t d x=if d<=t.O0 then x ||| 2 ^ (t.O0 - d).toNat else x:=by unfold Kh;simp only[h1,true_and]
  rw[e];exact w) t 0 oO ⟨⟨Tf h oO,oO,oO,dD⟩,UF dD⟩
 have hu:=ej0 hQ h0 t 0 0 ⟨Tf h oO,oO,oO,dD⟩ (UF dD);refine⟨_,hu,?_⟩;generalize tC Kh t 0 0=u at *;refine H2 Tryz.func206 ?_;intro X hP G0 hf X0 hn hR K1 G1;refine E4 (bx [1000001]) tT ?_;refine K2 ?_;refine fG 3 (by simp[go_sem];rfl) ?_;intro b hb;simp[go_sem]at hb ⊢;refine Q1 ?_;refine O9 [5] fun K hK=>?_;simp[go_sem,hP,G0,hn];refine Ju (by simp[go_sem];rfl) nN rfl ?_;simp[go_sem];refine Z7 tT (w b) ?_;refine K4 ?_;clear hK K;exact O1 H0 H0
abbrev lH(f:FuncId):Value:=.func (.func f) #[] #[]
def Kr:List (Int × Value):=[(1,lH 116),(2,lH 117),(3,lH 118),(4,lH 119),(5,lH 119),(6,lH 120),(7,lH 121),(8,lH 122),(12,lH 122),(9,lH 123),(13,lH 123),(10,lH 124),(14,lH 124),(11,lH 125),(15,lH 125),(16,lH 126),(17,lH 126),(18,lH 127),(19,lH 128),(20,lH 129)]
abbrev cD:DV:=.ref [.sl [],.mpd Kr]
abbrev xW(f:Fm)(u:Nat):DV:=.agg [j0 f.o0,j0 f.I0.o0,.sl (f.I0.B0.map P1),.sl (f.M1.map E3),.sl (f.B0.map L3),Jj2 u]
theorem XG(K3:D6 gl 2=some A7){kn:List Hy}{r:FuncId}(hl:BD Kr p.o0=some r)(w:cT r [cD,p.dv,iB g kn] [] (.H1 [xW f u,j0 0]) [])(hd:FDn Γ f)(hc:f.A0<=4096)(M7:f.nb=true):
  cU 40 [cD,p.dv,iB g kn] (.H1 [xW f (if f.v6=true then u else 0),j0 0]):=by
 have w1:=CH K3 hd oO;have w2:=LI K3 hd M7 oO;rw[BM hc]at w1 w2;simp only[decide_true,Ld]at w2;refine H2 Tryz.func40 ?_;intro X hP G0 hf X0 hn hR K1 G1;refine N2 ?_;refine U6 tT fun K hK=>?_;refine oo0 (fun _ _=>iN) nN (by rw[hP];kernel_rfl) sG sG hl rfl ?_;simp[go_sem,hP,G0,hn];refine Z7 tT (w) ?_;refine K4 ?_;clear hK K;refine N1 H0 (P3 w1 w2) ?_;by_cases hq:f.v6=true
 all_goals
  exact O1 @hq H0
theorem QG{kn:List Hy}(w:cU 40 [cD,p.dv,iB g kn] (.H1 [xW f u,j0 0]))(hk:f.o0=k):
  cU 200 [cD,p.dv,iB g kn,j0 k] (.H1 [xW f u,j0 0]):=by
 exact B2 Tryz.func200 @hk (M0 w)
theorem Qr(K3:D6 gl 2=some A7){kn:List Hy}(w:cU 40 [cD,p.dv,iB g kn] (.H1 [xW fa u,j0 0]))(hd:FDn Γ fa)(hc:fa.A0<=4096)(hf:FDn (s0::Γ) f){s:Tm}{X:Q0 Γ->s0.V}(hs:Dn Γ s s0 X)(N5:Γ.length<=1000)(hp:I6 f s=0)(hm:(f.Y1 0 0 s).MatE fa=0):
  cU 210 [cD,p.dv,iB g kn,f.dv,s.dv] (.H1 [xW fa u,j0 0]):=by
 have wp:=Sf K3 hf hs N5 hp;have TE:=IY hf hp;have wm:=r50 K3 (wT hs hf) hd oO oO;rw[hm]at wm;generalize f.Y1 0 0 s=v at *;exact B2 Tryz.func210 H0 (E8 w wp wm)
theorem ek0(t:Tm)(pre:List Ty)(hs:t.shape=true):∀g:List Ty,(t.V1 g).2=0->t.V1 (pre++g)=t.V1 g:=by
 induction t using m7 with
 | h t ih=>
 intro g h;obtain⟨-,s2,-,-,s5⟩:=j9 hs;rw[oW]at h ⊢;rw[oW t g];by_cases h1:t.o0=1
 ·rw[if_pos h1]at h ⊢;rw[if_pos h1];by_cases h2:(g.length:Int)<=t.O0;· rw[if_pos h2]at h;simp at h
  ·rw[if_neg h2,if_neg (by simp;omega)]
   congr 1
   rw[jO,jO,cK (by simp;omega)]
   congr 2
   simp;omega
 rw[if_neg h1]at h ⊢;rw[if_neg h1];have key:∀l:List Tm,(∀a∈l,a∈t.B0)->∀g,(f7.Y4 l g).2=0->f7.Y4 l (pre++g)=f7.Y4 l g:=by
  intro l
  induction l with
  | nil=>intro _ _ _;rfl
  | cons a r l6=>
   intro hl g h;simp only[f7.Y4]at h ⊢;by_cases ha:(a.V1 g).2=0
   ·by_cases hr:(f7.Y4 r g).2=0;· rw[ih a (hl a sS) (s5 a (hl a sS)) g ha,l6 (fun b hb=>hl b (by simp[hb])) g hr]
    ·simp[ha,hr]at h
   ·simp[ha]at h
 have hg:(if t.o0=2 then pre++g++[t.I0] else pre++g)=pre++(if t.o0=2 then g++[t.I0] else g):=by split <;> simp
 rw[hg];generalize (if t.o0=2 then g++[t.I0] else g)=g' at *;by_cases h3:(f7.Y4 t.B0 g').2=0;· rw[key _ (fun _ h=>h) g' h3]
 ·rw[if_neg h3]at h;exact absurd h h3
theorem wN0(pre:List Ty)(h:t.natE g=0):t.natE (pre++g)=0:=by
 have h1:=e30 h;unfold PL AW at *;by_cases q:t.L4=0
 ·simp only[if_pos q]at h ⊢;rw[ek0 t pre ((lO t).1 q).1 g h1];exact h
 ·simp only[if_neg q]at h;exact absurd h q
theorem Wz(pre:List Ty):∀{g:List Ty},f.typedN g=0->f.typedN (pre++g)=0:=by
 induction f using aU with
 | h f ih=>
 intro g h;obtain⟨h1,h2⟩:=Vh h;have k1:∀l:List Tm,(∀t∈l,t∈f.M1)->kX l (pre++g)=0:=by
  intro l
  induction l with
  | nil=>intro _;rfl
  | cons a r l6=>intro hl;simp only[kX,wN0 pre (h1 a (hl a sS)),if_true];exact l6 fun b hb=>hl b (by simp[hb])
 rw[PK,k1 _ fun _ h=>h,if_pos rfl,show (if H3 f.o0=1 then pre++g++[f.I0] else pre++g)=pre++(if H3 f.o0=1 then g++[f.I0] else g) by split <;> simp];generalize (if H3 f.o0=1 then g++[f.I0] else g)=g' at *;have k2:∀l:List Fm,(∀t∈l,t∈f.B0)->Cp.typeds l (pre++g')=0:=by
  intro l
  induction l with
  | nil=>intro _;rfl
  | cons a r l6=>intro hl;simp only[Cp.typeds,ih a (hl a sS) (h2 a (hl a sS)),if_true];exact l6 fun b hb=>hl b (by simp[hb])
 exact k2 _ fun _ h=>h
theorem Su(Γ Ω:List T):gT (Γ++Ω)=gT Ω++gT Γ:=by simp[gT]
theorem Rm(h:t.typeE (gT Γ)=(y,0))(hc:gD (gT Γ)=0)(Ω:List T):(t.V1 (gT (Γ++Ω))).2=0:=by
 unfold Tm.typeE AW at h;rw[if_pos hc]at h;by_cases q:t.L4=0
 ·rw[if_pos q]at h;rw[Su,ek0 t _ ((lO t).1 q).1 _ (by rw[h]),h]
 ·rw[if_neg q]at h;exact absurd (congrArg Prod.snd h) q
def EX(n:Nat)(hs:List Fm)(kn:List Hy):Prop:=kn.length=hs.length/\∀(i:Nat) (f:Fm),hs[i]? = some f->∃h:Hy,kn[i]? = some h/\h.v<=n/\f=h.f.V0 0 ((n:Int) - h.v)/\h.f.good 1073741824/\h.f.A0<=4096
theorem CZ0(t:Fm)(f b c:Int)(hb:0<=b):(t.V0 f b).V0 f c=t.V0 f (b+c):=by
 induction t using aU generalizing f with
 | h t ih=>
 rw[tY t f b,tY,tY t f (b+c)];rw[Ik,Le,FN,FO,wI,wI]
 congr 1
 ·exact kW fun x hx=>Ys x f b c hb
 ·exact kW fun x hx=>ih x hx _
theorem Xe(t:Fm)(f:Int):t.V0 f 0=t:=by
 induction t using aU generalizing f with
 | h t ih=>
 rw[tY];have e1:(t.M1.map fun x=>x.V0 f 0)=t.M1:=by
  conv=>rhs;rw[<- yW t.M1]
  exact kW fun x hx=>Jx x f
 have e2:(t.B0.map fun x=>x.V0 (f+H3 t.o0) 0)=t.B0:=by
  conv=>rhs;rw[<- yW t.B0]
  exact kW fun x hx=>ih x hx _
 rw[e1,e2,Fm.eta]
theorem EX.below{kn:List Hy}(h:EX n hs kn)(m:Nat):EX (n+m) (Q5 hs m) kn:=by
 refine⟨by rw[h.1];simp,fun i f hi=>?_⟩;rw[cI]at hi;cases hq:hs[i]? with
 | none=>rw[hq]at hi;cases hi
 | some f0=>
  rw[hq]at hi;cases hi;obtain⟨x,h1,h2,h3,h4⟩:=h.2 i f0 hq;refine⟨x,h1,oO,?_,h4⟩;rw[h3];show (x.f.V0 0 ((n:Int) - x.v)).V0 0 m=_;rw[CZ0 _ _ _ _ oO]
  congr 1
  omega
theorem EX.with{n:Nat}{hs:List Fm}{kn:List Hy}(h:EX n hs kn){f:Fm}(hg:f.good 1073741824)(hc:f.A0<=4096):EX n (hs++[f]) (kn++[⟨f,n⟩]):=by
 refine⟨by simp[h.1],fun i g hi=>?_⟩;by_cases q:i<hs.length
 ·rw[cJ q]at hi;rw[cJ (by rw[h.1];exact q)];exact h.2 i g hi
 ·rw[cK oO]at hi;rw[cK (by rw[h.1];omega),h.1];cases hj:i - hs.length with
  | zero=>rw[hj]at hi;cases hi;exact⟨_,rfl,I5 _,by rw[Int.sub_self,Xe],hg,hc⟩
  | succ j=>rw[hj]at hi;simp at hi
def gH(b:Bool)(Γ:List T)(hs:List Fm)(p:Pf)(f:Fm):Prop:=∃r,(b=true/\r=40\/b=false/\BD Kr p.o0=some r)/\(Γ.length<=14->∀(Ω:List T) (kn:List Hy),Ω.length<=2->(∀a∈Ω,a.ok)->EX (Γ++Ω).length hs kn ->
 ∃u,u<2 ^ Γ.length/\cT r [cD,p.dv,iB (gT (Γ++Ω)) kn] [] (.H1 [xW f u,j0 0]) [])
theorem gH.inf(h:gH true Γ hs p f)(N5:Γ.length<=14){Ω:List T}{kn:List Hy}(hΩ:Ω.length<=2)(ho:∀a∈Ω,a.ok)(hk:EX (Γ++Ω).length hs kn):
  ∃u,u<2 ^ Γ.length/\u<4294967296/\cU 40 [cD,p.dv,iB (gT (Γ++Ω)) kn] (.H1 [xW f u,j0 0]):=by
 obtain⟨r,⟨-,rfl⟩|⟨h1,-⟩,h2⟩:=h
 ·obtain⟨u,h3,h4⟩:=h2 N5 Ω kn hΩ ho hk;have:2 ^ Γ.length<=2 ^ 14:=Ux dD N5;exact⟨u,h3,oO,h4⟩
 ·cases h1
theorem JN(hn:n<=16)(h:u<2 ^ n):u<4294967296:=by
 have:2 ^ n<=2 ^ 16:=Ux dD hn;omega
theorem zH0(hi:hs[hs.length - 1 - i]? = some f)(I1:i<hs.length)(hl:hs.length<=16):gH false Γ hs (fM i) f:=by
 refine⟨116,.inr ⟨rfl,rfl⟩,fun N5 Ω kn hΩ ho hk=>⟨0,UF dD,?_⟩⟩;obtain⟨⟨h,v⟩,h1,h2,h3,h4,h5⟩:=hk.2 _ f hi;simp only at h2 h3 h4 h5;rw[<- hk.1]at h1;have G0:=gB (Γ++Ω);have fU:(Γ++Ω).length<=16:=by simp;omega
 have w:=wJ0 (gT (Γ++Ω)) kn i (by rw[hk.1];exact I1) h1 (by rw[hk.1];omega) (by rw[G0];exact h2) oO h4 oO;rw[G0,<- h3]at w;rw[XD];generalize gT (Γ++Ω)=g at *;exact B2 Tryz.func116 H0 (M0 w)
theorem wO0{a:Pf}(ha:gH true Γ hs a fa)(hb:gH true Γ hs b fb):gH false Γ hs (tF a b) (U5 2 fa fb):=by
 refine⟨118,.inr ⟨rfl,rfl⟩,fun N5 Ω kn hΩ ho hk=>?_⟩;obtain⟨u,u1,u2,wa⟩:=ha.inf N5 hΩ ho hk;obtain⟨v,v1,v2,wb⟩:=hb.inf N5 hΩ ho hk;refine⟨u ||| v,Ix u1 v1,?_⟩;have e:=Gz u2 v2;have wf:=wD0 2 [fa,fb];rw[show oV 2 (L0 0 []) [] [fa,fb]=U5 2 fa fb from rfl,wU]at wf;have l1:=fW a;have l2:=fW b;rw[Xb];show P8 _ _ _ _ _ (.H1 [.agg [j0 2,j0 0,.sl [],.sl [],.sl [fa.E0,fb.E0],Jj2 (u ||| v)],j0 0]) _;generalize u ||| v=x at *;generalize gT (Γ++Ω)=g at *;exact B2 Tryz.func118 @e (E8 wa wb wf)
theorem zI0{a:Pf}(i:Bool)(ha:gH true Γ hs a (U5 2 fa fb)):gH false Γ hs (xT (if i then 5 else 4) a) (if i then fb else fa):=by
 refine⟨119,.inr ⟨rfl,by cases i <;> rfl⟩,fun N5 Ω kn hΩ ho hk=>?_⟩;obtain⟨u,u1,u2,wa⟩:=ha.inf N5 hΩ ho hk;refine⟨u,u1,?_⟩;have ws:=QG wa (k:=2) rfl;have ws:cU 200 [cD,a.dv,iB (gT (Γ++Ω)) kn,j0 2] (.H1 [.agg [j0 2,j0 0,.sl [],.sl [],.sl [fa.E0,fb.E0],Jj2 u],j0 0]):=ws;have l1:=fW a;have l2:=cX fa;have l3:=cX fb;rw[Se];generalize gT (Γ++Ω)=g at *;cases i
 ·show P8 _ _ _ [_,eM [j0 4,_,_,_,_,_,_],_] _ _ _;exact B2 Tryz.func119 H0 (M0 ws)
 ·show P8 _ _ _ [_,eM [j0 5,_,_,_,_,_,_],_] _ _ _;exact B2 Tryz.func119 H0 (M0 ws)
theorem wP0(k:CK Γ hs 0 0){F:Q0 Γ->N0.V}(ht:Dn Γ t .C0 F)(hc:t.A0<=4096)(hy:t.typeE (gT Γ)=(N0.ty,0)):gH false Γ hs (c9 t) (I3 t t):=by
 refine⟨127,.inr ⟨rfl,rfl⟩,fun N5 Ω kn hΩ ho hk=>⟨0,UF dD,?_⟩⟩;obtain⟨F',hd⟩:=Jy ht Ω;obtain⟨e,-,h3,w⟩:=fI0 ⟨by simp;omega,fun a ha=>(t6.1 ha).elim (k.2.2.1 a) (ho a)⟩ hd oO;rw[h3 (Rm hy k.ctx Ω)]at w;have we:=mM0 t t;have lt:=mM t;rw[sW]at we;rw[RE];show P8 _ _ _ _ _ (.H1 [.agg [j0 1,j0 0,.sl [],.sl [t.E0,t.E0],.sl [],Jj2 0],j0 0]) _;generalize gT (Γ++Ω)=g at *;exact B2 Tryz.func127 H0 (P3 w we)
theorem wQ0(k:CK Γ hs 1 0)(bH:s.ok){a:Pf}(ha:gH true (s::Γ) (Q5 hs 1) a fa):gH false Γ hs (bO s.ty a) (qF 4 s.ty fa):=by
 refine⟨122,.inr ⟨rfl,rfl⟩,fun N5 Ω kn hΩ ho hk=>?_⟩;have k1:=k.1;have k2:=k.2.1;obtain⟨u,u1,u2,wa⟩:=ha.inf (by simp only[B4];omega) hΩ ho (by simpa using hk.below 1);have G0:=gB (Γ++Ω);have fU:(Γ++Ω).length<=16:=by simp;omega
 refine⟨u / 2 ^ 1,by rw[B4,js0]at u1;omega,?_⟩;have wb:=Rk (gT (Γ++Ω)) [s.ty] kn (by simpa using M9 bH) ⟨oO,sS⟩;rw[R6,sO]at wa;have wm:=RG (gT (Γ++Ω)).length kn.length 1 0 (by rw[G0];simp;omega) (by rw[hk.1];omega);have wo:=Sg u 1 u2 dD;have wq:=Wy 4 s.ty fa;have l1:=fW a;have lf:=cX fa;rw[dL]at wq;rw[MA];show P8 _ _ _ _ _ (.H1 [.agg [j0 4,j0 s.ty.o0,.sl (s.ty.B0.map P1),.sl [],.sl [fa.E0],Jj2 (u / 2 ^ 1)],j0 0]) _;generalize u / 2 ^ 1=x at *;generalize gT (Γ++Ω)=g at *;simp only[G4,O5]at wb;generalize g++[s.ty]=g2 at *;exact B2 Tryz.func122 H0 (T9 wm wb wa wq wo)
theorem wR0(K3:D6 gl 2=some A7)(k:CK Γ hs 0 0)(Aq:s.ok){F:Q0 Γ->s.V}(ht:Dn Γ t s F)(hc:t.A0<=4096)(hy:t.typeE (gT Γ)=(s.ty,0)){a:Pf}(ha:gH true Γ hs a (qF 4 s.ty fa))(Q6:FDn (s::Γ) fa)(hp:I6 fa t=0):gH false Γ hs (jW t a) (fa.Y1 0 0 t):=by
 refine⟨123,.inr ⟨rfl,rfl⟩,fun N5 Ω kn hΩ ho hk=>?_⟩;obtain⟨u,u1,u2,wa⟩:=ha.inf N5 hΩ ho hk;obtain⟨v,v1,wf⟩:=Xd ht oO hc;have v2:=JN oO v1;refine⟨u ||| v,Ix u1 v1,?_⟩;obtain⟨F',hd⟩:=Jy ht Ω;obtain⟨z,e,-,h1,-,h3,wt⟩:=XZ ⟨by simp;omega,fun a ha=>(t6.1 ha).elim (k.2.2.1 a) (ho a)⟩ hd oO;have h3:=h3 (Rm hy k.ctx Ω);rw[h1 h3,h3]at wt;have eo:=Gz u2 v2;have ws:=QG wa (k:=4) rfl;have ws:cU 200 [cD,a.dv,iB (gT (Γ++Ω)) kn,j0 4] (.H1 [.agg [j0 4,j0 s.ty.o0,.sl (s.ty.B0.map P1),.sl [],.sl [fa.E0],Jj2 u],j0 0]):=ws;have wy:=e10 s.ty s.ty (M9 Aq);rw[(y9 s.ty s.ty).2 rfl]at wy;have wp:=Sf K3 Q6 ht oO hp;have l1:=fW a;have lf:=cX fa;have lt:=mM t;rw[W7]at wt wy;rw[Eo];generalize fa.Y1 0 0 t=w at *;generalize u ||| v=x at *;generalize gT (Γ++Ω)=g at *;exact B2 Tryz.func123 @eo (T9 wt wf ws wy wp)
abbrev Y0:Ty:=L0 1 []
theorem LS:cU 94 [] (L0 2 []).dv:=by
 exact G7 Tryz.func94 H0 H0
theorem r80(f a:Tm):cU 163 [f.dv,a.dv] (nT 3 [f,a]).dv:=by
 have w:=d40 3 [f,a];have e:U0 3 0 (L0 0 []) [f,a]=nT 3 [f,a]:=rfl;rw[e]at w;have h1:=O3 f;have h2:=O3 a;simp only[G4,O5,h1,h2]at w;generalize nT 3 [f,a]=r at *;exact B2 Tryz.func163 H0 (M0 w)
theorem Jo(y:Ty)(f:Fm):cU 85 [y.dv,f.dv] (qF 4 y f).dv:=by
 rw[dL];exact B2 Tryz.func85 H0 H0
theorem MC(i:Int):cU 78 [j0 i] (fM i).dv:=by
 rw[XD];exact B2 Tryz.func78 H0 H0
theorem CM(s t:Tm):cU 76 [s.dv,t.dv] (I3 s t).dv:=by
 rw[sW];exact B2 Tryz.func76 H0 H0
theorem el0(y:Ty)(f:Fm):cU 165 [y.dv,f.dv] (qF 5 y f).dv:=by
 rw[dL];exact B2 Tryz.func165 H0 H0
theorem Cz(t:Tm):cU 79 [t.dv] (c9 t).dv:=by
 rw[RE];exact B2 Tryz.func79 H0 H0
theorem CD(f:Fm)(t:Tm)(p:Pf):cU 81 [f.dv,t.dv,p.dv] (d9 f t p).dv:=by
 rw[CI];exact B2 Tryz.func81 H0 H0
theorem Jp(p q:Pf):cU 80 [p.dv,q.dv] (dP p q).dv:=by
 rw[Eu];exact B2 Tryz.func80 H0 H0
theorem Mg(y:Ty)(p:Pf):cU 86 [y.dv,p.dv] (bO y p).dv:=by
 rw[MA];exact B2 Tryz.func86 H0 H0
theorem em0(t:Tm)(p:Pf):cU 103 [t.dv,p.dv] (jW t p).dv:=by
 rw[Eo];exact B2 Tryz.func103 H0 H0
theorem IR(f:Fm)(p q:Pf):cU 75 [f.dv,p.dv,q.dv] (dQ f p q).dv:=by
 rw[Bx];exact B2 Tryz.func75 H0 H0
theorem Xf(k:Int)(f:Fm)(t:Tm)(p q:Pf):cU 87 [j0 k,f.dv,t.dv,p.dv,q.dv] (fN k f t p q).dv:=by
 rw[Jz];exact B2 Tryz.func87 H0 H0
theorem Sh(t:Tm)(hi:t.idx 1099511627776)(hc:t.A0<=1000000):cU 77 [t.dv] (t.V0 0 1).dv:=by
 have w:=Yq t 0 1 hi dD dD dD oO;generalize t.V0 0 1=u at *;exact B2 Tryz.func77 H0 (M0 w)
def X4(s:Tm):Fm:=qF 5 Y0 (I3 (vT 0) (s.V0 0 1))
theorem wY(t:Tm)(hi:t.idx 1099511627776)(hc:t.A0<=1000000):cU 82 [t.dv] (X4 t).dv:=by
 have w:=Sh t hi hc;have w2:=CM (vT 0) (t.V0 0 1);have w3:=el0 Y0 (I3 (vT 0) (t.V0 0 1));have w4:=WU 0;have e:(U0 1 0 (L0 0 []) [])=vT 0:=rfl;rw[e]at w4;show P8 _ _ _ _ _ (qF 5 Y0 (I3 (vT 0) (t.V0 0 1))).dv _;generalize qF 5 Y0 (I3 (vT 0) (t.V0 0 1))=f2 at *;generalize I3 (vT 0) (t.V0 0 1)=f1 at *;generalize t.V0 0 1=u at *;generalize vT 0=v0 at *;exact B2 Tryz.func82 H0 (T9 sM w4 w w2 w3)
def fQ:Tm->List Tm->Tm
 | f,[]=>f
 | f,a::r=>fQ (nT 3 [f,a]) r
theorem wS0(f:Tm)(l:List Tm)(a:Tm):fQ f (l++[a])=nT 3 [fQ f l,a]:=by
 induction l generalizing f with
 | nil=>rfl
 | cons b r ih=>exact ih _
theorem qV(f:Tm)(l:List Tm)(hl:l.length<=1000):cU 73 [f.dv,.sl (l.map E3)] (fQ f l).dv:=by
 refine A3 Tryz.func73 fun X zX=>?_;refine N2 ?_;refine Q1 ?_;refine aM [] sG (by simp[go_sem,fQ] <;> omega) sG (y7 (l) (fun done rest=>[sV 1 (.sl (l.map E3)),sP 4,sL 4 [.v (j0 0),.v (j0 0),.v (j0 0),.own 0 [],.own 0 []],sV 5 (j0 done.length),sP 2,sL 2 (gG (fQ f done))]) ?_ ?_)
 ·intro done x rest hL B3 Z1;have I1:=E5 hL;have w:=r80 (fQ f done) x;have h1:=P5 (fQ f done);rw[wS0]at Z1;generalize nT 3 [fQ f done,x]=r at *;generalize fQ f done=g at *;refine K5 ?_;refine N1 (j2 @B3 @h1) (M0 w) ?_;refine W3 (wr []) tT tT Z1
 ·have h1:=O3 (fQ f l);refine T7 ?_;exact O1 @h1 H0
abbrev pN:Ty:=L0 4 [Y0,Y0]
theorem IG:cU 72 [] pN.dv:=by
 have w:=Mu Y0 Y0;show P8 _ _ _ _ _ (L0 4 [Y0,Y0]).dv _;generalize L0 4 [Y0,Y0]=r at *;exact B2 Tryz.func72 H0 (E8 sM sM w)
theorem sX(i:Int):cU 74 [j0 i] (vT i).dv:=by
 have w4:=WU i;have e:(U0 1 i (L0 0 []) [])=vT i:=rfl;rw[e]at w4;generalize vT i=r at *;exact B2 Tryz.func74 H0 (M0 w4)
theorem Jb(k:Int)(b g n:Tm):cU 83 [j0 k,b.dv,g.dv,n.dv] (U0 k 0 Y0 [b,g,n]).dv:=by
 exact G7 Tryz.func83 H0 (M0 sM)
theorem r90{F:Q0 []->a.V}(ht:Dn [] t a F)(ct:t.A0<=1000000)(s:Ty)(hs:s=a.ty):cU 70 [t.dv,s.dv] (j0 (t.typeE []).2):=by
 subst hs;have k0:CK [] [] 0 0:=⟨dD,dD,sS,sS⟩;have w:=UM t [] sS (gV t (Z5 ht)) oO;have w:cU 161 [.sl [],t.dv] (.H1 [(t.typeE []).1.dv,j0 (t.typeE []).2]):=w;rcases Mx k0 ht with⟨he,-⟩|he
 ·have he:t.typeE []=(a.ty,0):=he;rw[he]at w ⊢;simp only at w ⊢;have ws:=gU a.ty a.ty;rw[(y9 a.ty a.ty).2 rfl]at ws;generalize a.ty=y at *;exact B2 Tryz.func70 H0 (P3 w ws)
 ·have he:(t.typeE []).2=4:=he;rw[he]at w ⊢;generalize (t.typeE []).1=y at *;exact B2 Tryz.func70 H0 (M0 w)
theorem Bl{F:Q0 []->a.V}(ht:Dn [] t a F)(ct:t.A0<=1000000)(s:Ty)(hs:s=a.ty):
  ∃e,s6 e/\e=(t.typeE []).2/\cU 70 [t.dv,s.dv] (j0 e):=by
 have k0:CK [] [] 0 0:=⟨dD,dD,sS,sS⟩;refine⟨_,?_,rfl,r90 ht ct s hs⟩;rcases Mx k0 ht with⟨he,-⟩|he;· exact .inl (by rw[show t.typeE []=(a.ty,0) from he])
 ·exact .inr (.inr (.inl he))
def N9:Pf:=.mk 0 0 (L0 0 []) [] [] []
theorem MD(hf:FDn [] f)(cf:f.A0<=1000000)(hp:PS p)(cp:p.A0<=1073741824):
  ∃(f':Fm) (p':Pf) (e:Int),(s6 e/\(f.chk=0->p.chk=0->e=0))/\(e=0->f' = f/\p' = p/\f.chk=0/\p.chk=0)/\cU 84 [f.dv,p.dv] (.H1 [f'.dv,p'.dv,j0 e]):=by
 have w1:=Gm hf oO;have w2:=dZ0 hp cp;by_cases q1:f.chk=0
 ·by_cases q2:p.chk=0
  ·refine⟨f,p,0,⟨.inl rfl,fun _ _=>rfl⟩,fun _=>⟨rfl,rfl,q1,q2⟩,?_⟩;exact B2 kc0 (j2 @q1 @q2) (P3 w1 w2)
  ·refine⟨m4,N9,4,⟨.inr (.inr (.inl rfl)),fun _ h=>absurd h q2⟩,fun h=>by simp at h,?_⟩;refine H2 kc0 ?_;intro X hP G0 hf X0 hn hR K1 G1;refine V3 (j2 @q1 @q2) (P3 w1 w2) ?_;refine N3 ?_;simp[go_sem,hP,G0,hn,m4,N9] <;> (try omega);all_goals exact f9
 ·refine⟨m4,N9,4,⟨.inr (.inr (.inl rfl)),fun h=>absurd h q1⟩,fun h=>by simp at h,?_⟩;refine H2 kc0 ?_;intro X hP G0 hf X0 hn hR K1 G1;refine V3 @q1 (M0 w1) ?_;refine N3 ?_;simp[go_sem,hP,G0,hn,m4,N9] <;> (try omega);all_goals exact f9
theorem sa0(h:f.A0<=4096):f.chk=0:=by unfold wK;rw[if_neg oO]
abbrev sqD(g:List Ty)(hs:List Fm):DV:=.agg [.sl (g.map P1),.sl (hs.map L3)]
theorem ly0(k:CK Γ hs 0 0)(C6:∀h∈hs,h.typedN (gT Γ)=0):cU 104 [.sl [],sqD (gT Γ) hs] (j0 0):=by
 have wc:=UI (gT Γ) (fun x hx=>by have:=(Dc k.2.2.1 x hx).2;omega);rw[k.ctx]at wc;have k1:=k.1;have k2:=k.2.1;have hq:¬(16:Int)<hs.length:=oO;generalize hg:gT Γ=g at *;refine A3 Tryz.func104 fun X zX=>?_;refine N2 ?_;refine W8 ?_;refine V3 @hq (M0 wc) ?_;refine Q1 ?_;refine G2 [] tT (y7 (hs) (fun done rest=>[sP 3,sL 3 [.v (.sl (g.map P1)),.v (.sl (hs.map L3))],sV 38 (.sl (hs.map L3)),sV 39 (j0 hs.length),sV 40 (j0 done.length)]) ?_ ?_)
 ·intro done x rest hL B3 Z1;have I1:=E5 hL;have U2:=uE B3;have hx:=k.2.2.2 x U2;have w:=dX0 hx.1 (gT Γ) (Dc k.2.2.1) (by have:=hx.2;simp only[gB];omega) (by have:=hx.2;omega);rw[k.ctx,sa0 hx.2,hg,C6 x U2]at w;have w:cU 182 [.sl (g.map P1),x.dv] (j0 0):=w;refine K5 ?_;refine N1 @B3 (M0 w) ?_;refine W3 (wr []) tT tT Z1
 ·refine K2 ?_;refine Z6 ?_;exact O1 H0 H0
theorem du0(k:CK Γ hs 0 0)(C6:∀h∈hs,h.typedN (gT Γ)=0)(hp:PS p)(cp:p.A0<=1073741824)(hI:fO Γ hs p f e n)(hn:n<=1000000):
  ∃(f':Fm) (u:List Int),(S5 p.chk e=0->f' = f)/\cU 28 [.sl [],sqD (gT Γ) hs,p.dv] (.H1 [Kp f' u,j0 (S5 p.chk e)]):=by
 have ws:=ly0 k C6;have wp:=dZ0 hp cp;obtain⟨f',u,h1,h2,w⟩:=hI;by_cases q1:p.chk=0;rotate_left
 ·refine⟨m4,[],fun h=>absurd (aW h).1 q1,?_⟩;rw[show S5 p.chk e=p.chk by unfold S5;rw[if_neg q1]];refine H2 kd0 ?_;intro X hP G0 hf X0 hn hR K1 G1;refine V3 @q1 (P3 ws wp) ?_;refine N3 ?_;simp[go_sem,hP,G0,hn,m4,c7] <;> (try omega)
 rw[show S5 p.chk e=e by unfold S5;rw[if_pos q1]];rw[q1]at wp;by_cases q2:e=0
 ·obtain⟨rfl,h3,h4⟩:=h2 q2;have wc:=Mr f';refine⟨f',u,fun _=>rfl,?_⟩;exact B2 kd0 @q2 (cQ ws wp w wc)
 ·refine⟨m4,[],fun h=>absurd h q2,?_⟩;refine H2 kd0 ?_;intro X hP G0 hf X0 hn hR K1 G1;refine V3 @q2 (E8 ws wp w) ?_;refine N3 ?_;simp[go_sem,hP,G0,hn,m4,c7] <;> (try omega)
theorem CV(i:Nat):PS (fM i):=.mk (ix:=true) (ty:=false) (show dM 1 0 0 0 true false by unfold dM;decide) (by show (0:Int)<=i;omega) sS sS (fun _=>rfl) (by simp[fM,Bd]) (by simp[fM,Be]) (by simp[fM,Bf])
theorem fL0{a:Pf}(ha:PS a)(hb:PS b):PS (tF a b):=.mk (ix:=false) (ty:=false) (show dM 3 0 0 2 false false by unfold dM;decide) (by show (0:Int)<=0;omega) (fun _=>rfl) sS (fun _=>rfl) (by simp[tF,Bd]) (by simp[tF,Be]) (by
 intro x hx;simp[tF,Bf]at hx;rcases hx with rfl|rfl;· exact ha
 ·exact hb)
theorem gh0{a:Pf}(i:Bool)(ha:PS a):PS (xT (if i then 5 else 4) a):=.mk (ix:=false) (ty:=false) (show dM (if i then 5 else 4) 0 0 1 false false by unfold dM;cases i <;> decide) (by show (0:Int)<=0;omega) (fun _=>rfl) sS (fun _=>rfl) (by simp[xT,Bd]) (by simp[xT,Be]) (by
 intro x hx;simp[xT,Bf]at hx;subst hx;exact ha)
theorem MO{a:Pf}(hy:y.ok)(ha:PS a):PS (bO y a):=.mk (ix:=false) (ty:=true) (show dM 8 0 0 1 false true by unfold dM;decide) (by show (0:Int)<=0;omega) (fun _=>rfl) (fun _=>hy) sS (by simp[bO,Bd]) (by simp[bO,Be]) (by
 intro x hx;simp[bO,Bf]at hx;subst hx;exact ha)
theorem fM0{a:Pf}(ht:t.shape=true/\t.A0<=16384)(ha:PS a):PS (jW t a):=.mk (ix:=false) (ty:=false) (show dM 9 1 0 1 false false by unfold dM;decide) (by show (0:Int)<=0;omega) (fun _=>rfl) sS (fun _=>rfl) (by
 intro x hx;simp[jW,Bd]at hx;subst hx;exact ht) (by simp[jW,Be]) (by
 intro x hx;simp[jW,Bf]at hx;subst hx;exact ha)
theorem CW{a:Pf}(N5:Γ.length<=1000)(hf:FDn Γ f)(cf:f.A0<=1000000)(ht:t.shape=true/\t.A0<=16384)(ha:PS a):PS (d9 f t a):=.mk (ix:=false) (ty:=false) (show dM 10 1 1 1 false false by unfold dM;decide) (by show (0:Int)<=0;omega) (fun _=>rfl) sS (fun _=>rfl) (by
 intro x hx;simp[d9,Bd]at hx;subst hx;exact ht) (by
 intro x hx;simp[d9,Be]at hx;subst hx;exact⟨Γ,N5,hf,cf⟩) (by
 intro x hx;simp[d9,Bf]at hx;subst hx;exact ha)
theorem JO{a:Pf}(ha:PS a)(hb:PS b):PS (dP a b):=.mk (ix:=false) (ty:=false) (show dM 11 0 0 2 false false by unfold dM;decide) (by show (0:Int)<=0;omega) (fun _=>rfl) sS (fun _=>rfl) (by simp[dP,Bd]) (by simp[dP,Be]) (by
 intro x hx;simp[dP,Bf]at hx;rcases hx with rfl|rfl;· exact ha
 ·exact hb)
theorem Yb(hk:k=16\/k=17){a:Pf}(N5:Γ.length<=1000)(hf:FDn Γ f)(cf:f.A0<=1000000)(ht:t.shape=true/\t.A0<=16384)(ha:PS a)(hb:PS b):PS (fN k f t a b):=.mk (ix:=false) (ty:=false) (show dM k 1 1 2 false false by unfold dM;rcases hk with rfl|rfl <;> decide) (by show (0:Int)<=0;omega) (fun _=>rfl) sS (fun _=>rfl) (by
 intro x hx;simp[fN,Bd]at hx;subst hx;exact ht) (by
 intro x hx;simp[fN,Be]at hx;subst hx;exact⟨Γ,N5,hf,cf⟩) (by
 intro x hx;simp[fN,Bf]at hx;rcases hx with rfl|rfl;· exact ha
 ·exact hb)
theorem CN(ht:t.shape=true/\t.A0<=16384):PS (c9 t):=.mk (ix:=false) (ty:=false) (show dM 18 1 0 0 false false by unfold dM;decide) (by show (0:Int)<=0;omega) (fun _=>rfl) sS (fun _=>rfl) (by
 intro x hx;simp[c9,Bd]at hx;subst hx;exact ht) (by simp[c9,Be]) (by simp[c9,Bf])
theorem JP{a:Pf}(N5:Γ.length<=1000)(hf:FDn Γ f)(cf:f.A0<=1000000)(ha:PS a)(hb:PS b):PS (dQ f a b):=.mk (ix:=false) (ty:=false) (show dM 19 0 1 2 false false by unfold dM;decide) (by show (0:Int)<=0;omega) (fun _=>rfl) sS (fun _=>rfl) (by simp[dQ,Bd]) (by
 intro x hx;simp[dQ,Be]at hx;subst hx;exact⟨Γ,N5,hf,cf⟩) (by
 intro x hx;simp[dQ,Bf]at hx;rcases hx with rfl|rfl;· exact ha
 ·exact hb)
theorem Yw(t s:Tm):∀d:Int,0<=d->t.shape=true->(t.V0 d 1).Y1 0 d s=t:=by
 induction t using m7 with
 | h t ih=>
 intro d hd hs;obtain⟨hlen,-,-,hz,V9⟩:=j9 hs;rw[cL,Tm.inN_eq,Z9,fE,kL,M8];by_cases h1:t.o0=1
 ·have ha:t.B0=[]:=by rw[h1]at hlen;simp[C5]at hlen;exact hlen
  have hy:t.I0=L0 0 []:=MM (by simpa [h1] using hz);have et:t=U0 1 t.O0 (L0 0 []) []:=CS t h1 rfl hy ha;rw[if_pos h1];by_cases h2:d<=t.O0
  ·have e5:(if t.o0=1/\d<=t.O0 then t.O0+1 else t.O0)=t.O0+1:=if_pos ⟨h1,h2⟩;rw[e5,if_neg oO,if_pos oO,show t.O0+1 - 1=t.O0 from oO];exact et.symm
  ·have e5:(if t.o0=1/\d<=t.O0 then t.O0+1 else t.O0)=t.O0:=if_neg fun h=>h2 h.2;rw[e5,if_neg oO,if_neg oO,ha,O5,<- ha];exact Cn t
 ·have e5:(if t.o0=1/\d<=t.O0 then t.O0+1 else t.O0)=t.O0:=if_neg fun h=>h1 h.1;have hb:=lT t.o0;rw[if_neg h1,e5,wI];have e3:(t.B0.map ((fun x:Tm=>x.Y1 0 (d+W2 t.o0) s) ∘ fun x:Tm=>x.V0 (d+W2 t.o0) 1))=t.B0:=by
   conv=>rhs;rw[<- yW t.B0]
   exact kW fun x hx=>ih x hx (d+W2 t.o0) oO (V9 x hx)
  rw[e3];exact Cn t
theorem bY{s:Tm}{F:Q0 Γ->N0.V}(h:Dn Γ s .C0 F):FDn Γ (X4 s):=.q (a:=N0) sS (by show _<=64;decide) (.eq (.var .zero) (xN h [N0]))
theorem eG(s:Tm):(X4 s).A0=s.A0+3:=by
 have h1:(X4 s).A0=1+0+((1+((vT 0).A0+((s.V0 0 1).A0+0))+0)+0):=rfl;have h2:(vT 0).A0=1:=rfl;rw[h1,h2,iO];omega
theorem nY{F:Q0 Γ->a.V}(h:Dn Γ t a F)(hc:Γ.length+t.A0<=1099511627776):t.idx 1099511627776:=sF t _ (Z5 h) (gW h _ oO)
theorem mX(i:Int):cU 31 [j0 i] (vT i).dv:=WU i
abbrev y5(g:Tm):Tm:=nT 3 [g,vT 0]
def gF(g:Tm):Fm:=qF 4 Y0 (X4 (y5 g))
def P9(g:Tm):Pf:=bO Y0 (d9 (X4 (y5 g)) (y5 g) (c9 (y5 g)))
theorem GL{g:Tm}{G:Q0 []->(y8 .C0 .C0).V}(hg:Dn [] g (.fn .C0 .C0) G):∃F:Q0 [N0]->N0.V,Dn [N0] (y5 g) .C0 F:=⟨_,.app (F7 hg [N0]) (.var .zero)⟩
theorem Cy(g:Tm):(y5 g).A0=g.A0+2:=by
 have h1:(y5 g).A0=1+(g.A0+((vT 0).A0+0)):=rfl;have h2:(vT 0).A0=1:=rfl;omega
theorem Ew{g:Tm}{G:Q0 []->(y8 .C0 .C0).V}(hg:Dn [] g (.fn .C0 .C0) G):FDn [] (gF g):=by
 obtain⟨F,hd⟩:=GL hg;exact .q (a:=N0) sS (by show _<=64;decide) (bY hd)
theorem ED{g:Tm}{G:Q0 []->(y8 .C0 .C0).V}(hg:Dn [] g (.fn .C0 .C0) G)(cg:g.A0<=10000):PS (P9 g):=by
 obtain⟨F,hd⟩:=GL hg;have h1:=Z5 hd;have h2:=Cy g;have h3:=eG (y5 g);exact MO (y:=Y0) (M9 (a:=N0) (by show _<=64;decide)) (CW (Γ:=[N0]) dD (bY hd) oO ⟨h1,oO⟩ (CN ⟨h1,oO⟩))
theorem LJ(g:Tm):(P9 g).A0=1+((1+(y5 g).A0+(X4 (y5 g)).A0)+(1+(y5 g).A0)):=by
 have:(P9 g).A0=1+0+0+((1+((y5 g).A0+0)+((X4 (y5 g)).A0+0)+((1+((y5 g).A0+0)+0+0)+0))+0):=rfl;omega
theorem Yc:CK [] [] 1 0:=⟨dD,dD,sS,sS⟩
theorem gi0:CK [N0] [] 0 0:=⟨dD,dD,by simp;show _<=64;decide,sS⟩
theorem Si(k:CK Γ hs 1 0){g:Tm}{G:Q0 []->(y8 .C0 .C0).V}(hg:Dn [] g (.fn .C0 .C0) G)(cg:g.A0<=10000):∃e,s6 e/\fO Γ hs (P9 g) (gF g) e ((y5 g).A0):=by
 have N4:=Cy g;have k2:CK (N0::Γ) (Q5 hs 1) 0 0:=k.below (by show _<=64;decide);have hd:Dn (N0::Γ) (y5 g) .C0 _:=.app (F7 hg _) (.var .zero);obtain⟨e1,l1,-,r1⟩:=CC k2 hd oO;have i1:=E7 r1;have hq:(I3 (vT 0) ((y5 g).V0 0 1)).Y1 0 0 (y5 g)=I3 (y5 g) (y5 g):=by
  have h1:=Yw (y5 g) (y5 g) 0 dD (Z5 hd);have h2:(vT 0).Y1 0 0 (y5 g)=y5 g:=by
   rw[BA,if_pos dD];exact Jx _ _
  show oV 1 _ [(vT 0).Y1 0 0 (y5 g),((y5 g).V0 0 1).Y1 0 0 (y5 g)] []=_;rw[h1,h2];rfl
 have KO:(I3 (vT 0) ((y5 g).V0 0 1)).A0=1+((vT 0).A0+(((y5 g).V0 0 1).A0+0))+0:=rfl;have OD:(vT 0).A0=1:=rfl;rw[iO]at KO;obtain⟨e2,-,l2,r2⟩:=CL k2 (s:=N0) (bY hd) oO hd oO dD i1;have i2:=E7 r2;have r3:=MB k (s:=N0) (by show _<=64;decide) i2 oO;have i3:=E7 r3;refine⟨_,?_,by rw[G8]at i3;exact i3⟩;exact tD (tD (l2 (tD l1 (Bw _)) hq.symm) (Bw _)) (Bw _)
theorem UZ{g:Tm}{G:Q0 []->(y8 .C0 .C0).V}(hg:Dn [] g (.fn .C0 .C0) G)(cg:g.A0<=10000) :
  ∃(f':Fm) (p':Pf) (e:Int),s6 e/\(e=0->f' = gF g/\p' = P9 g/\(gF g).chk=0/\(P9 g).chk=0)/\((g.typeE []).2=0->(gF g).chk=0->(P9 g).chk=0->e=0)/\cU 26 [g.dv] (.H1 [f'.dv,p'.dv,j0 e]):=by
 obtain⟨e0,t1,t2,wt⟩:=Bl hg oO pN rfl;have N4:=Cy g;have hci:=eG (y5 g);have TE:=LJ g;have kF:(gF g).A0=1+0+((X4 (y5 g)).A0+0):=rfl;obtain⟨f',p',e',⟨r1,r0⟩,r2,wc⟩:=MD (Ew hg) oO (ED hg cg) oO;obtain⟨F,hd⟩:=GL hg;have hid:=nY hd (by simp;omega);obtain⟨OY,e_tv1⟩:∃x:Tm,x=vT 0:=⟨_,rfl⟩;have w_tv1:=mX 0;rw[<- e_tv1]at w_tv1;obtain⟨nL,e_tv2⟩:∃x:Tm,x=y5 g:=⟨_,rfl⟩;have w_tv2:=qV g [OY] sS;simp only[G4,O5]at w_tv2;have e_app:fQ g [OY]=nL:=by rw[e_tv2,e_tv1];rfl
 rw[e_app]at w_tv2;rw[<- e_tv2]at hid N4 hci TE;have w_fv4:=wY nL hid oO;obtain⟨Hs,e_fv4⟩:∃x:Fm,x=X4 nL:=⟨_,rfl⟩;rw[<- e_fv4]at w_fv4;have w_fv5:=Jo Y0 Hs;obtain⟨fv5,e_fv5⟩:∃x:Fm,x=qF 4 Y0 Hs:=⟨_,rfl⟩;rw[<- e_fv5]at w_fv5;have w_pv6:=Cz nL;obtain⟨Ox,e_pv6⟩:∃x:Pf,x=c9 nL:=⟨_,rfl⟩;rw[<- e_pv6]at w_pv6;have w_pv7:=CD Hs nL Ox;obtain⟨Ow,e_pv7⟩:∃x:Pf,x=d9 Hs nL Ox:=⟨_,rfl⟩;rw[<- e_pv7]at w_pv7;have w_pv8:=Mg Y0 Ow;obtain⟨Fh,e_pv8⟩:∃x:Pf,x=bO Y0 Ow:=⟨_,rfl⟩;rw[<- e_pv8]at w_pv8;have g1:gF g=fv5:=by rw[e_fv5,e_fv4,e_tv2];rfl
 have g2:P9 g=Fh:=by rw[e_pv8,e_pv7,e_pv6,e_fv4,e_tv2];rfl
 rw[g1,g2]at wc r2 r0 ⊢;by_cases q:e0=0
 ·refine⟨f',p',e',r1,r2,fun _=>r0,?_⟩;exact B2 Tryz.func26 @q (cC IG wt w_tv1 w_tv2 sM w_fv4 w_fv5 sM (T9 w_fv4 w_pv6 w_pv7 w_pv8 wc))
 ·refine⟨m4,N9,e0,t1,fun h=>absurd h q,fun h=>absurd (t2.trans h) q,?_⟩;refine H2 Tryz.func26 ?_;intro X hP G0 hf X0 hn hR K1 G1;refine V3 @q (P3 IG wt) ?_;refine N3 ?_;simp[go_sem,hP,G0,hn,m4,N9] <;> (try omega);all_goals exact f9
theorem gj0(h:FDn Γ f)(s:Tm):∀d:Int,0<=d->(f.V0 d 1).Y1 0 d s=f:=by
 have key:∀(f:Fm) (d:Int),(∀t∈f.M1,t.shape=true)->0<=d->(∀a∈f.B0,(a.V0 (d+H3 f.o0) 1).Y1 0 (d+H3 f.o0) s=a)->(f.V0 d 1).Y1 0 d s=f:=fun f d h1 hd h2=>by
  rw[tY,Fm.inN_eq,Ik,Le,FN,FO,wI,wI];have e1:(f.M1.map ((fun x=>x.Y1 0 d s) ∘ fun x=>x.V0 d 1))=f.M1:=by
   conv=>rhs;rw[<- yW f.M1]
   exact kW fun x hx=>Yw x s d hd (h1 x hx)
  have e2:(f.B0.map ((fun x=>x.Y1 0 (d+H3 f.o0) s) ∘ fun x=>x.V0 (d+H3 f.o0) 1))=f.B0:=by
   conv=>rhs;rw[<- yW f.B0]
   exact kW fun x hx=>h2 x hx
  rw[e1,e2,Fm.eta]
 induction h with
 | eq h1 h2=>exact fun d hd=>key _ d (by simp[I3,mN,Z5 h1,Z5 h2]) hd (by simp[I3,lP])
 | two hk h1 h2 i1 i2=>exact fun d hd=>key _ d (by simp[U5,mN]) hd (by
   intro a ha;simp only[U5,lP]at ha;rcases u5.1 ha with rfl|ha;· exact i1 _ (ke0 hd (rA _).1)
   ·rw[bM.1 ha];exact i2 _ (ke0 hd (rA _).1))
 | q hk hs h i=>exact fun d hd=>key _ d (by simp[qF,mN]) hd (by
   intro a ha;rw[bM.1 ha];exact i _ (ke0 hd (rA _).1))
theorem mN0(h:FDn Γ f)(N5:Γ.length<=1000)(hu:FDn (s::Γ) (f.V0 0 1))(hc:f.A0<=4096):cU 211 [(f.V0 0 1).dv] (.H1 [f.dv,j0 0]):=by
 have oQ:=Bm f 0 1;have hg:=lU hu 1073741824 (by simp only[B4];omega);have h0:=(Xc f 0 dD).1;have w5:=QV (f.V0 0 1) 0 hg oO dD;rw[h0]at w5;have w6:=RT (f.V0 0 1) 0 M6 hg oO dD (.inr h0);rw[gj0 h M6 0 dD]at w6;have w6:cU 286 [(f.V0 0 1).dv,j0 0,.agg [j0 0,j0 0,j0 0,.sl [],.sl []]] f.dv:=w6;generalize f.V0 0 1=v at *;refine A3 Tryz.func211 fun X zX=>?_;refine E4 (bx [1000001]) tT ?_;exact O1 H0 (P3 w5 w6)
theorem zJ0(K3:D6 gl 2=some A7)(k:CK Γ hs 0 0)(hf:FDn Γ (qF 5 s.ty f))(oK:(qF 5 s.ty f).chk=0)(hg:(qF 5 s.ty f).typedN (gT Γ)=0){F:Q0 Γ->s.V}(ht:Dn Γ t s F)(hc:t.A0<=4096)(hy:t.typeE (gT Γ)=(s.ty,0)){a:Pf}{fa:Fm}
  (ha:gH true Γ hs a fa) (Q6:FDn Γ fa) (ca:fa.A0<=4096) (hp:I6 f t=0) (hm:(f.Y1 0 0 t).MatE fa=0):gH false Γ hs (d9 (qF 5 s.ty f) t a) (qF 5 s.ty f):=by
 refine⟨124,.inr ⟨rfl,rfl⟩,fun N5 Ω kn hΩ ho hk=>?_⟩;obtain⟨u,u1,u2,wa⟩:=ha.inf N5 hΩ ho hk;obtain⟨v,v1,wf⟩:=Xd ht oO hc;have v2:=JN oO v1;refine⟨u ||| v,Ix u1 v1,?_⟩;have hq:=nB hf;have O8:∀a∈Γ++Ω,a.ok:=fun a ha=>(t6.1 ha).elim (k.2.2.1 a) (ho a);obtain⟨F',hd⟩:=Jy ht Ω;obtain⟨z,e,-,h1,-,h3,wt⟩:=XZ ⟨by simp;omega,O8⟩ hd oO;have h3:=h3 (Rm hy k.ctx Ω);rw[h1 h3,h3]at wt;have cf:(qF 5 s.ty f).A0<=4096:=by unfold wK at oK;split at oK <;> omega
 obtain⟨e2,-,h4,wc⟩:=XB (Mz hf Ω) (by simp;omega) O8;rw[h4 (by rw[Su];exact Wz _ hg)]at wc;have eo:=Gz u2 v2;have wy:=e10 s.ty s.ty (M9 hq.1);rw[(y9 s.ty s.ty).2 rfl]at wy;have wm:=Qr K3 wa Q6 ca hq.2 ht oO hp hm;have l1:=fW a;have lf:=cX f;have lt:=mM t;have TT:(qF 5 s.ty f).E0=[j0 5,j0 s.ty.o0,.sl (s.ty.B0.map P1),.sl [],.sl [f.E0]]:=by rw[aA];rfl
 rw[W7]at wt wy;rw[CI,TT];rw[dL]at wc;show P8 _ _ _ _ _ (.H1 [.agg [j0 5,j0 s.ty.o0,.sl (s.ty.B0.map P1),.sl [],.sl [f.E0],Jj2 (u ||| v)],j0 0]) _;generalize u ||| v=x at *;generalize gT (Γ++Ω)=g at *;refine H2 Tryz.func124 ?_;intro X hP G0 hf X0 hn hR K1 G1;refine V3 H0 (cQ wc wt wy wm) ?_;refine U6 tT fun K hK=>?_;refine op0 (fun _ _=>iN) hP G0 wf sG sG sG sS nN ?_;simp[go_sem,hP,G0,hn,eo];refine K4 ?_;clear hK K;exact rF
theorem zK0(k:CK Γ hs 1 1)(Aq:s.ok){a:Pf}{fo:Fm}(ha:gH true Γ hs a (qF 5 s.ty fa))(Q6:FDn (s::Γ) fa)(ca:fa.A0<=4096)(hb:gH true (s::Γ) (Q5 hs 1++[fa]) b (fo.V0 0 1))(dU:FDn (s::Γ) (fo.V0 0 1))(cb:fo.A0<=4096)(aG:FDn Γ fo):gH false Γ hs (dP a b) fo:=by
 refine⟨125,.inr ⟨rfl,rfl⟩,fun N5 Ω kn hΩ ho hk=>?_⟩;have k1:=k.1;have k2:=k.2.1;have G0:=gB (Γ++Ω);have fU:(Γ++Ω).length<=16:=by simp;omega
 have Y5:=(hk.below 1).with (f:=fa) (lU Q6 _ (by simp only[B4];omega)) ca
 obtain⟨u,u1,u2,wa⟩:=ha.inf N5 hΩ ho hk;obtain⟨v,v1,v2,wb⟩:=hb.inf (by simp only[B4];omega) hΩ ho Y5;have v3:v / 2 ^ 1<2 ^ Γ.length:=by rw[B4,js0]at v1;omega
 refine⟨u ||| v / 2 ^ 1,Ix u1 v3,?_⟩;have eo:=Gz u2 (JN oO v3);have wo:=Sg v 1 v2 dD;have ws:=QG wa (k:=5) rfl;have ws:cU 200 [cD,a.dv,iB (gT (Γ++Ω)) kn,j0 5] (.H1 [.agg [j0 5,j0 s.ty.o0,.sl (s.ty.B0.map P1),.sl [],.sl [fa.E0],Jj2 u],j0 0]):=ws;have wm:=RG (gT (Γ++Ω)).length kn.length 1 1 (by rw[G0];simp;omega) (by rw[hk.1];omega);have wl:=Rk (gT (Γ++Ω)) [s.ty] kn (by simpa using M9 Aq) ⟨oO,sS⟩;have ww:=ei0 (gT (Γ++Ω)++[s.ty]) kn fa (by have:=hk.1;simp;omega);rw[R6,sO]at wb;rw[show (gT (Γ++Ω)++[s.ty]).length=(Γ++Ω).length+1 by simp[G0]]at ww;have wt:=mN0 aG oO dU cb;have l1:=fW a;have l2:=fW b;have lf:=cX fa;rw[Eu];simp only[G4,O5]at wl;generalize fo.V0 0 1=f2 at *;generalize v / 2 ^ 1=v' at *;generalize u ||| v' = x at *;generalize hgq:gT (Γ++Ω)++[s.ty]=g2 at *;generalize hkq:kn++[(⟨fa,(Γ++Ω).length+1⟩:Hy)]=kn2 at *;generalize gT (Γ++Ω)=g at *;refine H2 Tryz.func125 ?_;intro X hP G0 hf X0 hn hR K1 G1;refine V3 H0 (P3 ws wm) ?_;exact O1 @eo (T9 wl ww wb wt wo)
theorem k70:cU 212 [j0 16] (.agg ([j0 1]++(nT 4 []).E0++[.sl [[j0 1,.sl []]]]++(nT 5 [vT (0:Nat)]).E0)):=by
 have w1:=Nf 4 [];have w2:=Gc 0;have w3:=Nf 5 [vT (0:Nat)];have w1:cU 289 [j0 4,.sl []] (nT 4 []).dv:=w1;have w3:cU 289 [j0 5,.sl [[j0 1,j0 0,j0 0,.sl [],.sl []]]] (nT 5 [vT (0:Nat)]).dv:=w3;refine H2 Tryz.func212 ?_;intro X hP G0 hf X0 hn hR K1 G1;refine N1 H0 (cQ w1 Mp w2 w3) ?_;refine Q1 ?_;first|refine xD hP hf X0 hR ?_|refine xE hP hf X0 hR ?_
 simp[go_sem,hP,G0,hn,nT] <;> (try omega)
theorem kK0:cU 212 [j0 17] (.agg ([j0 2]++(nT 7 []).E0++[.sl [[j0 1,.sl []],[j0 2,.sl []]]]++(nT 8 [vT (1:Nat),vT (0:Nat)]).E0)):=by
 have w1:=Nf 7 [];have w2:=Gc 0;have w4:=Gc 1;have w3:=Nf 8 [vT (1:Nat),vT (0:Nat)];have w1:cU 289 [j0 7,.sl []] (nT 7 []).dv:=w1;have w3:cU 289 [j0 8,.sl [[j0 1,j0 1,j0 0,.sl [],.sl []],[j0 1,j0 0,j0 0,.sl [],.sl []]]] (nT 8 [vT (1:Nat),vT (0:Nat)]).dv:=w3;refine H2 Tryz.func212 ?_;intro X hP G0 hf X0 hn hR K1 G1;refine N1 H0 (nD w1 Mp dN0 w4 w2 w3) ?_;refine Q1 ?_;first|refine xD hP hf X0 hR ?_|refine xE hP hf X0 hR ?_
 simp[go_sem,hP,G0,hn,nT] <;> (try omega)
theorem lE:N0.ok:=by show _<=64;decide
theorem gM0:T.list.ok:=by show _<=64;decide
theorem C00(k:Int)(y:Ty)(f:Fm):(qF k y f).A0=1+0+(f.A0+0):=rfl
theorem fN0(K3:D6 gl 2=some A7){Γ Γs:List T}{hs:List Fm}{kd k0:Int}{l:List Ty}{base next:Tm}(hkd:BD Kr kd=some 126)(bK:s0.ty=L0 k0 [])(Aq:s0.ok)(hl:∀x∈l,x.ok)(Fo:1<=l.length/\l.length<=2)
  (tR:cU 212 [j0 kd] (.agg ([j0 k0]++base.E0++[.sl (l.map P1)]++next.E0))) (ZM:∀Ω,gT (Γs++Ω)=gT (Γ++Ω)++l) (hlen:Γs.length=Γ.length+l.length)
  (k:CK Γ hs l.length 1) {f:Fm} (hf:FDn (s0::Γ) f) (cf:f.A0<=4096) (hg:f.typedN (gT (s0::Γ))=0) {t:Tm} {F:Q0 Γ->s0.V} (ht:Dn Γ t s0 F) (hc:t.A0<=4096) (hy:t.typeE (gT Γ)=(s0.ty,0)) {a b:Pf} {fa fb:Fm}
  (ha:gH true Γ hs a fa) (Q6:FDn Γ fa) (ca:fa.A0<=4096) {B:Q0 Γ->s0.V} (hdb:Dn Γ base s0 B) (hp:I6 f base=0) (hm:(f.Y1 0 0 base).MatE fa=0)
  (hb:gH true Γs (Q5 hs l.length++[f.V0 1 (l.length - 1)]) b fb) (dU:FDn Γs fb) (cb:fb.A0<=4096) {N:Q0 Γs->s0.V} (C7:Dn Γs next s0 N) (AK:FDn (s0::Γs) (f.V0 1 l.length)) (T4:FDn Γs (f.V0 1 (l.length - 1))) (hq:I6 (f.V0 1 l.length) next=0) (dG:((f.V0 1 l.length).Y1 0 0 next).MatE fb=0) (hr:I6 f t=0) :
  gH false Γ hs (fN kd f t a b) (f.Y1 0 0 t):=by
 refine⟨126,.inr ⟨rfl,hkd⟩,fun N5 Ω kn hΩ ho hk=>?_⟩;have k1:=k.1;have k2:=k.2.1;have G0:=gB (Γ++Ω);have fU:(Γ++Ω).length+l.length<=16:=by simp;omega
 have Od:=lU hf 1073741824 (by simp only[B4];omega);have hcu1:=Bm f 1 (l.length - 1);have Y5:=(hk.below l.length).with (f:=f.V0 1 (l.length - 1)) (lU T4 _ oO) oO
 rw[show (Γ++Ω).length+l.length=(Γs++Ω).length by simp;omega]at Y5;obtain⟨u,u1,u2,wa⟩:=ha.inf N5 hΩ ho hk;obtain⟨v,v1,v2,wb⟩:=hb.inf oO hΩ ho Y5;obtain⟨z,z1,wf⟩:=Xd ht oO hc;have z2:=JN oO z1;have v3:v / 2 ^ l.length<2 ^ Γ.length:=by
  rw[hlen,Nat.pow_add,Nat.mul_comm]at v1;exact Nat.div_lt_of_lt_mul v1
 have x1:z ||| u<2 ^ Γ.length:=Ix z1 u1;refine⟨z ||| u ||| v / 2 ^ l.length,Ix x1 v3,?_⟩;have eo1:=Gz z2 u2;have eo2:=Gz (JN oO x1) (JN oO v3);have wo:=Sg v l.length v2 oO;have O8:∀a∈Γ++Ω,a.ok:=fun a ha=>(t6.1 ha).elim (k.2.2.1 a) (ho a);have hok1:∀a∈s0::(Γ++Ω),a.ok:=fun a ha=>(u5.1 ha).elim (fun h=>h ▸ Aq) (O8 a);obtain⟨e2,-,h4,wc⟩:=XB (Γ:=s0::(Γ++Ω)) (Mz hf Ω) (by simp only[B4];omega) hok1;rw[h4 (by rw[show s0::(Γ++Ω)=(s0::Γ)++Ω from rfl,Su];exact Wz _ hg),sO]at wc;obtain⟨F',hd⟩:=Jy ht Ω;obtain⟨e,-,h3,wh⟩:=fH0 ⟨oO,O8⟩ hd oO k0 (by rw[bK];rfl);rw[h3 (Rm hy k.ctx Ω)]at wh;have ww0:=RD (gT (Γ++Ω)) [s0.ty] (by simpa using M9 Aq) ⟨oO,sS⟩;have ZP:=Qr K3 wa Q6 ca hf hdb oO hp hm;have wmo:=RG (gT (Γ++Ω)).length kn.length l.length 1 (by rw[G0];omega) (by rw[hk.1];omega);have wl:=Rk (gT (Γ++Ω)) l kn hl ⟨oO,oO⟩;have OT:=Rz f 1 (l.length - 1) Od oO dD oO;have OV:=Rz f 1 l.length Od oO dD oO;have ww:=ei0 (gT (Γs++Ω)) kn (f.V0 1 (l.length - 1)) (by have:=hk.1;rw[gB];simp;omega);rw[gB]at ww;have wm2:=Qr K3 wb dU cb AK C7 oO hq dG;have wp:=Sf K3 hf ht oO hr;rw[<- ZM Ω]at wl;have lf:=cX f
 have lt:=mM t;have la:=fW a;have lb:=fW b;rw[bK]at ww0 wc;have ww0:cU 213 [.sl ((gT (Γ++Ω)).map Q4),.sl [[j0 k0,.sl []]]] (.sl ((gT (Γ++Ω)++[L0 k0 []]).map Q4)):=ww0;rw[Jz];generalize f.Y1 0 0 t=fr at *;generalize f.V0 1 (l.length - 1)=f1 at *;generalize f.V0 1 l.length=f2 at *;generalize v / 2 ^ l.length=v' at *;generalize z ||| u=x at *;generalize x ||| v' = y at *;generalize hkq:kn++[(⟨f1,(Γs++Ω).length⟩:Hy)]=kn2 at *;generalize gT (Γs++Ω)=g2 at *;generalize (gT (Γ++Ω)++[L0 k0 []]).map Q4=g1 at *;generalize gT (Γ++Ω)=g at *;exact B2 Tryz.func126 (j2 @eo1 @eo2) (cC tR ww0 wc wh ZP wmo wl OT (nD ww OV wm2 wp wf wo))
theorem zL0(K3:D6 gl 2=some A7)(k:CK Γ hs 0 0)(hf:FDn (.C0::Γ) f)(cf:f.A0<=4096)(hg:f.typedN (gT (.C0::Γ))=0){a b:Pf}{s s':Tm}{fb:Fm}{S S':Q0 Γ->N0.V}(c8:Dn Γ s .C0 S)(hds':Dn Γ s' .C0 S')
  (ha:gH true Γ hs a (I3 s s')) (hb:gH true Γ hs b fb) (dU:FDn Γ fb) (cb:fb.A0<=4096) (hp:I6 f s=0) (hm:(f.Y1 0 0 s).MatE fb=0) (hr:I6 f s' = 0):gH false Γ hs (dQ f a b) (f.Y1 0 0 s'):=by
 refine⟨128,.inr ⟨rfl,rfl⟩,fun N5 Ω kn hΩ ho hk=>?_⟩;obtain⟨u,u1,u2,wa⟩:=ha.inf N5 hΩ ho hk;obtain⟨v,v1,v2,wb⟩:=hb.inf N5 hΩ ho hk;refine⟨v,v1,?_⟩;have G0:=gB (Γ++Ω);have fU:(Γ++Ω).length<=16:=by simp;omega
 have hok1:∀a∈N0::(Γ++Ω),a.ok:=fun a ha=>(u5.1 ha).elim (fun h=>h ▸ lE) fun ha=>(t6.1 ha).elim (k.2.2.1 a) (ho a);obtain⟨e2,-,h4,wc⟩:=XB (Γ:=.C0::(Γ++Ω)) (Mz hf Ω) (by simp only[B4];omega) hok1;rw[h4 (by rw[show N0::(Γ++Ω)=(N0::Γ)++Ω from rfl,Su];exact Wz _ hg),sO]at wc;have ww0:=RD (gT (Γ++Ω)) [N0.ty] (by simpa using M9 lE) ⟨oO,sS⟩;have ww0:cU 213 [.sl ((gT (Γ++Ω)).map Q4),.sl [[j0 1,.sl []]]] (.sl ((gT (Γ++Ω)++[N0.ty]).map Q4)):=ww0;have ws:=QG wa (k:=1) rfl;have ws:cU 200 [cD,a.dv,iB (gT (Γ++Ω)) kn,j0 1] (.H1 [.agg [j0 1,j0 0,.sl [],.sl [s.E0,s'.E0],.sl [],Jj2 u],j0 0]):=ws;have wm:=Qr K3 wb dU cb hf c8 oO hp hm;have wp:=Sf K3 hf hds' oO hr;have lf:=cX f;have lt:=mM s;have lt':=mM s';have la:=fW a;have lb:=fW b;rw[Bx];generalize f.Y1 0 0 s' = fr at *;generalize (gT (Γ++Ω)++[N0.ty]).map Q4=g1 at *;generalize gT (Γ++Ω)=g at *;exact B2 Tryz.func128 H0 (nD Mp ww0 wc ws wm wp)
theorem gV0(K3:D6 gl 2=some A7){b:Bool}(h:Ok b Γ hs p f):gH b Γ hs p f:=by
 have dd:∀{Γ hs p f},Ok true Γ hs p f->FDn Γ f/\f.A0<=4096:=fun h=>by cases h with|chk _ hd hc _=>exact⟨hd,hc⟩
 have ck:∀{f:Fm},f.chk=0->f.A0<=4096:=fun {f} h=>by unfold wK at h;split at h <;> omega
 induction h with
 | chk h hd hc hn ih=>
  obtain⟨r,⟨h1,-⟩|⟨-,h1⟩,h2⟩:=ih;· cases h1
  ·refine⟨_,.inl ⟨rfl,rfl⟩,fun N5 Ω kn hΩ ho hk=>?_⟩;obtain⟨u,u1,w⟩:=h2 N5 Ω kn hΩ ho hk;exact⟨_,by split;exact u1;exact UF dD,XG K3 h1 w hd hc hn⟩
 | hyp k hi I1=>exact zH0 hi I1 (by have:=k.2.1;omega)
 | andi ha hb i1 i2=>exact wO0 i1 i2
 | and i ha ih=>exact zI0 i ih
 | refl k ht hc hy=>exact wP0 k ht hc hy
 | alli k bH ha ih=>exact wQ0 k bH ih
 | alle k ht hc hy ha hp ih=>exact wR0 K3 k (nB (dd ha).1).1 ht hc hy ih (nB (dd ha).1).2 hp
 | exi k hf hk hg ht hc hy ha hp hm gK ih=>exact zJ0 K3 k hf hk hg ht hc hy ih (dd ha).1 (dd ha).2 hp hm
 | exe k ha hb aG i1 i2=>
  have hd:=nB (dd ha).1;have h2:=(dd ha).2;rw[C00]at h2;exact zK0 k hd.1 i1 hd.2 oO i2 (dd hb).1 (by have:=(dd hb).2;rw[Bm]at this;exact this) aG
 | ind k hf hk hg ht hc hy ha hp hm hb hq hn hr h5 i1 i2=>
  exact fN0 (l:=[N0.ty]) K3 rfl rfl lE (by simpa using M9 lE) dD k70 (fun Ω=>sO _ _) rfl k hf (ck hk) hg ht hc hy i1 (dd ha).1 (dd ha).2 .zero hp hm (by simpa [Xe] using i2) (dd hb).1 (dd hb).2 (.succ (.var .zero)) (CU (Ξ:=[.C0]) hf [.C0] rfl) (by simpa [Xe] using hf) hq hn hr
 | lists k hf hk hg ht hc hy ha hp hm hb hq hn hr h5 i1 i2=>
  exact fN0 (l:=[N0.ty,T.list.ty]) K3 rfl rfl gM0 (by intro x hx;simp at hx;rcases hx with rfl|rfl;exact M9 lE;exact M9 gM0) dD kK0 (fun Ω=>by rw[R6,R6,sO,sO];simp) rfl k hf (ck hk) hg ht hc hy i1 (dd ha).1 (dd ha).2 .nil hp hm i2 (dd hb).1 (dd hb).2 (.cons (.var (.succ .zero)) (.var .zero)) (CU (Ξ:=[.list,.C0]) hf [.list] rfl) (CU (Ξ:=[.C0]) hf [.list] rfl) hq hn hr
 | sub k hf hk hg cs N7 c8 hds' ha hb hp hm hr i1 i2=>exact zL0 K3 k hf (ck hk) hg c8 hds' i1 i2 (dd hb).1 (dd hb).2 hp hm hr
def Tg(k:Int)(i:Nat):Int:=if k=8\/k=12 then [0,1,0].getD i 0 else if k=11 then [0,1,1].getD i 0 else if k=16 then 1 else if k=17 then [1,2,1].getD i 0 else if k=19 then [1,0,0].getD i 0 else 0
theorem sb0(hru:D6 gl 1=some CZ){a b c:Nat}{ix ty:Bool}(h:dM k a b c ix ty):cU 279 [j0 k] (.H1 [.agg [O2 ix,O2 ty,j0 a,j0 b,j0 c,j0 (Tg k 0),j0 (Tg k 1),j0 (Tg k 2)],O2 true]):=by
 have hk:=hru;simp only[CZ,jY]at hk;rcases h with h|h|h|h|h|h|h|h|h|h
 all_goals
  obtain⟨h0,rfl,rfl,rfl,rfl,rfl⟩:=h;first|subst h0|rcases h0 with rfl|rfl
 all_goals
  refine H2 Tryz.func279 ?_;intro X hP G0 hf X0 hn hR K1 G1;refine U1 @hk ?_;refine N3 ?_;simp[go_sem,hP,G0,hn,Tg] <;> (try omega)
def Pf.tn:Pf->Nat
 | .mk _ _ _ ts fs a=>1+tns ts+fns fs+go a
where
 tns:List Tm->Nat
  | []=>0
  | t::r=>(if t.L4=0 then t.A0 else 0)+tns r
 fns:List Fm->Nat
  | []=>0
  | f::r=>(if f.chk=0 then f.A0 else 0)+fns r
 go:List Pf->Nat
  | []=>0
  | a::r=>a.tn+go r
theorem en0(n m:Nat)(l:Bool)(e:Int)(b:Nat)(dG:n<=1000000000)(hm:m<=1000000000)(he:e=0\/e=4):cT 281 [M3 b,j0 m,j0 e] [(b,[j0 n,O2 l])] (O2 true) [(b,[j0 ((n+m:Nat):Int),O2 (l||decide (e=4))])]:=by
 obtain⟨w,hw⟩:∃w,w=(l||decide (e=4)):=⟨_,rfl⟩;rw[<- hw];rcases he with rfl|rfl <;> cases l
 all_goals
  simp at hw;refine A3 Tryz.func281 fun X zX=>?_;refine N2 ?_;exact s7 [(b,[j0 ((n+m:Nat):Int),O2 w])] @hw
theorem E00(h:f.A0<=4096):f.chk=0:=by unfold wK;rw[if_neg oO]
theorem fa0{t:Pf}:t.tn<=t.A0/\(PS t->t.small=true->t.tn=t.A0):=by
 induction t using Pf.ind with
 | h t ih=>
 have k1:∀l:List Tm,Pf.tn.tns l<=D3.Z0 l/\((∀t∈l,t.shape=true)->l.all (fun t=>decide (t.A0<=4096))=true->Pf.tn.tns l=D3.Z0 l):=by
  intro l
  induction l with
  | nil=>exact⟨I5 _,fun _ _=>rfl⟩
  | cons a r l6=>
   refine⟨by simp only[Pf.tn.tns,D3.Z0];have:=l6.1;split <;> omega,fun hs h=>?_⟩;simp only[bn0,uH,decide_eq_true_eq]at h;simp only[Pf.tn.tns,D3.Z0];rw[l6.2 (fun t ht=>hs t (by simp[ht])) h.2,if_pos ((lO a).2 ⟨hs a sS,h.1⟩)]
 have k2:∀l:List Fm,Pf.tn.fns l<=D7.Z0 l/\(l.all (fun f=>decide (f.A0<=4096))=true->Pf.tn.fns l=D7.Z0 l):=by
  intro l
  induction l with
  | nil=>exact⟨I5 _,fun _=>rfl⟩
  | cons a r l6=>
   refine⟨by simp only[Pf.tn.fns,D7.Z0];have:=l6.1;split <;> omega,fun h=>?_⟩;simp only[bn0,uH,decide_eq_true_eq]at h;simp only[Pf.tn.fns,D7.Z0];rw[l6.2 h.2,if_pos (E00 h.1)]
 have k3:∀l:List Pf,(∀a∈l,a∈t.B0)->Pf.tn.go l<=qP.Z0 l/\((∀a∈l,PS a)->Iv.smalls l=true->Pf.tn.go l=qP.Z0 l):=by
  intro l
  induction l with
  | nil=>intro _;exact⟨I5 _,fun _ _=>rfl⟩
  | cons a r l6=>
   intro hl;have h1:=l6 fun b hb=>hl b (by simp[hb]);have h2:=ih a (hl a sS);refine⟨by simp only[Pf.tn.go,qP.Z0];omega,fun hs h=>?_⟩;simp only[Iv.smalls,uH]at h;simp only[Pf.tn.go,qP.Z0];rw[h1.2 (fun b hb=>hs b (by simp[hb])) h.2,h2.2 (hs a sS) h.1]
 have e:t.tn=1+Pf.tn.tns t.M1+Pf.tn.fns t.V4+Pf.tn.go t.B0:=by cases t;rfl
 have ec:=t.count_eq;have a1:=k1 t.M1;have a2:=k2 t.V4;have a3:=k3 t.B0 fun _ h=>h;refine⟨oO,fun hp h=>?_⟩;rw[Pf.small_eq,uH,uH]at h;cases hp with
 | mk _ _ _ _ _ ht _ ha=>have:=a1.2 (fun x hx=>(ht x hx).1) h.1;have:=a2.2 h.2.1;have:=a3.2 ha h.2.2;omega
theorem wT0(l:List Tm)(x:Tm):Pf.tn.tns (l++[x])=Pf.tn.tns l+if x.L4=0 then x.A0 else 0:=by
 induction l with
 | nil=>simp[Pf.tn.tns]
 | cons a r ih=>simp only[R6,Pf.tn.tns,ih];omega
theorem wU0(l:List Fm)(x:Fm):Pf.tn.fns (l++[x])=Pf.tn.fns l+if x.chk=0 then x.A0 else 0:=by
 induction l with
 | nil=>simp[Pf.tn.fns]
 | cons a r ih=>simp only[R6,Pf.tn.fns,ih];omega
theorem wV0(l:List Pf)(x:Pf):Pf.tn.go (l++[x])=Pf.tn.go l+x.tn:=by
 induction l with
 | nil=>simp[Pf.tn.go]
 | cons a r ih=>simp only[R6,Pf.tn.go,ih];omega
theorem C10(l:List Tm):Pf.tn.tns l<=D3.Z0 l:=by
 induction l with
 | nil=>exact I5 _
 | cons a r ih=>simp only[Pf.tn.tns,D3.Z0];split <;> omega
theorem C20(l:List Fm):Pf.tn.fns l<=D7.Z0 l:=by
 induction l with
 | nil=>exact I5 _
 | cons a r ih=>simp only[Pf.tn.fns,D7.Z0];split <;> omega
theorem C30(l:List Pf):Pf.tn.go l<=qP.Z0 l:=by
 induction l with
 | nil=>exact I5 _
 | cons a r ih=>have:=@fa0 a;simp only[Pf.tn.go,qP.Z0];omega
theorem wW0(K3:D6 gl 2=some A7)(hru:D6 gl 1=some CZ)(h:PS p):∀(n:Nat) (l:Bool) (b:Nat),n+p.A0<=1000000000->cT 197 [M3 b,p.dv] [(b,[j0 n,O2 l])] (O2 true) [(b,[j0 ((n+p.tn:Nat):Int),O2 (l||!p.small)])]:=by
 induction h with
 | @mk t ix ty hk hi hx hy hz ht hF ha ih=>
 intro n l b hc;have wn:=sb0 hru hk;have cR:=Ty.fold t.I0;have N4:=t.count_eq;refine H2 Tryz.func197 ?_;intro X hP G0 hf X0 hn hR K1 G1;have hlen:=Pf.fit_len (G1 t.dv sS);have s9:¬t.O0<0:=oO;refine E4 (bx [1000003]) tT ?_;apply vF [sV 0 (M3 b),sV 3 (.ref [j0 t.o0,j0 t.O0,j0 t.I0.o0,.sl (t.I0.B0.map P1),.sl (t.M1.map E3),.sl (t.V4.map L3),.sl (t.B0.map lN)]),sV 84 (.sl (t.M1.map E3)),sV 85 (j0 t.M1.length),sV 86 (j0 0),sB  b [.v (j0 ((n+1:Nat):Int)),.v (O2 l)]]
 ·intro Q3;cases ix with
  | true=>
   cases ty with
   | true=>exact absurd hk (by unfold dM;simp)
   | false=>
    have wz:=QP t.I0;rw[hz rfl]at wz;by_cases h0:t.O0=0
    all_goals
     refine N1 H0 (M0 wn) ?_;refine U1 (j2 @s9 @h0) ?_;refine N1 @cR (M0 wz) ?_;refine N2 ?_;refine m5 ?_;refine G2 [] tT Q3
  | false=>
   have h0:=hx rfl;cases ty with
   | true=>
    have wc:=FY t.I0 (by have:=(hy rfl).2;omega);rw[(wE _).2 (hy rfl)]at wc;refine N1 H0 (M0 wn) ?_;refine U1 @h0 ?_;refine N1 @cR (M0 wc) ?_;refine N2 ?_;refine m5 ?_;refine G2 [] tT Q3
   | false=>
    have wz:=QP t.I0;rw[hz rfl]at wz;refine N1 H0 (M0 wn) ?_;refine U1 @h0 ?_;refine N1 @cR (M0 wz) ?_;refine N2 ?_;refine m5 ?_;refine G2 [] tT Q3
 have c1:=fun l=>C10 l;have c2:=fun l=>C20 l;have c3:=fun l=>C30 l;obtain⟨A,hA⟩:∃A:List Tm->Bool,A=fun m=>l||!m.all fun t=>decide (t.A0<=4096):=⟨_,rfl⟩;have ZY:A []=l:=by rw[hA];simp
 refine Q1 ?_;refine aM [] sG (by simp[go_sem,Pf.tn.tns,ZY] <;> omega) sG (y7 (t.M1) (fun done rest=>[sV 0 (M3 b),sV 3 (.ref [j0 t.o0,j0 t.O0,j0 t.I0.o0,.sl (t.I0.B0.map P1),.sl (t.M1.map E3),.sl (t.V4.map L3),.sl (t.B0.map lN)]),sV 84 (.sl (t.M1.map E3)),sV 85 (j0 t.M1.length),sV 86 (j0 done.length),sB  b [.v (j0 ((n+1+Pf.tn.tns done:Nat):Int)),.v (O2 (A done))]]) ?_ ?_)
 ·intro done x rest hL hg Z1;have I1:=E5 hL;have U2:=uE hg;have AJ:=ht x U2;have w1:=Qi K3 x (gV x AJ.1) oO;have he:x.L4=if x.A0<=4096 then 0 else 4:=by unfold AV;rw[if_pos AJ.1];split <;> split <;> first|rfl|omega
  have gJ:=L9 U2;have hcd:=c1 done;have TT:D3.Z0 t.M1=D3.Z0 done+(x.A0+D3.Z0 rest):=by rw[hL,gR];rfl
  have w2:=en0 (n+1+Pf.tn.tns done) (if x.L4=0 then x.A0 else 0) (A done) x.L4 b oO (by split <;> omega) (by rw[he];split <;> simp);have hS:=wT0 done x;have hN:A (done++[x])=(A done||decide (x.L4=4)):=by rw[hA,he];simp only[PM,bn0,List.all_nil,kf0];split <;> rename_i h <;> simp[h]
  have aG:=P5 x;generalize A (done++[x])=A2 at *;generalize Pf.tn.tns (done++[x])=s2 at *;subst hN hS;refine U1 @hg ?_;refine N1 @aG (P3 w1 w2) ?_;refine W3 (wr []) tT tT Z1
 ·obtain⟨B,hB⟩:∃B:List Fm->Bool,B=fun m=>A t.M1||!m.all fun f=>decide (f.A0<=4096):=⟨_,rfl⟩;have hB0:B []=A t.M1:=by rw[hB];simp
  have q1:=c1 t.M1;refine N2 ?_;refine Q1 ?_;refine aM [] sG (by simp[go_sem,Pf.tn.fns,hB0] <;> omega) sG (y7 (t.V4) (fun done rest=>[sV 0 (M3 b),sV 3 (.ref [j0 t.o0,j0 t.O0,j0 t.I0.o0,.sl (t.I0.B0.map P1),.sl (t.M1.map E3),.sl (t.V4.map L3),.sl (t.B0.map lN)]),sV 99 (.sl (t.V4.map L3)),sV 100 (j0 t.V4.length),sV 101 (j0 done.length),sB  b [.v (j0 ((n+1+Pf.tn.tns t.M1+Pf.tn.fns done:Nat):Int)),.v (O2 (B done))]]) ?_ ?_)
  ·intro done x rest hL hg Z1;have I1:=E5 hL;have U2:=uE hg;obtain⟨Γ,-,hd,hxc⟩:=hF x U2;have w1:=Rg K3 hd hxc;have he:x.chk=if x.A0<=4096 then 0 else 4:=by unfold wK;split <;> split <;> first|rfl|omega
   have hcd:=c2 done;have TT:D7.Z0 t.V4=D7.Z0 done+(x.A0+D7.Z0 rest):=by rw[hL,AZ];rfl
   have w2:=en0 (n+1+Pf.tn.tns t.M1+Pf.tn.fns done) (if x.chk=0 then x.A0 else 0) (B done) x.chk b oO (by split <;> omega) (by rw[he];split <;> simp);have hS:=wU0 done x;have hN:B (done++[x])=(B done||decide (x.chk=4)):=by rw[hB,he];simp only[PM,bn0,List.all_nil,kf0];split <;> rename_i h <;> simp[h]
   have aG:=Fm.fold x;generalize B (done++[x])=A2 at *;generalize Pf.tn.fns (done++[x])=s2 at *;subst hN hS;refine U1 @hg ?_;refine N1 @aG (P3 w1 w2) ?_;refine W3 (wr []) tT tT Z1
  ·obtain⟨C,hC⟩:∃C:List Pf->Bool,C=fun m=>B t.V4||!Iv.smalls m:=⟨_,rfl⟩;have hC0:C []=B t.V4:=by rw[hC];simp[Iv.smalls]
   have q2:=c2 t.V4;refine N2 ?_;refine Q1 ?_;refine aM [] sG (by simp[go_sem,Pf.tn.go,hC0] <;> omega) sG (y7 (t.B0) (fun done rest=>[sV 0 (M3 b),sV 114 (.sl (t.B0.map lN)),sV 115 (j0 t.B0.length),sV 116 (j0 done.length),sB  b [.v (j0 ((n+1+Pf.tn.tns t.M1+Pf.tn.fns t.V4+Pf.tn.go done:Nat):Int)),.v (O2 (C done))]]) ?_ ?_)
   ·intro done x rest hL hg Z1;have I1:=E5 hL;have U2:=uE hg;have hcd:=c3 done;have TT:qP.Z0 t.B0=qP.Z0 done+(x.A0+qP.Z0 rest):=by rw[hL,Pf.counts_append];rfl
    have w:=ih x U2 (n+1+Pf.tn.tns t.M1+Pf.tn.fns t.V4+Pf.tn.go done) (C done) b oO;have hS:=wV0 done x;have hN:C (done++[x])=(C done||!x.small):=by rw[hC];simp only[Pf.smalls_append,Iv.smalls,kf0,Bool.not_and,Bool.or_assoc]
    have aG:=Pf.fold x;generalize C (done++[x])=A2 at *;generalize Pf.tn.go (done++[x])=s2 at *;subst hN hS;refine U1 @hg ?_;refine N1 @aG (M0 w) ?_;refine W3 (wr []) tT tT Z1
   ·have e:t.tn=1+Pf.tn.tns t.M1+Pf.tn.fns t.V4+Pf.tn.go t.B0:=by cases t;rfl
    have eb:C t.B0=(l||!t.small):=by rw[hC,hB,hA,Pf.small_eq];simp only[Bool.not_and,Bool.or_assoc]
    rw[eb];have en:n+t.tn=n+1+Pf.tn.tns t.M1+Pf.tn.fns t.V4+Pf.tn.go t.B0:=oO;rw[en]at hR;generalize n+1+Pf.tn.tns t.M1+Pf.tn.fns t.V4+Pf.tn.go t.B0=N at *;generalize (l||!t.small)=L at *;refine N2 ?_;exact s7 [(b,[j0 (N:Int),O2 L])] tT
theorem fO0(K3:D6 gl 2=some A7)(hru:D6 gl 1=some CZ)(h:PS p)(hc:p.A0<=900000000):cU 38 [p.dv] (j0 p.chk):=by
 have w:cU 115 [p.dv] (.H1 [j0 (if p.chk=0 then p.A0 else 0:Nat),j0 p.chk]):=by
  have wt:=fun b=>wW0 K3 hru h 0 false b oO;obtain⟨t1,t2⟩:=@fa0 p;have t2:=t2 h;simp only[G8,Bool.false_or]at wt;have e:p.chk=if p.small=true/\p.A0<=16384 then 0 else 4:=rfl
  refine A3 Tryz.func115 fun X zX=>?_;refine E4 (bx [1000001]) tT ?_;refine K2 ?_;refine fG 6 (by simp[go_sem];rfl) ?_;intro b hb;simp[go_sem]at hb ⊢;refine N1 H0 (M0 (wt b)) ?_;by_cases hs:p.small=true
  ·by_cases Ph:p.A0<=16384
   ·rw[if_pos ⟨hs,Ph⟩]at e;have q:¬(16384:Int)<(p.A0:Int):=oO;rw[t2 hs];exact O1 (j3 @hs @q @e) H0
   ·rw[if_neg fun h=>Ph h.2]at e;have q:(16384:Int)<(p.A0:Int):=oO;rw[t2 hs];exact O1 (j3 @hs @q @e) H0
  ·rw[if_neg fun h=>hs h.1]at e;have hs:p.small=false:=by simpa using hs
   exact O1 (j2 @hs @e) H0
 refine A3 Tryz.func38 fun X zX=>?_;refine E4 (bx [1000001]) tT ?_;exact O1 H0 (M0 w)
theorem sc0:cU 39 [] (.mpd Kr):=by
 refine H2 Tryz.func39 ?_;intro X hP G0 hf X0 hn hR K1 G1;refine N2 ?_;refine Q1 ?_;refine O9 [1] fun K hK=>?_;simp[go_sem,hP,G0,hn];refine Vr nN (by rfl) ?_;intro b hb oP;simp[newB]at hb;simp[go_sem,hP,G0,hn]
 iterate 20
  refine om0 (b:=b) (by rw[hP];kernel_rfl) sG (by simp[go_sem];rfl) (by simp[go_sem];rfl) (by simp[go_sem];rfl) (by rfl) rfl ?_;simp[go_sem]
 refine⟨by rw[hn];exact uF rfl,by rw[hn];exact uF rfl,hK _ ?_⟩;clear hK K;refine DM0 0 (b:=b) (l:=Kr) sG (by simp[go_sem];rfl) (by rw[K1];simp) ?_;simp[go_sem];exact rF
theorem wX0:cU 43 [Jj2 0] (.sl []):=by
 refine A3 Tryz.func43 fun X zX=>?_;refine N2 ?_;refine W8 ?_;exact O1 H0 H0
theorem E10(htz:D6 gl 0=some EJ):cU 136 [Jj2 1] (j0 0):=by
 have hk:=htz;simp only[EJ,G4,O5]at hk;refine H2 Tryz.func136 ?_;intro X hP G0 hf X0 hn hR K1 G1;refine N2 ?_;refine Q1 ?_;refine O9 [7,10] fun K hK=>?_;simp[go_sem,hP,G0,hn];refine y40 (kd:=.u32) (n:=1) sG nN rfl ?_;simp[go_sem,hP,G0,hn,show Pk.wrap (-1)=4294967295 from rfl,show EQ .u32 1 4294967295=1 from rfl];refine y50 (kd:=.u32) (kd2:=.u64) (m:=125613361) (n:=27) sG rfl dD nN rfl ?_;simp[go_sem,hP,G0,hn,hk,show BI .u32 125613361 27=0 from rfl];refine K4 ?_;clear hK K;exact rF
theorem wY0(htz:D6 gl 0=some EJ):cU 43 [Jj2 1] (.sl [[j0 0]]):=by
 have w:=E10 htz;have e:EQ .u32 1 0=0:=rfl;refine A3 Tryz.func43 fun X zX=>?_;refine N2 ?_;refine W8 ?_;refine V3 @e (M0 w) ?_;refine bV ?_;exact O1 @e H0
abbrev hZ(g:List Ty):DV:=.agg [.sl (g.map P1),.sl []]
theorem zM0(w:cU 114 [.sl (g.map P1)] (j0 0)):cU 37 [.sl [],hZ g] (j0 0):=by
 refine A3 Tryz.func37 fun X zX=>?_;refine N2 ?_;refine W8 ?_;refine V3 H0 (M0 w) ?_;refine W8 ?_;exact O1 H0 H0
theorem sd0(g:List Ty)(h:∀y∈g,y.ok)(dG:g.length<=16):cU 41 [hZ g] (iB g []):=by
 have w:=Qb g h dG;refine A3 Tryz.func41 fun X zX=>?_;refine V3 H0 (M0 w) ?_;refine W8 ?_;exact O1 H0 H0
def Ks(u:Nat):List (List DV):=if u=0 then [] else [[j0 0]]
theorem Ro(K3:D6 gl 2=some A7)(hru:D6 gl 1=some CZ)(htz:D6 gl 0=some EJ)(hg:∀x∈g,x.ok)(HB:g.length<=16)(kT:PS p)(Dl:p.A0<=900000000)(hf:FDn Γ f)(N5:Γ.length<=1000)(cf:f.A0<=4096)(hu:u<2)
  (w:cU 40 [cD,p.dv,iB g []] (.H1 [xW f u,j0 0])) :
  cU 11 [.sl [],hZ g,p.dv] (.H1 [if p.chk=0 then .agg [j0 f.o0,j0 f.I0.o0,.sl (f.I0.B0.map P1),.sl (f.M1.map E3),.sl (f.B0.map L3),.sl (Ks u)] else .agg [j0 0,j0 0,.sl [],.sl [],.sl [],.sl []],j0 p.chk]):=by
 have w1:=zM0 (bw0 g hg HB);have w2:=fO0 K3 hru kT Dl;have w3:=sd0 g hg HB;have w4:=zi0 f (lU hf _ oO) oO;have w5:cU 43 [Jj2 u] (.sl (Ks u)):=by
  rcases (show u=0\/u=1 from oO) with rfl|rfl;· exact wX0
  ·exact wY0 htz
 by_cases q:p.chk=0
 ·rw[if_pos q];refine H2 Tryz.func11 ?_;intro X hP G0 hf X0 hn hR K1 G1;refine V3 @q (P3 w1 w2) ?_;refine Q1 ?_;refine f40 (bx [1000029]) fun K hK=>?_;simp[go_sem,hP,G0,hn];refine Z7 tT (sc0) ?_;refine K4 ?_;clear hK K;exact O1 @q (cQ w3 w w4 w5)
 ·rw[if_neg q];exact B2 Tryz.func11 @q (P3 w1 w2)
theorem Sj(K3:D6 gl 2=some A7)(hf:FDn (s0::Γ) f){s:Tm}{X:Q0 Γ->s0.V}(hs:Dn Γ s s0 X)(N5:Γ.length<=1000)(hp:I6 f s=0):cU 295 [f.dv,s.dv] (f.Y1 0 0 s).dv:=by
 have w:=r00 K3 hf hs N5 hp;generalize f.Y1 0 0 s=u at *;exact B2 Tryz.func295 H0 (M0 w)
theorem Xg(hs:List Fm)(f:Fm)(h:hs.length<=1000000):cU 293 [.sl (hs.map L3),f.dv] (.sl ((hs++[f]).map L3)):=by
 have KJ:hs.length<=2147483647:=oO;exact B2 Tryz.func293 (j2 @e00 @cX) H0
theorem Mh(K3:D6 gl 2=some A7)(N5:Γ.length<=1000)(hs:List Fm)(n:Nat)(dG:n<=4096)(h:∀f∈hs,FDn Γ f/\f.A0<=4096)(hl:hs.length<=1000000):cU 294 [.sl (hs.map L3),j0 n] (.sl ((Q5 hs n).map L3)):=by
 refine A3 Tryz.func294 fun X zX=>?_;refine N2 ?_;refine Q1 ?_;refine G2 [(1005,0)] tT (y7 (hs) (fun done rest=>[sV 1 (j0 n),(.P0 4,.one (.own 0 [])),(.P0 5,.one (.own 1005 ((done.map fun h=>h.V0 0 n).map L3))),(.tok 1005,.tk 5 done.length),sV 10 (.sl (hs.map L3)),sV 11 (j0 hs.length),sV 12 (j0 done.length)]) ?_ ?_)
 ·intro done x rest hL hg Z1;have I1:=E5 hL;have hx:=h x (uE hg);have w:=dt0 K3 hx.1 N5 hx.2 0 n dD oO;refine V3 @hg (M0 w) ?_;refine W3 (wr [(1005,25)]) tT tT Z1
 ·exact O1 H0 H0
structure En where
 t:Tm
 d:Nat
def xX(e:En):List DV:=e.t.E0++[j0 e.d]
theorem Sv(e:En):xX e=[j0 e.t.o0,j0 e.t.O0,j0 e.t.I0.o0,.sl (e.t.I0.B0.map P1),.sl (e.t.B0.map E3),j0 e.d]:=by rw[xX,O3];rfl
structure Kn where
 e:En
 has:Bool
 pl:Nat
def Al(k:Kn):List DV:=xX k.e++[O2 k.has,j0 k.pl]
theorem MX(k:Kn):Al k=[j0 k.e.t.o0,j0 k.e.t.O0,j0 k.e.t.I0.o0,.sl (k.e.t.I0.B0.map P1),.sl (k.e.t.B0.map E3),j0 k.e.d,O2 k.has,j0 k.pl]:=by rw[Al,Sv];rfl
def jZ{α:Type}(f:α->List DV)(l:List α):List (List DV):=l.reverse.map f
theorem Xh{α:Type}(f:α->List DV)(x:α)(l:List α):jZ f (x::l)=jZ f l++[f x]:=by simp[jZ]
theorem JD{α:Type}(f:α->List DV)(l:List α):(jZ f l).length=l.length:=by simp[jZ]
theorem Xi{α:Type}(f:α->List DV)(l:List α):FE l.length (jZ f l)=jZ f l:=by rw[DS];rw[JD];exact I5 _
theorem fP0{α:Type}(f:α->List DV){l:List α}{x:α}(h:l[i]? = some x):(jZ f l)[((l.length:Int) - 1 - i).toNat]? = some (f x):=by
 have hl:=(uA h).1;rw[jZ,cI,List.getElem?_reverse oO,show l.length - 1 - ((l.length:Int) - 1 - i).toNat=i from oO,h];rfl
theorem XH{α:Type}{f:α->List DV}(h:∀x,(f x).length=n)(l:List α):∀e∈jZ f l,e.length=n:=by
 intro e he;obtain⟨x,-,rfl⟩:=F9.1 he;exact h x
structure Sco where
 dep:Nat
 hy:Nat
 vs:List En
 ks:List Kn
abbrev Sco.dv(s:Sco):DV:=.agg [j0 s.dep,j0 s.hy,.sl (jZ xX s.vs),.sl (jZ Al s.ks)]
abbrev Sco.bind(s:Sco):Sco:=⟨s.dep+1,s.hy,s.vs,s.ks⟩
abbrev Sco.var(s:Sco)(t:Tm):Sco:=⟨s.dep,s.hy,⟨t,s.dep⟩::s.vs,s.ks⟩
abbrev Sco.hyp(s:Sco)(t:Tm):Sco:=⟨s.dep,s.hy+1,s.vs,⟨⟨t,s.dep⟩,true,s.hy⟩::s.ks⟩
abbrev Sco.bare(s:Sco):Sco:=⟨s.dep,s.hy+1,s.vs,⟨⟨M6,0⟩,false,s.hy⟩::s.ks⟩
abbrev Sco.room(s:Sco):Prop:=s.dep<=100000/\s.hy<=100000/\s.vs.length<=100000/\s.ks.length<=100000
theorem Gs(s:Sco)(h:s.room):cU 232 [s.dv] s.bind.dv:=by
 obtain⟨h1,h2,h3,h4⟩:=h;exact B2 Tryz.func232 H0 H0
theorem JE(s:Sco)(h:s.room)(t:Tm):cU 304 [s.dv,t.dv] (s.var t).dv:=by
 obtain⟨h1,h2,h3,h4⟩:=h;have e:=Sv ⟨t,s.dep⟩;have hw:=eq_true (XH (fun e=>by rw[Sv];rfl:∀e,(xX e).length=6) s.vs);exact B2 Tryz.func304 (j6 @JD @Xi @hw @h3 @Xh @e) H0
theorem fQ0(s:Sco)(h:s.room)(t:Tm):cU 143 [s.dv,t.dv] (s.hyp t).dv:=by
 obtain⟨h1,h2,h3,h4⟩:=h;have e:=MX ⟨⟨t,s.dep⟩,true,s.hy⟩;have hw:=eq_true (XH (fun e=>by rw[MX];rfl:∀e,(Al e).length=8) s.ks);exact B2 Tryz.func143 (j6 @JD @Xi @hw @h4 @Xh @e) H0
theorem wZ0(s:Sco)(h:s.room):cU 142 [s.dv] s.bare.dv:=by
 obtain⟨h1,h2,h3,h4⟩:=h;have e:Al ⟨⟨M6,0⟩,false,s.hy⟩=[j0 0,j0 0,j0 0,.sl [],.sl [],j0 0,O2 false,j0 s.hy]:=by rw[MX];rfl
 have hw:=eq_true (XH (fun e=>by rw[MX];rfl:∀e,(Al e).length=8) s.ks);exact B2 Tryz.func142 (j6 @JD @Xi @hw @h4 @Xh @e) H0
theorem zN0:cU 141 [j0 0,j0 0] (Sco.mk 0 0 [] []).dv:=by
 refine H2 Tryz.func141 ?_;intro X hP G0 hf X0 hn hR K1 G1;refine N2 ?_;refine W8 ?_;refine N2 ?_;refine N3 ?_;simp[go_sem,hP,G0,hn,jZ] <;> (try omega)
theorem se0(s:Sco)(h:s.room){k:Kn}(hk:s.ks[i]? = some k)(hd:k.e.d<=s.dep)(hg:k.e.t.shape=true)(hi:k.e.t.idx 549755813888)(hc:k.e.t.A0<=1000000){n:Int}(dG:n=(s.ks.length:Int) - 1 - i):
  cU 228 [s.dv,j0 n] (.H1 [(k.e.t.V0 0 (s.dep - k.e.d)).dv,O2 k.has]):=by
 obtain⟨h1,h2,h3,h4⟩:=h;have hl:=(uA hk).1;have w:=VP k.e.t 0 ((s.dep:Int) - k.e.d) hg hi oO oO dD oO;have e:=MX k;have d8:=fP0 Al hk;rw[<- dG]at d8;have BV:(0:Int)<=n:=oO;have OO:n<((jZ Al s.ks).length:Int):=by rw[JD];omega
 generalize k.e.t.V0 0 (s.dep - k.e.d)=u at *;exact B2 Tryz.func228 (j2 @d8 @e) (M0 w)
def Tm.scB(vs:List En)(dep:Nat):Tm->Int->Tm
 | .mk k i y a,b=>if k=1 then (if i<b\/b+vs.length<=i then .mk k i y a else (vs.getD (i - b).toNat ⟨M6,0⟩).t.V0 0 ((dep:Int) - (vs.getD (i - b).toNat ⟨M6,0⟩).d+b)) else .mk k i y (scs a (b+W2 k))
where
 scs:List Tm->Int->List Tm
  | [],_=>[]
  | x::r,b=>scB vs dep x b::scs r b
theorem Tm.scs_map(vs:List En)(dep:Nat)(l:List Tm)(b:Int):Tm.scB.scs vs dep l b=l.map fun x=>x.scB vs dep b:=by
 induction l with
 | nil=>rfl
 | cons a r ih=>simp[Tm.scB.scs,ih]
theorem Tm.scB_eq(vs:List En)(dep:Nat)(t:Tm)(b:Int):t.scB vs dep b=if t.o0=1 then (if t.O0<b\/b+vs.length<=t.O0 then t else (vs.getD (t.O0 - b).toNat ⟨M6,0⟩).t.V0 0 ((dep:Int) - (vs.getD (t.O0 - b).toNat ⟨M6,0⟩).d+b)) else .mk t.o0 t.O0 t.I0 (t.B0.map fun x=>x.scB vs dep (b+W2 t.o0)):=by
 cases t;rw[Tm.scB,Tm.scs_map];rfl
def Yx(dep:Nat)(vs:List En):Prop:=∀e∈vs,e.d<=dep/\e.t.shape=true/\e.t.idx 549755813888/\e.t.A0<=4096
theorem zO0(s:Sco)(h:s.room)(hv:Yx s.dep s.vs)(t:Tm):∀b:Int,t.shape=true->t.idx 549755813888->0<=b->b+t.A0<=900000->cU 384 [s.dv,t.dv,j0 b] (t.scB s.vs s.dep b).dv:=by
 obtain⟨h1,h2,h3,h4⟩:=h
 induction t using m7 with
 | h t ih=>
 intro b hs hi dF hb;have N4:=V6 t;have hlc:=Lt t.B0;have kE:=lT t.o0;have aQ:=(oX t _).1 hi;obtain⟨HP,-,-,-,V9⟩:=j9 hs;have e:=Tm.scB_eq s.vs s.dep t b;have mE:=P5 t;have Fo:=JD xX s.vs;by_cases q1:t.o0=1
 ·have ha:t.B0=[]:=by rw[q1]at HP;simp[C5]at HP;exact HP
  rw[if_pos q1]at e;rw[q1]at mE;by_cases q2:t.O0 - b<0
  ·rw[if_pos (.inl oO)]at e;rw[e];refine H2 bo0 ?_;intro X hP G0 hf X0 hn hR K1 G1;refine E4 (bx [1000003,1000004]) tT ?_;exact O1 (j3 @q1 @q2 @mE) H0
  by_cases q3:b+s.vs.length<=t.O0
  ·have q4:((jZ xX s.vs).length:Int)<=t.O0 - b:=oO;rw[if_pos (.inr q3)]at e;rw[e];refine H2 bo0 ?_;intro X hP G0 hf X0 hn hR K1 G1;refine E4 (bx [1000003,1000004]) tT ?_;exact O1 (j4 @q1 @q2 @q4 @mE) H0
  ·rw[if_neg oO]at e;obtain⟨x,hx⟩:∃x,s.vs[(t.O0 - b).toNat]? = some x:=⟨_,uB oO⟩;have ZB:s.vs.getD (t.O0 - b).toNat ⟨M6,0⟩=x:=by rw[jO,hx];rfl
   rw[ZB]at e;rw[e];obtain⟨g1,g2,g3,g4⟩:=hv x (uE hx);have w:=VP x.t 0 ((s.dep:Int) - x.d+b) g2 g3 oO oO dD oO;have d8:=fP0 xX hx;rw[<- Fo,show (((t.O0 - b).toNat:Nat):Int)=t.O0 - b from oO,Sv]at d8;have q4:¬((jZ xX s.vs).length:Int)<=t.O0 - b:=oO;generalize x.t.V0 0 ((s.dep:Int) - x.d+b)=u at *;refine H2 bo0 ?_;intro X hP G0 hf X0 hn hR K1 G1;refine E4 (bx [1000003,1000004]) tT ?_;exact O1 (j4 @q1 @q2 @q4 @d8) (M0 w)
 rw[if_neg q1]at e;rw[e];refine H2 bo0 ?_;intro X hP G0 hf X0 hn hR K1 G1;refine E4 (bx [1000003,1000004]) tT ?_;apply vF [sV 59 (j0 0),sV 58 (j0 t.B0.length),sV 57 (.sl (t.B0.map E3)),sP 9,sL 9 [.v (j0 t.o0),.v (j0 t.O0),.v (j0 t.I0.o0),.v (.sl (t.I0.B0.map P1)),.own 0 []],sV 2 (j0 (b+W2 t.o0)),sP 6,sL 6 [.v (j0 0),.v (j0 0),.v (j0 0),.own 0 [],.own 0 []],sV 3 (.ref [j0 s.dep,j0 s.hy,.sl (jZ xX s.vs),.sl (jZ Al s.ks)])]
 ·intro Q3;by_cases q2:t.o0=2
  ·have Cf:W2 2=1:=rfl;refine U1 (j2 @q1 @q2) ?_;refine m5 ?_;refine G2 [] (j2 @Cf @q2) Q3
  ·have Cf:W2 t.o0=0:=by simp[W2,q2]
   refine U1 (j2 @q1 @q2) ?_;refine m5 ?_;refine G2 [] (j2 @Cf @q2) Q3
 ·refine Q1 ?_;refine G2 [(1009,0)] tT (y7 (t.B0) (fun done rest=>[sV 59 (j0 done.length),sV 58 (j0 t.B0.length),sV 57 (.sl (t.B0.map E3)),sP 9,sL 9 [.v (j0 t.o0),.v (j0 t.O0),.v (j0 t.I0.o0),.v (.sl (t.I0.B0.map P1)),.own 1009 (done.map fun x=>(x.scB s.vs s.dep (b+W2 t.o0)).E0)],(.tok 1009,.tk 5 done.length),sV 2 (j0 (b+W2 t.o0)),sP 6,sL 6 [.v (j0 0),.v (j0 0),.v (j0 0),.own 0 [],.own 0 []],sV 3 (.ref [j0 s.dep,j0 s.hy,.sl (jZ xX s.vs),.sl (jZ Al s.ks)])]) ?_ ?_)
  ·intro done x rest hL B3 Z1;have I1:=E5 hL;have U2:=uE B3;have aF:=L9 U2;refine N1 @B3 (M0 (ih x U2 (b+W2 t.o0) (V9 x U2) (aQ.2 x U2) oO oO)) ?_;refine W3 (wr [(1009,70)]) (O3 (x.scB s.vs s.dep (b+W2 t.o0))) tT Z1
  ·refine N2 ?_;refine N3 ?_;simp[go_sem,hP,G0,hn] <;> (try omega);simp[Tm.dv,O3,Z9,fE,kL,M8]
inductive EnD:(Θ:List T)->En->(a:T)->(Q0 Θ->a.V)->Prop
 | here {Θ:List T} {t:Tm} {a:T} {F:Q0 Θ->a.V} (h:Dn Θ t a F) (hc:t.A0<=4096) (H5:Θ.length<=100000):EnD Θ ⟨t,Θ.length⟩ a F
 | up {Θ:List T} {e:En} {a b:T} {F:Q0 Θ->a.V} (h:EnD Θ e a F):EnD (b::Θ) e a (fun θ=>F θ.2)
theorem EnD.dn{e:En}{F:Q0 Θ->a.V}(h:EnD Θ e a F):e.d<=Θ.length/\e.t.shape=true/\e.t.idx 549755813888/\e.t.A0<=4096/\Dn Θ (e.t.V0 0 ((Θ.length:Int) - e.d)) a F:=by
 induction h with
 | @here Θ t a F h hc H5=>exact⟨I5 _,Z5 h,sF t _ (Z5 h) (gW h _ oO),hc,by rw[Int.sub_self,Jx];exact h⟩
 | @up Θ e a b F h ih=>
  obtain⟨h1,h2,h3,h4,h5⟩:=ih;refine⟨by simp only[B4];omega,h2,h3,h4,?_⟩;have:=xN h5 [b];rw[Ys _ _ _ _ oO]at this;rw[show (((b::Θ).length:Nat):Int) - e.d=(Θ.length:Int) - e.d+(([b]:List T).length:Nat) by simp only[B4,fC];omega];exact this
inductive SL (v:Bool)(Θ:List T):(Γ:List T)->List En->(Q0 Θ->Q0 Γ)->Prop
 | nil {vs:List En}:SL v Θ [] vs (fun _=>())
 | cons {Γ:List T} {vs:List En} {e:En} {a:T} {F:Q0 Θ->a.V} {X:Q0 Θ->Q0 Γ} (h:(v=false/\a = .Z4)\/EnD Θ e a F) (hs:SL v Θ Γ vs X):SL v Θ (a::Γ) (e::vs) (fun θ=>(F θ,X θ))
theorem SL.up{v:Bool}{Θ Γ:List T}{vs:List En}{X:Q0 Θ->Q0 Γ}(h:SL v Θ Γ vs X)(b:T):SL v (b::Θ) Γ vs (fun θ=>X θ.2):=by
 induction h with
 | nil=>exact .nil
 | cons h hs ih=>exact .cons (h.imp (fun h=>h) fun h=>.up h) ih
theorem SL.at{v:Bool}{Θ Γ:List T}{vs:List En}{X:Q0 Θ->Q0 Γ}(h:SL v Θ Γ vs X){i:Nat}{a:T}{p:Q0 Γ->a.V}(hi:At Γ i a p)(ha:v=true\/a≠.Z4):∃e,vs[i]? = some e/\EnD Θ e a (fun θ=>p (X θ)):=by
 induction h generalizing i with
 | nil=>cases hi
 | cons h hs ih=>
  cases hi with
  | zero=>
   rcases h with⟨h1,h2⟩|h
   ·rcases ha with ha|ha;· rw[h1]at ha;cases ha
    ·exact absurd h2 ha
   ·exact⟨_,rfl,h⟩
  | succ hi=>exact ih hi
theorem SL.len{v:Bool}{vs:List En}{X:Q0 Θ->Q0 Γ}(h:SL v Θ Γ vs X):Γ.length<=vs.length:=by
 induction h with
 | nil=>exact aH _
 | cons h hs ih=>simpa using ih
def SW(dep:Nat)(vs:List En):Nat->List En
 | 0=>vs
 | b+1=>⟨vT 0,dep+(b+1)⟩::SW dep vs b
theorem w00(dep:Nat)(vs:List En)(i:Nat):∀b:Nat,(SW dep vs b)[i]? = if i<b then some ⟨vT 0,dep+(b - i)⟩ else vs[i - b]?:=by
 induction i with
 | zero=>intro b;cases b <;> rfl
 | succ i ih=>
  intro b;cases b with
  | zero=>rfl
  | succ b=>
   show (SW dep vs b)[i]? = _;rw[ih b];simp only[Nat.add_lt_add_iff_right,Nat.add_sub_add_right]
theorem zT(vs:List En)(dep:Nat)(hk:k≠1/\k≠2)(i:Int)(y:Ty)(a:List Tm)(b:Int):(U0 k i y a).scB vs dep b = .mk k i y (a.map fun x=>x.scB vs dep b):=by
 rw[Tm.scB_eq,Z9,if_neg hk.1,fE,kL,M8,show W2 k=0 by simp[W2,hk.2],Int.add_zero]
theorem C40(vs:List En)(dep:Nat)(a:T)(t:Tm)(b:Nat):(N6 a t).scB vs dep b=N6 a (t.scB vs dep (b+1:Nat)):=by
 rw[N6,Tm.scB_eq];rfl
theorem E20{dep:Nat}{vs:List En}{F:Q0 Γ->a.V}(h:Dn Γ t a F):∀{Θ:List T} {X:Q0 Θ->Q0 Γ} (b:Nat),SL true Θ Γ (SW dep vs b) X->Θ.length=dep+b->Θ.length+t.A0<=100000->Dn Θ (t.scB vs dep b) a (fun θ=>F (X θ)):=by
 have c1:∀{k i:Int} {y:Ty} {x:Tm},(U0 k i y [x]).A0=1+(x.A0+0):=rfl;have c2:∀{k i:Int} {y:Ty} {x z:Tm},(U0 k i y [x,z]).A0=1+(x.A0+(z.A0+0)):=rfl;have c3:∀{k i:Int} {y:Ty} {x z u:Tm},(U0 k i y [x,z,u]).A0=1+(x.A0+(z.A0+(u.A0+0))):=rfl
 induction h with
 | @var Γ i a p h=>
  intro Θ X b hs H5 hc;obtain⟨e,he,hd⟩:=hs.at h (.inl rfl);obtain⟨d1,-,-,-,hd⟩:=hd.dn;rw[w00]at he;rw[Tm.scB_eq];show Dn Θ (if (1:Int)=1 then if (i:Int)<b\/(b:Int)+vs.length<=i then vT i else _ else _) _ _;rw[if_pos rfl];split at he
  ·cases he;rw[if_pos (.inl oO)];rw[EC,if_pos (Int.le_refl 0)]at hd;rw[show (i:Int)=0+((Θ.length:Int) - (dep+(b - i):Nat)) from oO];exact hd
  ·have hl:=(uA he).1;rw[if_neg oO,show ((vT i).O0 - (b:Int)).toNat=i - b by show ((i:Int) - b).toNat=_;omega,jO,he];rw[show (Θ.length:Int) - e.d=(dep:Int) - e.d+b from oO]at hd;exact hd
 | @lam Γ a r t f ha h ih=>
  intro Θ X b hs H5 hc;rw[C40];rw[N6,c1]at hc;have h0:EnD (a::Θ) ⟨vT 0,(a::Θ).length⟩ a (fun e=>e.1):=.here (.var .zero) dD (by simp only[B4];omega);rw[show (a::Θ).length=dep+(b+1) by simp only[B4];omega]at h0;exact .lam ha (ih (b+1) (.cons (.inr h0) (hs.up a)) (by simp only[B4];omega) (by simp only[B4];omega))
 | app _ _ i1 i2=>intro Θ X b hs H5 hc;rw[nT,c2]at hc;rw[nT,zT _ _ dD];exact .app (i1 b hs H5 oO) (i2 b hs H5 oO)
 | zero=>intro Θ X b hs H5 hc;rw[nT,zT _ _ dD];exact .zero
 | nil=>intro Θ X b hs H5 hc;rw[nT,zT _ _ dD];exact .nil
 | Z4=>intro Θ X b hs H5 hc;rw[nT,zT _ _ dD];exact .Z4
 | succ _ i1=>intro Θ X b hs H5 hc;rw[nT,c1]at hc;rw[nT,zT _ _ dD];exact .succ (i1 b hs H5 oO)
 | fst _ i1=>intro Θ X b hs H5 hc;rw[nT,c1]at hc;rw[nT,zT _ _ dD];exact .fst (i1 b hs H5 oO)
 | snd _ i1=>intro Θ X b hs H5 hc;rw[nT,c1]at hc;rw[nT,zT _ _ dD];exact .snd (i1 b hs H5 oO)
 | cons _ _ i1 i2=>intro Θ X b hs H5 hc;rw[nT,c2]at hc;rw[nT,zT _ _ dD];exact .cons (i1 b hs H5 oO) (i2 b hs H5 oO)
 | pair _ _ i1 i2=>intro Θ X b hs H5 hc;rw[nT,c2]at hc;rw[nT,zT _ _ dD];exact .pair (i1 b hs H5 oO) (i2 b hs H5 oO)
 | rc ha _ _ _ i1 i2 i3=>intro Θ X b hs H5 hc;rw[c3]at hc;rw[zT _ _ dD];exact .rc ha (i1 b hs H5 oO) (i2 b hs H5 oO) (i3 b hs H5 oO)
 | fold ha _ _ _ i1 i2 i3=>intro Θ X b hs H5 hc;rw[c3]at hc;rw[zT _ _ dD];exact .fold ha (i1 b hs H5 oO) (i2 b hs H5 oO) (i3 b hs H5 oO)
theorem sf0{vs:List En}(hv:∀e∈vs,e.t.A0<=4096)(dep:Nat)(t:Tm):∀b:Int,(t.scB vs dep b).A0<=4096 * t.A0:=by
 induction t using m7 with
 | h t ih=>
 intro b;have hc:=V6 t;rw[Tm.scB_eq];split
 ·split;· omega
  ·rw[iO,jO];cases hx:vs[(t.O0 - b).toNat]? with
   | none=>show (M6).A0<=_;rw[show M6.A0=1 from rfl];omega
   | some x=>have:=hv x (uE hx);show x.t.A0<=_;omega
 ·rw[V6,M8,hc];have key:∀l:List Tm,(∀a∈l,a∈t.B0)->D3.Z0 (l.map fun x=>x.scB vs dep (b+W2 t.o0))<=4096 * D3.Z0 l:=by
   intro l
   induction l with
   | nil=>intro _;exact aH _
   | cons a r l6=>
    intro hl;have h1:=ih a (hl a sS) (b+W2 t.o0);have h2:=l6 fun x hx=>hl x (by simp[hx]);simp only[G4,D3.Z0];omega
  have:=key t.B0 fun _ h=>h;omega
def vN(f:FuncId)(ds:List DV)(P:Tm->Int->Prop):Prop:=
 ∃(t:Tm) (e:Int),s6 e/\t.A0<=4096/\P t e/\cT f ds [] (.H1 [t.dv,j0 e]) []
def Mk(f:FuncId)(ds:List DV)(Θ:List T)(a:T)(F:Q0 Θ->a.V):Prop:=
 ∃(t:Tm) (e:Int),s6 e/\t.A0<=4096/\(e=0->Dn Θ t a F)/\cT f ds [] (.H1 [t.dv,j0 e]) []
structure SC (Θ Γ Δ:List T)(s:Sco)(X:Q0 Θ->Q0 Γ)(Y:Q0 Θ->Q0 Δ):Prop where
 dep:s.dep=Θ.length
 vs:SL true Θ Γ s.vs X
 good:Yx s.dep s.vs
 ks:SL false Θ Δ (s.ks.map Kn.e) Y
 len:s.ks.length=Δ.length
structure SR (Θ Γ Δ:List T)(s:Sco)(X:Q0 Θ->Q0 Γ)(Y:Q0 Θ->Q0 Δ):Prop extends SC Θ Γ Δ s X Y where
 rm:s.dep<=1000+3 * Γ.length/\s.hy<=1000+3 * Δ.length/\s.vs.length<=1000+3 * Γ.length
theorem SR.room{s:Sco}{X:Q0 Θ->Q0 Γ}{Y:Q0 Θ->Q0 Δ}(h:SR Θ Γ Δ s X Y)(h1:Γ.length<=100)(h2:Δ.length<=100):(s.dep<=2000/\s.hy<=2000/\s.vs.length<=2000/\s.ks.length<=2000):=by
 have:=h.rm;have:=h.len;omega
theorem SC.bind{Θ Γ Δ:List T}{s:Sco}{X:Q0 Θ->Q0 Γ}{Y:Q0 Θ->Q0 Δ}(h:SC Θ Γ Δ s X Y)(a:T):SC (a::Θ) Γ Δ s.bind (fun θ=>X θ.2) (fun θ=>Y θ.2):=
 ⟨by simp[h.dep],h.vs.up a,fun e he=>by have:=h.good e he;exact⟨Nat.le_succ_of_le this.1,this.2⟩,h.ks.up a,h.len⟩
theorem SC.var{Θ Γ Δ:List T}{s:Sco}{X:Q0 Θ->Q0 Γ}{Y:Q0 Θ->Q0 Δ}(h:SC Θ Γ Δ s X Y)(hd:s.dep<=100000){a:T}{t:Tm}{F:Q0 Θ->a.V}(ht:Dn Θ t a F)(hc:t.A0<=4096):SC Θ (a::Γ) Δ (s.var t) (fun θ=>(F θ,X θ)) Y:=by
 have h0:EnD Θ ⟨t,s.dep⟩ a F:=by rw[h.dep];exact .here ht hc (by rw[<- h.dep];exact hd)
 refine⟨h.dep,.cons (.inr h0) h.vs,fun e he=>?_,h.ks,h.len⟩;rcases u5.1 he with rfl|he;· have:=h0.dn;exact⟨I5 _,this.2.1,this.2.2.1,this.2.2.2.1⟩
 ·exact h.good e he
theorem SC.hyp{Θ Γ Δ:List T}{s:Sco}{X:Q0 Θ->Q0 Γ}{Y:Q0 Θ->Q0 Δ}(h:SC Θ Γ Δ s X Y)(hd:s.dep<=100000){a:T}{t:Tm}{F:Q0 Θ->a.V}(ht:Dn Θ t a F)(hc:t.A0<=4096):SC Θ Γ (a::Δ) (s.hyp t) X (fun θ=>(F θ,Y θ)):=
 ⟨h.dep,h.vs,h.good,.cons (.inr (by rw[h.dep];exact .here ht hc (by rw[<- h.dep];exact hd))) h.ks,by simp[h.len]⟩
theorem SC.bare{Θ Γ Δ:List T}{s:Sco}{X:Q0 Θ->Q0 Γ}{Y:Q0 Θ->Q0 Δ}(h:SC Θ Γ Δ s X Y):SC Θ Γ (.Z4::Δ) s.bare X (fun θ=>((),Y θ)):=
 ⟨h.dep,h.vs,h.good,.cons (.inl ⟨rfl,rfl⟩) h.ks,by simp[h.len]⟩
theorem fR0{s:Sco}(hr:s.room)(hg:Yx s.dep s.vs)(hs:t.shape=true)(hi:t.idx 549755813888)(hc:t.A0<=4096):vN 303 [s.dv,t.dv] fun u e=>(e=0->u=t.scB s.vs s.dep 0)/\((t.scB s.vs s.dep 0).A0<=4096->e=0):=by
 have w1:=zO0 s hr hg t 0 hs hi dD oO;have hq:=sf0 (fun e he=>(hg e he).2.2.2) s.dep t 0;have w2:=ct0 (t.scB s.vs s.dep 0) oO;generalize t.scB s.vs s.dep 0=u at *;by_cases q:u.A0<=4096
 ·have q2:¬(4096:Int)<u.A0:=oO;have w:cU 354 [s.dv,t.dv,j0 0] (.H1 [u.dv,j0 0]):=by
   exact B2 Tryz.func354 @q2 (P3 w1 w2)
  refine⟨u,0,.inl rfl,q,⟨fun _=>rfl,fun _=>rfl⟩,?_⟩;exact B2 Tryz.func303 H0 (M0 w)
 ·have q2:(4096:Int)<u.A0:=oO;have w:cU 354 [s.dv,t.dv,j0 0] (.H1 [M6.dv,j0 4]):=by
   exact G7 Tryz.func354 (j2 @q2 @M6.eq_1) (P3 w1 w2)
  refine⟨M6,4,.inr (.inr (.inl rfl)),dD,⟨fun h=>by simp at h,fun h=>absurd h q⟩,?_⟩;exact G7 Tryz.func303 @M6.eq_1 (M0 w)
theorem fb0{s:Sco}{X:Q0 Θ->Q0 Γ}{Y:Q0 Θ->Q0 Δ}(h:SR Θ Γ Δ s X Y)(N5:Γ.length<=100)(hΔ:Δ.length<=100){F:Q0 Γ->a.V}(ht:Dn Γ t a F)(hc:t.A0<=4096):Mk 303 [s.dv,t.dv] Θ a (fun θ=>F (X θ)):=by
 have hr:=h.room N5 hΔ;have hd:=h.dep;obtain⟨u,e,h1,h2,h3,w⟩:=fR0 ⟨oO,oO,oO,oO⟩ h.good (Z5 ht) (sF t _ (Z5 ht) (gW ht _ oO)) hc;exact⟨u,e,h1,h2,fun q=>by rw[h3.1 q];exact E20 (dep:=s.dep) (vs:=s.vs) ht 0 h.vs oO oO,w⟩
theorem gk0{a b:Fm}(h:(U5 k a b).fr=true)(hk:k=2\/k=3):k=2/\a.fr=true/\b.fr=true:=by
 rcases hk with rfl|rfl <;> simp[U5,Fm.fr,Fm.fr.frs]at h;exact⟨rfl,h⟩
theorem gW0(h:(qF k y f).fr=true)(hk:k=4\/k=5\/k=6\/k=7):False:=by
 rcases hk with rfl|rfl|rfl|rfl <;> simp[qF,Fm.fr]at h
theorem IS(h:FDn Γ f)(hf:f.fr=true):f.v6=false:=by
 induction h with
 | eq=>rfl
 | two hk h1 h2 i1 i2=>obtain⟨rfl,a,b⟩:=gk0 hf hk;rw[Vu,i1 a,i2 b];rfl
 | q hk=>exact (gW0 hf hk).elim
theorem gl0(h:FDn Γ f)(hf:f.fr=true):cU 225 [f.dv] (.H1 [I4.dv,O2 false,j0 0]):=by
 induction h with
 | @eq Γ s t F G h1 h2=>
  rw[sW];exact G7 kh0 @I4.eq_1 H0
 | @two Γ k a b hk h1 h2 i1 i2=>
  obtain⟨rfl,ha,hb⟩:=gk0 hf hk;have wa:=i1 ha;have wb:=i2 hb;have l1:=cX a;have l2:=cX b;rw[wU];exact G7 kh0 @I4.eq_1 (P3 wb wa)
 | q hk=>exact (gW0 hf hk).elim
theorem w10(K3:D6 gl 2=some A7)(h:FDn Γ f)(hf:f.fr=true)(hc:f.A0<=4096):cU 230 [f.dv] (.H1 [(L0 5 []).dv,O2 false,j0 0]):=by
 have w1:=CH K3 h oO;have w2:=LI K3 h (Fm.nb_fr hf).1 oO;rw[BM hc]at w1 w2;rw[IS h hf,Bool.and_false]at w2;have w3:=gl0 h hf;have w:cU 138 [f.dv] (.H1 [(L0 5 []).dv,j0 0]):=by
  exact G7 Tryz.func138 H0 (P3 w1 w3)
 exact G7 Tryz.func230 H0 (P3 w2 w)
theorem fc0(K3:D6 gl 2=some A7)(h:FDn Γ (qF 5 s.ty f))(hf:(qF 5 s.ty f).nb=true)(hc:(qF 5 s.ty f).A0<=4096):cU 230 [(qF 5 s.ty f).dv] (.H1 [s.ty.dv,O2 true,j0 0]):=by
 have w1:=CH K3 h oO;have w2:=LI K3 h hf oO;rw[BM hc]at w1 w2;rw[db0]at w2;simp only[decide_true,Ld]at w2;have w3:=gl0 (nB h).2 (Fm.nb_ex hf).1;have l1:=cX f;rw[dL]at w1 w2 ⊢;have w4:cU 225 [.agg [j0 5,j0 s.ty.o0,.sl (s.ty.B0.map P1),.sl [],.sl [f.E0]]] (.H1 [s.ty.dv,O2 true,j0 0]):=by
  exact B2 kh0 H0 (M0 w3)
 have w:cU 138 [.agg [j0 5,j0 s.ty.o0,.sl (s.ty.B0.map P1),.sl [],.sl [f.E0]]] (.H1 [s.ty.dv,j0 0]):=by
  exact B2 Tryz.func138 H0 (P3 w1 w4)
 exact B2 Tryz.func230 H0 (P3 w2 w)
theorem Rp{H:Q0 Θ->c.V}{l:List Tm}(h:Dn Θ (U0 k 0 y l) c H):s6 (nX k y l).2/\(nX k y l).1.A0<=4096/\((nX k y l).2=0->Dn Θ (nX k y l).1 c H):=by
 unfold nX;split;· exact⟨.inr (.inr (.inl rfl)),dD,fun h=>by simp at h⟩
 ·exact⟨.inl rfl,by simp only;omega,fun _=>h⟩
theorem gm0(y:Ty)(h2:t.A0<=4096):cU 233 [y.dv,t.dv,j0 0] (.H1 [(nX 2 y [t]).1.dv,j0 (nX 2 y [t]).2]):=by
 have w:=Qq 2 y [t] (by show 1+(t.A0+0)<=_;omega);have oQ:=O3 (nX 2 y [t]).1;generalize nX 2 y [t]=r at *;obtain⟨u,e2⟩:=r;simp only[G4,O5]at w oQ ⊢;exact B2 Tryz.func233 @oQ (M0 w)
theorem GA{F:Q0 (a::Θ)->c.V}(ha:a.ok)(h1:s6 e)(h2:t.A0<=4096)(h3:e=0->Dn (a::Θ) t c F):Mk 233 [a.ty.dv,t.dv,j0 e] Θ (.fn a c) (fun θ v=>F (v,θ)):=by
 by_cases q:e=0
 ·subst q;obtain⟨b1,b2,b3⟩:=Rp (show Dn Θ (U0 2 0 a.ty [t]) _ _ from .lam ha (h3 rfl));exact⟨_,_,b1,b2,b3,gm0 a.ty h2⟩
 ·refine⟨M6,e,h1,dD,fun h=>absurd h q,?_⟩;exact G7 Tryz.func233 (j2 @q @M6.eq_1) H0
theorem fS0{b:T}{F:Q0 Θ->a.V}{G:Q0 Θ->b.V}{H:Q0 Θ->c.V}{f1 f2:FuncId}{c1 c2:List DV}(h1:Mk f1 c1 Θ a F)(h2:Mk f2 c2 Θ b G)(hk:∀t u,Dn Θ t a F->Dn Θ u b G->Dn Θ (nT k [t,u]) c H):Mk 229 [j0 k,.m6 f1 c1,.m6 f2 c2] Θ c H:=by
 obtain⟨t,e1,l1,n1,d1,w1⟩:=h1;obtain⟨u,e2,l2,n2,d2,w2⟩:=h2;by_cases q1:e1=0;rotate_left
 ·refine⟨M6,e1,l1,dD,fun h=>absurd h q1,?_⟩;exact G7 kj0 (j2 @q1 @M6.eq_1) (M0 w1)
 by_cases q2:e2=0;rotate_left
 ·refine⟨M6,e2,l2,dD,fun h=>absurd h q2,?_⟩;exact G7 kj0 (j3 @q1 @q2 @M6.eq_1) (P3 w1 w2)
 obtain⟨b1,b2,b3⟩:=Rp (hk t u (d1 q1) (d2 q2));have w:=Qq k (L0 0 []) [t,u] (by show 1+(t.A0+(u.A0+0))<=_;omega);have OD:=O3 (nX k (L0 0 []) [t,u]).1;have hz:eM [j0 0,DV.sl []]=(L0 0 []).dv:=rfl;refine⟨_,_,b1,b2,b3,?_⟩;generalize nX k (L0 0 []) [t,u]=r at *;obtain⟨v,e⟩:=r;simp only[G4,O5]at w OD ⊢;exact B2 kj0 (j4 @q1 @q2 @OD @hz) (E8 w1 w2 w)
theorem fd0(hs:s = .C0\/s = .list):∃t,Dn [] t s (fun _=>s.dflt)/\t.A0=1/\cU 306 [s.ty.dv] t.dv:=by
 rcases hs with rfl|rfl
 ·refine⟨nT 4 [],.zero,rfl,?_⟩;show P8 _ _ _ [.agg [j0 1,.sl []]] _ (.agg [j0 4,j0 0,j0 0,.sl [],.sl []]) _;exact B2 Tryz.func306 H0 H0
 ·refine⟨nT 7 [],.nil,rfl,?_⟩;show P8 _ _ _ [.agg [j0 2,.sl []]] _ (.agg [j0 7,j0 0,j0 0,.sl [],.sl []]) _;exact B2 Tryz.func306 H0 H0
abbrev eR:DV:=.K0 (.slice none 0 0)
abbrev xC(p:Pf)(hs:List Fm)(v:DV):List DV:=[j0 p.o0,j0 p.O0,j0 p.I0.o0,.sl (p.I0.B0.map P1),.sl (p.M1.map E3),.sl (p.V4.map L3),.sl (p.B0.map lN),j0 0,j0 0,eR,eR,eR,.sl (hs.map L3),O2 false,v]
def pO(b:Nat)(p:Pf)(hs:List Fm)(P:RS):G3:=(b,xC p hs P.v)::P.objs
theorem C50(b:Nat)(p:Pf)(hs:List Fm)(P:RS):get (U3 (pO b p hs P)) (.heap b)=some (.row ((xC p hs P.v).map b7)):=by simp[pO,U3,get]
abbrev lI(b:Nat)(hs:List Fm):DV:=.agg [.sl [],.sl (hs.map L3),M3 b]
abbrev g6(p:Pf)(f:Fm)(hs:List Fm)(c:Bool)(v:DV):List DV:=[j0 p.o0,j0 p.O0,j0 p.I0.o0,.sl (p.I0.B0.map P1),.sl (p.M1.map E3),.sl (p.V4.map L3),.sl (p.B0.map lN),j0 f.o0,j0 f.I0.o0,.sl (f.I0.B0.map P1),.sl (f.M1.map E3),.sl (f.B0.map L3),.sl (hs.map L3),O2 c,v]
def EY(b:Nat)(p:Pf)(hs:List Fm)(f:Fm)(ys:List (List DV)):DV->G3->Prop:=fun r φ=>r=f.dv/\∃P:RS,P.is 1 ys/\(∃b',P.q=some b'/\b'≠b)/\φ=pO b p hs P
theorem Yy{b:Nat}{P:RS}(h:∀b',P.q=some b'->b'≠b):((pO b p hs P).map (·.1)).Nodup:=by
 unfold pO H8;cases hq:P.q with
 | none=>simp
 | some b'=>have:=h b' hq;simp;exact this.symm
theorem JG{x:DV}{l:Loc}{v:LV}(h:get [sV n x] l=some v):l = .P0 n:=by
 simp only[get]at h;split at h;· rename_i e;exact e.symm
 ·cases h
theorem Yz(n:Nat)(φ:G3)(l:List (Nat × DV)):aC n (l.map (fun p=>sV p.1 p.2)++U3 φ)=true:=by
 induction l with
 | nil=>exact Vf n φ
 | cons p r ih=>
  simp only[aC,uH]at ih;simp[aC,A8,a9,jS,pE,ih]
def Zl(b:Nat)(p:Pf)(hs:List Fm)(P:RS)(ys:List (List DV))(m:Nat)(h:St):Prop:=
 (m=0/\h=U3 (pO b p hs P))\/(m=1/\h=sV 30 P.v::U3 (pO b p hs P)) \/
 (m=2/\∃(P':RS) (b':Nat),P'.is 1 ys/\P'.q=some b'/\b'≠b/\h=sV 33 P'.v::sV 30 P.v::U3 ((b,xC p hs P.v)::P'.objs)) \/
 (m=3/\∃(P':RS) (b':Nat),P'.is 1 ys/\P'.q=some b'/\b'≠b/\h=sV 33 P'.v::sV 30 P.v::U3 (pO b p hs P'))
theorem Zl.ok{b:Nat}{P:RS}{ys:List (List DV)}{m:Nat}{h:St}(k:Zl b p hs P ys m h):(∀l v,get h l=some v->cA [30,33,36] l=false)/\(∀n,aC n h=true)/\(0<m->get h (.P0 30)=some (.one (.v P.v))):=by
 have key:∀(l:List (Nat × DV)) (φ:G3),(∀p∈l,p.1∈[30,33,36])->∀m v,get (l.map (fun p=>sV p.1 p.2)++U3 φ) m=some v->cA [30,33,36] m=false:=by
  intro l φ hl m v hm
  induction l with
  | nil=>obtain⟨b,cs,rfl,-⟩:=tZ hm;rfl
  | cons p r ih=>
   simp only[G4,R6,get]at hm;split at hm;· rename_i e;subst e;have:=hl p sS;simp at this;simp[cA];omega
   ·exact ih (fun q hq=>hl q (by simp[hq])) hm
 rcases k with⟨rfl,rfl⟩|⟨rfl,rfl⟩|⟨rfl,P',b',-,-,-,rfl⟩|⟨rfl,P',b',-,-,-,rfl⟩;· exact⟨fun l v h=>by obtain⟨b,cs,rfl,-⟩:=tZ h;rfl,fun n=>Vf n _,fun h=>absurd h dD⟩
 ·exact⟨key [(30,P.v)] _ sS,fun n=>Yz n _ [(30,P.v)],fun _=>by simp[get]⟩
 ·exact⟨key [(33,P'.v),(30,P.v)] _ sS,fun n=>Yz n _ [(33,P'.v),(30,P.v)],fun _=>by simp[get]⟩
 ·exact⟨key [(33,P'.v),(30,P.v)] _ sS,fun n=>Yz n _ [(33,P'.v),(30,P.v)],fun _=>by simp[get]⟩
theorem fe0{y:Pf}{hs bH:List Fm}{f:Fm}{c:Bool}{v:DV}(b:Nat)(ys:List (List DV))(P:RS)(hy:p.B0[ys.length]? = some y)(hP0:P.is 1 ys)(hl:ys.length<=1)(hb:∀b',P.q=some b'->b'≠b)
  (w:cU 137 [.sl [],.sl (bH.map L3),y.dv] (.ref (g6 y f bH c v))) :
  lF W0 gl 292 [lI b hs,.sl (bH.map L3)] (pO b p hs P) (EY b p hs f (ys++[[.ref (g6 y f bH c v)]])):=by
 have qG:=hP0.n_eq;have hg:=C50 b p hs P;have A4:=Yy (p:=p) (hs:=hs) hb;have Ce:(P.n:Int)=ys.length:=by rw[qG]
 refine H2 Tryz.func292 ?_;intro X hP G0 hf X0 hn hR K1 G1;simp only[entry,bA,R6,aT];refine E4 (bx [1000002]) @hg ?_;refine N1 (j3 @hg @Ce @hy) (M0 w) ?_;refine Q1 ?_;have qD:aL (.ref (g6 y f bH c v))=[.ref (g6 y f bH c v)]:=rfl;have OH:DV.isCell (.ref (g6 y f bH c v))=true:=rfl;generalize hz:DV.ref (g6 y f bH c v)=z at *
 refine aM [] sG ?_ sG (ge0 (s:=sV 2 (.ref [.sl [],.sl (hs.map L3),M3 b])::sV 5 z::sP 4::sL 4 [.v (j0 0),.v (j0 0),.own 0 [],.own 0 [],.own 0 []]::U3 (pO b p hs P))
  (sv:=[sV 2 (.ref [.sl [],.sl (hs.map L3),M3 b]),sV 5 z,sP 4,sL 4 [.v (j0 0),.v (j0 0),.own 0 [],.own 0 [],.own 0 []],sV 30 P.v,sV 33 (j0 0),sV 36 (j0 0)]) (by rw[hP];exact kO) [(6,30,2 ^ 30),(9,33,2 ^ 33),(12,36,2 ^ 36)]
  (fun m=>if m=0 then [sV 29 (.K0 (.pointer (some ⟨b,14,none⟩)))] else if m=1 then [sV 32 (.sl [[z]])] else [sV 35 (.K0 (.pointer (some ⟨b,14,none⟩)))]) (Zl b p hs P (ys++[[z]])) (some (.one (.v P.v))) (Or.inl ⟨rfl,rfl⟩) (fun l v h=>h) (by rfl) ?_ (fun m h k=>k.ok) ?_ [] fun K hK=>?_)
 ·simp[go_sem,kX0 _ A4]
 ·intro m q d c hm l v hl
  match m,hm with
  | 0,hm=>cases hm;cases JG hl;exact⟨29,rfl,rfl,rfl⟩
  | 1,hm=>cases hm;cases JG hl;exact⟨32,rfl,rfl,rfl⟩
  | 2,hm=>cases hm;cases JG hl;exact⟨35,rfl,rfl,rfl⟩
  | n+3,hm=>exact absurd hm sS
 ·intro m q d c o hm ho s1 h o9 oI S4 G a w R next N Z1
  have fS:∀(φ:G3) (n:Nat),get (U3 φ++s1) (.P0 n)=get s1 (.P0 n):=fun φ n=>by rw[eE,bz0];rfl
  match m,hm with
  | 0,hm=>
   cases hm;simp at ho;subst ho;obtain⟨-,rfl⟩|⟨h,-⟩|⟨h,-⟩|⟨h,-⟩:=S4;rotate_left;· cases h
   ·cases h
   ·cases h
   refine bL0 (X:=X) (s1:=[sV 29 (.K0 (.pointer (some ⟨b,14,none⟩))),sB b ((xC p hs P.v).map b7)]) (fun l v hl=>?_) (c:=True) (y:=.v P.v) (by simp[N8,loadAt,go_sem,hP]) tT rfl nN G a w R next N fun G' a' w' R'=>Z1 _ G' a' w' (.inr (.inl ⟨rfl,rfl⟩)) (R'.congr fun l=>by simp[T5,get])
   simp only[get]at hl;split at hl;· rename_i e;subst e;cases hl;rw[fS];exact oI _ _ rfl
   ·split at hl;· rename_i e;subst e;cases hl;rw[eE,hg];rfl
    ·cases hl
  | 1,hm=>
   cases hm;simp at ho;subst ho;obtain⟨h,-⟩|⟨-,rfl⟩|⟨h,-⟩|⟨h,-⟩:=S4;· cases h
   rotate_left;· cases h
   ·cases h
   have h30:get (sV 30 P.v::U3 (pO b p hs P)++s1) (.P0 30)=some (.one (.v P.v)):=by simp[get]
   have h32:get (sV 30 P.v::U3 (pO b p hs P)++s1) (.P0 32)=some (.one (.v (.sl [[z]]))):=by
    rw[R6,get,if_neg sS,fS];exact oI _ _ rfl
   have A5:∀q,P.q=some q->get (sV 30 P.v::U3 (pO b p hs P)++s1) (.heap q)=some (.row (C4 P.full)):=fun q hq=>by
    rw[R6,get,if_neg sS,eE,kV0 A4 (b:=q) (cs:=P.full.flatten) (List.mem_cons_of_mem _ (RS.mem_objs.2 ⟨hq,rfl⟩))];rfl
   have Fl:get (sV 30 P.v::U3 (pO b p hs P)++s1) (.heap b)=some (.row ((xC p hs P.v).map b7)):=by rw[R6,get,if_neg sS,eE,hg];rfl
   refine mm0 (X:=X) (s:=sV 30 P.v::U3 (pO b p hs P)++s1) (E:=1) (B:=8) (q:=P.q) (n:=P.n) (cap:=P.cap) (full:=P.full) (zs:=[[z]]) (zd:=[.K0 (.pointer none)]) rfl rfl nN (by simp[go_sem,hP]) dD (by rw[hP];kernel_rfl) (by simp only[M2,h30]) (by simp only[M2,h32];rfl) A5 hP0.nil hP0.len hP0.le sS (by unfold M5;simp;omega) hP0.wid sS (by rw[hP];kernel_rfl) rfl _ (fun l v h=>h) G a w R next N fun y b2 cs rU BX G' a' w' R'=>?_
   obtain⟨P',eX,rfl,rfl,Ic⟩:=hP0.app rU;have X1:b2≠b:=BX b (fun e=>hb b e rfl) (by rw[Fl];simp);refine Z1 _ G' a' w' (.inr (.inr (.inl ⟨rfl,P',b2,Ic,eX,X1,rfl⟩))) (R'.weaken fun l v hl=>?_);rw[R6,get]at hl;by_cases e1:mI 33=l;· rw[if_pos e1]at hl;subst e1;rw[Hb,T5,if_neg sS,T5,if_pos rfl];exact hl
   rw[if_neg e1,R6,U3,R6,get,get]at hl;by_cases e2:kI b2=l
   ·subst e2;rw[if_neg sS,if_neg (by simpa using X1.symm),eE,show U3 P'.objs=[(.heap b2,.row (P'.full.flatten.map b7))] by unfold H8;rw[eX];rfl]at hl;rw[Hb,T5,if_pos rfl]
    simpa [get,C4] using hl
   have hq:∀l',l'≠.heap b2->get (U3 P'.objs) l' = none:=fun l' h=>by
    rw[show U3 P'.objs=[(.heap b2,.row (P'.full.flatten.map b7))] by unfold H8;rw[eX];rfl,get,if_neg fun e=>h e.symm];rfl
   by_cases e3:mI 30=l;· rw[if_pos e3]at hl;subst e3;rw[Xt sS sS sS,h30];exact hl
   rw[if_neg e3]at hl;by_cases e4:kI b=l;· rw[if_pos e4]at hl;subst e4;rw[Xt sS (fun e=>e2 e.symm) (fun q h e=>hb q h (by cases e;rfl)),Fl];exact hl
   rw[if_neg e4,eE,hq l fun e=>e2 e.symm]at hl;have hv:∀q,l≠.heap q:=fun q e=>by subst e;rw[show (none:Option LV).or (get s1 (.heap q))=get s1 (.heap q) from rfl,o9 (.heap q) rfl]at hl;cases hl
   rw[Xt (fun e=>e1 e.symm) (hv _) (fun q _=>hv q),R6,get,if_neg e3,eE];cases pU:get (U3 (pO b p hs P)) l with
   | none=>exact hl
   | some u=>obtain⟨b3,cs,rfl,-⟩:=tZ pU;exact absurd rfl (hv b3)
  | 2,hm=>
   cases hm;simp at ho;subst ho;obtain⟨h,-⟩|⟨h,-⟩|⟨-,P',b',hP1,hq,X1,rfl⟩|⟨h,-⟩:=S4;· cases h
   ·cases h
   rotate_left;· cases h
   have h35:get (sV 33 P'.v::sV 30 P.v::U3 ((b,xC p hs P.v)::P'.objs)++s1) (.P0 35)=some (.one (.v (.K0 (.pointer (some ⟨b,14,none⟩))))):=by
    rw[R6,R6,get,if_neg sS,get,if_neg sS,fS];exact oI _ _ rfl
   refine UK (X:=X) (s:=sV 33 P'.v::sV 30 P.v::U3 ((b,xC p hs P.v)::P'.objs)++s1) (b:=b) (off:=14) rfl rfl (by simp only[M2,h35]) (cs:=(xC p hs P.v).map b7) (by simp[get,U3]) (agg:=false) (n:=1) (by rw[hP];kernel_rfl) (y:=.v P'.v) (by simp[M2,get]) (ys:=[.v P'.v]) rfl ⟨rfl,sS⟩ rfl G a w R next N fun G' a' w' R'=>Z1 _ G' a' w' (.inr (.inr (.inr ⟨rfl,P',b',hP1,hq,X1,rfl⟩))) (R'.congr fun l=>?_)
   rw[T5];by_cases e:kI b=l;· subst e;simp[get,pO,U3,put]
   ·rw[if_neg e];simp[get,pO,U3,e]
  | n+3,hm=>exact absurd hm sS
 ·simp[go_sem,hP,G0,hn,dO,tJ,List.lookup_cons,qD,OH];refine⟨by rfl,hK _ (fun m hm=>?_) sG fun h' hh=>?_⟩
  ·match m,hm with
   | 0,_=>exact fun l v hl=>by cases JG hl;exact hl
   | 1,_=>exact fun l v hl=>by cases JG hl;exact hl
   | 2,_=>exact fun l v hl=>by cases JG hl;exact hl
   | n+3,hm=>exact absurd hm sS
  clear hK K;rcases hh with⟨h,-⟩|⟨h,-⟩|⟨h,-⟩|⟨-,P',b',hP1,hq,X1,rfl⟩;· cases h
  ·cases h
  ·cases h
  have TI:=Yy (p:=p) (hs:=hs) (P:=P') (b:=b) fun b2 h2=>by rw[hq]at h2;cases h2;exact X1
  have An:=Fm.fold f;subst hz;simp[go_sem,iW,cA];refine N2 ?_;refine gA hP hf X0 f.dv (pO b p hs P') (by simp[go_sem,hP,G0,hn,An]) (fun b2 cs h2=>by simp[go_sem];exact Bh TI b2 cs h2) TI ?_ hR.2;rw[hR.1];exact⟨rfl,P',hP1,⟨b',hq,X1⟩,rfl⟩
inductive Ct:Fm->T->Prop
 | fr {f:Fm} (h:f.fr=true):Ct f .Z4
 | ex {s:T} {f:Fm}:Ct (qF 5 s.ty f) s
 | all {s a:T} {f:Fm} (h:Ct f a):Ct (qF 4 s.ty f) (.fn s a)
 | allu {s a:T} {f:Fm} (h:Ct f a):Ct (qF 6 s.ty f) a
theorem Ct.up(h:Ct f a):∀p b:Int,Ct (f.V0 p b) a:=by
 induction h with
 | fr h=>exact fun p b=>.fr (by rw[(Fm.nb_up _ p b).1];exact h)
 | ex=>exact fun p b=>.ex
 | all h ih=>exact fun p b=>.all (ih _ b)
 | allu h ih=>exact fun p b=>.allu (ih _ b)
theorem Ct.put(h:Ct f a):∀(p d:Int) (s:Tm),Ct (f.Y1 p d s) a:=by
 induction h with
 | fr h=>exact fun p b s=>.fr (by rw[(Fm.nb_in _ p b s).1];exact h)
 | ex=>exact fun p b s=>.ex
 | all h ih=>exact fun p b s=>.all (ih p _ s)
 | allu h ih=>exact fun p b s=>.allu (ih p _ s)
theorem Ct.uniq(h:Ct f a):∀{b:T},Ct f b->a=b:=by
 induction h with
 | @fr f h=>
  intro b hb;have:=(Fm.nb_fr h).2;cases hb with
  | fr=>rfl
  | ex=>exact absurd this (by simp[qF,cM])
  | all=>exact absurd this (by simp[qF,cM])
  | allu=>exact absurd this (by simp[qF,cM])
 | @ex s f=>
  intro b hb;generalize hq:qF 5 s.ty f=g at hb;cases hb with
  | fr h=>subst hq;exact absurd (Fm.nb_fr h).2 (by simp[qF,cM])
  | ex=>simp only[qF,oV.injEq]at hq;exact eN hq.2.1
  | all=>simp[qF]at hq
  | allu=>simp[qF]at hq
 | @all s a f h ih=>
  intro b hb;generalize hq:qF 4 s.ty f=g at hb;cases hb with
  | fr h=>subst hq;exact absurd (Fm.nb_fr h).2 (by simp[qF,cM])
  | ex=>simp[qF]at hq
  | all h2=>simp only[qF,oV.injEq,FG,and_true,true_and]at hq;obtain⟨h3,rfl⟩:=hq;rw[eN h3,ih h2]
  | allu=>simp[qF]at hq
 | @allu s a f h ih=>
  intro b hb;generalize hq:qF 6 s.ty f=g at hb;cases hb with
  | fr h=>subst hq;exact absurd (Fm.nb_fr h).2 (by simp[qF,cM])
  | ex=>simp[qF]at hq
  | all=>simp[qF]at hq
  | allu h2=>simp only[qF,oV.injEq,FG,and_true,true_and]at hq;obtain⟨-,rfl⟩:=hq;exact ih h2
theorem YA(h:FDn Γ f)(hn:f.nb=true):∃a,Ct f a:=by
 induction h with
 | eq=>exact⟨_,.fr rfl⟩
 | @two Γ k a b hk h1 h2=>obtain⟨rfl,ha,hb⟩:=Fm.nb_two hk hn;exact⟨_,.fr (by simp[U5,Fm.fr,Fm.fr.frs,ha,hb])⟩
 | @q Γ k s f hk hs h ih=>
  rcases hk with rfl|rfl|rfl|rfl;· obtain⟨a,ha⟩:=ih (Fm.nb_all sS hn);exact⟨_,.all ha⟩
  ·exact⟨_,.ex⟩
  ·obtain⟨a,ha⟩:=ih (Fm.nb_all sS hn);exact⟨_,.allu ha⟩
  ·simp[qF,Fm.nb]at hn
theorem Ct.ne(h:Ct f a):∀{Γ:List T},FDn Γ f->f.nb=true->f.v6=true->a≠.Z4:=by
 induction h with
 | fr h=>intro Γ hd hn hc;rw[IS hd h]at hc;cases hc
 | @ex s f=>intro Γ hd hn hc e;subst e;rcases (Fm.nb_ex hn).2 with h|h <;> simp[T.ty,Ty.o0]at h
 | all h ih=>intro Γ hd hn hc e;cases e
 | allu h ih=>intro Γ hd hn hc;exact ih (nB hd).2 (Fm.nb_all sS hn) (by rw[zD _ _ sS]at hc;exact hc)
inductive HT:List Fm->List T->Prop
 | nil:HT [] []
 | snoc {hs:List Fm} {Δ:List T} {f:Fm} {a:T} (h:HT hs Δ) (c:Ct f a):HT (hs++[f]) (a::Δ)
theorem HT.len(h:HT hs Δ):hs.length=Δ.length:=by
 induction h with
 | nil=>rfl
 | snoc h c ih=>simp[ih]
theorem HT.at{hs:List Fm}{Δ:List T}(h:HT hs Δ):∀{i:Nat} {f:Fm},i<hs.length->hs[hs.length - 1 - i]? = some f->∃(a:T) (p:Q0 Δ->a.V),At Δ i a p/\Ct f a:=by
 induction h with
 | nil=>intro i f hi;simp at hi
 | @snoc hs Δ g a h c ih=>
  intro i f hi hf;simp only[mJ,B4,fC]at hi hf;cases i with
  | zero=>
   rw[cK oO,show hs.length+(0+1) - 1 - 0 - hs.length=0 from oO]at hf;cases hf;exact⟨a,_,.zero,c⟩
  | succ i=>
   rw[cJ oO,show hs.length+(0+1) - 1 - (i+1)=hs.length - 1 - i from oO]at hf;obtain⟨b,p,h1,h2⟩:=ih oO hf;exact⟨b,_,.succ h1,h2⟩
theorem HT.up{hs:List Fm}{Δ:List T}(h:HT hs Δ)(n:Int):HT (Q5 hs n) Δ:=by
 induction h with
 | nil=>exact .nil
 | snoc h c ih=>rw[Q5,FV];exact .snoc ih (c.up 0 n)
theorem YB(a:T)(Θ:List T):Dn (a::Θ) (vT 0) a (fun θ=>θ.1):=.var .zero
theorem SR.all{s:Sco}{X:Q0 Θ->Q0 Γ}{Y:Q0 Θ->Q0 Δ}(h:SR Θ Γ Δ s X Y)(N5:Γ.length<=100)(a:T):SR (a::Θ) (a::Γ) Δ (s.bind.var (vT 0)) (fun θ=>(θ.1,X θ.2)) (fun θ=>Y θ.2):=
 have hr:=h.rm
 ⟨(h.bind a).var (by simp only;omega) (YB a Θ) dD,by simp only[B4];omega⟩
theorem SR.exe{s:Sco}{X:Q0 Θ->Q0 Γ}{Y:Q0 Θ->Q0 Δ}(h:SR Θ Γ Δ s X Y)(N5:Γ.length<=100)(a:T):SR (a::Θ) (a::Γ) (.Z4::Δ) (s.bind.var (vT 0)).bare (fun θ=>(θ.1,X θ.2)) (fun θ=>((),Y θ.2)):=
 have hr:=h.rm
 ⟨(h.all N5 a).bare,by simp only[B4];omega⟩
theorem SR.ind{s:Sco}{X:Q0 Θ->Q0 Γ}{Y:Q0 Θ->Q0 Δ}(h:SR Θ Γ Δ s X Y)(N5:Γ.length<=100)(a c:T):SR (c::a::Θ) (a::Γ) (c::Δ) ((s.bind.var (vT 0)).bind.hyp (vT 0)) (fun θ=>(θ.2.1,X θ.2.2)) (fun θ=>(θ.1,Y θ.2.2)):=
 have hr:=h.rm
 ⟨((h.all N5 a).bind c).hyp (by simp only;omega) (YB c (a::Θ)) dD,by simp only[B4];omega⟩
def BT(Γ:List T)(hs:List Fm)(f:Fm)(pd:List DV):Prop:=∀Δ,HT hs Δ->f.v6=true->∃(a:T) (D:Q0 Γ->Q0 Δ->a.V),Ct f a /\
 ∀(Θ:List T) (s:Sco) (X:Q0 Θ->Q0 Γ) (Y:Q0 Θ->Q0 Δ),SR Θ Γ Δ s X Y->Mk 140 [.agg [.sl []],.ref pd,s.dv] Θ a (fun θ=>D (X θ) (Y θ))
def JT(Γ:List T)(hs:List Fm)(p:Pf)(f:Fm):Prop:=∃v,cU 137 [.sl [],.sl (hs.map L3),p.dv] (.ref (g6 p f hs f.v6 v))/\BT Γ hs f (g6 p f hs f.v6 v)
theorem iA{q p:Prop}(n:Nat)(k:q)(h:∀zn,zn=n->Hid q->p:=by
 intro zn zw zk;try refine bQ zX fun hP G0 hf X0 hn hR K1=>?_
 refine Q1 ?_;refine O9 [zn] fun K hK=>?_;subst zw;simp[go_sem,hP,G0,hn];refine Ju (by simp[go_sem];rfl) nN rfl ?_;simp[go_sem,hP,G0,hn];refine K4 ?_;clear hK K;exact zk.out):p:=h n rfl ⟨k⟩
abbrev bD:DV:=.agg [.sl []]
abbrev Sco.cs(s:Sco):List DV:=[j0 s.dep,j0 s.hy,.sl (jZ xX s.vs),.sl (jZ Al s.ks)]
theorem zP0{F:Q0 Θ->a.V}{s:Sco}{x0 x1 x2 x3 x4 x5 x6 x7 x8 x9 y0 y1 y2 y3:DV}{r:List (List DV)}(h:Mk 140 [bD,.ref pi,s.dv] Θ a F):
  Mk 301 [.ref [.sl []],.ref [.ref [x0,x1,x2,x3,x4,x5,x6,x7,x8,x9,y0,y1,y2,y3,.sl ([.ref pi]::r)]],.ref [j0 0],.ref s.cs] Θ a F:=by
 obtain⟨t,e,h1,h2,h3,w⟩:=h;refine⟨t,e,h1,h2,h3,?_⟩;exact B2 Tryz.func301 H0 (M0 w)
theorem sg0(x s:DV):cU 300 [j0 0,.ref [.sl []],x,s] (.m6 301 [.ref [.sl []],x,.ref [j0 0],s]):=by
 refine A3 Tryz.func300 fun X zX=>?_;refine E4 (bx [1000004]) tT ?_;refine iA 6 ?_;exact rF
theorem gN0{s:Sco}{P:Tm->Int->Prop}(h:vN 303 [s.dv,t.dv] P){x0 x1 x2 x3 x5 x6 x7 x8 x9 y0 y1 y2 y3 y4:DV}:
  vN 302 [.ref s.cs,.ref [.ref [x0,x1,x2,x3,.sl [t.E0],x5,x6,x7,x8,x9,y0,y1,y2,y3,y4]]] P:=by
 obtain⟨u,e,h1,h2,h3,w⟩:=h;refine⟨u,e,h1,h2,h3,?_⟩;exact B2 Tryz.func302 H0 (M0 w)
theorem XI{s:Sco}{X:Q0 Θ->Q0 Γ}{Y:Q0 Θ->Q0 Δ}(h:SR Θ Γ Δ s X Y)(N5:Γ.length<=100)(hΔ:Δ.length<=100){F:Q0 Γ->a.V}(ht:Dn Γ t a F)(hc:t.A0<=4096){x0 x1 x2 x3 x5 x6 x7 x8 x9 y0 y1 y2 y3 y4:DV}:
  Mk 302 [.ref s.cs,.ref [.ref [x0,x1,x2,x3,.sl [t.E0],x5,x6,x7,x8,x9,y0,y1,y2,y3,y4]]] Θ a (fun θ=>F (X θ)):=gN0 (fb0 h N5 hΔ ht hc)
theorem wZ{P:Tm->Int->Prop}{s:Sco}{x1 x2 x3 x4 x5 x6 x7 x8 x9 y0 y1 y2 y3 y4:DV}(hk:8<=k)(h:vN 234 [bD,.ref [j0 k,x1,x2,x3,x4,x5,x6,x7,x8,x9,y0,y1,y2,y3,y4],s.dv] P):
  vN 140 [bD,.ref [j0 k,x1,x2,x3,x4,x5,x6,x7,x8,x9,y0,y1,y2,y3,y4],s.dv] P:=by
 obtain⟨t,e,h1,h2,h3,w⟩:=h;have q:¬k=1/\¬k=2/\¬k=3/\¬k=4/\¬k=5/\¬k=6/\¬k=7:=oO;refine⟨t,e,h1,h2,h3,?_⟩;refine A3 Tryz.func140 fun X zX=>?_;refine E4 (bx [1000003,1000004,1000005]) tT ?_;refine iA 23 ?_;exact O1 @q (M0 w)
theorem fT0{P Q:Tm->Int->Prop}{y:Ty}{s:Sco}(hr:s.room){r:List (List DV)}{x1 x4 x5 x6 x7 x8 x9 y0 y1 y2 y3:DV}(hd:s.dep<=90000/\s.vs.length<=90000)(h:vN 140 [bD,.ref pi,(s.bind.var (vT 0)).dv] P)
  (hl:∀t e,s6 e->t.A0<=4096->P t e->vN 233 [y.dv,t.dv,j0 e] Q):vN 234 [bD,.ref [j0 8,x1,j0 y.o0,.sl (y.B0.map P1),x4,x5,x6,x7,x8,x9,y0,y1,y2,y3,.sl ([.ref pi]::r)],s.dv] Q:=by
 obtain⟨t,e,h1,h2,h3,w⟩:=h;obtain⟨u,e2,m1,m2,m3,w2⟩:=hl t e h1 h2 h3;have hr2:s.bind.room:=⟨by simp only;omega,hr.2⟩;have w3:=Gs s hr;have w4:=JE s.bind hr2 (vT 0);have w5:=Mc 0;refine⟨u,e2,m1,m2,m3,?_⟩;refine A3 DZ fun X zX=>?_;refine E4 (bx [1000003,1000004,1000005]) tT ?_;refine iA 18 ?_;refine iA 19 ?_;exact O1 H0 (T9 w3 w5 w4 w w2)
theorem gn0{b:T}{F:Q0 (a::Θ)->b.V}(ha:a.ok){s:Sco}(hr:s.room){r:List (List DV)}{x1 x4 x5 x6 x7 x8 x9 y0 y1 y2 y3:DV}(hd:s.dep<=90000/\s.vs.length<=90000)(h:Mk 140 [bD,.ref pi,(s.bind.var (vT 0)).dv] (a::Θ) b F):
  Mk 234 [bD,.ref [j0 8,x1,j0 a.ty.o0,.sl (a.ty.B0.map P1),x4,x5,x6,x7,x8,x9,y0,y1,y2,y3,.sl ([.ref pi]::r)],s.dv] Θ (.fn a b) (fun θ v=>F (v,θ)):=
 fT0 (P:=fun t e=>e=0->Dn (a::Θ) t b F) hr hd h fun t e h1 h2 h3=>GA ha h1 h2 h3
theorem zQ0{s:Sco}{X:Q0 Θ->Q0 Γ}{Y:Q0 Θ->Q0 Δ}(hS:SR Θ Γ Δ s X Y)(N5:Γ.length<=100)(hΔ:Δ.length<=100){b:T}{F:Q0 Γ->a.V}(ht:Dn Γ t a F)(hc:t.A0<=4096){H:Q0 Θ->(y8 a b).V}{r:List (List DV)}{x1 x2 x3 x5 x6 x7 x8 x9 y0 y1 y2 y3:DV}(h:Mk 140 [bD,.ref pi,s.dv] Θ (.fn a b) H):
  Mk 234 [bD,.ref [j0 9,x1,x2,x3,.sl [t.E0],x5,x6,x7,x8,x9,y0,y1,y2,y3,.sl ([.ref pi]::r)],s.dv] Θ b (fun θ=>H θ (F (X θ))):=by
 obtain⟨u,e,h1,h2,h3,w⟩:=fS0 (k:=3) (zP0 (x0:=j0 9) (x1:=x1) (x2:=x2) (x3:=x3) (x4:=.sl [t.E0]) (x5:=x5) (x6:=x6) (x7:=x7) (x8:=x8) (x9:=x9) (y0:=y0) (y1:=y1) (y2:=y2) (y3:=y3) (r:=r) h) (XI (x0:=j0 9) (x1:=x1) (x2:=x2) (x3:=x3) (x5:=x5) (x6:=x6) (x7:=x7) (x8:=x8) (x9:=x9) (y0:=y0) (y1:=y1) (y2:=y2) (y3:=y3) (y4:=.sl ([.ref pi]::r)) hS N5 hΔ ht hc) fun _ _=>.app;have wl:=sg0 (.ref [.ref [j0 9,x1,x2,x3,.sl [t.E0],x5,x6,x7,x8,x9,y0,y1,y2,y3,.sl ([.ref pi]::r)]]) (.ref s.cs);refine⟨u,e,h1,h2,h3,?_⟩;refine H2 DZ ?_;intro X hP G0 hf X0 hn hR K1 G1;refine E4 (bx [1000003,1000004,1000005]) tT ?_;refine iA 18 ?_;refine iA 19 ?_;exact O1 H0 (P3 wl w)
theorem fU0{s:Sco}{P:Tm->Int->Prop}(h:vN 303 [s.dv,t.dv] P){r:List (List DV)}{x1 x2 x3 x5 x6 x7 x8 x9 y0 y1 y2 y3 z0 z1 z2 z3 z4 z5 z6 z7 z8 z9 w0 w1 w2 w4:DV}:
  vN 234 [bD,.ref [j0 10,x1,x2,x3,.sl [t.E0],x5,x6,x7,x8,x9,y0,y1,y2,y3,.sl ([.ref [z0,z1,z2,z3,z4,z5,z6,z7,z8,z9,w0,w1,w2,O2 false,w4]]::r)],s.dv] P:=by
 obtain⟨u,e,h1,h2,h3,w⟩:=gN0 (x0:=j0 10) (x1:=x1) (x2:=x2) (x3:=x3) (x5:=x5) (x6:=x6) (x7:=x7) (x8:=x8) (x9:=x9) (y0:=y0) (y1:=y1) (y2:=y2) (y3:=y3) (y4:=.sl ([.ref [z0,z1,z2,z3,z4,z5,z6,z7,z8,z9,w0,w1,w2,O2 false,w4]]::r)) h;refine⟨u,e,h1,h2,h3,?_⟩;refine A3 DZ fun X zX=>?_;refine E4 (bx [1000003,1000004,1000005]) tT ?_;refine iA 18 ?_;refine iA 19 ?_;exact O1 H0 (M0 w)
theorem C60{s:Sco}{X:Q0 Θ->Q0 Γ}{Y:Q0 Θ->Q0 Δ}(hS:SR Θ Γ Δ s X Y)(N5:Γ.length<=100)(hΔ:Δ.length<=100){F:Q0 Γ->a.V}(ht:Dn Γ t a F)(hc:t.A0<=4096){r:List (List DV)}{x1 x2 x3 x5 x6 x7 x8 x9 y0 y1 y2 y3 z0 z1 z2 z3 z4 z5 z6 z7 z8 z9 w0 w1 w2 w4:DV}:
  Mk 234 [bD,.ref [j0 10,x1,x2,x3,.sl [t.E0],x5,x6,x7,x8,x9,y0,y1,y2,y3,.sl ([.ref [z0,z1,z2,z3,z4,z5,z6,z7,z8,z9,w0,w1,w2,O2 false,w4]]::r)],s.dv] Θ a (fun θ=>F (X θ)):=fU0 (fb0 hS N5 hΔ ht hc)
theorem fV0{b:T}{F:Q0 Θ->b.V}{s:Sco}(hr:s.room)(wi:cU 306 [a.ty.dv] t.dv){r:List (List DV)}{x1 x4 x5 x6 x7 x8 x9 y0 y1 y2 y3:DV}(h:Mk 140 [bD,.ref pi,(s.var t).dv] Θ b F):
  Mk 234 [bD,.ref [j0 12,x1,j0 a.ty.o0,.sl (a.ty.B0.map P1),x4,x5,x6,x7,x8,x9,y0,y1,y2,y3,.sl ([.ref pi]::r)],s.dv] Θ b F:=by
 obtain⟨u,e,h1,h2,h3,w⟩:=h;have w4:=JE s hr t;refine⟨u,e,h1,h2,h3,?_⟩;refine A3 DZ fun X zX=>?_;refine E4 (bx [1000003,1000004,1000005]) tT ?_;refine iA 18 ?_;refine iA 19 ?_;exact O1 H0 (E8 wi w4 w)
theorem zR0{s:Sco}{X:Q0 Θ->Q0 Γ}{Y:Q0 Θ->Q0 Δ}(hS:SR Θ Γ Δ s X Y)(N5:Γ.length<=100)(hΔ:Δ.length<=100){p:Q0 Δ->a.V}(hi:At Δ i a p)(ha:a≠.Z4)(hl:hs.length=Δ.length){x2 x3 x4 x5 x6 x7 x8 x9 y0 y1 y3 y4:DV}:
  Mk 140 [bD,.ref [j0 1,j0 i,x2,x3,x4,x5,x6,x7,x8,x9,y0,y1,.sl (hs.map L3),y3,y4],s.dv] Θ a (fun θ=>p (Y θ)):=by
 obtain⟨e,he,hd⟩:=hS.ks.at hi (.inr ha);rw[cI]at he;obtain⟨k,hk,rfl⟩:=vV.1 he;obtain⟨d1,d2,d3,d4,d5⟩:=hd.dn;have hr:=hS.room N5 hΔ;have AB:=hS.len;have I1:=hi.lt;have w:=se0 s ⟨oO,oO,oO,oO⟩ hk (by rw[hS.dep];exact d1) d2 d3 oO (n:=(hs.length:Int) - 1 - i) (by rw[hl,AB]);rw[hS.dep]at w;refine⟨_,0,.inl rfl,by rw[iO];exact d4,fun _=>d5,?_⟩;generalize k.e.t.V0 0 ((Θ.length:Int) - k.e.d)=u at *;refine H2 Tryz.func140 ?_;intro X hP G0 hf X0 hn hR K1 G1;refine E4 (bx [1000003,1000004,1000005]) tT ?_;refine iA 23 ?_;exact O1 H0 (M0 w)
theorem zS0(u:Tm)(e:Int):cU 356 [.ref [j0 u.o0,j0 u.O0,j0 u.I0.o0,.sl (u.I0.B0.map P1),.sl (u.B0.map E3)],.ref [j0 e]] (.H1 [u.dv,j0 e]):=by
 exact B2 Tryz.func356 H0 H0
theorem zT0{F:Q0 Θ->a.V}{s:Sco}{x0 x1 x2 x3 x4 x5 x6 x7 x8 x9 y0 y1 y2 y3:DV}{r:List (List DV)}(h:Mk 140 [bD,.ref pi,s.dv] Θ a F):
  Mk 357 [.ref [.sl []],.ref [.ref [x0,x1,x2,x3,x4,x5,x6,x7,x8,x9,y0,y1,y2,y3,.sl ([.ref pi]::r)]],.ref s.cs] Θ a F:=by
 obtain⟨t,e,h1,h2,h3,w⟩:=h;refine⟨t,e,h1,h2,h3,?_⟩;exact B2 Tryz.func357 H0 (M0 w)
theorem zU0(K3:D6 gl 2=some A7){s:Sco}(hr:s.room)(hd:s.dep<=90000/\s.vs.length<=90000){b:T}(ho:a.ok)(Q6:FDn (a::Γ) fa)(eZ:fa.fr=true)(hc:fa.A0<=4096){A:Q0 Θ->a.V}{F:Q0 (a::Θ)->b.V}{pb:List DV}{r:List (List DV)}{x1 x2 x3 x4 x5 x6 x7 x8 x9 y0 y1 y2 y3 z0 z1 z2 z3 z4 z5 z6 w2 w3 w4:DV}
  (ha:Mk 140 [bD,.ref [z0,z1,z2,z3,z4,z5,z6,j0 5,j0 a.ty.o0,.sl (a.ty.B0.map P1),.sl [],.sl [fa.E0],w2,w3,w4],s.dv] Θ a A) (hb:Mk 140 [bD,.ref pb,(s.bind.var (vT 0)).bare.dv] (a::Θ) b F) :
  Mk 234 [bD,.ref [j0 11,x1,x2,x3,x4,x5,x6,x7,x8,x9,y0,y1,y2,y3,.sl ([.ref [z0,z1,z2,z3,z4,z5,z6,j0 5,j0 a.ty.o0,.sl (a.ty.B0.map P1),.sl [],.sl [fa.E0],w2,w3,w4]]::[.ref pb]::r)],s.dv] Θ b (fun θ=>F (A θ,θ)):=by
 obtain⟨t,e1,k1,k2,k3,wb⟩:=hb;obtain⟨u,e2,m1,m2,m3,wl⟩:=GA ho k1 k2 k3;obtain⟨v,e,h1,h2,h3,w⟩:=fS0 (k:=3) (H:=fun θ=>F (A θ,θ)) ⟨u,e2,m1,m2,m3,zS0 u e2⟩ (zT0 (x0:=j0 11) (x1:=x1) (x2:=x2) (x3:=x3) (x4:=x4) (x5:=x5) (x6:=x6) (x7:=x7) (x8:=x8) (x9:=x9) (y0:=y0) (y1:=y1) (y2:=y2) (y3:=y3) (r:=[.ref pb]::r) ha) fun _ _=>.app;have wt:=w10 K3 Q6 eZ hc;have w3':=Gs s hr;have hr2:s.bind.room:=⟨by simp only;omega,hr.2⟩;have w4':=JE s.bind hr2 (vT 0);have w5:=Mc 0;have w6:=wZ0 (s.bind.var (vT 0)) ⟨hr2.1,hr2.2.1,by simp only[B4];omega,hr2.2.2.2⟩;have gI:=cX fa;have wx:cU 305 [bD,.ref [j0 11,x1,x2,x3,x4,x5,x6,x7,x8,x9,y0,y1,y2,y3,.sl ([.ref [z0,z1,z2,z3,z4,z5,z6,j0 5,j0 a.ty.o0,.sl (a.ty.B0.map P1),.sl [],.sl [fa.E0],w2,w3,w4]]::[.ref pb]::r)],s.dv] (.H1 [v.dv,j0 e]):=by
  refine H2 Tryz.func305 ?_;intro X hP G0 hf X0 hn hR K1 G1;refine E4 (bx [1000003,1000004,1000005]) tT ?_;refine N1 H0 (vM wt w3' w5 w4' w6 wb wl) ?_;refine fG 14 (by simp[go_sem];rfl) ?_;intro b1 V8;simp[go_sem]at V8 ⊢;refine fG 11 (by simp[go_sem];rfl) ?_;intro b2 Z8;simp[go_sem]at Z8 ⊢;refine JV 14 (b:=b1) (cs:=[j0 u.o0,j0 u.O0,j0 u.I0.o0,.sl (u.I0.B0.map P1),.sl (u.B0.map E3)]) sG (by simp[go_sem,f8 Z8]) (by rw[K1];simp) ?_;simp[go_sem,Z8,f8 Z8];refine JV 11 (b:=b2) (cs:=[j0 e2]) sG (by simp[go_sem,Z8]) (by rw[K1];simp) ?_;simp[go_sem,Z8];refine Q1 ?_;refine O9 [85,86] fun K hK=>?_;simp[go_sem,hP,G0,hn];refine Ju (by simp[go_sem];rfl) nN rfl ?_;simp[go_sem,hn];refine Ju (by simp[go_sem];rfl) nN rfl ?_;simp[go_sem,hn];refine Z7 tT (w) ?_;refine K4 ?_;clear hK K;exact rF
 refine⟨v,e,h1,h2,h3,?_⟩;refine H2 DZ ?_;intro X hP G0 hf X0 hn hR K1 G1;refine E4 (bx [1000003,1000004,1000005]) tT ?_;refine iA 18 ?_;refine iA 19 ?_;exact O1 H0 (M0 wx)
theorem mO0:cU 359 [] (T.ty .list).dv:=by
 show P8 _ _ _ _ _ (eM [j0 2,.sl []]) _;exact B2 Tryz.func359 H0 H0
theorem SR.lists{s:Sco}{X:Q0 Θ->Q0 Γ}{Y:Q0 Θ->Q0 Δ}(h:SR Θ Γ Δ s X Y)(N5:Γ.length<=99)(c:T):SR (c::.list::.C0::Θ) (.list::.C0::Γ) (c::Δ) ((((s.bind.var (vT 0)).bind.var (vT 0)).bind).hyp (vT 0)) (fun θ=>(θ.2.1,θ.2.2.1,X θ.2.2.2)) (fun θ=>(θ.1,Y θ.2.2.2)):=
 (h.all oO .C0).ind (by simp only[B4];omega) .list c
theorem pe0(K3:D6 gl 2=some A7){s:Sco}(hr:s.room)(hd:s.dep<=90000/\s.hy<=90000/\s.vs.length<=90000/\s.ks.length<=90000)(n8:c.ok)(hf:FDn Γ (qF 5 c.ty fa))(dU:(qF 5 c.ty fa).nb=true)(gL:(qF 5 c.ty fa).A0<=4096){B:Q0 Θ->c.V}{F:Q0 (c::.C0::Θ)->c.V}{pa pb:List DV}{r:List (List DV)}{x1 x2 x3 x4 x6 x7 x8 x9 y0 y1 y2 y3:DV}
  (ha:Mk 140 [bD,.ref pa,s.dv] Θ c B) (hb:Mk 140 [bD,.ref pb,((s.bind.var (vT 0)).bind.hyp (vT 0)).dv] (c::.C0::Θ) c F) {t:Tm} {N:Q0 Θ->N0.V} (ht:Dn Θ t .C0 N) (htc:t.A0<=4096) :
  Mk 308 [bD,.ref [j0 16,x1,x2,x3,x4,.sl [(qF 5 c.ty fa).E0],x6,x7,x8,x9,y0,y1,y2,y3,.sl ([.ref pa]::[.ref pb]::r)],s.dv,t.dv] Θ c (fun θ=>xI (B θ) (fun n v=>F (v,n,θ)) (N θ)):=by
 obtain⟨t1,e1,k1,k2,k3,wa⟩:=ha;obtain⟨t2,e2,l1,l2,l3,wb⟩:=hb;obtain⟨t3,e3,m1,m2,m3,v1⟩:=GA n8 l1 l2 l3;obtain⟨t4,e4,n1,n2,n3,v2⟩:=GA pD m1 m2 m3;have wt:=fc0 K3 hf dU gL;have hss:(vT 0).E0=[j0 1,j0 0,j0 0,.sl [],.sl []]:=rfl;have NN:eM [j0 1,.sl []]=N0.ty.dv:=rfl;have hly:eM [j0 2,.sl []]=T.list.ty.dv:=rfl;have wn:=Me;have u6:=Gs s hr;have Dm:s.bind.room:=⟨by simp only;omega,hr.2⟩;have hr2:=JE s.bind Dm (vT 0);have wz:=Mc 0;have HD:(s.bind.var (vT 0)).room:=⟨Dm.1,Dm.2.1,by simp only[B4];omega,Dm.2.2.2⟩;have hr3:=Gs (s.bind.var (vT 0)) HD;have jM:(s.bind.var (vT 0)).bind.room:=⟨by simp only;omega,HD.2⟩;have hr6:=fQ0 _ jM (vT 0);by_cases q1:e1=0;rotate_left
 ·refine⟨M6,e1,k1,dD,fun h=>absurd h q1,?_⟩;refine H2 bq0 ?_;intro X hP G0 hf X0 hn hR K1 G1;refine E4 (bx [1000004,1000006,1000007]) tT ?_;exact P4 (j2 @q1 @M6.eq_1) (P3 wt wa)
 subst q1;have wB:=Qq 6 c.ty [t1,t4,t] (by show 1+(t1.A0+(t4.A0+(t.A0+0)))<=_;omega)
 obtain⟨v,e,d1,d2,d3,eJ,Fq⟩:∃(v:Tm) (e:Int),s6 e/\v.A0<=4096/\(e=0->Dn Θ v c (fun θ=>xI (B θ) (fun n v=>F (v,n,θ)) (N θ)))/\(e4=0->nX 6 c.ty [t1,t4,t]=(v,e))/\(e4≠0->v=M6/\e=e4):=by
  by_cases q:e4=0
  ·obtain⟨b1,b2,b3⟩:=Rp (show Dn Θ (U0 6 0 c.ty [t1,t4,t]) _ _ from .rc n8 (k3 rfl) (n3 q) ht);exact⟨_,_,b1,b2,b3,fun _=>rfl,fun h=>absurd q h⟩
  ·exact⟨M6,e4,n1,dD,fun h=>absurd h q,fun h=>absurd h q,fun _=>⟨rfl,rfl⟩⟩
 refine⟨v,e,d1,d2,d3,?_⟩;refine H2 bq0 ?_;intro X hP G0 hf X0 hn hR K1 G1;refine E4 (bx [1000004,1000006,1000007]) tT ?_;refine V3 H0 (cC wt wa wn u6 wz hr2 hr3 wz (P3 hr6 wb)) ?_;refine W8 ?_;refine V3 H0 (M0 v1) ?_;refine bV ?_;refine V3 @NN (M0 v2) ?_;refine bV ?_;refine N2 ?_;by_cases q4:e4=0;rotate_left
 ·obtain⟨rfl,rfl⟩:=Fq q4;exact P4 (j2 @q4 @M6.eq_1) H0
 rw[eJ q4]at wB;simp only[G4,O5]at wB;exact O1 @q4 (M0 wB)
theorem lz0(K3:D6 gl 2=some A7){s:Sco}(hr:s.room)(hd:s.dep<=90000/\s.hy<=90000/\s.vs.length<=90000/\s.ks.length<=90000)(n8:c.ok)(hf:FDn Γ (qF 5 c.ty fa))(dU:(qF 5 c.ty fa).nb=true)(gL:(qF 5 c.ty fa).A0<=4096){B:Q0 Θ->c.V}{F:Q0 (c::.list::.C0::Θ)->c.V}{pa pb:List DV}{r:List (List DV)}{x1 x2 x3 x4 x6 x7 x8 x9 y0 y1 y2 y3:DV}
  (ha:Mk 140 [bD,.ref pa,s.dv] Θ c B) (hb:Mk 140 [bD,.ref pb,(((s.bind.var (vT 0)).bind.var (vT 0)).bind.hyp (vT 0)).dv] (c::.list::.C0::Θ) c F) {t:Tm} {N:Q0 Θ->T.list.V} (ht:Dn Θ t .list N) (htc:t.A0<=4096) :
  Mk 308 [bD,.ref [j0 17,x1,x2,x3,x4,.sl [(qF 5 c.ty fa).E0],x6,x7,x8,x9,y0,y1,y2,y3,.sl ([.ref pa]::[.ref pb]::r)],s.dv,t.dv] Θ c (fun θ=>Jw (B θ) (fun n l v=>F (v,l,n,θ)) (N θ)):=by
 obtain⟨t1,e1,k1,k2,k3,wa⟩:=ha;obtain⟨t2,e2,l1,l2,l3,wb⟩:=hb;obtain⟨t3,e3,m1,m2,m3,v1⟩:=GA n8 l1 l2 l3;obtain⟨u3,d3,o1,o2,o3,v2⟩:=GA (a:=.list) (by unfold T.ok;decide) m1 m2 m3;obtain⟨t4,e4,n1,n2,n3,v3⟩:=GA pD o1 o2 o3;have wt:=fc0 K3 hf dU gL;have hss:(vT 0).E0=[j0 1,j0 0,j0 0,.sl [],.sl []]:=rfl;have NN:eM [j0 1,.sl []]=N0.ty.dv:=rfl;have hly:eM [j0 2,.sl []]=T.list.ty.dv:=rfl;have wn:=Me;have wi:=mO0;have u6:=Gs s hr;have Dm:s.bind.room:=⟨by simp only;omega,hr.2⟩;have hr2:=JE s.bind Dm (vT 0);have wz:=Mc 0;have HD:(s.bind.var (vT 0)).room:=⟨Dm.1,Dm.2.1,by simp only[B4];omega,Dm.2.2.2⟩;have hr3:=Gs (s.bind.var (vT 0)) HD;have jM:(s.bind.var (vT 0)).bind.room:=⟨by simp only;omega,HD.2⟩;have hr4:=JE (s.bind.var (vT 0)).bind jM (vT 0);have hrp:((s.bind.var (vT 0)).bind.var (vT 0)).room:=⟨jM.1,jM.2.1,by simp only[B4];omega,jM.2.2.2⟩;have hr5:=Gs _ hrp;have hrq:((s.bind.var (vT 0)).bind.var (vT 0)).bind.room:=⟨by simp only;omega,hrp.2⟩;have hr6:=fQ0 _ hrq (vT 0);by_cases q1:e1=0;rotate_left
 ·refine⟨M6,e1,k1,dD,fun h=>absurd h q1,?_⟩;refine H2 bq0 ?_;intro X hP G0 hf X0 hn hR K1 G1;refine E4 (bx [1000004,1000006,1000007]) tT ?_;exact P4 (j2 @q1 @M6.eq_1) (P3 wt wa)
 subst q1;have wB:=Qq 9 c.ty [t1,t4,t] (by show 1+(t1.A0+(t4.A0+(t.A0+0)))<=_;omega)
 obtain⟨v,e,d1,d2,d3,eJ,Fq⟩:∃(v:Tm) (e:Int),s6 e/\v.A0<=4096/\(e=0->Dn Θ v c (fun θ=>Jw (B θ) (fun n l v=>F (v,l,n,θ)) (N θ)))/\(e4=0->nX 9 c.ty [t1,t4,t]=(v,e))/\(e4≠0->v=M6/\e=e4):=by
  by_cases q:e4=0
  ·obtain⟨b1,b2,b3⟩:=Rp (show Dn Θ (U0 9 0 c.ty [t1,t4,t]) _ _ from .fold n8 (k3 rfl) (n3 q) ht);exact⟨_,_,b1,b2,b3,fun _=>rfl,fun h=>absurd q h⟩
  ·exact⟨M6,e4,n1,dD,fun h=>absurd h q,fun h=>absurd h q,fun _=>⟨rfl,rfl⟩⟩
 refine⟨v,e,d1,d2,d3,?_⟩;refine H2 bq0 ?_;intro X hP G0 hf X0 hn hR K1 G1;refine E4 (bx [1000004,1000006,1000007]) tT ?_;refine V3 H0 (cC wt wa wn u6 wz hr2 wn wi (vM hr3 wz hr4 hr5 wz hr6 wb)) ?_;refine W8 ?_;refine V3 H0 (M0 v1) ?_;refine bV ?_;refine V3 @hly (M0 v2) ?_;refine bV ?_;refine V3 @NN (M0 v3) ?_;refine bV ?_;refine N2 ?_;by_cases q4:e4=0;rotate_left
 ·obtain⟨rfl,rfl⟩:=Fq q4;exact P4 (j2 @q4 @M6.eq_1) H0
 rw[eJ q4]at wB;simp only[G4,O5]at wB;exact O1 @q4 (M0 wB)
theorem C70{s:Sco}{X:Q0 Θ->Q0 Γ}{Y:Q0 Θ->Q0 Δ}(hS:SR Θ Γ Δ s X Y)(N5:Γ.length<=100)(hΔ:Δ.length<=100){F:Q0 Γ->a.V}(ht:Dn Γ t a F)(hc:t.A0<=4096){G:Q0 Θ->c.V}{x1 x2 x3 x5 x6 x7 x8 x9 y0 y1 y2 y3 y4:DV}
  (h:∀u,Dn Θ u a (fun θ=>F (X θ))->u.A0<=4096->Mk 308 [bD,.ref [j0 16,x1,x2,x3,.sl [t.E0],x5,x6,x7,x8,x9,y0,y1,y2,y3,y4],s.dv,u.dv] Θ c G) :
  Mk 234 [bD,.ref [j0 16,x1,x2,x3,.sl [t.E0],x5,x6,x7,x8,x9,y0,y1,y2,y3,y4],s.dv] Θ c G:=by
 obtain⟨u,e,h1,h2,h3,w⟩:=XI (x0:=j0 16) (x1:=x1) (x2:=x2) (x3:=x3) (x5:=x5) (x6:=x6) (x7:=x7) (x8:=x8) (x9:=x9) (y0:=y0) (y1:=y1) (y2:=y2) (y3:=y3) (y4:=y4) hS N5 hΔ ht hc;by_cases q:e=0;rotate_left
 ·refine⟨M6,e,h1,dD,fun h=>absurd h q,?_⟩;refine H2 DZ ?_;intro X hP G0 hf X0 hn hR K1 G1;refine E4 (bx [1000003,1000004,1000005]) tT ?_;refine iA 18 ?_;refine iA 19 ?_;exact P4 (j2 @q @M6.eq_1) (M0 w)
 subst q;obtain⟨v,e,d1,d2,d3,w2⟩:=h u (h3 rfl) h2;refine⟨v,e,d1,d2,d3,?_⟩;refine H2 DZ ?_;intro X hP G0 hf X0 hn hR K1 G1;refine E4 (bx [1000003,1000004,1000005]) tT ?_;refine iA 18 ?_;refine iA 19 ?_;exact O1 H0 (P3 w w2)
theorem w20{s:Sco}{X:Q0 Θ->Q0 Γ}{Y:Q0 Θ->Q0 Δ}(hS:SR Θ Γ Δ s X Y)(N5:Γ.length<=100)(hΔ:Δ.length<=100){F:Q0 Γ->a.V}(ht:Dn Γ t a F)(hc:t.A0<=4096){G:Q0 Θ->c.V}{x1 x2 x3 x5 x6 x7 x8 x9 y0 y1 y2 y3 y4:DV}
  (h:∀u,Dn Θ u a (fun θ=>F (X θ))->u.A0<=4096->Mk 308 [bD,.ref [j0 17,x1,x2,x3,.sl [t.E0],x5,x6,x7,x8,x9,y0,y1,y2,y3,y4],s.dv,u.dv] Θ c G) :
  Mk 234 [bD,.ref [j0 17,x1,x2,x3,.sl [t.E0],x5,x6,x7,x8,x9,y0,y1,y2,y3,y4],s.dv] Θ c G:=by
 obtain⟨u,e,h1,h2,h3,w⟩:=XI (x0:=j0 17) (x1:=x1) (x2:=x2) (x3:=x3) (x5:=x5) (x6:=x6) (x7:=x7) (x8:=x8) (x9:=x9) (y0:=y0) (y1:=y1) (y2:=y2) (y3:=y3) (y4:=y4) hS N5 hΔ ht hc;by_cases q:e=0;rotate_left
 ·refine⟨M6,e,h1,dD,fun h=>absurd h q,?_⟩;refine H2 DZ ?_;intro X hP G0 hf X0 hn hR K1 G1;refine E4 (bx [1000003,1000004,1000005]) tT ?_;refine iA 18 ?_;refine iA 19 ?_;exact P4 (j2 @q @M6.eq_1) (M0 w)
 subst q;obtain⟨v,e,d1,d2,d3,w2⟩:=h u (h3 rfl) h2;refine⟨v,e,d1,d2,d3,?_⟩;refine H2 DZ ?_;intro X hP G0 hf X0 hn hR K1 G1;refine E4 (bx [1000003,1000004,1000005]) tT ?_;refine iA 18 ?_;refine iA 19 ?_;exact O1 H0 (P3 w w2)
def JF(p:Pf)(hs:List Fm)(f:Fm)(ys:List (List DV)):Prop:=∀b,lF W0 gl 224 [lI b hs] [(b,xC p hs eR)] (EY b p hs f ys)
theorem vC(K3:D6 gl 2=some A7){ys:List (List DV)}(hd:FDn Γ f)(dG:f.nb=true)(hc:f.A0<=4096)(hy:ys.length<=2)(h:JF p hs f ys):cU 137 [.sl [],.sl (hs.map L3),p.dv] (.ref (g6 p f hs f.v6 (.sl ys))):=by
 have wc:=LI K3 hd dG oO;rw[BM hc]at wc;simp only[decide_true,Ld]at wc;refine H2 Tryz.func137 ?_;intro X hP G0 hf X0 hn hR K1 G1;refine E4 (bx [1000005]) tT ?_;refine N2 ?_;refine fG 11 (by simp[go_sem];rfl) ?_;intro b hb;simp[go_sem]at hb ⊢;refine eG0 (b:=b) (by simp[go_sem];rfl) ?_;simp[sU,Db,go_sem];refine U6 tT fun K hK=>?_;refine Ai tT (h b) ?_;rintro rr φ ⟨rfl,⟨q1,n1,k1,F1⟩,hP1,⟨b1,rfl,X1⟩,rfl⟩ -;have hne2:=f8 X1;simp[go_sem,hP,G0,hn,pO,H8,U3,X1,hne2];refine K4 ?_;clear hK K;refine N1 H0 (M0 wc) ?_;refine Q1 ?_;have hle:n1<=k1:=hP1.le;have Ph:n1=ys.length:=hP1.n_eq;have ij0:F1.length=k1:=hP1.len;have AP:F1.take n1=ys:=hP1.els;refine aM [] (s':=[(.P0 7,.one (.v (.K0 (.pointer (some ⟨b,0,none⟩))))),(.heap b1,.row (C4 F1)),(.heap b,.row ((g6 p f hs f.v6 (xP (some b1) n1 k1)).map b7))]) sG (by simp[go_sem,X1,hne2,C4,g6,xP];have h9:=Rx (eI []) F1.flatten;rw[List.map_flatten]at h9;exact h9) sG ?_;refine rf0 (b:=b1) (E:=1) (full:=F1) n1 (by simp[go_sem,X1,hne2]) hP1.wid oO (by unfold M5;omega) (by rw[K1];rfl) ?_;rw[AP];have OB:dK b1 ys (.v (xP (some b1) n1 k1)) = .v (.sl ys):=by
  unfold dK xP;simp only[Option.map_some];rw[if_pos ⟨trivial,Ph,hle⟩]
 have eJ:∀l,dK b1 ys (.v (.sl l)) = .v (.sl l):=fun _=>rfl;have Fq:∀n,dK b1 ys (.v (j0 n)) = .v (j0 n):=fun _=>rfl;have hv3:∀n,dK b1 ys (.v (O2 n)) = .v (O2 n):=fun _=>rfl;have hv4:dK b1 ys (.v (.K0 (.pointer (some ⟨b,0,none⟩)))) = .v (.K0 (.pointer (some ⟨b,0,none⟩))):=rfl;simp[go_sem,X1,hne2,xV,EI,vE,OB,eJ,Fq,hv3,hv4];refine JV 7 (b:=b) (cs:=g6 p f hs f.v6 (.sl ys)) sG (by simp[go_sem,g6]) (by rw[K1];simp) ?_;simp[go_sem];exact O1 H0 H0
theorem XJ(K3:D6 gl 2=some A7)(hd:FDn Γ f)(dG:f.nb=true)(hc:f.A0<=4096)(h:∀b,cT 224 [lI b hs] [(b,xC p hs eR)] f.dv [(b,xC p hs eR)]):cU 137 [.sl [],.sl (hs.map L3),p.dv] (.ref (g6 p f hs f.v6 eR)):=by
 have wc:=LI K3 hd dG oO;rw[BM hc]at wc;simp only[decide_true,Ld]at wc;refine H2 Tryz.func137 ?_;intro X hP G0 hf X0 hn hR K1 G1;refine E4 (bx [1000005]) tT ?_;refine N2 ?_;refine fG 11 (by simp[go_sem];rfl) ?_;intro b hb;simp[go_sem]at hb ⊢;refine eG0 (b:=b) (by simp[go_sem];rfl) ?_;simp[sU,Db,go_sem];refine N1 H0 (P3 (h b) wc) ?_;refine Q1 ?_;refine JV 7 (b:=b) (cs:=g6 p f hs f.v6 eR) sG (by simp[go_sem,g6]) (by rw[K1];simp) ?_;simp[go_sem];exact O1 H0 H0
abbrev rs0:RS:=⟨none,0,0,[]⟩
theorem C80:rs0.is 1 []:=⟨fun _=>⟨rfl,rfl⟩,rfl,(fun _ h=>by cases h),I5 _,rfl⟩
end
end Go.Proofs.YtmilnfebjgkkcaaGreatDoor.Lift
