import Derived.Test.YtoniciijokeidaaGreatDoorQn3
set_option maxHeartbeats 8000000
set_option maxRecDepth 100000
set_option linter.unusedSimpArgs false
set_option linter.unusedVariables false
set_option linter.unnecessarySimpa false
namespace Go.Proofs.YtoniciijokeidaaGreatDoor.Lift
open Go
section
def RT (k b:Nat):SV->SV
 | .loc j off=>if j=k then .v (.prim (.pointer (some ⟨b,off,none⟩))) else .loc j off
 | x=>x
def NE (k b:Nat):List SV->List SV
 | []=>[]
 | x::r=>RT k b x::NE k b r
def z87 (k b:Nat):LV->LV
 | .one x=>.one (RT k b x)
 | .row cs=>.row (NE k b cs)
 | .tk E n=>.tk E n
 | .ob r=>.ob r
 | .mp l=>.mp l
def VB (k b:Nat):Loc->Loc
 | .loc j=>if j=k then .heap b else .loc j
 | l=>l
def expose (k b:Nat):St->St
 | []=>[]
 | (l,v)::r=>(VB k b l,z87 k b v)::expose k b r
def newB (b:Nat):St->Prop
 | []=>True
 | (.heap b',_)::r=>b'≠b/\newB b r
 | _::r=>newB b r
theorem fP (k b:Nat)(cs:List SV):(NE k b cs).length=cs.length/\∀i:Nat,(NE k b cs)[i]? = cs[i]?.map (RT k b):=by
 induction cs with
 | nil=>simp[NE]
 | cons x r ih=>
  refine⟨by simp[NE,ih.1],fun i=>?_⟩;cases i with
  | zero=>simp[NE]
  | succ i=>simp[NE,ih.2]
theorem NF {k b:Nat}{s:St}{l:Loc}{v:LV}(h:get (expose k b s) l=some v):∃l0 v0,get s l0=some v0/\VB k b l0=l/\z87 k b v0=v:=by
 induction s with
 | nil=>cases h
 | cons p r ih=>
  obtain⟨m,u⟩:=p;simp only[expose,get]at h;split at h;· rename_i hm;cases h;exact⟨m,u,by simp[get],hm,rfl⟩
  ·rename_i hm;obtain⟨l0,v0,h1,h2,h3⟩:=ih h;refine⟨l0,v0,?_,h2,h3⟩;have:m≠l0:=fun e=>hm (by rw[e,h2]);simp[get,this,h1]
theorem VC {b:Nat}{s:St}(h:∀cs,get s (.heap b)≠some cs):newB b s:=by
 induction s with
 | nil=>trivial
 | cons p r ih=>
  obtain⟨m,u⟩:=p;cases m with
  | heap b'=>
   refine⟨fun e=>h u (by simp[get,e]),ih fun cs hc=>?_⟩;by_cases e:b' = b;· exact h u (by simp[get,e])
   ·exact h cs (by simp[get,e,hc])
  | slot n=>exact ih fun cs hc=>h cs (by simp[get,hc])
  | loc n=>exact ih fun cs hc=>h cs (by simp[get,hc])
  | tok n=>exact ih fun cs hc=>h cs (by simp[get,hc])
section
variable {X:Ctx}{s:St}
theorem aK {G:Gh}{w:World}{k:Nat}{x:SV}{v:Value}(h:LX G w x v):LX G w (RT k (G.ν k) x) v:=by
 cases x with
 | loc j off=>
  simp only[RT];split
  ·rename_i hj;have h':v = .pointer (some ⟨G.ν j,off,none⟩):=h;rw[h',hj];exact .prim _ tT
  ·exact h
 | _=>exact h
theorem z2o {k b:Nat}{x:SV}(h:x.isCell=true):(RT k b x).isCell=true:=by
 cases x with
 | loc j off=>simp only[RT];split <;> rfl
 | _=>exact h
theorem WY {G:Gh}{k:Nat}{l:Loc}{v:LV}:BI G (VB k (G.ν k) l) (z87 k (G.ν k) v)=BI G l v:=by
 cases l with
 | slot n=>cases v <;> rfl
 | heap n=>cases v <;> rfl
 | tok n=>cases v <;> rfl
 | loc j=>
  simp only[VB];split
  ·subst_vars;cases v <;> rfl
  ·cases v <;> rfl
theorem Rel.expose {G:Gh}{a:Act}{w:World}(R:Rel X G s a w)(k:Nat):Rel X G (expose k (G.ν k) s) a w:=by
 have Jp:∀l,(VB k (G.ν k) l).isTok=l.isTok:=by
  intro l;cases l <;> simp only[VB] <;> first|rfl|(split <;> rfl)
 have Ak:∀b cs,KM G w b cs->KM G w b (NE k (G.ν k) cs):=by
  rintro b cs ⟨c,e,h1,h2,h3⟩;refine⟨c,e,h1,by rw[(fP _ _ _).1];exact h2,fun i x hx=>?_⟩;rw[(fP _ _ _).2]at hx;cases hq:cs[i]? with
  | none=>simp[hq]at hx
  | some y=>
   simp[hq]at hx;subst hx;obtain⟨q1,v,q2,q3⟩:=h3 i y hq;exact⟨z2o q1,v,q2,aK q3⟩
 refine⟨R.size,R.defers,R.ext,R.wf,R.nil,fun l v hg=>?_,fun l v l' v' b hg Hd hb Ab=>?_,fun l v b hg hb=>?_,fun l v b o hg hb ht=>?_⟩
 ·obtain⟨l0,v0,h1,rfl,rfl⟩:=NF hg;have hh:=R.holds _ _ h1;cases l0 with
  | slot n=>cases v0 with
   | one x=>exact aK hh
   | _=>exact hh.elim
  | tok n=>cases v0 with
   | tk E m=>exact hh
   | _=>exact hh.elim
  | heap n=>cases v0 with
   | row cs=>exact Ak _ _ hh
   | ob r=>exact hh
   | mp l=>exact hh
   | _=>exact hh.elim
  | loc j=>cases v0 with
   | row cs=>
    simp only[VB];split
    ·subst_vars;exact Ak _ _ hh
    ·exact Ak _ _ hh
   | _=>exact hh.elim
 ·obtain⟨l0,v0,h1,rfl,rfl⟩:=NF hg;obtain⟨l1,v1,k1,rfl,rfl⟩:=NF Hd;rw[WY]at hb Ab;rw[R.sep _ _ _ _ b h1 k1 hb Ab]
 ·obtain⟨l0,v0,h1,rfl,rfl⟩:=NF hg;rw[WY]at hb;rw[Jp];exact R.own _ _ b h1 hb
 ·obtain⟨l0,v0,h1,rfl,rfl⟩:=NF hg;rw[WY]at hb;rw[Jp]at ht;exact R.data _ _ b o h1 hb ht
theorem Rel.newB {G:Gh}{a:Act}{w:World}(R:Rel X G s a w){k:Nat}{cs:List SV}(hk:get s (.loc k)=some (.row cs)):newB (G.ν k) s:=by
 refine VC fun v hv=>?_;have hh:=R.holds _ _ hv;cases v with
 | row Dh=>
  have:=R.sep _ _ _ _ (G.ν k) hk hv rfl rfl;cases this
 | one x=>exact hh.elim
 | tk E n=>exact hh.elim
 | ob r=>
  have:=R.sep _ _ _ _ (G.ν k) hk hv rfl rfl;cases this
 | mp l=>
  have:=R.sep _ _ _ _ (G.ν k) hk hv rfl rfl;cases this
theorem EC (k:Nat){kk:List Item}{cs:List SV}(hk:get s (.loc k)=some (.row cs))(h:∀b,newB b s->W X kk (expose k b s)):W X kk s:=
 fun G a w b cs hf Sl hr R=>h (G.ν k) (R.newB hk) G a w b cs hf Sl hr (R.expose k)
theorem z2p (k:Nat){ops:Array Oper}{l:List Oper}{K:St->Prop}{cs:List SV}(hk:get s (.loc k)=some (.row cs))(h:∀b,newB b s->VL X ops l (expose k b s) K):VL X ops l s K:=
 fun n hn G a w R=>h (G.ν k) (R.newB hk) n hn G a w (R.expose k)
theorem ziv {ops:Array Oper}{o:Oper}{l:List Oper}{K:St->Prop}{s':St}(ho:rZ X ops o s s')(h:VL X ops l s' K):VL X ops (o::l) s K:=by
 intro n hn G a w R;obtain⟨h1,h2⟩:=FH hn;simp only[List.length_cons,List.range'_succ,wpOpsIn,h1];have:=ho G a w R _ (Nrm X K) fun G' a' w' R'=>h (n+1) h2 G' a' w' R';split;· rename_i hw;simp only[hw,if_true]at this;exact this
 ·rename_i hw;simp only[hw]at this;exact⟨fun _ _=>trivial,this⟩
theorem z2q {Ad:List Nat}{ops:Array Oper}{l:List Oper}{K:St->Prop}{d:Tmp}{f:FuncId}{args:Array Operand}{Ct:Array TypeId}{ty:TypeId}{pos:String}{af:Array Edge}{j dj:Nat}{want:Bool}{P:Program}{gl:AF}(hP:X.P=P)(u7:X.gl=gl)
  {ds Gz:List DV} {φ Ae:BU} {r:DV} (hc:U8 P gl f Gz φ r Ae) (u8:HP X (get s) args.toList=some ds) (Fs:ds=Gz) (Bd:BP (get s) φ) (Ai:(φ.map (·.1)).Nodup) (Eb:d<X.n)
  (hj:gsl ops j=some dj) (hjn:dj<X.n) (hb:get s (.slot dj)=some (.one (.v (.prim (.bool want)))))
  (h:vc X Ad ops l (D7 (DP (CV s (.slot d) (.one (.v r))) φ) Ae) K) :
  eD X Ad ops l K ⟨some d,.call { callee:=.value (.func f),args:=args,argTypes:=Ct },ty,pos,af,some (j,want)⟩ s (BA X Ad s ⟨some d,.call { callee:=.value (.func f),args:=args,argTypes:=Ct },ty,pos,af,some (j,want)⟩):=by
 subst Fs;have e:BA X Ad s ⟨some d,.call { callee:=.value (.func f),args:=args,argTypes:=Ct },ty,pos,af,some (j,want)⟩=none:=by
  simp only[BA,CN,HB,QT,IK];split <;> rfl
 rw[e];refine ziv (Q4 (.inr ⟨j,dj,want,rfl,hj,hjn,hb⟩) (ML (o:=⟨some d,.call { callee:=.value (.func f),args:=args,argTypes:=Ct },ty,pos,af,some (j,want)⟩) rfl u8 (by rw[hP,u7];exact hc) Bd Ai rfl Eb)) (DM h)
theorem sU {Ad:List Nat}{ops:Array Oper}{s0:St}{K:St->Prop}{l:List Oper}{k:St->List Ev->Prop}{ev:List Ev}{fp wr:List Loc}{d:Tmp}{f:FuncId}{args:Array Operand}{Ct:Array TypeId}{ty:TypeId}{pos:String}{af:Array Edge}{j dj:Nat}{want:Bool}{s1:St}
  (hk:∀s ev,k s ev->VD X ops s0 l s ev K) {P:Program} {gl:AF} (hP:X.P=P) (u7:X.gl=gl) {ds Gz:List DV} {φ Ae:BU} {r:DV} (hc:U8 P gl f Gz φ r Ae) (u8:HP X (get s) args.toList=some ds) (Fs:ds=Gz) (Bd:BP (get s) φ) (Ai:(φ.map (·.1)).Nodup) (Eb:d<X.n)
  (hj:gsl ops j=some dj) (hjn:dj<X.n) (hb:get s (.slot dj)=some (.one (.v (.prim (.bool want)))))
  (h:YV k ev s (.slot dj::(BY args.toList++TN φ)) [] ((.slot d,some (.one (.v r)))::(mD φ++mE Ae))) :
  mB X ops s0 l K k ⟨some d,.call { callee:=.value (.func f),args:=args,argTypes:=Ct },ty,pos,af,some (j,want)⟩ ev s fp wr (BA X Ad s1 ⟨some d,.call { callee:=.value (.func f),args:=args,argTypes:=Ct },ty,pos,af,some (j,want)⟩):=by
 subst Fs;have e:BA X Ad s1 ⟨some d,.call { callee:=.value (.func f),args:=args,argTypes:=Ct },ty,pos,af,some (j,want)⟩=none:=by
  simp only[BA,CN,HB,QT,IK];split <;> rfl
 rw[e];show VD X ops s0 _ s ev K;refine Q3 ⟨.slot dj::(BY args.toList++TN φ),_,[]⟩ (fun s' hs _=>Q4 (.inr ⟨j,dj,want,rfl,hj,hjn,hs _ _ (H7 sS hb)⟩) ?_) (hk _ _ h);refine (ML (o:=⟨some d,.call { callee:=.value (.func f),args:=args,argTypes:=Ct },ty,pos,af,some (j,want)⟩) rfl (RR hs (fun m hm=>List.mem_cons_of_mem _ (aG hm)) u8) (by rw[hP,u7];exact hc) ?_ Ai rfl Eb).congr fun m=>?_
 ·intro b cs hm;exact hs _ _ (H7 (List.mem_cons_of_mem _ (List.mem_append.2 (.inr (fN hm)))) (Bd b cs hm))
 ·simp only[apply,Q5,aE,aF]
theorem P5 {Ad:List Nat}{ops:Array Oper}{l:List Oper}{K:St->Prop}{d:Tmp}{f:FuncId}{args:Array Operand}{Ct:Array TypeId}{ty:TypeId}{pos:String}{af:Array Edge}{P:Program}{gl:AF}(hP:X.P=P)(u7:X.gl=gl)
  {ds Gz:List DV} {φ:BU} {R:DV->BU->Prop} (hc:Con P gl f Gz φ R) (u8:HP X (get s) args.toList=some ds) (Fs:ds=Gz) (Bd:BP (get s) φ) (Ai:(φ.map (·.1)).Nodup) (Eb:d<X.n)
  (h:∀r Ae,R r Ae->(∀b∈Ae.map (·.1),b∈φ.map (·.1)\/newB b s)->vc X Ad ops l (D7 (DP (CV s (.slot d) (.one (.v r))) φ) Ae) K) :
  eD X Ad ops l K ⟨some d,.call { callee:=.value (.func f),args:=args,argTypes:=Ct },ty,pos,af,none⟩ s (BA X Ad s ⟨some d,.call { callee:=.value (.func f),args:=args,argTypes:=Ct },ty,pos,af,none⟩):=by
 subst Fs;have e:BA X Ad s ⟨some d,.call { callee:=.value (.func f),args:=args,argTypes:=Ct },ty,pos,af,none⟩=none:=by
  simp only[BA,CN,HB,QT,IK];split <;> rfl
 rw[e];intro n hn G a w R0;obtain⟨h1,h2⟩:=FH hn;simp only[List.length_cons,List.range'_succ,wpOpsIn,h1,Region.wanted,if_true];refine (ZU (o:=⟨some d,.call { callee:=.value (.func f),args:=args,argTypes:=Ct },ty,pos,af,none⟩) (fi:=#[]) (ca:=#[]) (ds:=ds) rfl rfl ⟨ds,u8,sS⟩ sS (by rw[hP,u7];exact hc) Bd Ai rfl Eb R0 _ _ fun r Ae G' a' w' hR u6 R'=>?_);refine DM (h r Ae hR fun b hb=>(u6 b hb).imp id fun hh=>VC fun v hv=>?_) (n+1) h2 G' a' w' R';have Ov:=R0.holds _ _ hv;cases v with
 | row cs=>exact hh _ _ hv rfl
 | ob r=>exact hh _ _ hv rfl
 | mp l=>exact hh _ _ hv rfl
 | one x=>exact Ov.elim
 | tk E n=>exact Ov.elim
theorem z2r {Ad:List Nat}{ops:Array Oper}{l:List Oper}{K:St->Prop}{d:Tmp}{x:Operand}{f:FuncId}{fi ca:Array Value}{args:Array Operand}{Ct:Array TypeId}{ty:TypeId}{pos:String}{af:Array Edge}{P:Program}{gl:AF}(hP:X.P=P)(u7:X.gl=gl)
  (hx:D4 X (get s) x=some (.v (.prim (.func (.func f) fi ca)))) (Ja:∀v∈fi.toList++ca.toList,FR v)
  {ds Gz:List DV} {φ Ae:BU} {r:DV} (hc:U8 P gl f Gz φ r Ae) (u8:HP X (get s) args.toList=some ds) (Fs:fi.toList.map DV.prim++ds++ca.toList.map DV.prim=Gz) (Bd:BP (get s) φ) (Ai:(φ.map (·.1)).Nodup) (Eb:d<X.n)
  (h:vc X Ad ops l (D7 (DP (CV s (.slot d) (.one (.v r))) φ) Ae) K) :
  eD X Ad ops l K ⟨some d,.call { callee:=.value x,args:=args,argTypes:=Ct },ty,pos,af,none⟩ s (BA X Ad s ⟨some d,.call { callee:=.value x,args:=args,argTypes:=Ct },ty,pos,af,none⟩):=by
 subst Fs;have e:BA X Ad s ⟨some d,.call { callee:=.value x,args:=args,argTypes:=Ct },ty,pos,af,none⟩=none:=by
  simp only[BA,CN,HB,QT,IK];split <;> rfl
 rw[e];refine ziv (Q4 (.inl rfl) (s':=D7 (DP (CV s (.slot d) (.one (.v r))) φ) Ae) ?_) (DM h);intro G a w R0 next Q hK
 refine ZU (o:=⟨some d,.call { callee:=.value x,args:=args,argTypes:=Ct },ty,pos,af,none⟩) (ds:=fi.toList.map DV.prim++ds++ca.toList.map DV.prim) rfl hx ⟨ds,u8,rfl⟩ Ja (by rw[hP,u7];exact hc) Bd Ai rfl Eb R0 next Q ?_
 rintro r' ψ G' a' w' ⟨rfl,rfl⟩ _ R';exact hK G' a' w' R'
theorem z2s {Ad:List Nat}{ops:Array Oper}{l:List Oper}{K:St->Prop}{d:Tmp}{x:Operand}{f:FuncId}{args:Array Operand}{Ct:Array TypeId}{ty:TypeId}{pos:String}{af:Array Edge}{P:Program}{gl:AF}(hP:X.P=P)(u7:X.gl=gl)
  {ds Gz:List DV} {φ Ae:BU} {r:DV} (hc:U8 P gl f Gz φ r Ae) (hx:D4 X (get s) x=some (.v (.prim (.func (.func f) #[] #[])))) (u8:HP X (get s) args.toList=some ds) (Fs:ds=Gz) (Bd:BP (get s) φ) (Ai:(φ.map (·.1)).Nodup) (Eb:d<X.n)
  (h:vc X Ad ops l (D7 (DP (CV s (.slot d) (.one (.v r))) φ) Ae) K) :
  eD X Ad ops l K ⟨some d,.call { callee:=.value x,args:=args,argTypes:=Ct },ty,pos,af,none⟩ s (BA X Ad s ⟨some d,.call { callee:=.value x,args:=args,argTypes:=Ct },ty,pos,af,none⟩):=
 z2r hP u7 hx sS hc u8 (by simpa using Fs) Bd Ai Eb h
theorem z88 {c:Code}{kk:List Item}(S:St)(h1:W X kk S->W X (.code c::kk) s)(h2:W X kk S):W X (.code c::kk) s:=h1 h2
theorem O8 {α:Type}(L:List α)(I:List α->Prop)(S:List α->List α->St){c:Code}{kk:List Item}(h0:I [])(round:∀done x rest,L=done++x::rest->L[done.length]? = some x->I done->(I (done++[x])->W X (.inLoop c::kk) (S (done++[x]) rest))->W X (.code c::.inLoop c::kk) (S done (x::rest)))(last:I L->W X (.code c::.inLoop c::kk) (S L [])) :
  W X (.code (.loop c)::kk) (S [] L):=by
 have key:=CH (X:=X) (k:=kk) (c:=c) (fun i:List α × List α=>L=i.1++i.2/\I i.1) (fun i=>S i.1 i.2) (fun i=>i.2.length) ([],L) ⟨rfl,h0⟩;refine key fun ⟨done,rest⟩ hI ih=>?_;obtain⟨hI,hJ⟩:=hI;cases rest with
 | nil=>
  simp only[List.append_nil]at hI;subst hI;exact last hJ
 | cons x rest=>
  exact round done x rest hI (by rw[hI];simp) hJ (fun hj=>ih (done++[x],rest) ⟨by simp[hI],hj⟩ sS)
theorem iJ {c:Code}{kk:List Item}(E:Prop)(S:St)(h1:(E->W X kk S)->W X (.code c::kk) s)(h2:E->W X kk S):W X (.code c::kk) s:=h1 h2
theorem WZ {P:Program}(hP:X.P=P){f:FuncId}{fn:Func}(hf:X.f=f)(u9:X.fn=fn){kk:List Item}(r:DV)(φ:BU)(h:P.funcs[f]? = some fn/\YT X (get s) fn.results.toList=some r)(Bd:BP (get s) φ)(Ai:(φ.map (·.1)).Nodup)(hR:X.R r φ)(Ft:X.md = .fn):W X (.code .ret::kk) s:=by
 subst hP hf u9;exact zis Ft h.1 h.2 Bd Ai hR
theorem z89 {P:Program}(hP:X.P=P){f:FuncId}{fn:Func}(hf:X.f=f)(u9:X.fn=fn)(r:DV)(φ:BU)(h:P.funcs[f]? = some fn/\YT X (get s) fn.results.toList=some r)(Bd:BP (get s) φ)(Ai:(φ.map (·.1)).Nodup)(hR:X.R r φ)(Ft:X.md = .fn):W X [] s:=by
 subst hP hf u9;exact zit Ft h.1 h.2 Bd Ai hR
end
theorem z2t (k b off:Nat):RT k b (.loc k off) = .v (.prim (.pointer (some ⟨b,off,none⟩))):=by simp[RT]
theorem sW {k j:Nat}(b off:Nat)(h:j≠k):RT k b (.loc j off) = .loc j off:=by simp[RT,h]
theorem zkk (k b:Nat)(x:DV):RT k b (.v x) = .v x:=rfl
theorem zfj (k b:Nat)(e:List (List DV))(i o:Nat):RT k b (.dp e i o) = .dp e i o:=rfl
theorem zfk (k b:Nat)(e:List DV)(n:List Nat):RT k b (.ag e n) = .ag e n:=rfl
theorem z8a (k b t:Nat)(e:List (List DV)):RT k b (.own t e) = .own t e:=rfl
theorem z2u (k b:Nat):NE k b []=[]:=rfl
theorem sX (k b:Nat)(x:SV)(r:List SV):NE k b (x::r)=RT k b x::NE k b r:=rfl
theorem sY (k b:Nat):expose k b []=[]:=rfl
theorem mN (k b n:Nat)(x:SV)(r:St):expose k b ((.slot n,.one x)::r)=(.slot n,.one (RT k b x))::expose k b r:=rfl
theorem mO (k b:Nat)(cs:List SV)(r:St):expose k b ((.loc k,.row cs)::r)=(.heap b,.row (NE k b cs))::expose k b r:=by simp[expose,VB,z87]
theorem iK {k j:Nat}(b:Nat)(cs:List SV)(r:St)(h:j≠k):expose k b ((.loc j,.row cs)::r)=(.loc j,.row (NE k b cs))::expose k b r:=by simp[expose,VB,z87,h]
theorem mP (k b n:Nat)(cs:List SV)(r:St):expose k b ((.heap n,.row cs)::r)=(.heap n,.row (NE k b cs))::expose k b r:=rfl
theorem z2v (k b n:Nat)(q:List (Int × DV))(r:St):expose k b ((.heap n,.mp q)::r)=(.heap n,.mp q)::expose k b r:=rfl
theorem z2w (k b n:Nat)(q:Loop)(r:St):expose k b ((.heap n,.ob q)::r)=(.heap n,.ob q)::expose k b r:=rfl
theorem sZ (k b t E n:Nat)(r:St):expose k b ((.tok t,.tk E n)::r)=(.tok t,.tk E n)::expose k b r:=rfl
theorem z8b (b:Nat):newB b []=True:=rfl
theorem z2x (b n:Nat)(v:LV)(r:St):newB b ((.heap n,v)::r)=(n≠b/\newB b r):=rfl
theorem z2y (b n:Nat)(v:LV)(r:St):newB b ((.slot n,v)::r)=newB b r:=rfl
theorem z8c (b n:Nat)(v:LV)(r:St):newB b ((.loc n,v)::r)=newB b r:=rfl
theorem z8d (b n:Nat)(v:LV)(r:St):newB b ((.tok n,v)::r)=newB b r:=rfl
attribute [go_sem] z2w z2v z2t sW zkk zfj zfk z8a z2u sX sY mN mO iK mP sZ z8b z2x z2y z8c z8d
end
section
def YC (P:Program)(gl:AF)(D0:Nat->Nat->Prop)(w0:World)(l:Nat)(r:Loop)(args:List DV)(φ:BU)(R:Bool->BU->Loop->Prop):Prop:=
 ∀(D:Nat->Nat->Prop) (w:World) (vs:Array Value),OJ D0 w0 D w->w0.heap.size<=w.heap.size->Wf gl D w->vs.size=args.length->(∀(i:Nat) (x:DV) (v:Value),args[i]? = some x->vs[i]? = some v->RV D w x v)->HeapOK D w φ->w.heap[l]? = some (.loop r) ->
  RoundIn Fence.wide 0 P l r.fn ((r.params.zip vs).foldl (fun tmps (t,a)=>tmps.setIfInBounds t a) r.tmps) r.assign r.body w fun e w'=>∃b D' Ae r',e = .returned (.bool b)/\R b Ae r'/\Ext (l::φ.map (·.1)) D w D' w'/\Wf gl D' w'/\HeapOK D' w' Ae/\w'.heap[l]? = some (.loop r')/\∀b∈Ae.map (·.1),b∈φ.map (·.1)\/w.heap.size<=b
def ItC (P:Program)(gl:AF)(f:FuncId)(args:List DV)(φ:BU)(l:Nat)(r:Loop)(Y:(Nat->Nat->Prop)->World->Prop)(R:BU->Loop->Prop):Prop:=
 ZT P f/\∀(D:Nat->Nat->Prop) (w:World) (vs:Array Value),Wf gl D w->vs.size=args.length->(∀(i:Nat) (x:DV) (v:Value),args[i]? = some x->vs[i]? = some v->RV D w x v)->HeapOK D w φ->w.heap[l]? = some (.loop r)->Y D w ->
  Calls P f vs w fun e w'=>∃v D' Ae r',e = .returned v/\R Ae r'/\Ext (l::φ.map (·.1)) D w D' w'/\Wf gl D' w'/\HeapOK D' w' Ae/\w'.heap[l]? = some (.loop r')/\∀b∈Ae.map (·.1),b∈φ.map (·.1)\/w.heap.size<=b
theorem KZ {D:Nat->Nat->Prop}{w:World}{gl:AF}{φ:BU}{l:Nat}{r:Loop}(Js:Wf gl D w)(hh:HeapOK D w φ)(hl:w.heap[l]? = some (.loop r)):(∀o,¬D l o)/\l∉φ.map (·.1):=by
 refine⟨fun o hd=>?_,fun hm=>?_⟩
 ·obtain⟨v,hv⟩:=Js.there l o hd;simp[World.cell?,hl]at hv
 ·obtain⟨⟨b,cs⟩,hq,rfl⟩:=List.mem_map.1 hm;obtain⟨c,e,h1,_⟩:=hh.rows b cs hq;simp only at hl;rw[hl]at h1;cases h1
section
variable {X:Ctx}{s:St}{k:List Item}
def RU (args:List DV)(φ:BU)(l:Nat)(r:Loop):St:=(.heap l,.ob r)::OY args φ
theorem z2z {args:List DV}{φ:BU}{l:Loc}{v:LV}(hl:get (OY args φ) l=some v):(∃i x,l = .slot i/\v = .one (.v x)/\args[i]? = some x)\/∃b cs,l = .heap b/\v = .row (cs.map SV.v)/\(b,cs)∈φ:=by
 unfold OY at hl;rw[JG]at hl;rcases Option.or_eq_some_iff.1 hl with hl|⟨-,hl⟩
 ·obtain⟨i,x,h1,h2,h3⟩:=WP hl;exact .inl ⟨i,x,by simpa using h1,h2,h3⟩
 ·exact .inr (NB hl)
theorem SQ {P : Program} {gl : AF} {f : FuncId} {args : List DV} {φ : BU} {l : Nat} {r : Loop} {Y : (Nat -> Nat -> Prop) -> World -> Prop} {R : BU -> Loop -> Prop} {fn : Func} {body : Code} (hf : P.funcs[f]? = some fn) (hb : fn.body = some body) (Ku : (fn.name == "runtime.NumGoroutine") = false)
  (hn:args.length<=fn.ntmps)
  (h:∀X:Ctx,X.P=P->X.gl=gl->X.f=f->X.fn=fn->X.n=fn.ntmps->X.md = .it l R->X.ids=l::φ.map (·.1)->(∀x∈args,DV.fit x)->l∉φ.map (·.1)->Y X.D0 X.w0->W X [.code body] (RU args φ l r)):ItC P gl f args φ l r Y R:=by
 refine⟨⟨fn,hf,by simp[hb],Ku⟩,?_⟩;intro D w vs Js Bb u8 El Ht hY cs;obtain⟨Ai,hnm⟩:=KZ Js El Ht
 let X:Ctx:={ P:=P,gl:=gl,f:=f,fn:=fn,n:=fn.ntmps,ids:=l::φ.map (·.1),D0:=D,w0:=w,R:=fun _ _=>False,md:=.it l R }
 have u5:∀x∈args,DV.fit x:=by
  intro x hx;obtain⟨i,hi,rfl⟩:=List.mem_iff_getElem.1 hx;exact RV.fit (u8 i _ vs[i] (uB hi) (uG oO))
 have hW:=h X rfl rfl rfl rfl rfl rfl rfl u5 hnm hY
 let a:Act:={ tmps:=vs++Array.replicate (fn.ntmps - vs.size) undef,defers:=[] }
 have Rl:Rel X { D:=D,ν:=fun _=>0,τ:=fun _=>(none,0) } (RU args φ l r) a w:=by
  have Bq:∀m v,get (RU args φ l r) m=some v->(m = .heap l/\v = .ob r)\/(∃i x,m = .slot i/\v = .one (.v x)/\args[i]? = some x)\/∃b cs,m = .heap b/\v = .row (cs.map SV.v)/\(b,cs)∈φ:=by
   intro m v hm;simp only[RU,get]at hm;split at hm;· rename_i e;cases hm;exact .inl ⟨e.symm,rfl⟩
   ·exact .inr (z2z hm)
  refine⟨by simp[a,X];omega,⟨[],rfl,List.nodup_nil,sS⟩,Ext.refl _ _ _,Js,rfl,fun m v hm=>?_,fun m v m' v' b hm Ve hb Ab=>?_,fun m v b hm hb=>?_,fun m v b o hm hb _=>?_⟩
  ·rcases Bq m v hm with⟨rfl,rfl⟩|⟨i,x,rfl,rfl,hx⟩|⟨b,cs,rfl,rfl,hq⟩;· exact Ht
   ·have hi:i<vs.size:=by rw[Bb];exact (uA hx).1
    have hv:vs[i]? = some vs[i]:=uG hi;show RV D w x _;have:a.tmps.getD i undef=vs[i]:=by
     simp[a,Array.getElem?_append_left hi,hv]
    rw[this];exact u8 i x _ hx hv
   ·exact H6 (G:={ D:=D,ν:=fun _=>0,τ:=fun _=>(none,0) }) El hq
  ·have Sh:∀m v,((m = .heap l/\v = .ob r)\/(∃i x,m = .slot i/\v = .one (.v x)/\args[i]? = some x)\/∃b cs,m = .heap b/\v = .row (cs.map SV.v)/\(b,cs)∈φ)->BI { D:=D,ν:=fun _=>0,τ:=fun _=>(none,0) } m v=some b->m = .heap b:=by
    rintro m v (⟨rfl,rfl⟩|⟨i,x,rfl,rfl,hx⟩|⟨b',cs,rfl,rfl,hm⟩) hb;· simp only[BI,uC]at hb;rw[hb]
    ·cases hb
    ·simp only[BI,uC]at hb;rw[hb]
   rw[Sh m v (Bq m v hm) hb,Sh m' v' (Bq m' v' Ve) Ab]
  ·rcases Bq m v hm with⟨rfl,rfl⟩|⟨i,x,rfl,rfl,hx⟩|⟨b1,cs,rfl,rfl,hq⟩
   ·simp only[BI,uC]at hb;subst hb;exact .inr ⟨by simp[X],rfl⟩
   ·cases hb
   ·simp only[BI,uC]at hb;subst hb;exact .inr ⟨List.mem_cons_of_mem _ (List.mem_map.2 ⟨_,hq,rfl⟩),rfl⟩
  ·rcases Bq m v hm with⟨rfl,rfl⟩|⟨i,x,rfl,rfl,hx⟩|⟨b1,cs,rfl,rfl,hq⟩
   ·simp only[BI,uC]at hb;subst hb;exact Ai o
   ·cases hb
   ·simp only[BI,uC]at hb;subst hb;exact El.nodata _ _ hq o
 let b:Frame:={ (default:Frame) with fn:=f,kind:=.normal }
 have Hw:Frame.enter P f vs .normal=b.atR a [.code body]:=by
  simp[Frame.enter,Frame.atR,hf,hb,b,a];rfl
 obtain⟨w',fr,⟨v,D',Ae,r',k1,⟨k2,k3,k4,k5⟩,k6,k7,k8⟩,h2⟩:=hW _ a w b cs rfl rfl rfl Rl;rw[<- Hw]at h2;refine⟨.returned v,w',fr,⟨v,D',Ae,r',rfl,k1,k2,k3,k4,k6,fun b hb=>?_⟩,h2,k7,k8⟩;rcases k5 b hb with h|h
 ·rcases List.mem_cons.1 h with rfl|h;· exact absurd hb (KZ k3 k4 k6).2
  ·exact .inl h
 ·exact .inr h
theorem Rel.yield {G:Gh}{a:Act}{w:World}(R:Rel X G s a w){φ Ae:BU}(Bd:BP (get s) φ){l:Nat}{r r':Loop}(hl:get s (.heap l)=some (.ob r)){D':Nat->Nat->Prop}{w':World}(hx:Ext (l::φ.map (·.1)) G.D w D' w')(Js:Wf X.gl D' w'){x:DV}{v:Value}(hr:RV D' w' x v)
  (hh:HeapOK D' w' Ae) (Ha:w'.heap[l]? = some (.loop r')) (u6:∀b∈Ae.map (·.1),b∈φ.map (·.1)\/w.heap.size<=b) {d:Nat} (hd:d<X.n) :
  Rel X { D:=D',ν:=G.ν,τ:=G.τ } (CV (D7 (DP (CV s (.slot d) (.one (.v x))) φ) Ae) (.heap l) (.ob r')) (a.put (some d) v) w':=by
 have hp:=IR a (some d) v;have Fh:∀b∈φ.map (·.1),∃cs,get s (.heap b)=some (.row (List.map SV.v cs)):=by
  intro b hb;obtain⟨⟨b',Dh⟩,hm,rfl⟩:=List.mem_map.1 hb;exact⟨Dh,Bd b' Dh hm⟩
 have Lc:w.heap[l]? = some (.loop r):=R.holds _ _ hl;obtain⟨hnd',hnm'⟩:=KZ Js hh Ha;have T:Trans X G a w { D:=D',ν:=G.ν,τ:=G.τ } (a.put (some d) v) w' (fun b=>b∈l::φ.map (·.1)):=by
  refine⟨hp.1,fun h=>h.keep hp.2 fun D hD=>(hx.block D (Array.getElem?_eq_some_iff.1 hD).1 fun hm=>?_).trans hD,hx.os,hx.tape,hx.output,hx.size,fun b hb hn=>hx.block b hb hn,fun b hb=>?_,hx.grow,fun b o hD hn=>⟨.inl (hx.new b o hD hn),Js.there b o hD⟩,R.nil⟩
  ·rcases List.mem_cons.1 hm with rfl|hm;· rw[Lc]at hD;cases hD
   ·obtain⟨cs,hg⟩:=Fh D hm;obtain⟨c,e,h4,_⟩:=R.holds _ _ hg;rw[hD]at h4;cases h4
  ·rcases List.mem_cons.1 hb with rfl|hb;· exact (R.own _ _ b hl rfl).imp id And.left
   ·obtain⟨cs,hg⟩:=Fh b hb;exact (R.own _ _ b hg rfl).imp id And.left
 refine R.step T (fun m u=>(m = .heap l/\u = .ob r')\/(m = .slot d/\u = .one (.v x))\/∃b cs,m = .heap b/\u = .row (cs.map SV.v)/\(b,cs)∈Ae) (fun m u h=>?_) (fun m u h=>?_) (fun m u m' u' b h h' hb Ab=>?_)
 ·rw[C1]at h;split at h;· rename_i e;cases h;exact .inl (.inl ⟨e.symm,rfl⟩)
  ·rename_i Rc;rcases O4 _ _ _ _ h with h|⟨h,Ba⟩;· exact .inl (.inr (.inr h))
   ·obtain⟨h,hn⟩:=RM _ _ _ _ h;rw[C1]at h;split at h;· rename_i hl;cases h;exact .inl (.inr (.inl ⟨hl.symm,rfl⟩))
    ·rename_i Je;refine .inr ⟨h,fun n hn=>KW _ _ _ _ (fun e=>Je (by rw[hn,e])),fun b hb hB=>?_,fun _ _=>rfl,fun _ _=>rfl⟩;rcases List.mem_cons.1 hB with rfl|hB;· exact Rc (R.sep _ _ _ _ b hl h rfl hb)
     ·obtain⟨cs,hg⟩:=Fh b hB;exact hn b hB (R.sep _ _ _ _ b hg h rfl hb).symm
 ·rcases h with⟨rfl,rfl⟩|⟨rfl,rfl⟩|⟨b,cs,rfl,rfl,hm⟩
  ·refine⟨Ha,fun b hb=>?_⟩;simp only[BI,uC]at hb;subst hb;exact⟨.inr sS,R.own _ _ l hl rfl,fun _ o=>hnd' o⟩
  ·refine⟨?_,fun b hb=>by cases hb⟩;show RV D' w' x _;rw[I9 _ _ _ (by rw[R.size];exact hd)];exact hr
  ·refine⟨H6 hh hm,fun b' Ab=>?_⟩;simp only[BI,uC]at Ab;subst Ab;have Sp:b∈Ae.map (·.1):=List.mem_map.2 ⟨_,hm,rfl⟩;refine⟨(u6 b Sp).symm.imp id (List.mem_cons_of_mem _),?_,fun _ o=>hh.nodata b cs hm o⟩;rcases u6 b Sp with h1|h1
   ·obtain⟨Dh,hg⟩:=Fh b h1;exact R.own _ _ b hg rfl
   ·exact .inl (Nat.le_trans R.ext.size h1)
 ·have Sh:∀m u,((m = .heap l/\u = .ob r')\/(m = .slot d/\u = .one (.v x))\/∃b cs,m = .heap b/\u = .row (cs.map SV.v)/\(b,cs)∈Ae)->BI { D:=D',ν:=G.ν,τ:=G.τ } m u=some b->m = .heap b:=by
   rintro m u (⟨rfl,rfl⟩|⟨rfl,rfl⟩|⟨b',cs,rfl,rfl,hm⟩) hb;· simp only[BI,uC]at hb;rw[hb]
   ·cases hb
   ·simp only[BI,uC]at hb;rw[hb]
  rw[Sh m u h hb,Sh m' u' h' Ab]
theorem z30 {o:Oper}{y:Operand}{args:Array Operand}{Ct:Array TypeId}(ho:o.op = .call { callee:=.value y,args:=args,argTypes:=Ct }){l:Nat}(hy:D4 X (get s) y=some (.v (.prim (.func (.yield l) #[] #[]))))
  {ds:List DV} (u8:HP X (get s) args.toList=some ds) {r:Loop} (Ka:r.params.size=ds.length) {φ:BU} {R:Bool->BU->Loop->Prop} (hc:YC X.P X.gl X.D0 X.w0 l r ds φ R) (Bd:BP (get s) φ) (Ai:(φ.map (·.1)).Nodup) (hl:get s (.heap l)=some (.ob r))
  {d:Nat} (hd:o.dst=some d) (Eb:d<X.n) {G:Gh} {a:Act} {w:World} (R0:Rel X G s a w) (next:Act->World->Prop) (Q:Exit->Act->World->Prop)
  (hk:∀b Ae r' G' a' w',R b Ae r'->(∀c∈Ae.map (·.1),c∈φ.map (·.1)\/∀m v,get s m=some v->BI G m v≠some c)->Rel X G' (CV (D7 (DP (CV s (.slot d) (.one (.v (.prim (.bool b))))) φ) Ae) (.heap l) (.ob r')) a' w'->next a' w'):o.wpIn X.F 0 X.P a w next Q:=by
 have Yz:=(BT (AD R0 hy)).1;obtain⟨q1,q2⟩:=RF R0 u8;have q1':args.size=ds.length:=by simpa using q1
 have Lc:w.heap[l]? = some (.loop r):=R0.holds _ _ hl;have Bf:(execOp a.eval o).run X.P w = .ok (.round l r.fn ((r.params.zip (args.map a.eval)).foldl (fun tmps (t,a)=>tmps.setIfInBounds t a) r.tmps) r.assign r.body) w:=by
  simp[execOp,ho,resolve,Yz,Deferred.ofValue,invoke,run_yield Lc,Ka,q1',Sem.run_bind]
 refine⟨fun _ _=>trivial,?_⟩;rw[Oper.semAt_eq _ _ _ (by intro c e;rw[ho]at e;cases e),Bf,Oper.uponIn_round];refine⟨fun h=>(by cases h),?_⟩;refine RoundIn.mono (hc G.D w (args.map a.eval) R0.ext.grow R0.ext.size R0.wf (by simp[q1']) (fun i x v hx hv=>?_) (SN R0 Bd Ai) Lc) ?_
 ·refine q2 i x v hx ?_;rw[<- Array.getElem?_toList]at hv
  simpa using hv
 ·rintro e w' ⟨b,D',Ae,r',rfl,hR,hx,Js,hh,Ha,u6⟩;simp only[hd];refine hk b Ae r' _ _ w' hR (fun c hc=>(u6 c hc).imp id fun h m v hg Of=>?_) (R0.yield Bd hl hx Js (.prim (.bool b) tT) hh Ha u6 Eb);have:=JE (R0.holds m v hg) Of;omega
theorem VE {l:Nat}{r:Loop}(Hl:X.rd=some l)(hl:get s (.heap l)=some (.ob r))(hr:r.state = .ready)(h:W X k (CV s (.heap l) (.ob { r with state:=.busy }))):W X (.beginRound::k) s:=by
 intro G a w b cs hf hk Il R;have Lc:w.heap[l]? = some (.loop r):=R.holds _ _ hl;have Bf:=run_beginRound (P:=X.P) Lc hr;have Ba:∀b,b≠l->(w.putObj l (.loop { r with state:=.busy })).heap[b]? = w.heap[b]?:=fun b hb=>World.putObj_heap_other hb;have Jb:(w.putObj l (.loop { r with state:=.busy })).heap[l]? = some (.loop { r with state:=.busy }):=World.putObj_heap_same (Array.getElem?_eq_some_iff.1 Lc).1
 have Ns:∀b o,G.D b o->b≠l:=fun b o hd e=>by
  subst e;obtain⟨v,hv⟩:=R.wf.there b o hd;simp[World.cell?,Lc]at hv
 have T:Trans X G a w G a (w.putObj l (.loop { r with state:=.busy })) (fun b=>b=l):=by
  refine⟨rfl,fun h=>h.keep rfl fun D hD=>(Ba D fun e=>by subst e;rw[Lc]at hD;cases hD).trans hD,rfl,rfl,rfl,sS,fun b _ hb=>Ba b hb,fun b hb=>by subst hb;exact (R.own _ _ b hl rfl).imp id And.left,fun b o hd=>⟨hd,?_⟩,fun _ _ h k=>absurd h k,R.nil⟩;simp only[World.cell?];rw[Ba b (Ns b o hd)]
 have R':Rel X G (CV s (.heap l) (.ob { r with state:=.busy })) a (w.putObj l (.loop { r with state:=.busy })):=by
  refine R.step T (fun m u=>m = .heap l/\u = .ob { r with state:=.busy }) (fun m u hm=>?_) (fun m u hm=>?_) (fun m u m' u' b h h' _ _=>h.1.trans h'.1.symm)
  ·rw[C1]at hm;split at hm;· rename_i e;cases hm;exact .inl ⟨e.symm,rfl⟩
   ·rename_i e;refine .inr ⟨hm,fun _ _=>rfl,fun b hb he=>?_,fun _ _=>rfl,fun _ _=>rfl⟩;subst he;exact e (R.sep _ _ _ _ b hl hm rfl hb)
  ·obtain⟨rfl,rfl⟩:=hm;refine⟨Jb,fun b hb=>?_⟩;simp only[BI,uC]at hb;subst hb;exact⟨.inr rfl,R.own _ _ l hl rfl,fun _ o hd=>Ns l o hd rfl⟩
 obtain⟨w',fr,h1,h2⟩:=h G a _ b cs hf hk Il R';exact⟨w',fr,h1,.head (stepR_beginRound (Il.trans Hl) Bf) h2⟩
end
end
section
def aL (tmps:Array Value):List (Nat × Value)->Array Value
 | []=>tmps
 | (t,v)::r=>aL (tmps.setIfInBounds t v) r
theorem t7 (l:List (Nat × Value)):∀tmps:Array Value,l.foldl (fun tmps p=>tmps.setIfInBounds p.1 p.2) tmps=aL tmps l:=by
 induction l with
 | nil=>intro tmps;rfl
 | cons p r ih=>intro tmps;exact ih _
theorem z31 (l:List (Nat × Value)):∀tmps:Array Value,(aL tmps l).size=tmps.size:=by
 induction l with
 | nil=>intro tmps;rfl
 | cons p r ih=>intro tmps;simp only[aL,ih,Array.size_setIfInBounds]
theorem aM {n:Nat}(l:List (Nat × Value)):∀tmps:Array Value,n∉l.map (·.1)->(aL tmps l).getD n undef=tmps.getD n undef:=by
 induction l with
 | nil=>intro tmps _;rfl
 | cons p r ih=>
  intro tmps h;simp only[List.map_cons,List.mem_cons,not_or]at h;simp only[aL,ih _ h.2];simp[Array.getElem?_setIfInBounds_ne (Ne.symm h.1)]
theorem zfl {n:Nat}{v:Value}(l:List (Nat × Value)):∀tmps:Array Value,(l.map (·.1)).Nodup->(n,v)∈l->n<tmps.size->(aL tmps l).getD n undef=v:=by
 induction l with
 | nil=>intro tmps _ h;cases h
 | cons p r ih=>
  intro tmps hn h Ag;simp only[List.map_cons,List.nodup_cons]at hn;simp only[aL];rcases List.mem_cons.1 h with rfl|h
  ·rw[aM _ _ hn.1];simp[Ag]
  ·exact ih _ hn.2 h (by simpa using Ag)
def iL (D0:Nat->Nat->Prop)(w0:World)(tmps:Array Value)(SL:List (Nat × DV)):Prop:=∀n x,(n,x)∈SL->RV D0 w0 x (tmps.getD n undef)
def Q6:List (Nat × DV)->St
 | []=>[]
 | (n,x)::r=>(.slot n,.one (.v x))::Q6 r
theorem t8 {SL:List (Nat × DV)}{l:Loc}{v:LV}(h:get (Q6 SL) l=some v):∃n x,l = .slot n/\v = .one (.v x)/\(n,x)∈SL:=by
 induction SL with
 | nil=>cases h
 | cons p r ih=>
  obtain⟨n,x⟩:=p;simp only[Q6,get]at h;split at h;· rename_i e;cases h;exact⟨n,x,e.symm,rfl,sS⟩
  ·obtain⟨n',x',h1,h2,h3⟩:=ih h;exact⟨n',x',h1,h2,List.mem_cons_of_mem _ h3⟩
def VF:List Nat->List DV->St
 | p::ps,x::xs=>(.slot p,.one (.v x))::VF ps xs
 | _,_=>[]
theorem z32 {ps:List Nat}{xs:List DV}{l:Loc}{v:LV}(h:get (VF ps xs) l=some v):∃(i p:Nat) (x:DV),l = .slot p/\v = .one (.v x)/\ps[i]? = some p/\xs[i]? = some x:=by
 induction ps generalizing xs with
 | nil=>cases h
 | cons p ps ih=>
  cases xs with
  | nil=>cases h
  | cons x xs=>
   simp only[VF,get]at h;split at h;· rename_i e;cases h;exact⟨0,p,x,e.symm,rfl,rfl,rfl⟩
   ·obtain⟨i,p',x',h1,h2,h3,h4⟩:=ih h;exact⟨i+1,p',x',h1,h2,by simpa using h3,by simpa using h4⟩
def OK (ps:List Nat)(args:List DV)(SL:List (Nat × DV))(φ:BU)(l:Nat)(r:Loop):St:=(.heap l,.ob r)::(VF ps args++(Q6 SL++D9 φ))
def NG (r:Loop)(j:Option Code):Loop:={ r with state:=if j.isNone then .ready else .done,pending:=j }
theorem VG {P:Program}{gl:AF}{D0:Nat->Nat->Prop}{w0:World}{l:Nat}{r:Loop}{args:List DV}{φ:BU}{R:Bool->BU->Loop->Prop}(n:Nat)(Tg:r.tmps.size=n){SL:List (Nat × DV)}(hSL:iL D0 w0 r.tmps SL)(Fd:r.state = .ready)
  (Ka:r.params.size=args.length) (hpn:∀p∈r.params.toList,p<n) (Ai:r.params.toList.Nodup) (Br:∀p∈r.params.toList,p∉SL.map (·.1))
  (h:∀X:Ctx,X.P=P->X.gl=gl->X.f=r.fn->X.n=n->X.md = .rd l r (fun j Ae=>R j.isNone Ae (NG r j))->X.ids=l::φ.map (·.1)->l∉φ.map (·.1)->(∀x∈args,DV.fit x)->W X [.code r.assign,.beginRound,.code r.body] (OK r.params.toList args SL φ l r)):YC P gl D0 w0 l r args φ R:=by
 intro D w vs Zq _ Js Bb u8 El Ht;obtain⟨Ma,hnm⟩:=KZ Js El Ht;have u5:∀x∈args,DV.fit x:=by
  intro x hx;obtain⟨i,hi,rfl⟩:=List.mem_iff_getElem.1 hx;exact RV.fit (u8 i _ vs[i] (uB hi) (uG oO))
 let X:Ctx:={ P:=P,gl:=gl,f:=r.fn,fn:=default,n:=n,ids:=l::φ.map (·.1),D0:=D,w0:=w,R:=fun _ _=>False,md:=.rd l r (fun j Ae=>R j.isNone Ae (NG r j)) }
 have hW:=h X rfl rfl rfl rfl rfl rfl hnm u5;have Yj:(r.params.zip vs).foldl (fun tmps (t,a)=>tmps.setIfInBounds t a) r.tmps=aL r.tmps (r.params.toList.zip vs.toList):=by
  rw[<- Array.foldl_toList,Array.toList_zip];exact t7 _ _
 rw[Yj];have Sr:(r.params.toList.zip vs.toList).map (·.1)=r.params.toList:=by
  rw[List.map_fst_zip];simp only[Array.length_toList];omega
 let a:Act:={ tmps:=aL r.tmps (r.params.toList.zip vs.toList),defers:=[] }
 have Rl:Rel X { D:=D,ν:=fun _=>0,τ:=fun _=>(none,0) } (OK r.params.toList args SL φ l r) a w:=by
  have Bq:∀m v,get (OK r.params.toList args SL φ l r) m=some v->(m = .heap l/\v = .ob r)\/(∃(i p:Nat) (x:DV),m = .slot p/\v = .one (.v x)/\r.params.toList[i]? = some p/\args[i]? = some x)\/(∃n x,m = .slot n/\v = .one (.v x)/\(n,x)∈SL)\/∃b cs,m = .heap b/\v = .row (cs.map SV.v)/\(b,cs)∈φ:=by
   intro m v hm;simp only[OK,get]at hm;split at hm;· rename_i e;cases hm;exact .inl ⟨e.symm,rfl⟩
   ·rw[JG]at hm;rcases Option.or_eq_some_iff.1 hm with hm|⟨-,hm⟩;· exact .inr (.inl (z32 hm))
    ·rw[JG]at hm;rcases Option.or_eq_some_iff.1 hm with hm|⟨-,hm⟩;· exact .inr (.inr (.inl (t8 hm)))
     ·exact .inr (.inr (.inr (NB hm)))
  have Sh:∀m v b,get (OK r.params.toList args SL φ l r) m=some v->BI { D:=D,ν:=fun _=>0,τ:=fun _=>(none,0) } m v=some b->m = .heap b:=by
   intro m v b hm hb;rcases Bq m v hm with⟨rfl,rfl⟩|⟨i,p,x,rfl,rfl,hx⟩|⟨p,x,rfl,rfl,hx⟩|⟨b',cs,rfl,rfl,hq⟩;· simp only[BI,uC]at hb;rw[hb]
   ·cases hb
   ·cases hb
   ·simp only[BI,uC]at hb;rw[hb]
  refine⟨by simp[a,X,z31,Tg],⟨[],rfl,List.nodup_nil,sS⟩,Ext.refl _ _ _,Js,rfl,fun m v hm=>?_,fun m v m' v' b hm Ve hb Ab=>?_,fun m v b hm hb=>?_,fun m v b o hm hb _=>?_⟩
  ·rcases Bq m v hm with⟨rfl,rfl⟩|⟨i,p,x,rfl,rfl,hp,hx⟩|⟨p,x,rfl,rfl,hx⟩|⟨b',cs,rfl,rfl,hq⟩;· exact Ht
   ·have hi:i<vs.size:=by rw[Bb];exact (uA hx).1
    have hv:vs[i]? = some vs[i]:=uG hi;show RV D w x _;have Em:(p,vs[i])∈r.params.toList.zip vs.toList:=by
     refine uE (i:=i) ?_;rw[List.getElem?_zip_eq_some];exact⟨hp,by simp[hv]⟩
    have:a.tmps.getD p undef=vs[i]:=zfl _ _ (by rw[Sr];exact Ai) Em (by rw[Tg];exact hpn p (uE hp));rw[this];exact u8 i x _ hx hv
   ·show RV D w x _;have:a.tmps.getD p undef=r.tmps.getD p undef:=aM _ _ (by rw[Sr];exact fun hm=>Br p hm (List.mem_map.2 ⟨_,hx,rfl⟩));rw[this];exact (hSL p x hx).mono Zq
   ·exact H6 (G:={ D:=D,ν:=fun _=>0,τ:=fun _=>(none,0) }) El hq
  ·rw[Sh m v b hm hb,Sh m' v' b Ve Ab]
  ·rcases Bq m v hm with⟨rfl,rfl⟩|⟨i,p,x,rfl,rfl,hp,hx⟩|⟨p,x,rfl,rfl,hx⟩|⟨b',cs,rfl,rfl,hq⟩
   ·simp only[BI,uC]at hb;subst hb;exact .inr ⟨by simp[X],rfl⟩
   ·cases hb
   ·cases hb
   ·simp only[BI,uC]at hb;subst hb;exact .inr ⟨List.mem_cons_of_mem _ (List.mem_map.2 ⟨_,hq,rfl⟩),rfl⟩
  ·rcases Bq m v hm with⟨rfl,rfl⟩|⟨i,p,x,rfl,rfl,hp,hx⟩|⟨p,x,rfl,rfl,hx⟩|⟨b',cs,rfl,rfl,hq⟩
   ·simp only[BI,uC]at hb;subst hb;exact Ma o
   ·cases hb
   ·cases hb
   ·simp only[BI,uC]at hb;subst hb;exact El.nodata _ _ hq o
 refine⟨trivial,fun c cs _=>?_⟩
 let b:Frame:={ (default:Frame) with fn:=r.fn,kind:=.normal,roundOf:=some l }
 have Da:Frame.round l r.fn (aL r.tmps (r.params.toList.zip vs.toList)) r.assign r.body .normal=b.atR a [.code r.assign,.beginRound,.code r.body]:=by
  simp[Frame.round,Frame.atR,b,a]
 obtain⟨w1,fr,⟨a1,k1,j,D',Ae,rfl,hj,hR,⟨q1,q2,q3,q4⟩,Fu⟩,Lu⟩:=hW _ a w b (c::cs) rfl rfl rfl Rl;have Nn:=run_endRound (P:=P) j Fu;have Ag:l<w1.heap.size:=(Array.getElem?_eq_some_iff.1 Fu).1;have Ba:∀b',b'≠l->(w1.putObj l (.loop (NG r j))).heap[b']? = w1.heap[b']?:=fun b' hb=>World.putObj_heap_other hb;have Ec:step P (lone (b.atR a1 k1) (c::cs) w1) = .next (lone (c.finish (.bool j.isNone)) cs (w1.putObj l (.loop (NG r j)))):=by
  cases j with
  | none=>obtain rfl:=hj;exact stepR_round_end rfl rfl Nn
  | some jc=>
   cases jc with
   | ret=>obtain⟨k2,rfl⟩:=hj;exact stepR_round_ret rfl rfl Nn
   | exit id=>obtain⟨k2,rfl,hx⟩:=hj;exact stepR_round_exit rfl rfl hx Nn
   | goto t=>obtain⟨k2,rfl,hx⟩:=hj;exact stepR_round_goto rfl rfl hx Nn
   | _=>exact hj.elim
 obtain⟨hnD1,hnm1⟩:=KZ q2 q3 Fu;have Ns:∀b' o,D' b' o->b'≠l:=fun b' o hd e=>by subst e;exact hnD1 o hd
 have Aj:∀b' o,D' b' o->(w1.putObj l (.loop (NG r j))).cell? ⟨b',o,none⟩=w1.cell? ⟨b',o,none⟩:=fun b' o hd=>by
  simp only[World.cell?];rw[Ba b' (Ns b' o hd)]
 have g2:OJ D' w1 D' (w1.putObj l (.loop (NG r j))):=fun b' o hd=>⟨hd,Aj b' o hd⟩;refine⟨.returned (.bool j.isNone),w1.putObj l (.loop (NG r j)),⟨j.isNone,D',Ae,NG r j,rfl,hR,?_,?_,?_,World.putObj_heap_same Ag,fun b' Ab=>?_⟩,?_⟩
 ·refine⟨q1.os,q1.tape,q1.output,by simpa using q1.size,fun b' Ab hn=>?_,q1.grow.trans g2,q1.new⟩;have:b'≠l:=fun e=>hn (by simp[e]);exact (Ba b' this).trans (q1.block b' Ab hn)
 ·refine⟨fun b' o hd=>?_,fun g els hg=>?_⟩
  ·obtain⟨v,hv⟩:=q2.there b' o hd;exact⟨v,(Aj b' o hd).trans hv⟩
  ·obtain⟨cap,hr⟩:=q2.globs g els hg;exact⟨cap,hr.mono g2⟩
 ·refine⟨fun b' Dh hm=>?_,q3.nodata,q3.nodup⟩;obtain⟨c',e',h1,h2,h3⟩:=q3.rows b' Dh hm;have Of:b'≠l:=fun e=>hnm1 (by rw[<- e];exact List.mem_map.2 ⟨_,hm,rfl⟩);refine⟨c',e',(Ba b' Of).trans h1,h2,fun i x hx=>?_⟩;obtain⟨k1,v,k2,k3⟩:=h3 i x hx;exact⟨k1,v,k2,k3.mono g2⟩
 ·rcases q4 b' Ab with h|h
  ·rcases List.mem_cons.1 h with rfl|h;· exact absurd Ab hnm1
   ·exact .inl h
  ·exact .inr h
 ·show StepsIn _ _ _ _;rw[Da];exact stepsIn_wide.2 (Steps.trans Lu (.head Ec (.refl _ _)))
theorem zfm {gl:AF}{D:Nat->Nat->Prop}{w w':World}(g:OJ D w D w')(h:Wf gl D w):Wf gl D w':=by
 refine⟨fun b o hd=>?_,fun i els hg=>?_⟩
 ·obtain⟨v,hv⟩:=h.there b o hd;exact⟨v,(g b o hd).2.trans hv⟩
 ·obtain⟨cap,hr⟩:=h.globs i els hg;exact⟨cap,hr.mono g⟩
theorem XW {D:Nat->Nat->Prop}{w w':World}{φ:BU}(g:OJ D w D w')(hb:∀b∈φ.map (·.1),w'.heap[b]? = w.heap[b]?)(h:HeapOK D w φ):HeapOK D w' φ:=by
 refine⟨fun b cs hm=>?_,h.nodata,h.nodup⟩;obtain⟨c,e,h1,h2,h3⟩:=h.rows b cs hm;refine⟨c,e,(hb b (List.mem_map.2 ⟨_,hm,rfl⟩)).trans h1,h2,fun i x hx=>?_⟩;obtain⟨k1,v,k2,k3⟩:=h3 i x hx;exact⟨k1,v,k2,k3.mono g⟩
section
variable {X:Ctx}{s:St}{k:List Item}
theorem O9 (Ft:X.md = .fn){g:Operand}{ps:Array Tmp}{assign body:Code}{f:FuncId}{fi ca:Array Value}(hg:D4 X (get s) g=some (.v (.prim (.func (.func f) fi ca))))(Ja:∀v∈fi.toList++ca.toList,FR v)
  {φ:BU} (Bd:BP (get s) φ) (Ai:(φ.map (·.1)).Nodup) {Y:Nat->Loop->(Nat->Nat->Prop)->World->Prop} {R:BU->Loop->Prop} {SL:List (Nat × DV)} (hSL:∀n x,(n,x)∈SL->get s (.slot n)=some (.one (.v x)))
  (Sb:∀l r,r.state = .ready->r.pending=none->r.params=ps->l∉φ.map (·.1)->ItC X.P X.gl f (fi.toList.map DV.prim++DV.prim (.func (.yield l) #[] #[])::ca.toList.map DV.prim) φ l r (Y l r) R)
  (hY:∀l r D0 w0,r.state = .ready->r.pending=none->r.params=ps->r.fn=X.f->r.tmps.size=X.n->r.assign=assign->r.body=body->l∉φ.map (·.1)->iL D0 w0 r.tmps SL->Y l r D0 w0)
  (Fd:∀Ae r',R Ae r'->r'.state≠.busy)
  (after:∀Ae r',R Ae r'->(∀b∈Ae.map (·.1),b∈φ.map (·.1)\/newB b s)->W X ((r'.pending.map Item.code).toList++k) (D7 (DP s φ) Ae)):W X (.code (.rangeFunc g ps assign body)::k) s:=by
 intro G a w b cs hf hk Il R0;have hrn:=Il.trans (ziq Ft);have hgv:=(BT (AD R0 hg)).1
 let r:Loop:={ state:=.ready,pending:=none,fn:=b.fn,tmps:=a.tmps,params:=ps,assign,body,defers:=w.heap.size }
 let w1:World:=(w.alloc (.deferred (some []))).alloc (.loop r)
 have hsz1:w1.heap.size=w.heap.size+2:=by simp[w1]
 have hold:∀b',b'<w.heap.size->w1.heap[b']? = w.heap[b']?:=fun b' hb=>(DL _ _ b' (by simp;omega)).trans (DL w _ b' hb);have Ht:w1.heap[w.heap.size+1]? = some (.loop r):=by
  have:=OX (w.alloc (.deferred (some []))) (.loop r);rw[show (w.alloc (.deferred (some []))).heap.size=w.heap.size+1 from sS]at this;exact this
 have hdef:w1.heap[w.heap.size]? = some (.deferred (some [])):=(DL _ _ _ sS).trans (OX w _)
 have Vd:∀b' o,G.D b' o->w1.cell? ⟨b',o,none⟩=w.cell? ⟨b',o,none⟩:=fun b' o hd=>by
  simp only[World.cell?];rw[hold b' (R0.wf.lt hd)]
 have g1:OJ G.D w G.D w1:=fun b' o hd=>⟨hd,Vd b' o hd⟩;have he:(Instr.enterLoop b.fn a.tmps ps assign body b.roundOf).run X.P w = .ok (w.heap.size+1,[TG w.heap.size]) w1:=by
  rw[hrn];exact run_enterLoop_outer _ _ _ _ _
 have Pi:∀b'∈φ.map (·.1),b'<w.heap.size:=fun b' hb=>by
  obtain⟨⟨b2,Dh⟩,hm,rfl⟩:=List.mem_map.1 hb;exact JE (R0.holds _ _ (Bd b2 Dh hm)) rfl
 have Iv:w.heap.size+1∉φ.map (·.1):=fun hm=>by have:=Pi _ hm;omega
 have hwf1:=zfm g1 R0.wf;have hh1:=XW g1 (fun b' hb=>hold b' (Pi b' hb)) (SN R0 Bd Ai);obtain⟨Nk,Xm⟩:=Sb (w.heap.size+1) r rfl rfl rfl Iv;have Wi:iL G.D w1 r.tmps SL:=fun n x hm=>RV.mono g1 (R0.holds _ _ (hSL n x hm));have hYr:=hY (w.heap.size+1) r G.D w1 rfl rfl rfl hf R0.size rfl rfl Iv Wi;have Am:(resolve a.eval (rangeCall g (w.heap.size+1)) 0).run X.P w1 = .ok { target:=.fn (.func f) ca,args:=fi++#[.func (.yield (w.heap.size+1)) #[] #[]] } w1:=by
  have e:(#[Operand.const (.func (.yield (w.heap.size+1)) #[] #[])]:Array Operand).map a.eval = #[.func (.yield (w.heap.size+1)) #[] #[]]:=by simp[Act.eval]
  simp only[resolve,rangeCall,e,hgv];rfl
 have hinv:(invoke (.fn (.func f) ca) (fi++#[.func (.yield (w.heap.size+1)) #[] #[]])).run X.P w1 = .ok (.enter f (fi++#[.func (.yield (w.heap.size+1)) #[] #[]]++ca)) w1:=by
  simp only[invoke];exact V7 Nk _ _
 have Hw:=stepR_rangeFunc (P:=X.P) (b:=b) (a:=a) (k:=k) (cs:=cs) (w:=w) he Am hinv
 obtain⟨e,w2,fr,⟨v,D',Ae,r',rfl,hR,hx,Ye,hh2,Gf,u6⟩,Lu,u9,Vm⟩:=Xm G.D w1 (fi++#[.func (.yield (w.heap.size+1)) #[] #[]]++ca) hwf1 (by simp;omega) (by
  have hp:∀v∈(fi++#[Value.func (.yield (w.heap.size+1)) #[] #[]]++ca).toList,FR v:=by
   intro v hv;simp only[Array.toList_append,List.mem_append]at hv;rcases hv with (hv|hv)|hv;· exact Ja v (List.mem_append.2 (.inl hv))
   ·simp only[List.mem_singleton]at hv;subst hv;trivial
   ·exact Ja v (List.mem_append.2 (.inr hv))
  intro i x v hx hv;have Di:(fi++#[Value.func (.yield (w.heap.size+1)) #[] #[]]++ca).toList[i]? = some v:=by rw[Array.getElem?_toList];exact hv
  have he:fi.toList.map DV.prim++DV.prim (.func (.yield (w.heap.size+1)) #[] #[])::ca.toList.map DV.prim=((fi++#[Value.func (.yield (w.heap.size+1)) #[] #[]]++ca).toList).map DV.prim:=sS;rw[he,List.getElem?_map,Di]at hx;cases hx;exact .prim v (hp v (uE Di))) hh1 Ht hYr (b.atR { a with defers:=[TG w.heap.size]++a.defers } (.inRangeFunc (w.heap.size+1)::k)::cs)
 have Cv:=step_leave_returned (cs:=cs) (c:=b.atR { a with defers:=[TG w.heap.size]++a.defers } (.inRangeFunc (w.heap.size+1)::k)) Vm;rw[finish_atR_inRangeFunc]at Cv;have Nn:=run_endLoop (P:=X.P) Gf (Fd Ae r' hR);have Tu:=stepR_endRangeFunc (P:=X.P) (b:=b) (a:={ a with defers:=[TG w.heap.size]++a.defers }) (k:=k) (cs:=cs) Nn
 let w3:World:=w2.putObj (w.heap.size+1) (.loop { r' with state:=.exhausted })
 obtain⟨hnD2,hnm2⟩:=KZ Ye hh2 Gf;have Ba:∀b',b'≠w.heap.size+1->w3.heap[b']? = w2.heap[b']?:=fun b' hb=>World.putObj_heap_other hb
 have Pb:∀b' o,D' b' o->w3.cell? ⟨b',o,none⟩=w2.cell? ⟨b',o,none⟩:=fun b' o hd=>by
  simp only[World.cell?];rw[Ba b' (fun e=>by subst e;exact hnD2 o hd)]
 have g3:OJ D' w2 D' w3:=fun b' o hd=>⟨hd,Pb b' o hd⟩;have hsz3:w.heap.size+2<=w3.heap.size:=by simp only[w3,World.putObj_size];have:=hx.size;omega
 have Fh:∀b∈φ.map (·.1),∃cs,get s (.heap b)=some (.row (List.map SV.v cs)):=by
  intro b hb;obtain⟨⟨b',Dh⟩,hm,rfl⟩:=List.mem_map.1 hb;exact⟨Dh,Bd b' Dh hm⟩
 have Si:∀b',b'<w.heap.size->b'∉φ.map (·.1)->w3.heap[b']? = w.heap[b']?:=fun b' hb hn=>by
  refine (Ba b' oO).trans ((hx.block b' oO ?_).trans (hold b' hb));simp only[List.mem_cons,not_or];exact⟨oO,hn⟩
 have hD3:w3.heap[w.heap.size]? = some (.deferred (some [])):=by
  refine (Ba _ oO).trans ((hx.block _ oO ?_).trans hdef);simp only[List.mem_cons,not_or];exact⟨oO,fun hm=>by have:=Pi _ hm;omega⟩
 have hφD:∀D∈φ.map (·.1),w.heap[D]?≠some (.deferred (some [])):=fun D hm hD=>by
  obtain⟨cs,hg⟩:=Fh D hm;obtain⟨c,e,h4,_⟩:=R0.holds _ _ hg;rw[hD]at h4;cases h4
 have T:Trans X G a w { D:=D',ν:=G.ν,τ:=G.τ } { a with defers:=[TG w.heap.size]++a.defers } w3 (fun b'=>b'∈φ.map (·.1)):=by
  refine⟨rfl,fun ⟨Ds,h1,h2,h3⟩=>⟨w.heap.size::Ds,by simp[h1],List.nodup_cons.2 ⟨fun hm=>?_,h2⟩,fun D hD=>?_⟩,hx.os,hx.tape,hx.output,oO,Si,fun b' hb=>?_,(g1.trans hx.grow).trans g3,fun b' o hd hn=>⟨.inl ?_,?_⟩,R0.nil⟩;· have:=(Array.getElem?_eq_some_iff.1 (h3 _ hm).1).1;omega
  ·rcases List.mem_cons.1 hD with rfl|hD;· exact⟨hD3,R0.ext.size⟩
   ·have h4:=h3 D hD;exact⟨(Si D (Array.getElem?_eq_some_iff.1 h4.1).1 (fun hm=>hφD D hm h4.1)).trans h4.1,h4.2⟩
  ·obtain⟨cs,hg⟩:=Fh b' hb;exact (R0.own _ _ b' hg rfl).imp id And.left
  ·have:=hx.new b' o hd hn;omega
  ·obtain⟨u,hu⟩:=Ye.there b' o hd;exact⟨u,(Pb b' o hd).trans hu⟩
 have Bw:∀b'∈Ae.map (·.1),b'∈φ.map (·.1)\/w.heap.size<=b':=fun b' hb=>(u6 b' hb).imp id fun h=>oO;have hh3:HeapOK D' w3 Ae:=XW g3 (fun b' hb=>Ba b' (fun e=>by subst e;exact hnm2 hb)) hh2;have R3:Rel X { D:=D',ν:=G.ν,τ:=G.τ } (D7 (DP s φ) Ae) { a with defers:=[TG w.heap.size]++a.defers } w3:=by
  refine R0.step T (fun m u=>∃b' cs,m = .heap b'/\u = .row (cs.map SV.v)/\(b',cs)∈Ae) (fun m u h=>?_) (fun m u h=>?_) (fun m u m' u' b' h h' hb Ab=>?_)
  ·rcases O4 _ _ _ _ h with h|⟨h,Ru⟩;· exact .inl h
   ·obtain⟨h,hn⟩:=RM _ _ _ _ h;refine .inr ⟨h,fun _ _=>rfl,fun b' hb hB=>?_,fun _ _=>rfl,fun _ _=>rfl⟩;obtain⟨cs,hg⟩:=Fh b' hB;exact hn b' hB (R0.sep _ _ _ _ b' hg h rfl hb).symm
  ·obtain⟨b',cs,rfl,rfl,hm⟩:=h;refine⟨H6 hh3 hm,fun b2 Ab=>?_⟩;simp only[BI,uC]at Ab;subst Ab;have Sp:b'∈Ae.map (·.1):=List.mem_map.2 ⟨_,hm,rfl⟩;refine⟨(Bw b' Sp).symm,?_,fun _ o=>hh3.nodata b' cs hm o⟩;rcases Bw b' Sp with h1|h1
   ·obtain⟨Dh,hg⟩:=Fh b' h1;exact R0.own _ _ b' hg rfl
   ·exact .inl (Nat.le_trans R0.ext.size h1)
  ·obtain⟨b1,cs1,rfl,rfl,hm1⟩:=h;obtain⟨b2,cs2,rfl,rfl,hm2⟩:=h';simp only[BI,uC]at hb Ab;rw[hb,Ab]
 obtain⟨w',Mv,h1,h2⟩:=after Ae r' hR (fun b' hb=>(Bw b' hb).imp id fun h=>VC fun u hu=>by
  have Ov:=R0.holds _ _ hu;cases u with
  | row cs=>have:=JE Ov rfl;omega
  | ob q=>have:=JE Ov rfl;omega
  | mp q=>have:=JE Ov rfl;omega
  | one x=>exact Ov.elim
  | tk E n=>exact Ov.elim) _ _ w3 b cs hf hk Il R3
 exact⟨w',Mv,h1,.head Hw (Steps.trans Lu (.head Cv (.head Tu h2)))⟩
theorem z33 {A:St}{φ Ae:BU}{d l:Nat}{x:DV}{r':Loop}(hA:∀m v,(m,v)∈A->get s m=some v/\m≠.slot d/\m≠.heap l/\∀b∈φ.map (·.1),m≠.heap b)(Ai:(Ae.map (·.1)).Nodup)(hl:l∉Ae.map (·.1))(u6:∀c∈Ae.map (·.1),c∈φ.map (·.1)\/newB c s) :
  pM ((.slot d,.one (.v x))::(.heap l,.ob r')::(A++D9 Ae)) (CV (D7 (DP (CV s (.slot d) (.one (.v x))) φ) Ae) (.heap l) (.ob r')):=by
 have Rb:∀(Ae:BU) (s:St) (b:Nat) (cs:List DV),(Ae.map (·.1)).Nodup->(b,cs)∈Ae->get (D7 s Ae) (.heap b)=some (.row (cs.map SV.v)):=by
  intro Ae
  induction Ae with
  | nil=>intro s b cs _ h;cases h
  | cons p r ih=>
   obtain⟨b0,c0⟩:=p;intro s b cs hn h;simp only[List.map_cons,List.nodup_cons]at hn;simp only[D7,C1];rcases List.mem_cons.1 h with e|h;· cases e;simp
   ·have:b0≠b:=fun e=>hn.1 (by rw[e];exact List.mem_map.2 ⟨_,h,rfl⟩);simp only[Loc.heap.injEq,this,if_false];exact ih s b cs hn.2 h
 have Wx:∀(Ae:BU) (s:St) (m:Loc),(∀b∈Ae.map (·.1),m≠.heap b)->get (D7 s Ae) m=get s m:=by
  intro Ae
  induction Ae with
  | nil=>intro s m _;rfl
  | cons p r ih=>
   obtain⟨b0,c0⟩:=p;intro s m h;simp only[D7,C1];rw[if_neg (fun e=>h b0 sS e.symm)];exact ih s m fun b hb=>h b (by simp[hb])
 have Zc:∀(φ:BU) (s:St) (m:Loc),(∀b∈φ.map (·.1),m≠.heap b)->get (DP s φ) m=get s m:=by
  intro φ
  induction φ with
  | nil=>intro s m _;rfl
  | cons p r ih=>
   obtain⟨b0,c0⟩:=p;intro s m h;simp only[DP];rw[ih _ m fun b hb=>h b (by simp[hb]),LH,if_neg (fun e=>h b0 sS e.symm)]
 intro m v hm;simp only[get]at hm;rw[C1];split at hm
 ·rename_i e;subst e;cases hm;simp only[reduceCtorEq,if_false];rw[Wx _ _ _ sS,Zc _ _ _ sS,C1,if_pos rfl]
 ·rename_i Je;split at hm
  ·rename_i e;subst e;cases hm;simp
  ·rename_i hhl;rw[if_neg hhl];rw[JG]at hm;rcases Option.or_eq_some_iff.1 hm with hm|⟨-,hm⟩
   ·obtain⟨h1,h2,h3,h4⟩:=hA m v (UY hm);have h5:∀b∈Ae.map (·.1),m≠.heap b:=by
     rintro b hb rfl;rcases u6 b hb with h|h;· exact h4 b h rfl
     ·have key:∀s:St,newB b s->get s (.heap b)=none:=by
       intro s
       induction s with
       | nil=>intro _;rfl
       | cons p r ih=>
        obtain⟨m,u⟩:=p;intro hn;cases m with
        | heap b'=>simp only[newB]at hn;simp only[get,Loc.heap.injEq,hn.1,if_false];exact ih hn.2
        | slot n=>simp only[newB]at hn;simp only[get,reduceCtorEq,if_false];exact ih hn
        | loc n=>simp only[newB]at hn;simp only[get,reduceCtorEq,if_false];exact ih hn
        | tok n=>simp only[newB]at hn;simp only[get,reduceCtorEq,if_false];exact ih hn
      rw[key s h]at h1;cases h1
    rw[Wx _ _ _ h5,Zc _ _ _ h4,C1,if_neg (fun e=>h2 e.symm)];exact h1
   ·obtain⟨b,cs,rfl,rfl,Em⟩:=NB hm;exact Rb _ _ b cs Ai Em
theorem Q7 {Ad:List Nat}{ops:Array Oper}{ll:List Oper}{K:St->Prop}{d:Tmp}{y:Operand}{args:Array Operand}{Ct:Array TypeId}{ty:TypeId}{pos:String}{af:Array Edge}{l:Nat}(hy:D4 X (get s) y=some (.v (.prim (.func (.yield l) #[] #[]))))
  {ds Gz:List DV} {P:Program} {gl:AF} (hP:X.P=P) (u7:X.gl=gl) {r:Loop} {φ:BU} {R:Bool->BU->Loop->Prop} (hc:YC P gl X.D0 X.w0 l r Gz φ R) (Ka:r.params.size=Gz.length) (u8:HP X (get s) args.toList=some ds) (Fs:ds=Gz) (Bd:BP (get s) φ) (Ai:(φ.map (·.1)).Nodup) (hl:get s (.heap l)=some (.ob r)) (Eb:d<X.n)
  (A:St) (hA:∀m v,(m,v)∈A->get s m=some v/\m≠.slot d/\m≠.heap l/\∀b∈φ.map (·.1),m≠.heap b)
  (h:∀b Ae r',R b Ae r'->(Ae.map (·.1)).Nodup/\l∉Ae.map (·.1)) (hk:∀b Ae r',R b Ae r'->(∀c∈Ae.map (·.1),c∈φ.map (·.1)\/newB c s)->vc X Ad ops ll ((.slot d,.one (.v (.prim (.bool b))))::(.heap l,.ob r')::(A++D9 Ae)) K) :
  eD X Ad ops ll K ⟨some d,.call { callee:=.value y,args:=args,argTypes:=Ct },ty,pos,af,none⟩ s (BA X Ad s ⟨some d,.call { callee:=.value y,args:=args,argTypes:=Ct },ty,pos,af,none⟩):=by
 subst Fs;have e:BA X Ad s ⟨some d,.call { callee:=.value y,args:=args,argTypes:=Ct },ty,pos,af,none⟩=none:=by
  simp only[BA,CN,HB,QT,IK];split <;> rfl
 rw[e];intro n hn G a w R0;obtain⟨h1,h2⟩:=FH hn;simp only[List.length_cons,List.range'_succ,wpOpsIn,h1,Region.wanted,if_true];refine z30 (o:=⟨some d,.call { callee:=.value y,args:=args,argTypes:=Ct },ty,pos,af,none⟩) rfl hy u8 Ka (by rw[hP,u7];exact hc) Bd Ai hl rfl Eb R0 _ _ fun b Ae r' G' a' w' hR u6 R'=>?_
 have Bw:∀c∈Ae.map (·.1),c∈φ.map (·.1)\/newB c s:=fun c hc=>(u6 c hc).imp id fun hh=>VC fun v hv=>by
  have Ov:=R0.holds _ _ hv;cases v with
  | row cs=>exact hh _ _ hv rfl
  | ob r=>exact hh _ _ hv rfl
  | mp l=>exact hh _ _ hv rfl
  | one x=>exact Ov.elim
  | tk E n=>exact Ov.elim
 exact DM (hk b Ae r' hR Bw) (n+1) h2 G' a' w' (R'.weaken (z33 hA (h b Ae r' hR).1 (h b Ae r' hR).2 Bw))
theorem YX (φ:BU)(n:Nat):OU (D9 φ) (.slot n)=D9 φ:=by
 induction φ with
 | nil=>rfl
 | cons p r ih=>obtain⟨b,cs⟩:=p;simp[D9,OU,ih]
theorem fQ (d:Nat)(cs:List DV):ED d (cs.map SV.v)=false:=by
 induction cs with
 | nil=>rfl
 | cons c r ih=>simp[ED,GK,ih]
theorem RW {φ:BU}(hn:(φ.map (·.1)).Nodup):∀{A:St},(∀m v,(m,v)∈A->∀b∈φ.map (·.1),m≠.heap b)->BP (get (A++D9 φ)) φ:=by
 intro A hA b cs hm;have h1:get (D9 φ) (.heap b)=some (.row (cs.map SV.v)):=by
  induction φ with
  | nil=>cases hm
  | cons p r ih=>
   obtain⟨b0,c0⟩:=p;simp only[List.map_cons,List.nodup_cons]at hn;simp only[D9,get];rcases List.mem_cons.1 hm with e|hm;· cases e;simp
   ·have:b0≠b:=fun e=>hn.1 (by rw[e];exact List.mem_map.2 ⟨_,hm,rfl⟩);simp only[Loc.heap.injEq,this,if_false];exact ih hn.2 (fun m v h b hb=>hA m v h b (by simp[hb])) hm
 rw[JG,h1];cases hq:get A (.heap b) with
 | none=>rfl
 | some v=>exact absurd rfl (hA _ _ (UY hq) b (List.mem_map.2 ⟨_,hm,rfl⟩))
theorem iM {A A':St}{φ:BU}{kk:List Item}(hA:∀m v,(m,v)∈A'->get A m=some v)(h:W X kk (A'++D9 φ))(hd:∀m v,(m,v)∈A->∀b∈φ.map (·.1),m≠.heap b):W X kk (A++D9 φ):=by
 intro G a w b cs hf hk hr R;refine h G a w b cs hf hk hr (R.weaken fun m v hm=>?_);rw[JG]at hm ⊢;rcases Option.or_eq_some_iff.1 hm with hm|⟨-,hm⟩;· rw[hA m v (UY hm)];rfl
 ·obtain⟨b,cs,rfl,rfl,Em⟩:=NB hm;cases hq:get A (.heap b) with
  | none=>exact hm
  | some u=>exact absurd rfl (hd _ _ (UY hq) b (List.mem_map.2 ⟨_,Em,rfl⟩))
theorem JO {φ:BU}{n:Nat}{v:LV}(h:BP (get s) φ):BP (get ((.slot n,v)::s)) φ:=fun b cs hm=>by
 simp only[get,reduceCtorEq,if_false];exact h b cs hm
theorem JP {φ:BU}{n:Nat}{v:LV}(hn:n∉φ.map (·.1))(h:BP (get s) φ):BP (get ((.heap n,v)::s)) φ:=fun b cs hm=>by
 have:n≠b:=fun e=>hn (by rw[e];exact List.mem_map.2 ⟨_,hm,rfl⟩);simp only[get,Loc.heap.injEq,this,if_false];exact h b cs hm
theorem JQ {φ:BU}(hn:(φ.map (·.1)).Nodup):BP (get (D9 φ)) φ:=RW (A:=[]) hn sS
theorem AO {φ:BU}{b:Nat}{cs:List DV}(h:get s (.heap b)=some (.row (cs.map SV.v)))(h':BP (get s) φ):BP (get s) ((b,cs)::φ):=by
 intro b' Dh hm;rcases List.mem_cons.1 hm with e|hm;· cases e;exact h
 ·exact h' b' Dh hm
attribute [go_sem] YX
end
end
section
section
variable {X:Ctx}{s:St}
theorem RX {E:Nat}:∀{ys:List (List DV)},(∀e∈ys,e.length=E)->∀{k:Nat} {d:DV},ys.flatten[k]? = some d->∃i j e,ys[i]? = some e/\e[j]? = some d/\k=i * E+j
 | [],_,k,d,h=>by simp at h
 | e::r,hE,k,d,h=>by
  have he:=hE e sS;by_cases hk:k<e.length
  ·rw[List.flatten_cons,List.getElem?_append_left hk]at h;exact⟨0,k,e,sS,h,sS⟩
  ·rw[List.flatten_cons,List.getElem?_append_right oO]at h;obtain⟨i,j,e',h1,h2,h3⟩:=RX (fun e he=>hE e (by simp[he])) h;refine⟨i+1,j,e',by simpa using h1,h2,?_⟩;rw[Nat.add_mul];omega
theorem LN {E:Nat}:∀{ys:List (List DV)},(∀e∈ys,e.length=E)->ys.flatten.length=ys.length * E
 | [],_=>sS
 | e::r,hE=>by
  have:=LN (ys:=r) fun e he=>hE e (by simp[he]);rw[List.flatten_cons,List.length_append,this,hE e sS,List.length_cons,Nat.add_mul];omega
def AM (ys:List (List DV)):List SV:=ys.flatten.map SV.v
def G0 (b:Nat)(ys:List (List DV)):SV->SV
 | .v (.prim (.slice (some ⟨b',0,none⟩) n cap))=>if b' = b/\n=ys.length/\n<=cap then .v (.sl ys) else .v (.prim (.slice (some ⟨b',0,none⟩) n cap))
 | x=>x
def JH (b:Nat)(ys:List (List DV)):List SV->List SV
 | []=>[]
 | x::r=>G0 b ys x::JH b ys r
def TO (b:Nat)(ys:List (List DV)):LV->LV
 | .one x=>.one (G0 b ys x)
 | .row cs=>.row (JH b ys cs)
 | .tk E n=>.tk E n
 | .ob r=>.ob r
 | .mp l=>.mp l
def frz (b:Nat)(ys:List (List DV)):St->St
 | []=>[]
 | (l,v)::r=>(l,TO b ys v)::frz b ys r
theorem zfn (b:Nat)(ys:List (List DV))(s:St)(l:Loc):get (frz b ys s) l=(get s l).map (TO b ys):=by
 induction s with
 | nil=>rfl
 | cons p r ih=>
  obtain⟨m,v⟩:=p;simp only[frz,get];split;· rfl
  ·exact ih
theorem tB (b:Nat)(ys:List (List DV))(cs:List SV):(JH b ys cs).length=cs.length/\∀i:Nat,(JH b ys cs)[i]? = cs[i]?.map (G0 b ys):=by
 induction cs with
 | nil=>simp[JH]
 | cons x r ih=>
  refine⟨by simp[JH,ih.1],fun i=>?_⟩;cases i with
  | zero=>simp[JH]
  | succ i=>simp[JH,ih.2]
theorem XX {b:Nat}{ys:List (List DV)}{G:Gh}{w:World}(Je:∀cap,ys.length<=cap->RV G.D w (.sl ys) (.slice (some ⟨b,0,none⟩) ys.length cap)){x:SV}{v:Value}(h:LX G w x v):LX G w (G0 b ys x) v:=by
 unfold G0;split
 ·rename_i b' n cap;split
  ·rename_i hc;obtain⟨rfl,rfl,Bj⟩:=hc;have:=(BT h).1;rw[this];exact Je cap Bj
  ·exact h
 ·exact h
theorem tC {b:Nat}{ys:List (List DV)}{x:SV}(h:x.isCell=true):(G0 b ys x).isCell=true:=by
 unfold G0;split;· split <;> rfl
 ·exact h
theorem Rel.told {G:Gh}{a:Act}{w:World}(R:Rel X G s a w)(b:Nat)(ys:List (List DV))(Je:∀cap,ys.length<=cap->RV G.D w (.sl ys) (.slice (some ⟨b,0,none⟩) ys.length cap)):Rel X G (frz b ys s) a w:=by
 have Ff:∀l v,BI G l (TO b ys v)=BI G l v:=by
  intro l v;cases v <;> cases l <;> rfl
 have Bq:∀l v,get (frz b ys s) l=some v->∃v0,get s l=some v0/\v=TO b ys v0:=by
  intro l v h;rw[zfn]at h;obtain⟨v0,h1,h2⟩:=Option.map_eq_some_iff.1 h;exact⟨v0,h1,h2.symm⟩
 have Ak:∀k cs,KM G w k cs->KM G w k (JH b ys cs):=by
  rintro k cs ⟨c,e,h1,h2,h3⟩;obtain⟨f1,f2⟩:=tB b ys cs;refine⟨c,e,h1,oO,fun i x hx=>?_⟩;rw[f2]at hx;obtain⟨x0,h4,rfl⟩:=Option.map_eq_some_iff.1 hx;obtain⟨k1,v,k2,k3⟩:=h3 i x0 h4;exact⟨tC k1,v,k2,XX Je k3⟩
 refine⟨R.size,R.defers,R.ext,R.wf,R.nil,fun l v hg=>?_,fun l v l' v' b' hg Hd hb Ab=>?_,fun l v b' hg hb=>?_,fun l v b' o hg hb ht=>?_⟩
 ·obtain⟨v0,h1,rfl⟩:=Bq l v hg;have hh:=R.holds l v0 h1;cases l <;> cases v0 <;> first|exact hh.elim|exact XX Je hh|exact Ak _ _ hh|exact hh
 ·obtain⟨v0,h1,rfl⟩:=Bq l v hg;obtain⟨v1,h2,rfl⟩:=Bq l' v' Hd;rw[Ff]at hb Ab;exact R.sep l v0 l' v1 b' h1 h2 hb Ab
 ·obtain⟨v0,h1,rfl⟩:=Bq l v hg;rw[Ff]at hb;exact R.own l v0 b' h1 hb
 ·obtain⟨v0,h1,rfl⟩:=Bq l v hg;rw[Ff]at hb;exact R.data l v0 b' o h1 hb ht
theorem Rel.freeze {G:Gh}{a:Act}{w:World}(R:Rel X G s a w){b E:Nat}{ys:List (List DV)}(hE:∀e∈ys,e.length=E)(Al:ys.length<=HL)(hw:X.w0.heap.size<=b)(Ak:get s (.heap b)=some (.row (AM ys))) :
  ∃G',Rel X G' (frz b ys (OU s (.heap b))) a w:=by
 obtain⟨c,e,h1,h2,h3⟩:=R.holds _ _ Ak;have hlen:=LN hE;have Um:(AM ys).length=ys.length * E:=by simp only[AM,List.length_map];exact hlen
 rw[Um]at h2;have Aj:∀k,w.cell? ⟨b,k,none⟩=c[k]?:=fun k=>by simp[World.cell?,h1]
 let G':Gh:={ D:=EB G.D b 0 (ys.length * E),ν:=G.ν,τ:=G.τ }
 have T:Trans X G a w G' a w (fun b'=>b' = b):=by
  refine⟨rfl,fun h=>h,rfl,rfl,rfl,Nat.le_refl _,fun _ _ _=>rfl,fun b' hb=>by subst hb;exact .inl hw,fun _ _ hD=>⟨.inl hD,rfl⟩,fun b' k hD Ma=>?_,R.nil⟩;rcases hD with hD|⟨rfl,_,hk⟩;· exact absurd hD Ma
  ·exact⟨.inr ⟨rfl,hw⟩,_,(Aj k).trans (uG oO)⟩
 have R1:Rel X G' (OU s (.heap b)) a w:=by
  refine R.step T (fun _ _=>False) (fun l u h=>?_) (fun l u h=>h.elim) (fun l u l' u' b h _ _ _=>h.elim);rw[LH]at h;by_cases hl:Loc.heap b=l;· rw[if_pos hl]at h;cases h
  ·rw[if_neg hl]at h;refine .inr ⟨h,fun _ _=>rfl,fun b' Ab he=>?_,fun _ _=>rfl,fun _ _=>rfl⟩;subst he;exact hl (R.sep _ _ _ _ b' Ak h rfl Ab)
 refine⟨G',R1.told b ys fun cap Bj=>?_⟩;have Bq:∀i j e' d,ys[i]? = some e'->e'[j]? = some d->d.isCell=true/\∃v,c[i * E+j]? = some v/\RV G.D w d v:=by
  intro i j e' d hi hj;have hk:ys.flatten[i * E+j]? = some d:=by
   clear h2 h3 Um hlen Ak R1 T G' Al Bj
   induction ys generalizing i with
   | nil=>simp at hi
   | cons y r ih=>
    have hy:=hE y sS;cases i with
    | zero=>
     simp at hi;subst hi;have Mr:=(uA hj).1;rw[Nat.zero_mul,Nat.zero_add,List.flatten_cons,List.getElem?_append_left Mr];exact hj
    | succ i=>
     rw[List.flatten_cons,List.getElem?_append_right (by rw[hy,Nat.add_mul];omega),hy];rw[show (i+1) * E+j - E=i * E+j by rw[Nat.add_mul];omega];exact ih (fun e he=>hE e (by simp[he])) i (by simpa using hi)
  obtain⟨k1,v,k2,k3⟩:=h3 (i * E+j) (.v d) (by simp only[AM,List.getElem?_map,hk];rfl);exact⟨k1,v,k2,k3⟩
 refine PW (E:=E) (f:=fun k=>c[k]?.getD undef) Al Bj hE (fun e' Lf d hd=>?_) (fun k hk=>?_) (fun i j e' d hi hj=>?_)
 ·obtain⟨i,hi⟩:=List.mem_iff_getElem?.1 Lf;obtain⟨j,hj⟩:=List.mem_iff_getElem?.1 hd;exact (Bq i j e' d hi hj).1
 ·have Ag:k<c.size:=oO;refine⟨?_,.inr ⟨rfl,oO,oO⟩⟩;rw[Nat.zero_add,Aj,uG Ag];rfl
 ·obtain⟨-,v,k2,k3⟩:=Bq i j e' d hi hj;simp only[k2,Option.getD_some];exact k3.mono T.grow
theorem P6 {b E:Nat}{ys:List (List DV)}{kk:List Item}(Ak:get s (.heap b)=some (.row (AM ys)))(hE:∀e∈ys,e.length=E)(Al:ys.length<=HL)(hw:X.w0.heap.size<=b)(h:W X kk (frz b ys (OU s (.heap b)))):W X kk s:=by
 intro G a w b' cs hf Sl hr R;obtain⟨G',R'⟩:=R.freeze hE Al hw Ak;exact h G' a w b' cs hf Sl hr R'
theorem xX {E:Nat}{ys:List (List DV)}(hE:∀e∈ys,e.length=E){i:Nat}(hi:i<ys.length){z:List DV}(hz:z.length=E):put (AM ys) (i * E) (z.map SV.v)=AM (ys.set i z):=by
 have hlen:=LN hE;have Um:(AM ys).length=ys.length * E:=by simp only[AM,List.length_map];exact hlen
 have hle:i * E+(z.map SV.v).length<=(AM ys).length:=by
  rw[Um,List.length_map,hz]
  calc i * E+E=(i+1) * E:=by rw[Nat.add_mul,Nat.one_mul]
   _<=ys.length * E:=Nat.mul_le_mul_right _ hi
 apply List.ext_getElem?;intro k;rw[UX _ _ _ _ hle];clear hle Um hlen;simp only[AM,List.length_map,hz,List.getElem?_map]
 induction ys generalizing i k with
 | nil=>simp at hi
 | cons y r ih=>
  have hy:=hE y sS;cases i with
  | zero=>
   simp only[Nat.zero_mul,Nat.zero_le,true_and,Nat.zero_add,Nat.sub_zero,List.set_cons_zero,List.flatten_cons];split
   ·rename_i hk;rw[List.getElem?_append_left oO]
   ·rename_i hk;rw[List.getElem?_append_right oO,List.getElem?_append_right oO,hy,hz]
  | succ i=>
   simp only[List.set_cons_succ,List.flatten_cons];have ih':=ih (fun e he=>hE e (by simp[he])) (i:=i) (by simpa using hi) (k - E);by_cases hk:k<E;· rw[if_neg (by rw[Nat.add_mul];omega),List.getElem?_append_left oO,List.getElem?_append_left oO]
   ·rw[List.getElem?_append_right oO,List.getElem?_append_right oO,hy,<- ih'];have e1:(i+1) * E=i * E+E:=by rw[Nat.add_mul,Nat.one_mul]
    by_cases h2:i * E<=k - E/\k - E<i * E+E
    ·rw[if_pos h2,if_pos oO]
     congr 2;omega
    ·rw[if_neg h2,if_neg oO]
end
end
section
structure Hid (p:Prop):Prop where
 out:p
abbrev sV (n:Nat)(x:DV):Loc × LV:=(.slot n,.one (.v x))
abbrev sP (n:Nat):Loc × LV:=(.slot n,.one (.loc n 0))
abbrev sL (n:Nat)(r:List SV):Loc × LV:=(.loc n,.row r)
abbrev sB (n:Nat)(r:List SV):Loc × LV:=(.heap n,.row r)
@[go_sem] theorem zss (n:Nat) (x:DV):sV n x=(.slot n,.one (.v x)):=rfl
@[go_sem] theorem zst (n:Nat):sP n=(.slot n,.one (.loc n 0)):=rfl
@[go_sem] theorem zsu (n:Nat) (r:List SV):sL n r=(.loc n,.row r):=rfl
@[go_sem] theorem zsv (n:Nat) (r:List SV):sB n r=(.heap n,.row r):=rfl
theorem j2 {p q:Prop}(a:p)(b:q):p/\q:=⟨a,b⟩
def zp4 (_:List (Nat × Nat)):Prop:=True
theorem wr (l:List (Nat × Nat)):zp4 l:=trivial
theorem BK {q p:Prop}(k:q)(h:Hid q->p:=by
 intro zk;repeat (first|refine DI ?_|refine C7 ?_|refine CB ?_|refine AR ?_|refine BH ?_|refine CL rfl ?_)
 exact zk.out):p:=h ⟨k⟩
theorem K0 {q p:Prop}(k:q)(h:Hid q->p:=by
 intro zk;repeat (first|refine AR ?_|refine C7 ?_|refine BH ?_|refine CL rfl ?_)
 exact zk.out):p:=h ⟨k⟩
theorem F1 {q p:Prop}(k:q)(h:Hid q->p:=by
 intro zk;repeat (refine⟨oO,?_⟩)
 first|refine hK _ ?_|refine⟨by rfl,hK _ ?_⟩
 exact zk.out):p:=h ⟨k⟩
theorem KI {q p:Prop}(k:q)(h:Hid q->p:=by
 intro zk;simp[go_sem,hP,u7,hn];exact zk.out):p:=h ⟨k⟩
theorem A2 {q p:Prop}(k:q)(h:Hid q->p:=by
 intro zk;repeat (first|refine DI ?_|refine C7 ?_|refine CB ?_|refine AR ?_|refine BH ?_|refine CL rfl ?_)
 first|refine AQ [] fun K hK=>?_|refine AL (by rw[hP];exact AZ) [] fun K hK=>?_
 simp[go_sem,hP,u7,hn];repeat (refine⟨oO,?_⟩)
 first|refine hK _ ?_|refine⟨by rfl,hK _ ?_⟩
 clear hK K;exact zk.out):p:=h ⟨k⟩
theorem A4 {q p:Prop}(k:q)(h:Hid q->p:=by
 intro zk;repeat (first|refine DI ?_|refine C7 ?_|refine CB ?_|refine AR ?_|refine BH ?_|refine CL rfl ?_|((first|refine AQ [] fun K hK=>?_|refine AL (by rw[hP];exact AZ) [] fun K hK=>?_);simp[go_sem,hP,u7,hn];(repeat (refine⟨oO,?_⟩));(first|refine hK _ ?_|refine⟨by rfl,hK _ ?_⟩);clear hK K)|refine BN rfl (fun _=>?_) (fun hq=>False.elim (by first|(simp;done)|(simp;omega)|(simp at hq;done)|(simp at hq;omega)))|refine BN rfl (fun hq=>False.elim (by first|(simp;done)|(simp;omega)|(simp at hq;done)|(simp at hq;omega))) (fun _=>?_))
 exact zk.out):p:=h ⟨k⟩
theorem QY {Az q p:Prop}(ze:Az)(k:q)(h:Az->Hid q->p:=by
 intro ze zk;simp[go_sem,hP,u7,hn,ze];exact zk.out):p:=h ze ⟨k⟩
theorem AX {Az q p:Prop}(ze:Az)(k:q)(h:Az->Hid q->p:=by
 intro ze zk;repeat (first|refine DI ?_|refine C7 ?_|refine CB ?_|refine AR ?_|refine BH ?_|refine CL rfl ?_)
 first|refine AQ [] fun K hK=>?_|refine AL (by rw[hP];exact AZ) [] fun K hK=>?_
 simp[go_sem,hP,u7,hn,ze];repeat (refine⟨oO,?_⟩)
 first|refine hK _ ?_|refine⟨by rfl,hK _ ?_⟩
 clear hK K;exact zk.out):p:=h ze ⟨k⟩
theorem A7 {Az q p:Prop}(ze:Az)(k:q)(h:Az->Hid q->p:=by
 intro ze zk;repeat (first|refine DI ?_|refine C7 ?_|refine CB ?_|refine AR ?_|refine BH ?_|refine CL rfl ?_|((first|refine AQ [] fun K hK=>?_|refine AL (by rw[hP];exact AZ) [] fun K hK=>?_);simp[go_sem,hP,u7,hn,ze];(repeat (refine⟨oO,?_⟩));(first|refine hK _ ?_|refine⟨by rfl,hK _ ?_⟩);clear hK K)|refine BN rfl (fun _=>?_) (fun hq=>False.elim (by first|(simp[ze];done)|(simp[ze];omega)|(simp[ze]at hq;done)|(simp[ze]at hq;omega)))|refine BN rfl (fun hq=>False.elim (by first|(simp[ze];done)|(simp[ze];omega)|(simp[ze]at hq;done)|(simp[ze]at hq;omega))) (fun _=>?_))
 exact zk.out):p:=h ze ⟨k⟩
theorem t_y {Az q p:Prop}(ze:Az)(k:q)(h:Az->Hid q->p:=by
 intro ze zk;repeat (first|refine DI ?_|refine C7 ?_|refine CB ?_|refine AR ?_|refine BH ?_|refine CL rfl ?_)
 refine BN rfl ?_ ?_;rotate_left;· intro hq;first|(simp[ze]at hq;done)|(simp[ze]at hq;omega)
 intro _;exact zk.out):p:=h ze ⟨k⟩
theorem QZ {Az q p:Prop}(ze:Az)(k:q)(h:Az->Hid q->p:=by
 intro ze zk;repeat (first|refine DI ?_|refine C7 ?_|refine CB ?_|refine AR ?_|refine BH ?_|refine CL rfl ?_)
 refine BN rfl ?_ ?_;· intro hq;first|(simp[ze]at hq;done)|(simp[ze]at hq;omega)
 intro _;exact zk.out):p:=h ze ⟨k⟩
theorem AE {q p:Prop}(k:q)(h:Hid q->p:=by
 intro zk;repeat (first|refine DI ?_|refine C7 ?_|refine CB ?_|refine AR ?_|refine BH ?_|refine CL rfl ?_)
 refine BN rfl ?_ ?_;rotate_left;· intro h;simp at h;try omega
 intro _;exact zk.out):p:=h ⟨k⟩
theorem B6 {q p:Prop}(k:q)(h:Hid q->p:=by
 intro zk;repeat (first|refine DI ?_|refine C7 ?_|refine CB ?_|refine AR ?_|refine BH ?_|refine CL rfl ?_)
 refine BN rfl ?_ ?_;· intro h;simp at h;try omega
 intro _;exact zk.out):p:=h ⟨k⟩
theorem FF {Az pc q p:Prop}(ze:Az)(c:pc)(k:q)(h:Az->pc->Hid q->p:=by
 intro ze c zk;repeat (refine⟨oO,?_⟩)
 first|refine lZ hP u7 c (by simp[go_sem,hP,u7,hn,ze]) rfl (by simp[go_sem]) sS (by rw[hn];exact uF rfl) ?_|refine fO (fun _ _=>D8) hP u7 c (by simp[go_sem,hP,u7,hn,ze]) rfl (by simp[go_sem]) sS (by rw[hn];exact uF rfl) ?_|refine z2q hP u7 c (by simp[go_sem,hP,u7,hn,ze]) rfl (by simp[go_sem]) sS (by rw[hn];exact uF rfl) (by simp[go_sem];rfl) (by rw[hn];exact uF rfl) (by simp[go_sem]) ?_|refine sU (fun _ _=>D8) hP u7 c (by simp[go_sem,hP,u7,hn,ze]) rfl (by simp[go_sem]) sS (by rw[hn];exact uF rfl) (by simp[go_sem];rfl) (by rw[hn];exact uF rfl) (by simp[go_sem]) ?_
 simp[go_sem,hP,u7,hn,ze];exact zk.out):p:=h ze c ⟨k⟩
theorem A3 {Az Cm q p:Prop}(ze:Az)(c1:Cm)(k:q)(h:Az->Cm->Hid q->p:=by
 intro ze c1 zk;repeat (first|refine DI ?_|refine C7 ?_|refine CB ?_|refine AR ?_|refine BH ?_|refine CL rfl ?_)
 first|refine AQ [] fun K hK=>?_|refine AL (by rw[hP];exact AZ) [] fun K hK=>?_
 simp[go_sem,hP,u7,hn,ze];refine FF ze c1 ?_;repeat (refine⟨oO,?_⟩)
 first|refine hK _ ?_|refine⟨by rfl,hK _ ?_⟩
 clear hK K;exact zk.out):p:=h ze c1 ⟨k⟩
theorem EW {Az Cm Db q p:Prop}(ze:Az)(c1:Cm)(c2:Db)(k:q)(h:Az->Cm->Db->Hid q->p:=by
 intro ze c1 c2 zk;repeat (first|refine DI ?_|refine C7 ?_|refine CB ?_|refine AR ?_|refine BH ?_|refine CL rfl ?_)
 first|refine AQ [] fun K hK=>?_|refine AL (by rw[hP];exact AZ) [] fun K hK=>?_
 simp[go_sem,hP,u7,hn,ze];refine FF ze c1 ?_;refine FF ze c2 ?_;repeat (refine⟨oO,?_⟩)
 first|refine hK _ ?_|refine⟨by rfl,hK _ ?_⟩
 clear hK K;exact zk.out):p:=h ze c1 c2 ⟨k⟩
theorem OL {Az Cm Db Du q p:Prop}(ze:Az)(c1:Cm)(c2:Db)(c3:Du)(k:q)(h:Az->Cm->Db->Du->Hid q->p:=by
 intro ze c1 c2 c3 zk;repeat (first|refine DI ?_|refine C7 ?_|refine CB ?_|refine AR ?_|refine BH ?_|refine CL rfl ?_)
 first|refine AQ [] fun K hK=>?_|refine AL (by rw[hP];exact AZ) [] fun K hK=>?_
 simp[go_sem,hP,u7,hn,ze];refine FF ze c1 ?_;refine FF ze c2 ?_;refine FF ze c3 ?_;repeat (refine⟨oO,?_⟩)
 first|refine hK _ ?_|refine⟨by rfl,hK _ ?_⟩
 clear hK K;exact zk.out):p:=h ze c1 c2 c3 ⟨k⟩
theorem TI {Az Cm Db Du Fl q p:Prop}(ze:Az)(c1:Cm)(c2:Db)(c3:Du)(c4:Fl)(k:q)(h:Az->Cm->Db->Du->Fl->Hid q->p:=by
 intro ze c1 c2 c3 c4 zk;repeat (first|refine DI ?_|refine C7 ?_|refine CB ?_|refine AR ?_|refine BH ?_|refine CL rfl ?_)
 first|refine AQ [] fun K hK=>?_|refine AL (by rw[hP];exact AZ) [] fun K hK=>?_
 simp[go_sem,hP,u7,hn,ze];refine FF ze c1 ?_;refine FF ze c2 ?_;refine FF ze c3 ?_;refine FF ze c4 ?_;repeat (refine⟨oO,?_⟩)
 first|refine hK _ ?_|refine⟨by rfl,hK _ ?_⟩
 clear hK K;exact zk.out):p:=h ze c1 c2 c3 c4 ⟨k⟩
theorem tD {Az Cm Db Du Fl Hy q p:Prop}(ze:Az)(c1:Cm)(c2:Db)(c3:Du)(c4:Fl)(c5:Hy)(k:q)(h:Az->Cm->Db->Du->Fl->Hy->Hid q->p:=by
 intro ze c1 c2 c3 c4 c5 zk;repeat (first|refine DI ?_|refine C7 ?_|refine CB ?_|refine AR ?_|refine BH ?_|refine CL rfl ?_)
 first|refine AQ [] fun K hK=>?_|refine AL (by rw[hP];exact AZ) [] fun K hK=>?_
 simp[go_sem,hP,u7,hn,ze];refine FF ze c1 ?_;refine FF ze c2 ?_;refine FF ze c3 ?_;refine FF ze c4 ?_;refine FF ze c5 ?_;repeat (refine⟨oO,?_⟩)
 first|refine hK _ ?_|refine⟨by rfl,hK _ ?_⟩
 clear hK K;exact zk.out):p:=h ze c1 c2 c3 c4 c5 ⟨k⟩
theorem z35 {Az Cm Db Du Fl Hy Ix q p:Prop}(ze:Az)(c1:Cm)(c2:Db)(c3:Du)(c4:Fl)(c5:Hy)(c6:Ix)(k:q)(h:Az->Cm->Db->Du->Fl->Hy->Ix->Hid q->p:=by
 intro ze c1 c2 c3 c4 c5 c6 zk;repeat (first|refine DI ?_|refine C7 ?_|refine CB ?_|refine AR ?_|refine BH ?_|refine CL rfl ?_)
 first|refine AQ [] fun K hK=>?_|refine AL (by rw[hP];exact AZ) [] fun K hK=>?_
 simp[go_sem,hP,u7,hn,ze];refine FF ze c1 ?_;refine FF ze c2 ?_;refine FF ze c3 ?_;refine FF ze c4 ?_;refine FF ze c5 ?_;refine FF ze c6 ?_;repeat (refine⟨oO,?_⟩)
 first|refine hK _ ?_|refine⟨by rfl,hK _ ?_⟩
 clear hK K;exact zk.out):p:=h ze c1 c2 c3 c4 c5 c6 ⟨k⟩
theorem iN {Az Cm Db Du Fl Hy Ix Mo q p:Prop}(ze:Az)(c1:Cm)(c2:Db)(c3:Du)(c4:Fl)(c5:Hy)(c6:Ix)(c7:Mo)(k:q)(h:Az->Cm->Db->Du->Fl->Hy->Ix->Mo->Hid q->p:=by
 intro ze c1 c2 c3 c4 c5 c6 c7 zk;repeat (first|refine DI ?_|refine C7 ?_|refine CB ?_|refine AR ?_|refine BH ?_|refine CL rfl ?_)
 first|refine AQ [] fun K hK=>?_|refine AL (by rw[hP];exact AZ) [] fun K hK=>?_
 simp[go_sem,hP,u7,hn,ze];refine FF ze c1 ?_;refine FF ze c2 ?_;refine FF ze c3 ?_;refine FF ze c4 ?_;refine FF ze c5 ?_;refine FF ze c6 ?_;refine FF ze c7 ?_;repeat (refine⟨oO,?_⟩)
 first|refine hK _ ?_|refine⟨by rfl,hK _ ?_⟩
 clear hK K;exact zk.out):p:=h ze c1 c2 c3 c4 c5 c6 c7 ⟨k⟩
theorem zp5 {Az Cm Db Du Fl Hy Ix Mo Tb Zd q p:Prop}(ze:Az)(c1:Cm)(c2:Db)(c3:Du)(c4:Fl)(c5:Hy)(c6:Ix)(c7:Mo)(c8:Tb)(c9:Zd)(k:q)(h:Az->Cm->Db->Du->Fl->Hy->Ix->Mo->Tb->Zd->Hid q->p:=by
 intro ze c1 c2 c3 c4 c5 c6 c7 c8 c9 zk;repeat (first|refine DI ?_|refine C7 ?_|refine CB ?_|refine AR ?_|refine BH ?_|refine CL rfl ?_)
 first|refine AQ [] fun K hK=>?_|refine AL (by rw[hP];exact AZ) [] fun K hK=>?_
 simp[go_sem,hP,u7,hn,ze];refine FF ze c1 ?_;refine FF ze c2 ?_;refine FF ze c3 ?_;refine FF ze c4 ?_;refine FF ze c5 ?_;refine FF ze c6 ?_;refine FF ze c7 ?_;refine FF ze c8 ?_;refine FF ze c9 ?_;repeat (refine⟨oO,?_⟩)
 first|refine hK _ ?_|refine⟨by rfl,hK _ ?_⟩
 clear hK K;exact zk.out):p:=h ze c1 c2 c3 c4 c5 c6 c7 c8 c9 ⟨k⟩
theorem zp6 {Az Cm Db Du Fl Hy Ix Mo Tb Zd Xn q p:Prop}(ze:Az)(c1:Cm)(c2:Db)(c3:Du)(c4:Fl)(c5:Hy)(c6:Ix)(c7:Mo)(c8:Tb)(c9:Zd)(c10:Xn)(k:q)(h:Az->Cm->Db->Du->Fl->Hy->Ix->Mo->Tb->Zd->Xn->Hid q->p:=by
 intro ze c1 c2 c3 c4 c5 c6 c7 c8 c9 c10 zk;repeat (first|refine DI ?_|refine C7 ?_|refine CB ?_|refine AR ?_|refine BH ?_|refine CL rfl ?_)
 first|refine AQ [] fun K hK=>?_|refine AL (by rw[hP];exact AZ) [] fun K hK=>?_
 simp[go_sem,hP,u7,hn,ze];refine FF ze c1 ?_;refine FF ze c2 ?_;refine FF ze c3 ?_;refine FF ze c4 ?_;refine FF ze c5 ?_;refine FF ze c6 ?_;refine FF ze c7 ?_;refine FF ze c8 ?_;refine FF ze c9 ?_;refine FF ze c10 ?_;repeat (refine⟨oO,?_⟩)
 first|refine hK _ ?_|refine⟨by rfl,hK _ ?_⟩
 clear hK K;exact zk.out):p:=h ze c1 c2 c3 c4 c5 c6 c7 c8 c9 c10 ⟨k⟩
theorem CR {pzl pz2 Az pzt p:Prop}(zl:pzl)(z2:pz2)(ze:Az)(zt:pzt)(h:pzl->pz2->Az->pzt->p:=by
 intro zl z2 ze zt;repeat (first|(refine zkl zl (by simp[go_sem]) (by simp[go_sem,z2] <;> omega) (by simp[go_sem]) zt)|refine DI ?_|refine C7 ?_|refine CB ?_|refine AR ?_|refine BH ?_|refine CL rfl ?_|((first|refine AQ [] fun K hK=>?_|refine AL (by rw[hP];exact AZ) [] fun K hK=>?_);simp[go_sem,hP,u7,hn,ze];(repeat (refine⟨oO,?_⟩));(first|refine hK _ ?_|refine⟨by rfl,hK _ ?_⟩);clear hK K)|refine BN rfl (fun _=>?_) (fun hq=>False.elim (by first|(simp[ze];done)|(simp[ze];omega)|(simp[ze]at hq;done)|(simp[ze]at hq;omega)))|refine BN rfl (fun hq=>False.elim (by first|(simp[ze];done)|(simp[ze];omega)|(simp[ze]at hq;done)|(simp[ze]at hq;omega))) (fun _=>?_))):p:=h zl z2 ze zt
theorem IL {q p:Prop}(k:q)(h:Hid q->p:=by
 intro zk;repeat (first|refine DI ?_|refine C7 ?_|refine CB ?_|refine AR ?_|refine BH ?_|refine CL rfl ?_)
 first|refine aI hP hf u9 hR ?_|refine aJ hP hf u9 hR ?_
 exact zk.out):p:=h ⟨k⟩
theorem DT {Az pc q p:Prop}(ze:Az)(c:pc)(k:q)(h:Az->pc->Hid q->p:=by
 intro ze c zk;repeat (refine⟨oO,?_⟩)
 first|refine lZ hP u7 c (by simp[go_sem,hP,u7,hn,ze]) rfl (by simp[go_sem,hP,u7,hn,ze]) (by simp[ze]) (by rw[hn];exact uF rfl) ?_|refine fO (fun _ _=>D8) hP u7 c (by simp[go_sem,hP,u7,hn,ze]) rfl (by simp[go_sem,hP,u7,hn,ze]) (by simp[ze]) (by rw[hn];exact uF rfl) ?_
 simp[go_sem,hP,u7,hn,ze];exact zk.out):p:=h ze c ⟨k⟩
theorem j3 {pa pb pc:Prop}(a:pa)(b:pb)(c:pc):pa/\pb/\pc:=⟨a,b,c⟩
theorem j4 {pa pb pc pd:Prop}(a:pa)(b:pb)(c:pc)(d:pd):pa/\pb/\pc/\pd:=⟨a,b,c,d⟩
theorem j5 {pa pb pc pd pe:Prop}(a:pa)(b:pb)(c:pc)(d:pd)(e:pe):pa/\pb/\pc/\pd/\pe:=⟨a,b,c,d,e⟩
theorem j6 {pa pb pc pd pe pf:Prop}(a:pa)(b:pb)(c:pc)(d:pd)(e:pe)(f:pf):pa/\pb/\pc/\pd/\pe/\pf:=⟨a,b,c,d,e,f⟩
theorem j7 {pa pb pc pd pe pf pg:Prop}(a:pa)(b:pb)(c:pc)(d:pd)(e:pe)(f:pf)(g:pg):pa/\pb/\pc/\pd/\pe/\pf/\pg:=⟨a,b,c,d,e,f,g⟩
theorem j8 {pa pb pc pd pe pf pg ph:Prop}(a:pa)(b:pb)(c:pc)(d:pd)(e:pe)(f:pf)(g:pg)(h:ph):pa/\pb/\pc/\pd/\pe/\pf/\pg/\ph:=⟨a,b,c,d,e,f,g,h⟩
theorem D5 {Az Cm q p:Prop}(ze:Az)(c1:Cm)(k:q)(h:Az->Cm->Hid q->p:=by
 intro ze c1 zk;repeat (first|refine DI ?_|refine C7 ?_|refine CB ?_|refine AR ?_|refine BH ?_|refine CL rfl ?_)
 first|refine AQ [] fun K hK=>?_|refine AL (by rw[hP];exact AZ) [] fun K hK=>?_
 simp[go_sem,hP,u7,hn,ze];refine DT ze c1 ?_;repeat (refine⟨oO,?_⟩)
 first|refine hK _ ?_|refine⟨by rfl,hK _ ?_⟩
 clear hK K;exact zk.out):p:=h ze c1 ⟨k⟩
theorem mQ {Az Cm Db q p:Prop}(ze:Az)(c1:Cm)(c2:Db)(k:q)(h:Az->Cm->Db->Hid q->p:=by
 intro ze c1 c2 zk;repeat (first|refine DI ?_|refine C7 ?_|refine CB ?_|refine AR ?_|refine BH ?_|refine CL rfl ?_)
 first|refine AQ [] fun K hK=>?_|refine AL (by rw[hP];exact AZ) [] fun K hK=>?_
 simp[go_sem,hP,u7,hn,ze];refine DT ze c1 ?_;refine DT ze c2 ?_;repeat (refine⟨oO,?_⟩)
 first|refine hK _ ?_|refine⟨by rfl,hK _ ?_⟩
 clear hK K;exact zk.out):p:=h ze c1 c2 ⟨k⟩
theorem NH {Az Cm Db Du q p:Prop}(ze:Az)(c1:Cm)(c2:Db)(c3:Du)(k:q)(h:Az->Cm->Db->Du->Hid q->p:=by
 intro ze c1 c2 c3 zk;repeat (first|refine DI ?_|refine C7 ?_|refine CB ?_|refine AR ?_|refine BH ?_|refine CL rfl ?_)
 first|refine AQ [] fun K hK=>?_|refine AL (by rw[hP];exact AZ) [] fun K hK=>?_
 simp[go_sem,hP,u7,hn,ze];refine DT ze c1 ?_;refine DT ze c2 ?_;refine DT ze c3 ?_;repeat (refine⟨oO,?_⟩)
 first|refine hK _ ?_|refine⟨by rfl,hK _ ?_⟩
 clear hK K;exact zk.out):p:=h ze c1 c2 c3 ⟨k⟩
theorem eJ {Az Cm Db Du Fl q p:Prop}(ze:Az)(c1:Cm)(c2:Db)(c3:Du)(c4:Fl)(k:q)(h:Az->Cm->Db->Du->Fl->Hid q->p:=by
 intro ze c1 c2 c3 c4 zk;repeat (first|refine DI ?_|refine C7 ?_|refine CB ?_|refine AR ?_|refine BH ?_|refine CL rfl ?_)
 first|refine AQ [] fun K hK=>?_|refine AL (by rw[hP];exact AZ) [] fun K hK=>?_
 simp[go_sem,hP,u7,hn,ze];refine DT ze c1 ?_;refine DT ze c2 ?_;refine DT ze c3 ?_;refine DT ze c4 ?_;repeat (refine⟨oO,?_⟩)
 first|refine hK _ ?_|refine⟨by rfl,hK _ ?_⟩
 clear hK K;exact zk.out):p:=h ze c1 c2 c3 c4 ⟨k⟩
theorem z8e {Az Cm Db Du Fl Hy Ix q p:Prop}(ze:Az)(c1:Cm)(c2:Db)(c3:Du)(c4:Fl)(c5:Hy)(c6:Ix)(k:q)(h:Az->Cm->Db->Du->Fl->Hy->Ix->Hid q->p:=by
 intro ze c1 c2 c3 c4 c5 c6 zk;repeat (first|refine DI ?_|refine C7 ?_|refine CB ?_|refine AR ?_|refine BH ?_|refine CL rfl ?_)
 first|refine AQ [] fun K hK=>?_|refine AL (by rw[hP];exact AZ) [] fun K hK=>?_
 simp[go_sem,hP,u7,hn,ze];refine DT ze c1 ?_;refine DT ze c2 ?_;refine DT ze c3 ?_;refine DT ze c4 ?_;refine DT ze c5 ?_;refine DT ze c6 ?_;repeat (refine⟨oO,?_⟩)
 first|refine hK _ ?_|refine⟨by rfl,hK _ ?_⟩
 clear hK K;exact zk.out):p:=h ze c1 c2 c3 c4 c5 c6 ⟨k⟩
theorem zfo {Az Cm Db Du Fl Hy Ix Mo q p:Prop}(ze:Az)(c1:Cm)(c2:Db)(c3:Du)(c4:Fl)(c5:Hy)(c6:Ix)(c7:Mo)(k:q)(h:Az->Cm->Db->Du->Fl->Hy->Ix->Mo->Hid q->p:=by
 intro ze c1 c2 c3 c4 c5 c6 c7 zk;repeat (first|refine DI ?_|refine C7 ?_|refine CB ?_|refine AR ?_|refine BH ?_|refine CL rfl ?_)
 first|refine AQ [] fun K hK=>?_|refine AL (by rw[hP];exact AZ) [] fun K hK=>?_
 simp[go_sem,hP,u7,hn,ze];refine DT ze c1 ?_;refine DT ze c2 ?_;refine DT ze c3 ?_;refine DT ze c4 ?_;refine DT ze c5 ?_;refine DT ze c6 ?_;refine DT ze c7 ?_;repeat (refine⟨oO,?_⟩)
 first|refine hK _ ?_|refine⟨by rfl,hK _ ?_⟩
 clear hK K;exact zk.out):p:=h ze c1 c2 c3 c4 c5 c6 c7 ⟨k⟩
theorem zs6 {Az Cm Db Du Fl Hy Ix Mo Tb q p:Prop}(ze:Az)(c1:Cm)(c2:Db)(c3:Du)(c4:Fl)(c5:Hy)(c6:Ix)(c7:Mo)(c8:Tb)(k:q)(h:Az->Cm->Db->Du->Fl->Hy->Ix->Mo->Tb->Hid q->p:=by
 intro ze c1 c2 c3 c4 c5 c6 c7 c8 zk;repeat (first|refine DI ?_|refine C7 ?_|refine CB ?_|refine AR ?_|refine BH ?_|refine CL rfl ?_)
 first|refine AQ [] fun K hK=>?_|refine AL (by rw[hP];exact AZ) [] fun K hK=>?_
 simp[go_sem,hP,u7,hn,ze];refine DT ze c1 ?_;refine DT ze c2 ?_;refine DT ze c3 ?_;refine DT ze c4 ?_;refine DT ze c5 ?_;refine DT ze c6 ?_;refine DT ze c7 ?_;refine DT ze c8 ?_;repeat (refine⟨oO,?_⟩)
 first|refine hK _ ?_|refine⟨by rfl,hK _ ?_⟩
 clear hK K;exact zk.out):p:=h ze c1 c2 c3 c4 c5 c6 c7 c8 ⟨k⟩
theorem zt3 {Az q p:Prop}(Yw:BU)(ze:Az)(k:q)(h:∀zf:BU,zf=Yw->Az->Hid q->p:=by
 intro zf zw ze zk;repeat (first|refine DI ?_|refine C7 ?_|refine CB ?_|refine AR ?_|refine BH ?_|refine CL rfl ?_)
 first|refine WZ hP hf u9 _ zf (by subst zw;first|(simp[go_sem,hP,u7,hn,ze];done)|(simp[go_sem,hP,u7,hn,ze];rfl)) (by subst zw;simp[go_sem,hP,u7,hn,ze]) (by subst zw;simp[ze]) ?_ hR.2|refine z89 hP hf u9 _ zf (by subst zw;first|(simp[go_sem,hP,u7,hn,ze];done)|(simp[go_sem,hP,u7,hn,ze];rfl)) (by subst zw;simp[go_sem,hP,u7,hn,ze]) (by subst zw;simp[ze]) ?_ hR.2
 rw[hR.1];subst zw;refine⟨?_,by simp[ze]⟩;exact zk.out):p:=h Yw rfl ze ⟨k⟩
theorem t_f {p:Prop}(h:p:=by simp[Ty.dv,Ty.cells_eq,Ty.kind_mk,Ty.args_mk,Tm.dv,Tm.cells_eq,Tm.kind_mk,Tm.index_mk,Tm.type_mk,Tm.args_mk,Val.dv,Val.cells_eq,Val.kind_mk,Val.num_mk,Val.list_mk,Val.args_mk,AP]):p:=h
theorem BR {p:Prop}(h:p:=by
 repeat (first|refine DI ?_|refine C7 ?_|refine CB ?_|refine AR ?_|refine BH ?_|refine CL rfl ?_)
 first|refine aI hP hf u9 hR ?_|refine aJ hP hf u9 hR ?_
 simp[go_sem,hP,u7,hn] <;> (try omega)):p:=h
theorem BD {Az p:Prop}(ze:Az)(h:Az->p:=by
 intro ze;repeat (first|refine DI ?_|refine C7 ?_|refine CB ?_|refine AR ?_|refine BH ?_|refine CL rfl ?_)
 first|refine aI hP hf u9 hR ?_|refine aJ hP hf u9 hR ?_
 simp[go_sem,hP,u7,hn,ze] <;> (try omega)):p:=h ze
theorem B9 {p:Prop}(h:p:=by
 repeat (first|refine DI ?_|refine C7 ?_|refine CB ?_|refine AR ?_|refine BH ?_|refine CL rfl ?_)
 first|refine aI hP hf u9 hR ?_|refine aJ hP hf u9 hR ?_
 simp[go_sem,hP,u7,hn] <;> (try omega);all_goals exact t_f):p:=h
theorem AT {Az p:Prop}(ze:Az)(h:Az->p:=by
 intro ze;repeat (first|refine DI ?_|refine C7 ?_|refine CB ?_|refine AR ?_|refine BH ?_|refine CL rfl ?_)
 first|refine aI hP hf u9 hR ?_|refine aJ hP hf u9 hR ?_
 simp[go_sem,hP,u7,hn,ze] <;> (try omega);all_goals exact t_f):p:=h ze
theorem AI {Az p:Prop}(Yw:BU)(ze:Az)(h:∀zf:BU,zf=Yw->Az->p:=by
 intro zf zw ze;repeat (first|refine DI ?_|refine C7 ?_|refine CB ?_|refine AR ?_|refine BH ?_|refine CL rfl ?_)
 first|refine WZ hP hf u9 _ zf (by subst zw;first|(simp[go_sem,hP,u7,hn,ze];done)|(simp[go_sem,hP,u7,hn,ze];rfl)) (by subst zw;simp[go_sem,hP,u7,hn,ze]) (by subst zw;simp[ze]) ?_ hR.2|refine z89 hP hf u9 _ zf (by subst zw;first|(simp[go_sem,hP,u7,hn,ze];done)|(simp[go_sem,hP,u7,hn,ze];rfl)) (by subst zw;simp[go_sem,hP,u7,hn,ze]) (by subst zw;simp[ze]) ?_ hR.2
 rw[hR.1];subst zw;refine⟨?_,by simp[ze]⟩;try simp[ze]
 try all_goals exact t_f):p:=h Yw rfl ze
theorem zkl {X:Ctx}{k:List Item}{s s':St}{l:List (Nat × Nat)}(_:zp4 l)(h0:WQ l 0=0)(hs:K4 (WQ l) s s')(hi:PZ (WQ l) (HC s'))(h:W X k s'):W X k s:=GH l h0 hs hi h
theorem AC {X:Ctx}{k:List Item}{s s':St}{e:Prop}(l:List (Nat × Nat))(ze:e)(h:W X k s')(h0:WQ l 0=0:=by simp[go_sem])(hs:e->K4 (WQ l) s s':=by
 intro ze;simp[go_sem,ze] <;> omega) (hi:PZ (WQ l) (HC s'):=by simp[go_sem]):W X k s:=GH l h0 (hs ze) hi h
theorem A8 {P:Program}{gl:AF}{f:FuncId}{args:List DV}{φ:BU}{R:DV->BU->Prop}{fn:Func}{body:Code}(hf:P.funcs[f]? = some fn)
  (h:∀X:Ctx,X.P=P->X.gl=gl->X.f=f->X.fn=fn->X.n=fn.ntmps->X.R=R/\X.md = .fn->X.ids=φ.map (·.1)->(∀x∈args,DV.fit x)->W X [.code body] (OY args φ))
  (hb : fn.body = some body := by rfl) (Ku : (fn.name == "runtime.NumGoroutine") = false := by kernel_rfl) (hn : args.length <= fn.ntmps := by exact uF rfl) : Con P gl f args φ R :=
 z01 hf hb Ku hn h
end
section
def AP (l:List Int):List (List DV):=l.map fun n=>[A0 n]
theorem xY {α:Type}(f:α->List DV)(g:α->DV)(hg:∀a,g a = .agg (f a))(l:List α):DV.fit (.sl (l.map f))↔l.length<=HL/\∀a∈l,(g a).fit:=by
 simp only[DV.fit,List.length_map];refine and_congr Iff.rfl ?_;rw[eZ];constructor
 ·intro h a ha;obtain⟨i,hi,rfl⟩:=List.mem_iff_getElem.1 ha;rw[hg];show DV.fit.fits _;rw[fits_iff];intro j c hc;exact h i j _ c (by simp[hi]) hc
 ·intro h i j e c he hc;rw[List.getElem?_map]at he;cases hq:l[i]? with
  | none=>simp[hq]at he
  | some a=>
   simp[hq]at he;subst he;have:=h a (uE hq);rw[hg]at this;exact (fits_iff _).1 this j c hc
theorem zkm {α:Type}(f:α->List DV)(g:α->DV)(hg:∀a,g a = .agg (f a)){p:α->Prop}(hp:∀a,(g a).fit↔p a)(l:List α):DV.fit (.sl (l.map f))↔l.length<=HL/\∀a∈l,p a:=by
 rw[xY f g hg];simp only[hp]
theorem z8f (l:List Int):DV.fit (.sl (AP l))↔l.length<=HL/\∀n∈l,CM .i64 n:=by
 unfold AP;rw[zkm (fun n=>[A0 n]) (fun n=>.agg [A0 n]) (fun _=>rfl) (p:=fun n=>CM .i64 n) (fun n=>by simp[DV.fit,DV.fit.fits,FR,CM])]
theorem aN {α:Type}(f:α->α->Bool)(g:List α->List α->Bool)(h0:g [] []=true)(h1:∀a r,g (a::r) []=false)(h2:∀a r,g [] (a::r)=false)(h3:∀a r b t,g (a::r) (b::t)=(f a b&&g r t))(az bs:List α) :
  g az bs=true↔az.length=bs.length/\∀(i:Nat) (a b:α),az[i]? = some a->bs[i]? = some b->f a b=true:=by
 induction az generalizing bs with
 | nil=>cases bs <;> simp[h0,h2]
 | cons a r ih=>
  cases bs with
  | nil=>simp[h1]
  | cons b t=>
   simp only[h3,uH,ih,List.length_cons,Nat.add_right_cancel_iff];constructor
   ·rintro⟨h1,h2,h3⟩;refine⟨h2,fun i x y hx hy=>?_⟩;cases i with
    | zero=>simp at hx hy;subst hx hy;exact h1
    | succ i=>exact h3 i x y (by simpa using hx) (by simpa using hy)
   ·rintro⟨h1,h2⟩;exact⟨h2 0 a b rfl rfl,h1,fun i x y hx hy=>h2 (i+1) x y (by simpa using hx) (by simpa using hy)⟩
theorem aO {α:Type}{f:α->α->Bool}{b:Bool}{az bs:List α}(h:b=true↔az.length=bs.length/\∀(i:Nat) (a b:α),az[i]? = some a->bs[i]? = some b->f a b=true)(ih:∀a∈az,∀b,f a b=true↔a=b):b=true↔az=bs:=by
 rw[h];constructor
 ·rintro⟨h2,h3⟩;apply List.ext_getElem h2;intro i hi hj;exact (ih _ (List.getElem_mem hi) _).1 (h3 i _ _ (uB hi) (uB hj))
 ·rintro rfl;exact⟨rfl,fun i x y hx hy=>by rw[hx]at hy;cases hy;exact (ih x (uE hx) x).2 rfl⟩
theorem XY (l:List Int):(AP l).length=l.length:=by simp[AP]
theorem IS {l:List Int}{i:Nat}{n:Int}(h:l[i]? = some n):(AP l)[i]? = some [A0 n]:=by simp[AP,h]
theorem P7:AP []=[]:=rfl
theorem mR (l m:List Int):AP (l++m)=AP l++AP m:=by simp[AP]
theorem z36 (n:Int)(m:List Int):AP (n::m)=[A0 n]::AP m:=rfl
theorem z37 (l:List Int):(∀e∈AP l,e.length=1)=True:=by simp[AP]
attribute [go_sem] XY z37 mR
inductive Ty where
 | mk (kind:Int) (args:List Ty)
namespace Ty
def kind:Ty->Int | .mk x _=>x
def args:Ty->List Ty | .mk _ x=>x
theorem ind {p:Ty->Prop}(h:∀t:Ty,(∀a∈t.args,p a)->p t)(t:Ty):p t:=
 Ty.rec (motive_1:=p) (motive_2:=fun az=>∀a∈az,p a) (fun v0 v1 ih=>h (.mk v0 v1) ih) (fun a ha=>by cases ha)
  (fun a r ha hr b hb=>by
   rcases List.mem_cons.1 hb with rfl|hb;· exact ha
   ·exact hr b hb) t
def cells:Ty->List DV
 | .mk v0 v1=>[A0 v0,.sl (all v1)]
where
 all:List Ty->List (List DV)
  | []=>[]
  | a::r=>cells a::all r
theorem all_map (az:List Ty):cells.all az=az.map cells:=by
 induction az with
 | nil=>rfl
 | cons a r ih=>simp[cells.all,ih]
theorem cells_eq (t:Ty):t.cells=[A0 t.kind,.sl (List.map cells t.args)]:=by
 cases t with
 | mk v0 v1=>simp[cells,kind,args,all_map]
def dv (t:Ty):DV:=.agg t.cells
theorem fold (t:Ty):DV.agg [A0 t.kind,.sl (List.map Ty.cells t.args)]=t.dv:=by rw[Ty.dv,Ty.cells_eq]
theorem cells_mk (kind:Int)(args:List Ty):(mk kind args).cells=[A0 kind,.sl (List.map Ty.cells args)]:=by rw[cells_eq];rfl
theorem fold_mk (kind:Int)(args:List Ty):DV.agg [A0 kind,.sl (List.map Ty.cells args)]=(mk kind args).dv:=by rw[dv,cells_mk]
theorem cellsD_dv (t:Ty):D6 t.dv=[A0 t.kind,.sl (List.map Ty.cells t.args)]:=by rw[Ty.dv,D6,Ty.cells_eq]
theorem length_cells (t:Ty):t.cells.length=2:=by rw[cells_eq];rfl
theorem isCell_dv (t:Ty):t.dv.isCell=false:=rfl
theorem isAgg_dv (t:Ty):t.dv.isAgg=true:=rfl
theorem eta (t:Ty):Ty.mk t.kind t.args=t:=by cases t;rfl
theorem kind_mk (kind:Int)(args:List Ty):(mk kind args).kind=kind:=rfl
theorem args_mk (kind:Int)(args:List Ty):(mk kind args).args=args:=rfl
def fit:Ty->Prop
 | .mk v0 v1=>CM .i64 v0/\v1.length<=HL/\fits v1
where
 fits:List Ty->Prop
  | []=>True
  | a::r=>fit a/\fits r
theorem fits_iff (az:List Ty):fit.fits az↔∀a∈az,a.fit:=by
 induction az with
 | nil=>simp[fit.fits]
 | cons a r ih=>simp[fit.fits,ih]
theorem fit_eq (t:Ty):t.fit↔CM .i64 t.kind/\t.args.length<=HL/\∀a∈t.args,a.fit:=by
 cases t with
 | mk v0 v1=>simp only[fit,fits_iff,kind,args]
theorem dv_fit (t:Ty):t.dv.fit↔t.fit:=by
 induction t using Ty.ind with
 | h t ih=>
  rw[fit_eq,<- fold];have hs:DV.fit (.sl (t.args.map cells))↔t.args.length<=HL/\∀a∈t.args,a.fit:=by
   rw[xY cells dv (fun _=>rfl)];exact and_congr Iff.rfl ⟨fun h a ha=>(ih a ha).1 (h a ha),fun h a ha=>(ih a ha).2 (h a ha)⟩
  rw[<- hs];simp only[DV.fit,DV.fit.fits,FR,CM,and_true,and_assoc]
def same:Ty->Ty->Bool
 | .mk v0 v1,.mk w0 w1=>v0==w0&&sames v1 w1
where
 sames:List Ty->List Ty->Bool
  | [],[]=>true
  | a::r,b::t=>same a b&&sames r t
  | _,_=>false
theorem sames_iff (az bs:List Ty):same.sames az bs=true↔az.length=bs.length/\∀(i:Nat) (a b:Ty),az[i]? = some a->bs[i]? = some b->a.same b=true:=
 aN same same.sames rfl (fun _ _=>rfl) (fun _ _=>rfl) (fun _ _ _ _=>rfl) az bs
theorem same_eq (a b:Ty):a.same b=(a.kind==b.kind&&same.sames a.args b.args):=by
 cases a;cases b;rfl
theorem same_iff (a b:Ty):a.same b=true↔a=b:=by
 induction a using Ty.ind generalizing b with
 | h a ih=>
  have hs:same.sames a.args b.args=true↔a.args=b.args:=aO (sames_iff _ _) ih;rw[same_eq];simp only[uH,beq_iff_eq,hs];constructor
  ·intro h;cases a;cases b;simp only[kind,args]at h;simp_all
  ·rintro rfl;simp
end Ty
attribute [go_sem] Ty.cells_eq Ty.fold Ty.cellsD_dv Ty.isCell_dv Ty.isAgg_dv Ty.kind_mk Ty.args_mk
inductive Tm where
 | mk (kind:Int) (index:Int) (type:Ty) (args:List Tm)
namespace Tm
def kind:Tm->Int | .mk x _ _ _=>x
def index:Tm->Int | .mk _ x _ _=>x
def type:Tm->Ty | .mk _ _ x _=>x
def args:Tm->List Tm | .mk _ _ _ x=>x
theorem ind {p:Tm->Prop}(h:∀t:Tm,(∀a∈t.args,p a)->p t)(t:Tm):p t:=
 Tm.rec (motive_1:=p) (motive_2:=fun az=>∀a∈az,p a) (fun v0 v1 v2 v3 ih=>h (.mk v0 v1 v2 v3) ih) (fun a ha=>by cases ha)
  (fun a r ha hr b hb=>by
   rcases List.mem_cons.1 hb with rfl|hb;· exact ha
   ·exact hr b hb) t
def cells:Tm->List DV
 | .mk v0 v1 v2 v3=>[A0 v0,A0 v1,A0 v2.kind,.sl (List.map Ty.cells v2.args),.sl (all v3)]
where
 all:List Tm->List (List DV)
  | []=>[]
  | a::r=>cells a::all r
theorem all_map (az:List Tm):cells.all az=az.map cells:=by
 induction az with
 | nil=>rfl
 | cons a r ih=>simp[cells.all,ih]
theorem cells_eq (t:Tm):t.cells=[A0 t.kind,A0 t.index,A0 t.type.kind,.sl (List.map Ty.cells t.type.args),.sl (List.map cells t.args)]:=by
 cases t with
 | mk v0 v1 v2 v3=>simp[cells,kind,index,type,args,all_map]
def dv (t:Tm):DV:=.agg t.cells
theorem fold (t:Tm):DV.agg [A0 t.kind,A0 t.index,A0 t.type.kind,.sl (List.map Ty.cells t.type.args),.sl (List.map Tm.cells t.args)]=t.dv:=by rw[Tm.dv,Tm.cells_eq]
theorem cells_mk (kind:Int)(index:Int)(type:Ty)(args:List Tm):(mk kind index type args).cells=[A0 kind,A0 index,A0 type.kind,.sl (List.map Ty.cells type.args),.sl (List.map Tm.cells args)]:=by rw[cells_eq];rfl
theorem fold_mk (kind:Int)(index:Int)(type:Ty)(args:List Tm):DV.agg [A0 kind,A0 index,A0 type.kind,.sl (List.map Ty.cells type.args),.sl (List.map Tm.cells args)]=(mk kind index type args).dv:=by rw[dv,cells_mk]
theorem cellsD_dv (t:Tm):D6 t.dv=[A0 t.kind,A0 t.index,A0 t.type.kind,.sl (List.map Ty.cells t.type.args),.sl (List.map Tm.cells t.args)]:=by rw[Tm.dv,D6,Tm.cells_eq]
theorem length_cells (t:Tm):t.cells.length=5:=by rw[cells_eq];rfl
theorem isCell_dv (t:Tm):t.dv.isCell=false:=rfl
theorem isAgg_dv (t:Tm):t.dv.isAgg=true:=rfl
theorem eta (t:Tm):Tm.mk t.kind t.index t.type t.args=t:=by cases t;rfl
theorem kind_mk (kind:Int)(index:Int)(type:Ty)(args:List Tm):(mk kind index type args).kind=kind:=rfl
theorem index_mk (kind:Int)(index:Int)(type:Ty)(args:List Tm):(mk kind index type args).index=index:=rfl
theorem type_mk (kind:Int)(index:Int)(type:Ty)(args:List Tm):(mk kind index type args).type=type:=rfl
theorem args_mk (kind:Int)(index:Int)(type:Ty)(args:List Tm):(mk kind index type args).args=args:=rfl
def fit:Tm->Prop
 | .mk v0 v1 v2 v3=>CM .i64 v0/\CM .i64 v1/\v2.fit/\v3.length<=HL/\fits v3
where
 fits:List Tm->Prop
  | []=>True
  | a::r=>fit a/\fits r
theorem fits_iff (az:List Tm):fit.fits az↔∀a∈az,a.fit:=by
 induction az with
 | nil=>simp[fit.fits]
 | cons a r ih=>simp[fit.fits,ih]
theorem fit_eq (t:Tm):t.fit↔CM .i64 t.kind/\CM .i64 t.index/\t.type.fit/\t.args.length<=HL/\∀a∈t.args,a.fit:=by
 cases t with
 | mk v0 v1 v2 v3=>simp only[fit,fits_iff,kind,index,type,args]
theorem dv_fit (t:Tm):t.dv.fit↔t.fit:=by
 induction t using Tm.ind with
 | h t ih=>
  rw[fit_eq,<- fold];have hs:DV.fit (.sl (t.args.map cells))↔t.args.length<=HL/\∀a∈t.args,a.fit:=by
   rw[xY cells dv (fun _=>rfl)];exact and_congr Iff.rfl ⟨fun h a ha=>(ih a ha).1 (h a ha),fun h a ha=>(ih a ha).2 (h a ha)⟩
  have Yy:DV.fit (A0 t.type.kind)/\DV.fit (.sl (List.map Ty.cells t.type.args))↔t.type.fit:=by
   rw[<- Ty.dv_fit,<- Ty.fold];simp only[DV.fit,DV.fit.fits,and_true,and_assoc]
  rw[<- hs,<- Yy];simp only[DV.fit,DV.fit.fits,FR,CM,and_true,and_assoc]
def same:Tm->Tm->Bool
 | .mk v0 v1 v2 v3,.mk w0 w1 w2 w3=>v0==w0&&v1==w1&&v2.same w2&&sames v3 w3
where
 sames:List Tm->List Tm->Bool
  | [],[]=>true
  | a::r,b::t=>same a b&&sames r t
  | _,_=>false
theorem sames_iff (az bs:List Tm):same.sames az bs=true↔az.length=bs.length/\∀(i:Nat) (a b:Tm),az[i]? = some a->bs[i]? = some b->a.same b=true:=
 aN same same.sames rfl (fun _ _=>rfl) (fun _ _=>rfl) (fun _ _ _ _=>rfl) az bs
theorem same_eq (a b:Tm):a.same b=(a.kind==b.kind&&a.index==b.index&&a.type.same b.type&&same.sames a.args b.args):=by
 cases a;cases b;rfl
theorem same_iff (a b:Tm):a.same b=true↔a=b:=by
 induction a using Tm.ind generalizing b with
 | h a ih=>
  have hs:same.sames a.args b.args=true↔a.args=b.args:=aO (sames_iff _ _) ih;rw[same_eq];simp only[uH,beq_iff_eq,hs,Ty.same_iff];constructor
  ·intro h;cases a;cases b;simp only[kind,index,type,args]at h;simp_all
  ·rintro rfl;simp
end Tm
attribute [go_sem] Tm.cells_eq Tm.fold Tm.cellsD_dv Tm.isCell_dv Tm.isAgg_dv Tm.kind_mk Tm.index_mk Tm.type_mk Tm.args_mk
inductive Val where
 | mk (kind:Int) (num:Int) (list:List Int) (args:List Val)
namespace Val
def kind:Val->Int | .mk x _ _ _=>x
def num:Val->Int | .mk _ x _ _=>x
def list:Val->List Int | .mk _ _ x _=>x
def args:Val->List Val | .mk _ _ _ x=>x
theorem ind {p:Val->Prop}(h:∀t:Val,(∀a∈t.args,p a)->p t)(t:Val):p t:=
 Val.rec (motive_1:=p) (motive_2:=fun az=>∀a∈az,p a) (fun v0 v1 v2 v3 ih=>h (.mk v0 v1 v2 v3) ih) (fun a ha=>by cases ha)
  (fun a r ha hr b hb=>by
   rcases List.mem_cons.1 hb with rfl|hb;· exact ha
   ·exact hr b hb) t
def cells:Val->List DV
 | .mk v0 v1 v2 v3=>[A0 v0,A0 v1,.sl (AP v2),.sl (all v3)]
where
 all:List Val->List (List DV)
  | []=>[]
  | a::r=>cells a::all r
theorem all_map (az:List Val):cells.all az=az.map cells:=by
 induction az with
 | nil=>rfl
 | cons a r ih=>simp[cells.all,ih]
theorem cells_eq (t:Val):t.cells=[A0 t.kind,A0 t.num,.sl (AP t.list),.sl (List.map cells t.args)]:=by
 cases t with
 | mk v0 v1 v2 v3=>simp[cells,kind,num,list,args,all_map]
def dv (t:Val):DV:=.agg t.cells
theorem fold (t:Val):DV.agg [A0 t.kind,A0 t.num,.sl (AP t.list),.sl (List.map Val.cells t.args)]=t.dv:=by rw[Val.dv,Val.cells_eq]
theorem cells_mk (kind:Int)(num:Int)(list:List Int)(args:List Val):(mk kind num list args).cells=[A0 kind,A0 num,.sl (AP list),.sl (List.map Val.cells args)]:=by rw[cells_eq];rfl
theorem fold_mk (kind:Int)(num:Int)(list:List Int)(args:List Val):DV.agg [A0 kind,A0 num,.sl (AP list),.sl (List.map Val.cells args)]=(mk kind num list args).dv:=by rw[dv,cells_mk]
theorem cellsD_dv (t:Val):D6 t.dv=[A0 t.kind,A0 t.num,.sl (AP t.list),.sl (List.map Val.cells t.args)]:=by rw[Val.dv,D6,Val.cells_eq]
theorem length_cells (t:Val):t.cells.length=4:=by rw[cells_eq];rfl
theorem isCell_dv (t:Val):t.dv.isCell=false:=rfl
theorem isAgg_dv (t:Val):t.dv.isAgg=true:=rfl
theorem eta (t:Val):Val.mk t.kind t.num t.list t.args=t:=by cases t;rfl
theorem kind_mk (kind:Int)(num:Int)(list:List Int)(args:List Val):(mk kind num list args).kind=kind:=rfl
theorem num_mk (kind:Int)(num:Int)(list:List Int)(args:List Val):(mk kind num list args).num=num:=rfl
theorem list_mk (kind:Int)(num:Int)(list:List Int)(args:List Val):(mk kind num list args).list=list:=rfl
theorem args_mk (kind:Int)(num:Int)(list:List Int)(args:List Val):(mk kind num list args).args=args:=rfl
def fit:Val->Prop
 | .mk v0 v1 v2 v3=>CM .i64 v0/\CM .i64 v1/\(v2.length<=HL/\∀n∈v2,CM .i64 n)/\v3.length<=HL/\fits v3
where
 fits:List Val->Prop
  | []=>True
  | a::r=>fit a/\fits r
theorem fits_iff (az:List Val):fit.fits az↔∀a∈az,a.fit:=by
 induction az with
 | nil=>simp[fit.fits]
 | cons a r ih=>simp[fit.fits,ih]
theorem fit_eq (t:Val):t.fit↔CM .i64 t.kind/\CM .i64 t.num/\(t.list.length<=HL/\∀n∈t.list,CM .i64 n)/\t.args.length<=HL/\∀a∈t.args,a.fit:=by
 cases t with
 | mk v0 v1 v2 v3=>simp only[fit,fits_iff,kind,num,list,args]
theorem dv_fit (t:Val):t.dv.fit↔t.fit:=by
 induction t using Val.ind with
 | h t ih=>
  rw[fit_eq,<- fold];have hs:DV.fit (.sl (t.args.map cells))↔t.args.length<=HL/\∀a∈t.args,a.fit:=by
   rw[xY cells dv (fun _=>rfl)];exact and_congr Iff.rfl ⟨fun h a ha=>(ih a ha).1 (h a ha),fun h a ha=>(ih a ha).2 (h a ha)⟩
  rw[<- hs];rw[<- z8f t.list];simp only[DV.fit,DV.fit.fits,FR,CM,and_true,and_assoc]
def same:Val->Val->Bool
 | .mk v0 v1 v2 v3,.mk w0 w1 w2 w3=>v0==w0&&v1==w1&&v2==w2&&sames v3 w3
where
 sames:List Val->List Val->Bool
  | [],[]=>true
  | a::r,b::t=>same a b&&sames r t
  | _,_=>false
theorem sames_iff (az bs:List Val):same.sames az bs=true↔az.length=bs.length/\∀(i:Nat) (a b:Val),az[i]? = some a->bs[i]? = some b->a.same b=true:=
 aN same same.sames rfl (fun _ _=>rfl) (fun _ _=>rfl) (fun _ _ _ _=>rfl) az bs
theorem same_eq (a b:Val):a.same b=(a.kind==b.kind&&a.num==b.num&&a.list==b.list&&same.sames a.args b.args):=by
 cases a;cases b;rfl
theorem same_iff (a b:Val):a.same b=true↔a=b:=by
 induction a using Val.ind generalizing b with
 | h a ih=>
  have hs:same.sames a.args b.args=true↔a.args=b.args:=aO (sames_iff _ _) ih;rw[same_eq];simp only[uH,beq_iff_eq,hs];constructor
  ·intro h;cases a;cases b;simp only[kind,num,list,args]at h;simp_all
  ·rintro rfl;simp
end Val
attribute [go_sem] Val.cells_eq Val.fold Val.cellsD_dv Val.isCell_dv Val.isAgg_dv Val.kind_mk Val.num_mk Val.list_mk Val.args_mk
end
end Go.Proofs.YtoniciijokeidaaGreatDoor.Lift
