import Derived.Test.YtkfiobkjflmchaaGreatDoorQn3
set_option maxHeartbeats 8000000
set_option maxRecDepth 100000
set_option linter.unusedSimpArgs false
set_option linter.unusedVariables false
set_option linter.unnecessarySimpa false
namespace Go.Proofs.YtkfiobkjflmchaaGreatDoor.Lift
open Go
section
def RW (k b:Nat):SV->SV
 | .loc j off=>if j=k then .v (.prim (.pointer (some ⟨b,off,none⟩))) else .loc j off
 | x=>x
def LS (k b:Nat):List SV->List SV
 | []=>[]
 | x::r=>RW k b x::LS k b r
def z8g (k b:Nat):LV->LV
 | .one x=>.one (RW k b x)
 | .row cs=>.row (LS k b cs)
 | .tk E n=>.tk E n
 | .ob r=>.ob r
 | .mp l=>.mp l
def W9 (k b:Nat):Loc->Loc
 | .loc j=>if j=k then .heap b else .loc j
 | l=>l
def expose (k b:Nat):St->St
 | []=>[]
 | (l,v)::r=>(W9 k b l,z8g k b v)::expose k b r
def newB (b:Nat):St->Prop
 | []=>True
 | (.heap b',_)::r=>b'≠b/\newB b r
 | _::r=>newB b r
theorem gB (k b:Nat)(cs:List SV):(LS k b cs).length=cs.length/\∀i:Nat,(LS k b cs)[i]? = cs[i]?.map (RW k b):=by
 induction cs with
 | nil=>simp[LS]
 | cons x r ih=>
  refine⟨by simp[LS,ih.1],fun i=>?_⟩;cases i with
  | zero=>simp[LS]
  | succ i=>simp[LS,ih.2]
theorem NH {k b:Nat}{s:St}{l:Loc}{v:LV}(h:get (expose k b s) l=some v):∃l0 v0,get s l0=some v0/\W9 k b l0=l/\z8g k b v0=v:=by
 induction s with
 | nil=>cases h
 | cons p r ih=>
  obtain⟨m,u⟩:=p;simp only[expose,get]at h;split at h;· rename_i hm;cases h;exact⟨m,u,by simp[get],hm,rfl⟩
  ·rename_i hm;obtain⟨l0,v0,h1,h2,h3⟩:=ih h;refine⟨l0,v0,?_,h2,h3⟩;have:m≠l0:=fun e=>hm (by rw[e,h2]);simp[get,this,h1]
theorem TI {b:Nat}{s:St}(h:∀cs,get s (.heap b)≠some cs):newB b s:=by
 induction s with
 | nil=>trivial
 | cons p r ih=>
  obtain⟨m,u⟩:=p;cases m with
  | heap b'=>
   refine⟨fun e=>h u (by simp[get,e]),ih fun cs hc=>?_⟩;by_cases e:b' = b;· exact h u (by simp[get,e])
   ·exact h cs (by simp[get,e,hc])
  | slot n=>exact ih fun cs hc=>h cs (by simp[get,hc])
  | loc n=>exact ih fun cs hc=>h cs (by simp[get,hc])
  | tok n=>exact ih fun cs hc=>h cs (by simp[get,hc])
section
variable {X:Ctx}{s:St}
theorem bY {G:Gh}{w:World}{k:Nat}{x:SV}{v:Value}(h:LE G w x v):LE G w (RW k (G.ν k) x) v:=by
 cases x with
 | loc j off=>
  simp only[RW];split
  ·rename_i hj;have h':v = .pointer (some ⟨G.ν j,off,none⟩):=h;rw[h',hj];exact .prim _ tT
  ·exact h
 | _=>exact h
theorem z3i {k b:Nat}{x:SV}(h:x.isCell=true):(RW k b x).isCell=true:=by
 cases x with
 | loc j off=>simp only[RW];split <;> rfl
 | _=>exact h
theorem XL {G:Gh}{k:Nat}{l:Loc}{v:LV}:BC G (W9 k (G.ν k) l) (z8g k (G.ν k) v)=BC G l v:=by
 cases l with
 | slot n=>cases v <;> rfl
 | heap n=>cases v <;> rfl
 | tok n=>cases v <;> rfl
 | loc j=>
  simp only[W9];split
  ·subst_vars;cases v <;> rfl
  ·cases v <;> rfl
theorem Rel.expose {G:Gh}{a:Act}{w:World}(R:Rel X G s a w)(k:Nat):Rel X G (expose k (G.ν k) s) a w:=by
 have Io:∀l,(W9 k (G.ν k) l).isTok=l.isTok:=by
  intro l;cases l <;> simp only[W9] <;> first|rfl|(split <;> rfl)
 have Ak:∀b cs,LM G w b cs->LM G w b (LS k (G.ν k) cs):=by
  rintro b cs ⟨c,e,h1,h2,h3⟩;refine⟨c,e,h1,by rw[(gB _ _ _).1];exact h2,fun i x hx=>?_⟩;rw[(gB _ _ _).2]at hx;cases hq:cs[i]? with
  | none=>simp[hq]at hx
  | some y=>
   simp[hq]at hx;subst hx;obtain⟨q1,v,q2,q3⟩:=h3 i y hq;exact⟨z3i q1,v,q2,bY q3⟩
 refine⟨R.size,R.defers,R.ext,R.wf,R.nil,fun l v hg=>?_,fun l v l' v' b hg Fs hb Ai=>?_,fun l v b hg hb=>?_,fun l v b o hg hb ht=>?_⟩
 ·obtain⟨l0,v0,h1,rfl,rfl⟩:=NH hg;have hh:=R.holds _ _ h1;cases l0 with
  | slot n=>cases v0 with
   | one x=>exact bY hh
   | _=>exact hh.elim
  | tok n=>cases v0 with
   | tk E m=>exact hh
   | _=>exact hh.elim
  | heap n=>cases v0 with
   | row cs=>exact Ak _ _ hh
   | ob r=>exact hh
   | mp l=>exact hh
   | _=>exact hh.elim
  | loc j=>cases v0 with
   | row cs=>
    simp only[W9];split
    ·subst_vars;exact Ak _ _ hh
    ·exact Ak _ _ hh
   | _=>exact hh.elim
 ·obtain⟨l0,v0,h1,rfl,rfl⟩:=NH hg;obtain⟨l1,v1,k1,rfl,rfl⟩:=NH Fs;rw[XL]at hb Ai;rw[R.sep _ _ _ _ b h1 k1 hb Ai]
 ·obtain⟨l0,v0,h1,rfl,rfl⟩:=NH hg;rw[XL]at hb;rw[Io];exact R.own _ _ b h1 hb
 ·obtain⟨l0,v0,h1,rfl,rfl⟩:=NH hg;rw[XL]at hb;rw[Io]at ht;exact R.data _ _ b o h1 hb ht
theorem Rel.newB {G:Gh}{a:Act}{w:World}(R:Rel X G s a w){k:Nat}{cs:List SV}(hk:get s (.loc k)=some (.row cs)):newB (G.ν k) s:=by
 refine TI fun v hv=>?_;have hh:=R.holds _ _ hv;cases v with
 | row Cu=>
  have:=R.sep _ _ _ _ (G.ν k) hk hv rfl rfl;cases this
 | one x=>exact hh.elim
 | tk E n=>exact hh.elim
 | ob r=>
  have:=R.sep _ _ _ _ (G.ν k) hk hv rfl rfl;cases this
 | mp l=>
  have:=R.sep _ _ _ _ (G.ν k) hk hv rfl rfl;cases this
theorem FW (k:Nat){kk:List Item}{cs:List SV}(hk:get s (.loc k)=some (.row cs))(h:∀b,newB b s->W X kk (expose k b s)):W X kk s:=
 fun G a w b cs hf Fc hr R=>h (G.ν k) (R.newB hk) G a w b cs hf Fc hr (R.expose k)
theorem zgc {ops:Array Oper}{o:Oper}{l:List Oper}{K:St->Prop}{s':St}(ho:vC X ops o s s')(h:VL X ops l s' K):VL X ops (o::l) s K:=by
 intro n hn G a w R;obtain⟨h1,h2⟩:=EQ hn;simp only[List.length_cons,List.range'_succ,wpOpsIn,h1];have:=ho G a w R _ (Nrm X K) fun G' a' w' R'=>h (n+1) h2 G' a' w' R';split;· rename_i hw;simp only[hw,if_true]at this;exact this
 ·rename_i hw;simp only[hw]at this;exact⟨fun _ _=>trivial,this⟩
theorem z3j {Ab:List Nat}{ops:Array Oper}{l:List Oper}{K:St->Prop}{d:Tmp}{f:FuncId}{args:Array Operand}{Bo:Array TypeId}{ty:TypeId}{pos:String}{af:Array Edge}{j dj:Nat}{want:Bool}{P:Program}{gl:AB}(hP:X.P=P)(u6:X.gl=gl)
  {ds Ej:List DV} {φ Ag:BS} {r:DV} (hc:RC P gl f Ej φ r Ag) (u9:GK X (get s) args.toList=some ds) (Dv:ds=Ej) (Bb:BW (get s) φ) (Aw:(φ.map (·.1)).Nodup) (Ci:d<X.n)
  (hj:gsl ops j=some dj) (Xd:dj<X.n) (hb:get s (.slot dj)=some (.one (.v (.prim (.bool want)))))
  (h:vc X Ab ops l (D8 (DX (CM s (.slot d) (.one (.v r))) φ) Ag) K) :
  ZR X Ab ops l K ⟨some d,.call { callee:=.value (.func f),args:=args,argTypes:=Bo },ty,pos,af,some (j,want)⟩ s (AZ X Ab s ⟨some d,.call { callee:=.value (.func f),args:=args,argTypes:=Bo },ty,pos,af,some (j,want)⟩):=by
 subst Dv;have e:AZ X Ab s ⟨some d,.call { callee:=.value (.func f),args:=args,argTypes:=Bo },ty,pos,af,some (j,want)⟩=none:=by
  simp only[AZ,CY,GP,O6,HT];split <;> rfl
 rw[e];refine zgc (Q5 (.inr ⟨j,dj,want,rfl,hj,Xd,hb⟩) (MN (o:=⟨some d,.call { callee:=.value (.func f),args:=args,argTypes:=Bo },ty,pos,af,some (j,want)⟩) rfl u9 (by rw[hP,u6];exact hc) Bb Aw rfl Ci)) (CU h)
theorem vX {Ab:List Nat}{ops:Array Oper}{s0:St}{K:St->Prop}{l:List Oper}{k:St->List Ev->Prop}{ev:List Ev}{fp wr:List Loc}{d:Tmp}{f:FuncId}{args:Array Operand}{Bo:Array TypeId}{ty:TypeId}{pos:String}{af:Array Edge}{j dj:Nat}{want:Bool}{s1:St}
  (hk:∀s ev,k s ev->VD X ops s0 l s ev K) {P:Program} {gl:AB} (hP:X.P=P) (u6:X.gl=gl) {ds Ej:List DV} {φ Ag:BS} {r:DV} (hc:RC P gl f Ej φ r Ag) (u9:GK X (get s) args.toList=some ds) (Dv:ds=Ej) (Bb:BW (get s) φ) (Aw:(φ.map (·.1)).Nodup) (Ci:d<X.n)
  (hj:gsl ops j=some dj) (Xd:dj<X.n) (hb:get s (.slot dj)=some (.one (.v (.prim (.bool want)))))
  (h:ZS k ev s (.slot dj::(BQ args.toList++UF φ)) [] ((.slot d,some (.one (.v r)))::(nR φ++nS Ag))) :
  nP X ops s0 l K k ⟨some d,.call { callee:=.value (.func f),args:=args,argTypes:=Bo },ty,pos,af,some (j,want)⟩ ev s fp wr (AZ X Ab s1 ⟨some d,.call { callee:=.value (.func f),args:=args,argTypes:=Bo },ty,pos,af,some (j,want)⟩):=by
 subst Dv;have e:AZ X Ab s1 ⟨some d,.call { callee:=.value (.func f),args:=args,argTypes:=Bo },ty,pos,af,some (j,want)⟩=none:=by
  simp only[AZ,CY,GP,O6,HT];split <;> rfl
 rw[e];show VD X ops s0 _ s ev K;refine Q4 ⟨.slot dj::(BQ args.toList++UF φ),_,[]⟩ (fun s' hs _=>Q5 (.inr ⟨j,dj,want,rfl,hj,Xd,hs _ _ (G1 sS hb)⟩) ?_) (hk _ _ h);refine (MN (o:=⟨some d,.call { callee:=.value (.func f),args:=args,argTypes:=Bo },ty,pos,af,some (j,want)⟩) rfl (OF hs (fun m hm=>List.mem_cons_of_mem _ (UY hm)) u9) (by rw[hP,u6];exact hc) ?_ Aw rfl Ci).congr fun m=>?_
 ·intro b cs hm;exact hs _ _ (G1 (List.mem_cons_of_mem _ (List.mem_append.2 (.inr (g9 hm)))) (Bb b cs hm))
 ·simp only[apply,Q6,bT,bU]
theorem P9 {Ab:List Nat}{ops:Array Oper}{l:List Oper}{K:St->Prop}{d:Tmp}{f:FuncId}{args:Array Operand}{Bo:Array TypeId}{ty:TypeId}{pos:String}{af:Array Edge}{P:Program}{gl:AB}(hP:X.P=P)(u6:X.gl=gl)
  {ds Ej:List DV} {φ:BS} {R:DV->BS->Prop} (hc:Con P gl f Ej φ R) (u9:GK X (get s) args.toList=some ds) (Dv:ds=Ej) (Bb:BW (get s) φ) (Aw:(φ.map (·.1)).Nodup) (Ci:d<X.n)
  (h:∀r Ag,R r Ag->(∀b∈Ag.map (·.1),b∈φ.map (·.1)\/newB b s)->vc X Ab ops l (D8 (DX (CM s (.slot d) (.one (.v r))) φ) Ag) K) :
  ZR X Ab ops l K ⟨some d,.call { callee:=.value (.func f),args:=args,argTypes:=Bo },ty,pos,af,none⟩ s (AZ X Ab s ⟨some d,.call { callee:=.value (.func f),args:=args,argTypes:=Bo },ty,pos,af,none⟩):=by
 subst Dv;have e:AZ X Ab s ⟨some d,.call { callee:=.value (.func f),args:=args,argTypes:=Bo },ty,pos,af,none⟩=none:=by
  simp only[AZ,CY,GP,O6,HT];split <;> rfl
 rw[e];intro n hn G a w R0;obtain⟨h1,h2⟩:=EQ hn;simp only[List.length_cons,List.range'_succ,wpOpsIn,h1,Region.wanted,if_true];refine (bH (o:=⟨some d,.call { callee:=.value (.func f),args:=args,argTypes:=Bo },ty,pos,af,none⟩) (fi:=#[]) (ca:=#[]) (ds:=ds) rfl rfl ⟨ds,u9,sS⟩ sS (by rw[hP,u6];exact hc) Bb Aw rfl Ci R0 _ _ fun r Ag G' a' w' hR u5 R'=>?_);refine CU (h r Ag hR fun b hb=>(u5 b hb).imp id fun hh=>TI fun v hv=>?_) (n+1) h2 G' a' w' R';have Nw:=R0.holds _ _ hv;cases v with
 | row cs=>exact hh _ _ hv rfl
 | ob r=>exact hh _ _ hv rfl
 | mp l=>exact hh _ _ hv rfl
 | one x=>exact Nw.elim
 | tk E n=>exact Nw.elim
theorem gC {Ab:List Nat}{ops:Array Oper}{l:List Oper}{K:St->Prop}{d:Tmp}{x:Operand}{f:FuncId}{fi ca:Array Value}{args:Array Operand}{Bo:Array TypeId}{ty:TypeId}{pos:String}{af:Array Edge}{P:Program}{gl:AB}(hP:X.P=P)(u6:X.gl=gl)
  (hx:CS X (get s) x=some (.v (.prim (.func (.func f) fi ca)))) (Hl:∀v∈fi.toList++ca.toList,D5 v)
  {ds Ej:List DV} {φ Ag:BS} {r:DV} (hc:RC P gl f Ej φ r Ag) (u9:GK X (get s) args.toList=some ds) (Dv:fi.toList.map DV.prim++ds++ca.toList.map DV.prim=Ej) (Bb:BW (get s) φ) (Aw:(φ.map (·.1)).Nodup) (Ci:d<X.n)
  (h:vc X Ab ops l (D8 (DX (CM s (.slot d) (.one (.v r))) φ) Ag) K) :
  ZR X Ab ops l K ⟨some d,.call { callee:=.value x,args:=args,argTypes:=Bo },ty,pos,af,none⟩ s (AZ X Ab s ⟨some d,.call { callee:=.value x,args:=args,argTypes:=Bo },ty,pos,af,none⟩):=by
 subst Dv;have e:AZ X Ab s ⟨some d,.call { callee:=.value x,args:=args,argTypes:=Bo },ty,pos,af,none⟩=none:=by
  simp only[AZ,CY,GP,O6,HT];split <;> rfl
 rw[e];refine zgc (Q5 (.inl rfl) (s':=D8 (DX (CM s (.slot d) (.one (.v r))) φ) Ag) ?_) (CU h);intro G a w R0 next Q hK
 refine bH (o:=⟨some d,.call { callee:=.value x,args:=args,argTypes:=Bo },ty,pos,af,none⟩) (ds:=fi.toList.map DV.prim++ds++ca.toList.map DV.prim) rfl hx ⟨ds,u9,rfl⟩ Hl (by rw[hP,u6];exact hc) Bb Aw rfl Ci R0 next Q ?_
 rintro r' ψ G' a' w' ⟨rfl,rfl⟩ _ R';exact hK G' a' w' R'
theorem XM {Ab:List Nat}{ops:Array Oper}{l:List Oper}{K:St->Prop}{d:Tmp}{x:Operand}{f:FuncId}{args:Array Operand}{Bo:Array TypeId}{ty:TypeId}{pos:String}{af:Array Edge}{P:Program}{gl:AB}(hP:X.P=P)(u6:X.gl=gl)
  {ds Ej:List DV} {φ Ag:BS} {r:DV} (hc:RC P gl f Ej φ r Ag) (hx:CS X (get s) x=some (.v (.prim (.func (.func f) #[] #[])))) (u9:GK X (get s) args.toList=some ds) (Dv:ds=Ej) (Bb:BW (get s) φ) (Aw:(φ.map (·.1)).Nodup) (Ci:d<X.n)
  (h:vc X Ab ops l (D8 (DX (CM s (.slot d) (.one (.v r))) φ) Ag) K) :
  ZR X Ab ops l K ⟨some d,.call { callee:=.value x,args:=args,argTypes:=Bo },ty,pos,af,none⟩ s (AZ X Ab s ⟨some d,.call { callee:=.value x,args:=args,argTypes:=Bo },ty,pos,af,none⟩):=
 gC hP u6 hx sS hc u9 (by simpa using Dv) Bb Aw Ci h
theorem z8h {c:Code}{kk:List Item}(S:St)(h1:W X kk S->W X (.code c::kk) s)(h2:W X kk S):W X (.code c::kk) s:=h1 h2
theorem DC {α:Type}(L:List α)(I:List α->Prop)(S:List α->List α->St){c:Code}{kk:List Item}(h0:I [])(round:∀done x rest,L=done++x::rest->L[done.length]? = some x->I done->(I (done++[x])->W X (.inLoop c::kk) (S (done++[x]) rest))->W X (.code c::.inLoop c::kk) (S done (x::rest)))(last:I L->W X (.code c::.inLoop c::kk) (S L [])) :
  W X (.code (.loop c)::kk) (S [] L):=by
 have key:=E6 (X:=X) (k:=kk) (c:=c) (fun i:List α × List α=>L=i.1++i.2/\I i.1) (fun i=>S i.1 i.2) (fun i=>i.2.length) ([],L) ⟨rfl,h0⟩;refine key fun ⟨done,rest⟩ hI ih=>?_;obtain⟨hI,hJ⟩:=hI;cases rest with
 | nil=>
  simp only[List.append_nil]at hI;subst hI;exact last hJ
 | cons x rest=>
  exact round done x rest hI (by rw[hI];simp) hJ (fun hj=>ih (done++[x],rest) ⟨by simp[hI],hj⟩ sS)
theorem jW {c:Code}{kk:List Item}(E:Prop)(S:St)(h1:(E->W X kk S)->W X (.code c::kk) s)(h2:E->W X kk S):W X (.code c::kk) s:=h1 h2
theorem RX {P:Program}(hP:X.P=P){f:FuncId}{fn:Func}(hf:X.f=f)(u8:X.fn=fn){kk:List Item}(r:DV)(φ:BS)(h:P.funcs[f]? = some fn/\UT X (get s) fn.results.toList=some r)(Bb:BW (get s) φ)(Aw:(φ.map (·.1)).Nodup)(hR:X.R r φ)(Cw:X.md = .fn):W X (.code .ret::kk) s:=by
 subst hP hf u8;exact zg9 Cw h.1 h.2 Bb Aw hR
theorem z8i {P:Program}(hP:X.P=P){f:FuncId}{fn:Func}(hf:X.f=f)(u8:X.fn=fn)(r:DV)(φ:BS)(h:P.funcs[f]? = some fn/\UT X (get s) fn.results.toList=some r)(Bb:BW (get s) φ)(Aw:(φ.map (·.1)).Nodup)(hR:X.R r φ)(Cw:X.md = .fn):W X [] s:=by
 subst hP hf u8;exact zga Cw h.1 h.2 Bb Aw hR
end
theorem z3k (k b off:Nat):RW k b (.loc k off) = .v (.prim (.pointer (some ⟨b,off,none⟩))):=by simp[RW]
theorem vY {k j:Nat}(b off:Nat)(h:j≠k):RW k b (.loc j off) = .loc j off:=by simp[RW,h]
theorem zhx (k b:Nat)(x:DV):RW k b (.v x) = .v x:=rfl
theorem zdr (k b:Nat)(e:List (List DV))(i o:Nat):RW k b (.dp e i o) = .dp e i o:=rfl
theorem zds (k b:Nat)(e:List DV)(n:List Nat):RW k b (.ag e n) = .ag e n:=rfl
theorem z8j (k b t:Nat)(e:List (List DV)):RW k b (.own t e) = .own t e:=rfl
theorem z3l (k b:Nat):LS k b []=[]:=rfl
theorem vZ (k b:Nat)(x:SV)(r:List SV):LS k b (x::r)=RW k b x::LS k b r:=rfl
theorem wB (k b:Nat):expose k b []=[]:=rfl
theorem o8 (k b n:Nat)(x:SV)(r:St):expose k b ((.slot n,.one x)::r)=(.slot n,.one (RW k b x))::expose k b r:=rfl
theorem o9 (k b:Nat)(cs:List SV)(r:St):expose k b ((.loc k,.row cs)::r)=(.heap b,.row (LS k b cs))::expose k b r:=by simp[expose,W9,z8g]
theorem jX {k j:Nat}(b:Nat)(cs:List SV)(r:St)(h:j≠k):expose k b ((.loc j,.row cs)::r)=(.loc j,.row (LS k b cs))::expose k b r:=by simp[expose,W9,z8g,h]
theorem oA (k b n:Nat)(cs:List SV)(r:St):expose k b ((.heap n,.row cs)::r)=(.heap n,.row (LS k b cs))::expose k b r:=rfl
theorem z3m (k b n:Nat)(q:List (Int × DV))(r:St):expose k b ((.heap n,.mp q)::r)=(.heap n,.mp q)::expose k b r:=rfl
theorem z3n (k b n:Nat)(q:Ob)(r:St):expose k b ((.heap n,.ob q)::r)=(.heap n,.ob q)::expose k b r:=rfl
theorem wD (k b t E n:Nat)(r:St):expose k b ((.tok t,.tk E n)::r)=(.tok t,.tk E n)::expose k b r:=rfl
theorem z8k (b:Nat):newB b []=True:=rfl
theorem z3o (b n:Nat)(v:LV)(r:St):newB b ((.heap n,v)::r)=(n≠b/\newB b r):=rfl
theorem z3p (b n:Nat)(v:LV)(r:St):newB b ((.slot n,v)::r)=newB b r:=rfl
theorem z8l (b n:Nat)(v:LV)(r:St):newB b ((.loc n,v)::r)=newB b r:=rfl
theorem z8m (b n:Nat)(v:LV)(r:St):newB b ((.tok n,v)::r)=newB b r:=rfl
attribute [go_sem] z3n z3m z3k vY zhx zdr zds z8j z3l vZ wB o8 o9 jX oA wD z8k z3o z3p z8l z8m
end
section
def YC (P:Program)(gl:AB)(D0:Nat->Nat->Prop)(w0:World)(l:Nat)(r:Loop)(args:List DV)(φ:BS)(R:Bool->BS->Loop->Prop):Prop:=
 ∀(D:Nat->Nat->Prop) (w:World) (vs:Array Value),OW D0 w0 D w->w0.heap.size<=w.heap.size->Wf gl D w->vs.size=args.length->(∀(i:Nat) (x:DV) (v:Value),args[i]? = some x->vs[i]? = some v->RV D w x v)->HeapOK D w φ->w.heap[l]? = some (.loop r) ->
  RoundIn Fence.wide 0 P l r.fn ((r.params.zip vs).foldl (fun tmps (t,a)=>tmps.setIfInBounds t a) r.tmps) r.assign r.body w fun e w'=>∃b D' Ag r',e = .returned (.bool b)/\R b Ag r'/\Ext (l::φ.map (·.1)) D w D' w'/\Wf gl D' w'/\HeapOK D' w' Ag/\w'.heap[l]? = some (.loop r')/\∀b∈Ag.map (·.1),b∈φ.map (·.1)\/w.heap.size<=b
def ItC (P:Program)(gl:AB)(f:FuncId)(args:List DV)(φ:BS)(l:Nat)(r:Loop)(Y:(Nat->Nat->Prop)->World->Prop)(R:BS->Loop->Prop):Prop:=
 W5 P f/\∀(D:Nat->Nat->Prop) (w:World) (vs:Array Value),Wf gl D w->vs.size=args.length->(∀(i:Nat) (x:DV) (v:Value),args[i]? = some x->vs[i]? = some v->RV D w x v)->HeapOK D w φ->w.heap[l]? = some (.loop r)->Y D w ->
  Calls P f vs w fun e w'=>∃v D' Ag r',e = .returned v/\R Ag r'/\Ext (l::φ.map (·.1)) D w D' w'/\Wf gl D' w'/\HeapOK D' w' Ag/\w'.heap[l]? = some (.loop r')/\∀b∈Ag.map (·.1),b∈φ.map (·.1)\/w.heap.size<=b
theorem KW {D:Nat->Nat->Prop}{w:World}{gl:AB}{φ:BS}{l:Nat}{r:Loop}(Fr:Wf gl D w)(hh:HeapOK D w φ)(hl:w.heap[l]? = some (.loop r)):(∀o,¬D l o)/\l∉φ.map (·.1):=by
 refine⟨fun o hd=>?_,fun hm=>?_⟩
 ·obtain⟨v,hv⟩:=Fr.there l o hd;simp[World.cell?,hl]at hv
 ·obtain⟨⟨b,cs⟩,hq,rfl⟩:=List.mem_map.1 hm;obtain⟨c,e,h1,_⟩:=hh.rows b cs hq;simp only at hl;rw[hl]at h1;cases h1
section
variable {X:Ctx}{s:St}{k:List Item}
def UZ (args:List DV)(φ:BS)(l:Nat)(r:Loop):St:=(.heap l,.ob r)::entry args φ
theorem z3q {args:List DV}{φ:BS}{l:Loc}{v:LV}(hl:get (entry args φ) l=some v):(∃i x,l = .slot i/\v = .one (.v x)/\args[i]? = some x)\/∃b cs,l = .heap b/\v = .row (cs.map SV.v)/\(b,cs)∈φ:=by
 unfold entry at hl;rw[HS]at hl;rcases Option.or_eq_some_iff.1 hl with hl|⟨-,hl⟩
 ·obtain⟨i,x,h1,h2,h3⟩:=TF hl;exact .inl ⟨i,x,by simpa using h1,h2,h3⟩
 ·exact .inr (NC hl)
theorem XN {P : Program} {gl : AB} {f : FuncId} {args : List DV} {φ : BS} {l : Nat} {r : Loop} {Y : (Nat -> Nat -> Prop) -> World -> Prop} {R : BS -> Loop -> Prop} {fn : Func} {body : Code} (hf : P.funcs[f]? = some fn) (hb : fn.body = some body) (Gi : (fn.name == "runtime.NumGoroutine") = false)
  (hn:args.length<=fn.ntmps)
  (h:∀X:Ctx,X.P=P->X.gl=gl->X.f=f->X.fn=fn->X.n=fn.ntmps->X.md = .it l R->X.ids=l::φ.map (·.1)->(∀x∈args,DV.fit x)->l∉φ.map (·.1)->Y X.D0 X.w0->W X [.code body] (UZ args φ l r)):ItC P gl f args φ l r Y R:=by
 refine⟨⟨fn,hf,by simp[hb],Gi⟩,?_⟩;intro D w vs Fr Bk u9 Cs Gg hY cs;obtain⟨Aw,Kd⟩:=KW Fr Cs Gg
 let X:Ctx:={ P:=P,gl:=gl,f:=f,fn:=fn,n:=fn.ntmps,ids:=l::φ.map (·.1),D0:=D,w0:=w,R:=fun _ _=>False,md:=.it l R }
 have u4:∀x∈args,DV.fit x:=by
  intro x hx;obtain⟨i,hi,rfl⟩:=List.mem_iff_getElem.1 hx;exact RV.fit (u9 i _ vs[i] (uB hi) (uG oO))
 have hW:=h X rfl rfl rfl rfl rfl rfl rfl u4 Kd hY
 let a:Act:={ tmps:=vs++Array.replicate (fn.ntmps - vs.size) undef,defers:=[] }
 have Rl:Rel X { D:=D,ν:=fun _=>0,τ:=fun _=>(none,0) } (UZ args φ l r) a w:=by
  have Ay:∀m v,get (UZ args φ l r) m=some v->(m = .heap l/\v = .ob r)\/(∃i x,m = .slot i/\v = .one (.v x)/\args[i]? = some x)\/∃b cs,m = .heap b/\v = .row (cs.map SV.v)/\(b,cs)∈φ:=by
   intro m v hm;simp only[UZ,get]at hm;split at hm;· rename_i e;cases hm;exact .inl ⟨e.symm,rfl⟩
   ·exact .inr (z3q hm)
  refine⟨by simp[a,X];omega,⟨[],rfl,List.nodup_nil,sS⟩,Ext.refl _ _ _,Fr,rfl,fun m v hm=>?_,fun m v m' v' b hm Nq hb Ai=>?_,fun m v b hm hb=>?_,fun m v b o hm hb _=>?_⟩
  ·rcases Ay m v hm with⟨rfl,rfl⟩|⟨i,x,rfl,rfl,hx⟩|⟨b,cs,rfl,rfl,hq⟩;· exact Gg
   ·have hi:i<vs.size:=by rw[Bk];exact (uA hx).1
    have hv:vs[i]? = some vs[i]:=uG hi;show RV D w x _;have:a.tmps.getD i undef=vs[i]:=by
     simp[a,Array.getElem?_append_left hi,hv]
    rw[this];exact u9 i x _ hx hv
   ·exact H3 (G:={ D:=D,ν:=fun _=>0,τ:=fun _=>(none,0) }) Cs hq
  ·have Th:∀m v,((m = .heap l/\v = .ob r)\/(∃i x,m = .slot i/\v = .one (.v x)/\args[i]? = some x)\/∃b cs,m = .heap b/\v = .row (cs.map SV.v)/\(b,cs)∈φ)->BC { D:=D,ν:=fun _=>0,τ:=fun _=>(none,0) } m v=some b->m = .heap b:=by
    rintro m v (⟨rfl,rfl⟩|⟨i,x,rfl,rfl,hx⟩|⟨b',cs,rfl,rfl,hm⟩) hb;· simp only[BC,uC]at hb;rw[hb]
    ·cases hb
    ·simp only[BC,uC]at hb;rw[hb]
   rw[Th m v (Ay m v hm) hb,Th m' v' (Ay m' v' Nq) Ai]
  ·rcases Ay m v hm with⟨rfl,rfl⟩|⟨i,x,rfl,rfl,hx⟩|⟨b1,cs,rfl,rfl,hq⟩
   ·simp only[BC,uC]at hb;subst hb;exact .inr ⟨by simp[X],rfl⟩
   ·cases hb
   ·simp only[BC,uC]at hb;subst hb;exact .inr ⟨List.mem_cons_of_mem _ (List.mem_map.2 ⟨_,hq,rfl⟩),rfl⟩
  ·rcases Ay m v hm with⟨rfl,rfl⟩|⟨i,x,rfl,rfl,hx⟩|⟨b1,cs,rfl,rfl,hq⟩
   ·simp only[BC,uC]at hb;subst hb;exact Aw o
   ·cases hb
   ·simp only[BC,uC]at hb;subst hb;exact Cs.nodata _ _ hq o
 let b:Frame:={ (default:Frame) with fn:=f,kind:=.normal }
 have Ec:Frame.enter P f vs .normal=b.atR a [.code body]:=by
  simp[Frame.enter,Frame.atR,hf,hb,b,a];rfl
 obtain⟨w',fr,⟨v,D',Ag,r',k1,⟨k2,k3,k4,k5⟩,k6,k7,k8⟩,h2⟩:=hW _ a w b cs rfl rfl rfl Rl;rw[<- Ec]at h2;refine⟨.returned v,w',fr,⟨v,D',Ag,r',rfl,k1,k2,k3,k4,k6,fun b hb=>?_⟩,h2,k7,k8⟩;rcases k5 b hb with h|h
 ·rcases List.mem_cons.1 h with rfl|h;· exact absurd hb (KW k3 k4 k6).2
  ·exact .inl h
 ·exact .inr h
theorem Rel.yield {G:Gh}{a:Act}{w:World}(R:Rel X G s a w){φ Ag:BS}(Bb:BW (get s) φ){l:Nat}{r r':Loop}(hl:get s (.heap l)=some (.ob r)){D':Nat->Nat->Prop}{w':World}(hx:Ext (l::φ.map (·.1)) G.D w D' w')(Fr:Wf X.gl D' w'){x:DV}{v:Value}(hr:RV D' w' x v)
  (hh:HeapOK D' w' Ag) (Ct:w'.heap[l]? = some (.loop r')) (u5:∀b∈Ag.map (·.1),b∈φ.map (·.1)\/w.heap.size<=b) {d:Nat} (hd:d<X.n) :
  Rel X { D:=D',ν:=G.ν,τ:=G.τ } (CM (D8 (DX (CM s (.slot d) (.one (.v x))) φ) Ag) (.heap l) (.ob r')) (a.put (some d) v) w':=by
 have hp:=FV a (some d) v;have En:∀b∈φ.map (·.1),∃cs,get s (.heap b)=some (.row (List.map SV.v cs)):=by
  intro b hb;obtain⟨⟨b',Cu⟩,hm,rfl⟩:=List.mem_map.1 hb;exact⟨Cu,Bb b' Cu hm⟩
 have Rc:w.heap[l]? = some (.loop r):=R.holds _ _ hl;obtain⟨hnd',hnm'⟩:=KW Fr hh Ct;have T:Trans X G a w { D:=D',ν:=G.ν,τ:=G.τ } (a.put (some d) v) w' (fun b=>b∈l::φ.map (·.1)):=by
  refine⟨hp.1,fun h=>h.keep hp.2 fun D hD=>(hx.block D (Array.getElem?_eq_some_iff.1 hD).1 fun hm=>?_).trans hD,hx.os,hx.tape,hx.output,hx.size,fun b hb hn=>hx.block b hb hn,fun b hb=>?_,hx.grow,fun b o hD hn=>⟨.inl (hx.new b o hD hn),Fr.there b o hD⟩,R.nil⟩
  ·rcases List.mem_cons.1 hm with rfl|hm;· rw[Rc]at hD;cases hD
   ·obtain⟨cs,hg⟩:=En D hm;obtain⟨c,e,h4,_⟩:=R.holds _ _ hg;rw[hD]at h4;cases h4
  ·rcases List.mem_cons.1 hb with rfl|hb;· exact (R.own _ _ b hl rfl).imp id And.left
   ·obtain⟨cs,hg⟩:=En b hb;exact (R.own _ _ b hg rfl).imp id And.left
 refine R.step T (fun m u=>(m = .heap l/\u = .ob r')\/(m = .slot d/\u = .one (.v x))\/∃b cs,m = .heap b/\u = .row (cs.map SV.v)/\(b,cs)∈Ag) (fun m u h=>?_) (fun m u h=>?_) (fun m u m' u' b h h' hb Ai=>?_)
 ·rw[BM]at h;split at h;· rename_i e;cases h;exact .inl (.inl ⟨e.symm,rfl⟩)
  ·rename_i Uy;rcases OB _ _ _ _ h with h|⟨h,Au⟩;· exact .inl (.inr (.inr h))
   ·obtain⟨h,hn⟩:=RQ _ _ _ _ h;rw[BM]at h;split at h;· rename_i hl;cases h;exact .inl (.inr (.inl ⟨hl.symm,rfl⟩))
    ·rename_i Ju;refine .inr ⟨h,fun n hn=>FH _ _ _ _ (fun e=>Ju (by rw[hn,e])),fun b hb hB=>?_,fun _ _=>rfl,fun _ _=>rfl⟩;rcases List.mem_cons.1 hB with rfl|hB;· exact Uy (R.sep _ _ _ _ b hl h rfl hb)
     ·obtain⟨cs,hg⟩:=En b hB;exact hn b hB (R.sep _ _ _ _ b hg h rfl hb).symm
 ·rcases h with⟨rfl,rfl⟩|⟨rfl,rfl⟩|⟨b,cs,rfl,rfl,hm⟩
  ·refine⟨Ct,fun b hb=>?_⟩;simp only[BC,uC]at hb;subst hb;exact⟨.inr sS,R.own _ _ l hl rfl,fun _ o=>hnd' o⟩
  ·refine⟨?_,fun b hb=>by cases hb⟩;show RV D' w' x _;rw[E4 _ _ _ (by rw[R.size];exact hd)];exact hr
  ·refine⟨H3 hh hm,fun b' Ai=>?_⟩;simp only[BC,uC]at Ai;subst Ai;have Kj:b∈Ag.map (·.1):=List.mem_map.2 ⟨_,hm,rfl⟩;refine⟨(u5 b Kj).symm.imp id (List.mem_cons_of_mem _),?_,fun _ o=>hh.nodata b cs hm o⟩;rcases u5 b Kj with h1|h1
   ·obtain⟨Cu,hg⟩:=En b h1;exact R.own _ _ b hg rfl
   ·exact .inl (Nat.le_trans R.ext.size h1)
 ·have Th:∀m u,((m = .heap l/\u = .ob r')\/(m = .slot d/\u = .one (.v x))\/∃b cs,m = .heap b/\u = .row (cs.map SV.v)/\(b,cs)∈Ag)->BC { D:=D',ν:=G.ν,τ:=G.τ } m u=some b->m = .heap b:=by
   rintro m u (⟨rfl,rfl⟩|⟨rfl,rfl⟩|⟨b',cs,rfl,rfl,hm⟩) hb;· simp only[BC,uC]at hb;rw[hb]
   ·cases hb
   ·simp only[BC,uC]at hb;rw[hb]
  rw[Th m u h hb,Th m' u' h' Ai]
theorem z3r {o:Oper}{y:Operand}{args:Array Operand}{Bo:Array TypeId}(ho:o.op = .call { callee:=.value y,args:=args,argTypes:=Bo }){l:Nat}(hy:CS X (get s) y=some (.v (.prim (.func (.yield l) #[] #[]))))
  {ds:List DV} (u9:GK X (get s) args.toList=some ds) {r:Loop} (Kp:r.params.size=ds.length) {φ:BS} {R:Bool->BS->Loop->Prop} (hc:YC X.P X.gl X.D0 X.w0 l r ds φ R) (Bb:BW (get s) φ) (Aw:(φ.map (·.1)).Nodup) (hl:get s (.heap l)=some (.ob r))
  {d:Nat} (hd:o.dst=some d) (Ci:d<X.n) {G:Gh} {a:Act} {w:World} (R0:Rel X G s a w) (next:Act->World->Prop) (Q:Exit->Act->World->Prop)
  (hk:∀b Ag r' G' a' w',R b Ag r'->(∀c∈Ag.map (·.1),c∈φ.map (·.1)\/∀m v,get s m=some v->BC G m v≠some c)->Rel X G' (CM (D8 (DX (CM s (.slot d) (.one (.v (.prim (.bool b))))) φ) Ag) (.heap l) (.ob r')) a' w'->next a' w'):o.wpIn X.F 0 X.P a w next Q:=by
 have Oj:=(BJ (A8 R0 hy)).1;obtain⟨q1,q2⟩:=O7 R0 u9;have Yx:args.size=ds.length:=by simpa using q1
 have Rc:w.heap[l]? = some (.loop r):=R0.holds _ _ hl;have Aq:(execOp a.eval o).run X.P w = .ok (.round l r.fn ((r.params.zip (args.map a.eval)).foldl (fun tmps (t,a)=>tmps.setIfInBounds t a) r.tmps) r.assign r.body) w:=by
  simp[execOp,ho,resolve,Oj,Deferred.ofValue,invoke,run_yield Rc,Kp,Yx,Sem.run_bind]
 refine⟨fun _ _=>trivial,?_⟩;rw[Oper.semAt_eq _ _ _ (by intro c e;rw[ho]at e;cases e),Aq,Oper.uponIn_round];refine⟨fun h=>(by cases h),?_⟩;refine RoundIn.mono (hc G.D w (args.map a.eval) R0.ext.grow R0.ext.size R0.wf (by simp[Yx]) (fun i x v hx hv=>?_) (TE R0 Bb Aw) Rc) ?_
 ·refine q2 i x v hx ?_;rw[<- Array.getElem?_toList]at hv
  simpa using hv
 ·rintro e w' ⟨b,D',Ag,r',rfl,hR,hx,Fr,hh,Ct,u5⟩;simp only[hd];refine hk b Ag r' _ _ w' hR (fun c hc=>(u5 c hc).imp id fun h m v hg Jz=>?_) (R0.yield Bb hl hx Fr (.prim (.bool b) tT) hh Ct u5 Ci);have:=H9 (R0.holds m v hg) Jz;omega
theorem aG {l:Nat}{r:Loop}(Mp:X.rd=some l)(hl:get s (.heap l)=some (.ob r))(hr:r.state = .ready)(h:W X k (CM s (.heap l) (.ob (.lp { r with state:=.busy })))):W X (.beginRound::k) s:=by
 intro G a w b cs hf hk Hb R;have Rc:w.heap[l]? = some (.loop r):=R.holds _ _ hl;have Aq:=run_beginRound (P:=X.P) Rc hr;have Au:∀b,b≠l->(w.putObj l (.loop { r with state:=.busy })).heap[b]? = w.heap[b]?:=fun b hb=>World.putObj_heap_other hb;have Ng:(w.putObj l (.loop { r with state:=.busy })).heap[l]? = some (.loop { r with state:=.busy }):=World.putObj_heap_same (Array.getElem?_eq_some_iff.1 Rc).1
 have Lp:∀b o,G.D b o->b≠l:=fun b o hd e=>by
  subst e;obtain⟨v,hv⟩:=R.wf.there b o hd;simp[World.cell?,Rc]at hv
 have T:Trans X G a w G a (w.putObj l (.loop { r with state:=.busy })) (fun b=>b=l):=by
  refine⟨rfl,fun h=>h.keep rfl fun D hD=>(Au D fun e=>by subst e;rw[Rc]at hD;cases hD).trans hD,rfl,rfl,rfl,sS,fun b _ hb=>Au b hb,fun b hb=>by subst hb;exact (R.own _ _ b hl rfl).imp id And.left,fun b o hd=>⟨hd,?_⟩,fun _ _ h k=>absurd h k,R.nil⟩;simp only[World.cell?];rw[Au b (Lp b o hd)]
 have R':Rel X G (CM s (.heap l) (.ob (.lp { r with state:=.busy }))) a (w.putObj l (.loop { r with state:=.busy })):=by
  refine R.step T (fun m u=>m = .heap l/\u = .ob (.lp { r with state:=.busy })) (fun m u hm=>?_) (fun m u hm=>?_) (fun m u m' u' b h h' _ _=>h.1.trans h'.1.symm)
  ·rw[BM]at hm;split at hm;· rename_i e;cases hm;exact .inl ⟨e.symm,rfl⟩
   ·rename_i e;refine .inr ⟨hm,fun _ _=>rfl,fun b hb he=>?_,fun _ _=>rfl,fun _ _=>rfl⟩;subst he;exact e (R.sep _ _ _ _ b hl hm rfl hb)
  ·obtain⟨rfl,rfl⟩:=hm;refine⟨Ng,fun b hb=>?_⟩;simp only[BC,uC]at hb;subst hb;exact⟨.inr rfl,R.own _ _ l hl rfl,fun _ o hd=>Lp l o hd rfl⟩
 obtain⟨w',fr,h1,h2⟩:=h G a _ b cs hf hk Hb R';exact⟨w',fr,h1,.head (stepR_beginRound (Hb.trans Mp) Aq) h2⟩
end
end
section
def bZ (tmps:Array Value):List (Nat × Value)->Array Value
 | []=>tmps
 | (t,v)::r=>bZ (tmps.setIfInBounds t v) r
theorem wE (l:List (Nat × Value)):∀tmps:Array Value,l.foldl (fun tmps p=>tmps.setIfInBounds p.1 p.2) tmps=bZ tmps l:=by
 induction l with
 | nil=>intro tmps;rfl
 | cons p r ih=>intro tmps;exact ih _
theorem z3s (l:List (Nat × Value)):∀tmps:Array Value,(bZ tmps l).size=tmps.size:=by
 induction l with
 | nil=>intro tmps;rfl
 | cons p r ih=>intro tmps;simp only[bZ,ih,Array.size_setIfInBounds]
theorem cA {n:Nat}(l:List (Nat × Value)):∀tmps:Array Value,n∉l.map (·.1)->(bZ tmps l).getD n undef=tmps.getD n undef:=by
 induction l with
 | nil=>intro tmps _;rfl
 | cons p r ih=>
  intro tmps h;simp only[List.map_cons,List.mem_cons,not_or]at h;simp only[bZ,ih _ h.2];simp[Array.getElem?_setIfInBounds_ne (Ne.symm h.1)]
theorem zdt {n:Nat}{v:Value}(l:List (Nat × Value)):∀tmps:Array Value,(l.map (·.1)).Nodup->(n,v)∈l->n<tmps.size->(bZ tmps l).getD n undef=v:=by
 induction l with
 | nil=>intro tmps _ h;cases h
 | cons p r ih=>
  intro tmps hn h Ac;simp only[List.map_cons,List.nodup_cons]at hn;simp only[bZ];rcases List.mem_cons.1 h with rfl|h
  ·rw[cA _ _ hn.1];simp[Ac]
  ·exact ih _ hn.2 h (by simpa using Ac)
def jY (D0:Nat->Nat->Prop)(w0:World)(tmps:Array Value)(SL:List (Nat × DV)):Prop:=∀n x,(n,x)∈SL->RV D0 w0 x (tmps.getD n undef)
def RY:List (Nat × DV)->St
 | []=>[]
 | (n,x)::r=>(.slot n,.one (.v x))::RY r
theorem wG {SL:List (Nat × DV)}{l:Loc}{v:LV}(h:get (RY SL) l=some v):∃n x,l = .slot n/\v = .one (.v x)/\(n,x)∈SL:=by
 induction SL with
 | nil=>cases h
 | cons p r ih=>
  obtain⟨n,x⟩:=p;simp only[RY,get]at h;split at h;· rename_i e;cases h;exact⟨n,x,e.symm,rfl,sS⟩
  ·obtain⟨n',x',h1,h2,h3⟩:=ih h;exact⟨n',x',h1,h2,List.mem_cons_of_mem _ h3⟩
def YR:List Nat->List DV->St
 | p::ps,x::xs=>(.slot p,.one (.v x))::YR ps xs
 | _,_=>[]
theorem z3t {ps:List Nat}{xs:List DV}{l:Loc}{v:LV}(h:get (YR ps xs) l=some v):∃(i p:Nat) (x:DV),l = .slot p/\v = .one (.v x)/\ps[i]? = some p/\xs[i]? = some x:=by
 induction ps generalizing xs with
 | nil=>cases h
 | cons p ps ih=>
  cases xs with
  | nil=>cases h
  | cons x xs=>
   simp only[YR,get]at h;split at h;· rename_i e;cases h;exact⟨0,p,x,e.symm,rfl,rfl,rfl⟩
   ·obtain⟨i,p',x',h1,h2,h3,h4⟩:=ih h;exact⟨i+1,p',x',h1,h2,by simpa using h3,by simpa using h4⟩
def Q7 (ps:List Nat)(args:List DV)(SL:List (Nat × DV))(φ:BS)(l:Nat)(r:Loop):St:=(.heap l,.ob r)::(YR ps args++(RY SL++DO φ))
def R7 (r:Loop)(j:Option Code):Loop:={ r with state:=if j.isNone then .ready else .done,pending:=j }
theorem cB {P:Program}{gl:AB}{D0:Nat->Nat->Prop}{w0:World}{l:Nat}{r:Loop}{args:List DV}{φ:BS}{R:Bool->BS->Loop->Prop}(n:Nat)(Jf:r.tmps.size=n){SL:List (Nat × DV)}(hSL:jY D0 w0 r.tmps SL)(Jq:r.state = .ready)
  (Kp:r.params.size=args.length) (hpn:∀p∈r.params.toList,p<n) (Aw:r.params.toList.Nodup) (Bm:∀p∈r.params.toList,p∉SL.map (·.1))
  (h:∀X:Ctx,X.P=P->X.gl=gl->X.f=r.fn->X.n=n->X.md = .rd l r (fun j Ag=>R j.isNone Ag (R7 r j))->X.ids=l::φ.map (·.1)->l∉φ.map (·.1)->(∀x∈args,DV.fit x)->W X [.code r.assign,.beginRound,.code r.body] (Q7 r.params.toList args SL φ l r)):YC P gl D0 w0 l r args φ R:=by
 intro D w vs Ye _ Fr Bk u9 Cs Gg;obtain⟨Ia,Kd⟩:=KW Fr Cs Gg;have u4:∀x∈args,DV.fit x:=by
  intro x hx;obtain⟨i,hi,rfl⟩:=List.mem_iff_getElem.1 hx;exact RV.fit (u9 i _ vs[i] (uB hi) (uG oO))
 let X:Ctx:={ P:=P,gl:=gl,f:=r.fn,fn:=default,n:=n,ids:=l::φ.map (·.1),D0:=D,w0:=w,R:=fun _ _=>False,md:=.rd l r (fun j Ag=>R j.isNone Ag (R7 r j)) }
 have hW:=h X rfl rfl rfl rfl rfl rfl Kd u4;have Jv:(r.params.zip vs).foldl (fun tmps (t,a)=>tmps.setIfInBounds t a) r.tmps=bZ r.tmps (r.params.toList.zip vs.toList):=by
  rw[<- Array.foldl_toList,Array.toList_zip];exact wE _ _
 rw[Jv];have Ld:(r.params.toList.zip vs.toList).map (·.1)=r.params.toList:=by
  rw[List.map_fst_zip];simp only[Array.length_toList];omega
 let a:Act:={ tmps:=bZ r.tmps (r.params.toList.zip vs.toList),defers:=[] }
 have Rl:Rel X { D:=D,ν:=fun _=>0,τ:=fun _=>(none,0) } (Q7 r.params.toList args SL φ l r) a w:=by
  have Ay:∀m v,get (Q7 r.params.toList args SL φ l r) m=some v->(m = .heap l/\v = .ob r)\/(∃(i p:Nat) (x:DV),m = .slot p/\v = .one (.v x)/\r.params.toList[i]? = some p/\args[i]? = some x)\/(∃n x,m = .slot n/\v = .one (.v x)/\(n,x)∈SL)\/∃b cs,m = .heap b/\v = .row (cs.map SV.v)/\(b,cs)∈φ:=by
   intro m v hm;simp only[Q7,get]at hm;split at hm;· rename_i e;cases hm;exact .inl ⟨e.symm,rfl⟩
   ·rw[HS]at hm;rcases Option.or_eq_some_iff.1 hm with hm|⟨-,hm⟩;· exact .inr (.inl (z3t hm))
    ·rw[HS]at hm;rcases Option.or_eq_some_iff.1 hm with hm|⟨-,hm⟩;· exact .inr (.inr (.inl (wG hm)))
     ·exact .inr (.inr (.inr (NC hm)))
  have Th:∀m v b,get (Q7 r.params.toList args SL φ l r) m=some v->BC { D:=D,ν:=fun _=>0,τ:=fun _=>(none,0) } m v=some b->m = .heap b:=by
   intro m v b hm hb;rcases Ay m v hm with⟨rfl,rfl⟩|⟨i,p,x,rfl,rfl,hx⟩|⟨p,x,rfl,rfl,hx⟩|⟨b',cs,rfl,rfl,hq⟩;· simp only[BC,uC]at hb;rw[hb]
   ·cases hb
   ·cases hb
   ·simp only[BC,uC]at hb;rw[hb]
  refine⟨by simp[a,X,z3s,Jf],⟨[],rfl,List.nodup_nil,sS⟩,Ext.refl _ _ _,Fr,rfl,fun m v hm=>?_,fun m v m' v' b hm Nq hb Ai=>?_,fun m v b hm hb=>?_,fun m v b o hm hb _=>?_⟩
  ·rcases Ay m v hm with⟨rfl,rfl⟩|⟨i,p,x,rfl,rfl,hp,hx⟩|⟨p,x,rfl,rfl,hx⟩|⟨b',cs,rfl,rfl,hq⟩;· exact Gg
   ·have hi:i<vs.size:=by rw[Bk];exact (uA hx).1
    have hv:vs[i]? = some vs[i]:=uG hi;show RV D w x _;have Co:(p,vs[i])∈r.params.toList.zip vs.toList:=by
     refine uE (i:=i) ?_;rw[List.getElem?_zip_eq_some];exact⟨hp,by simp[hv]⟩
    have:a.tmps.getD p undef=vs[i]:=zdt _ _ (by rw[Ld];exact Aw) Co (by rw[Jf];exact hpn p (uE hp));rw[this];exact u9 i x _ hx hv
   ·show RV D w x _;have:a.tmps.getD p undef=r.tmps.getD p undef:=cA _ _ (by rw[Ld];exact fun hm=>Bm p hm (List.mem_map.2 ⟨_,hx,rfl⟩));rw[this];exact (hSL p x hx).mono Ye
   ·exact H3 (G:={ D:=D,ν:=fun _=>0,τ:=fun _=>(none,0) }) Cs hq
  ·rw[Th m v b hm hb,Th m' v' b Nq Ai]
  ·rcases Ay m v hm with⟨rfl,rfl⟩|⟨i,p,x,rfl,rfl,hp,hx⟩|⟨p,x,rfl,rfl,hx⟩|⟨b',cs,rfl,rfl,hq⟩
   ·simp only[BC,uC]at hb;subst hb;exact .inr ⟨by simp[X],rfl⟩
   ·cases hb
   ·cases hb
   ·simp only[BC,uC]at hb;subst hb;exact .inr ⟨List.mem_cons_of_mem _ (List.mem_map.2 ⟨_,hq,rfl⟩),rfl⟩
  ·rcases Ay m v hm with⟨rfl,rfl⟩|⟨i,p,x,rfl,rfl,hp,hx⟩|⟨p,x,rfl,rfl,hx⟩|⟨b',cs,rfl,rfl,hq⟩
   ·simp only[BC,uC]at hb;subst hb;exact Ia o
   ·cases hb
   ·cases hb
   ·simp only[BC,uC]at hb;subst hb;exact Cs.nodata _ _ hq o
 refine⟨trivial,fun c cs _=>?_⟩
 let b:Frame:={ (default:Frame) with fn:=r.fn,kind:=.normal,roundOf:=some l }
 have Ey:Frame.round l r.fn (bZ r.tmps (r.params.toList.zip vs.toList)) r.assign r.body .normal=b.atR a [.code r.assign,.beginRound,.code r.body]:=by
  simp[Frame.round,Frame.atR,b,a]
 obtain⟨w1,fr,⟨a1,k1,j,D',Ag,rfl,hj,hR,⟨q1,q2,q3,q4⟩,Jk⟩,Kc⟩:=hW _ a w b (c::cs) rfl rfl rfl Rl;have Li:=run_endRound (P:=P) j Jk;have Ac:l<w1.heap.size:=(Array.getElem?_eq_some_iff.1 Jk).1;have Au:∀b',b'≠l->(w1.putObj l (.loop (R7 r j))).heap[b']? = w1.heap[b']?:=fun b' hb=>World.putObj_heap_other hb;have Dl:step P (lone (b.atR a1 k1) (c::cs) w1) = .next (lone (c.finish (.bool j.isNone)) cs (w1.putObj l (.loop (R7 r j)))):=by
  cases j with
  | none=>obtain rfl:=hj;exact stepR_round_end rfl rfl Li
  | some jc=>
   cases jc with
   | ret=>obtain⟨k2,rfl⟩:=hj;exact stepR_round_ret rfl rfl Li
   | exit id=>obtain⟨k2,rfl,hx⟩:=hj;exact stepR_round_exit rfl rfl hx Li
   | goto t=>obtain⟨k2,rfl,hx⟩:=hj;exact stepR_round_goto rfl rfl hx Li
   | _=>exact hj.elim
 obtain⟨hnD1,Yk⟩:=KW q2 q3 Jk;have Lp:∀b' o,D' b' o->b'≠l:=fun b' o hd e=>by subst e;exact hnD1 o hd
 have Ah:∀b' o,D' b' o->(w1.putObj l (.loop (R7 r j))).cell? ⟨b',o,none⟩=w1.cell? ⟨b',o,none⟩:=fun b' o hd=>by
  simp only[World.cell?];rw[Au b' (Lp b' o hd)]
 have g2:OW D' w1 D' (w1.putObj l (.loop (R7 r j))):=fun b' o hd=>⟨hd,Ah b' o hd⟩;refine⟨.returned (.bool j.isNone),w1.putObj l (.loop (R7 r j)),⟨j.isNone,D',Ag,R7 r j,rfl,hR,?_,?_,?_,World.putObj_heap_same Ac,fun b' Ai=>?_⟩,?_⟩
 ·refine⟨q1.os,q1.tape,q1.output,by simpa using q1.size,fun b' Ai hn=>?_,q1.grow.trans g2,q1.new⟩;have:b'≠l:=fun e=>hn (by simp[e]);exact (Au b' this).trans (q1.block b' Ai hn)
 ·refine⟨fun b' o hd=>?_,fun g els hg=>?_⟩
  ·obtain⟨v,hv⟩:=q2.there b' o hd;exact⟨v,(Ah b' o hd).trans hv⟩
  ·obtain⟨cap,hr⟩:=q2.globs g els hg;exact⟨cap,hr.mono g2⟩
 ·refine⟨fun b' Cu hm=>?_,q3.nodata,q3.nodup⟩;obtain⟨c',e',h1,h2,h3⟩:=q3.rows b' Cu hm;have Jz:b'≠l:=fun e=>Yk (by rw[<- e];exact List.mem_map.2 ⟨_,hm,rfl⟩);refine⟨c',e',(Au b' Jz).trans h1,h2,fun i x hx=>?_⟩;obtain⟨k1,v,k2,k3⟩:=h3 i x hx;exact⟨k1,v,k2,k3.mono g2⟩
 ·rcases q4 b' Ai with h|h
  ·rcases List.mem_cons.1 h with rfl|h;· exact absurd Ai Yk
   ·exact .inl h
  ·exact .inr h
 ·show StepsIn _ _ _ _;rw[Ey];exact stepsIn_wide.2 (Steps.trans Kc (.head Dl (.refl _ _)))
theorem zdu {gl:AB}{D:Nat->Nat->Prop}{w w':World}(g:OW D w D w')(h:Wf gl D w):Wf gl D w':=by
 refine⟨fun b o hd=>?_,fun i els hg=>?_⟩
 ·obtain⟨v,hv⟩:=h.there b o hd;exact⟨v,(g b o hd).2.trans hv⟩
 ·obtain⟨cap,hr⟩:=h.globs i els hg;exact⟨cap,hr.mono g⟩
theorem YS {D:Nat->Nat->Prop}{w w':World}{φ:BS}(g:OW D w D w')(hb:∀b∈φ.map (·.1),w'.heap[b]? = w.heap[b]?)(h:HeapOK D w φ):HeapOK D w' φ:=by
 refine⟨fun b cs hm=>?_,h.nodata,h.nodup⟩;obtain⟨c,e,h1,h2,h3⟩:=h.rows b cs hm;refine⟨c,e,(hb b (List.mem_map.2 ⟨_,hm,rfl⟩)).trans h1,h2,fun i x hx=>?_⟩;obtain⟨k1,v,k2,k3⟩:=h3 i x hx;exact⟨k1,v,k2,k3.mono g⟩
section
variable {X:Ctx}{s:St}{k:List Item}
theorem RZ (Cw:X.md = .fn){g:Operand}{ps:Array Tmp}{assign body:Code}{f:FuncId}{fi ca:Array Value}(hg:CS X (get s) g=some (.v (.prim (.func (.func f) fi ca))))(Hl:∀v∈fi.toList++ca.toList,D5 v)
  {φ:BS} (Bb:BW (get s) φ) (Aw:(φ.map (·.1)).Nodup) {Y:Nat->Loop->(Nat->Nat->Prop)->World->Prop} {R:BS->Loop->Prop} {SL:List (Nat × DV)} (hSL:∀n x,(n,x)∈SL->get s (.slot n)=some (.one (.v x)))
  (Sy:∀l r,r.state = .ready->r.pending=none->r.params=ps->l∉φ.map (·.1)->ItC X.P X.gl f (fi.toList.map DV.prim++DV.prim (.func (.yield l) #[] #[])::ca.toList.map DV.prim) φ l r (Y l r) R)
  (hY:∀l r D0 w0,r.state = .ready->r.pending=none->r.params=ps->r.fn=X.f->r.tmps.size=X.n->r.assign=assign->r.body=body->l∉φ.map (·.1)->jY D0 w0 r.tmps SL->Y l r D0 w0)
  (Jq:∀Ag r',R Ag r'->r'.state≠.busy)
  (after:∀Ag r',R Ag r'->(∀b∈Ag.map (·.1),b∈φ.map (·.1)\/newB b s)->W X ((r'.pending.map Item.code).toList++k) (D8 (DX s φ) Ag)):W X (.code (.rangeFunc g ps assign body)::k) s:=by
 intro G a w b cs hf hk Hb R0;have hrn:=Hb.trans (zg7 Cw);have hgv:=(BJ (A8 R0 hg)).1
 let r:Loop:={ state:=.ready,pending:=none,fn:=b.fn,tmps:=a.tmps,params:=ps,assign,body,defers:=w.heap.size }
 let w1:World:=(w.alloc (.deferred (some []))).alloc (.loop r)
 have hsz1:w1.heap.size=w.heap.size+2:=by simp[w1]
 have hold:∀b',b'<w.heap.size->w1.heap[b']? = w.heap[b']?:=fun b' hb=>(CX _ _ b' (by simp;omega)).trans (CX w _ b' hb);have Gg:w1.heap[w.heap.size+1]? = some (.loop r):=by
  have:=JP (w.alloc (.deferred (some []))) (.loop r);rw[show (w.alloc (.deferred (some []))).heap.size=w.heap.size+1 from sS]at this;exact this
 have hdef:w1.heap[w.heap.size]? = some (.deferred (some [])):=(CX _ _ _ sS).trans (JP w _)
 have Ux:∀b' o,G.D b' o->w1.cell? ⟨b',o,none⟩=w.cell? ⟨b',o,none⟩:=fun b' o hd=>by
  simp only[World.cell?];rw[hold b' (R0.wf.lt hd)]
 have g1:OW G.D w G.D w1:=fun b' o hd=>⟨hd,Ux b' o hd⟩;have he:(Instr.enterLoop b.fn a.tmps ps assign body b.roundOf).run X.P w = .ok (w.heap.size+1,[U8 w.heap.size]) w1:=by
  rw[hrn];exact run_enterLoop_outer _ _ _ _ _
 have Nk:∀b'∈φ.map (·.1),b'<w.heap.size:=fun b' hb=>by
  obtain⟨⟨b2,Cu⟩,hm,rfl⟩:=List.mem_map.1 hb;exact H9 (R0.holds _ _ (Bb b2 Cu hm)) rfl
 have Hj:w.heap.size+1∉φ.map (·.1):=fun hm=>by have:=Nk _ hm;omega
 have hwf1:=zdu g1 R0.wf;have hh1:=YS g1 (fun b' hb=>hold b' (Nk b' hb)) (TE R0 Bb Aw);obtain⟨Lk,Yd⟩:=Sy (w.heap.size+1) r rfl rfl rfl Hj;have Uc:jY G.D w1 r.tmps SL:=fun n x hm=>RV.mono g1 (R0.holds _ _ (hSL n x hm));have hYr:=hY (w.heap.size+1) r G.D w1 rfl rfl rfl hf R0.size rfl rfl Hj Uc;have Be:(resolve a.eval (rangeCall g (w.heap.size+1)) 0).run X.P w1 = .ok { target:=.fn (.func f) ca,args:=fi++#[.func (.yield (w.heap.size+1)) #[] #[]] } w1:=by
  have e:(#[Operand.const (.func (.yield (w.heap.size+1)) #[] #[])]:Array Operand).map a.eval = #[.func (.yield (w.heap.size+1)) #[] #[]]:=by simp[Act.eval]
  simp only[resolve,rangeCall,e,hgv];rfl
 have hinv:(invoke (.fn (.func f) ca) (fi++#[.func (.yield (w.heap.size+1)) #[] #[]])).run X.P w1 = .ok (.enter f (fi++#[.func (.yield (w.heap.size+1)) #[] #[]]++ca)) w1:=by
  simp only[invoke];exact PZ Lk _ _
 have Ec:=stepR_rangeFunc (P:=X.P) (b:=b) (a:=a) (k:=k) (cs:=cs) (w:=w) he Be hinv
 obtain⟨e,w2,fr,⟨v,D',Ag,r',rfl,hR,hx,Xv,Ws,Jy,u5⟩,Kc,u8,Tu⟩:=Yd G.D w1 (fi++#[.func (.yield (w.heap.size+1)) #[] #[]]++ca) hwf1 (by simp;omega) (by
  have hp:∀v∈(fi++#[Value.func (.yield (w.heap.size+1)) #[] #[]]++ca).toList,D5 v:=by
   intro v hv;simp only[Array.toList_append,List.mem_append]at hv;rcases hv with (hv|hv)|hv;· exact Hl v (List.mem_append.2 (.inl hv))
   ·simp only[List.mem_singleton]at hv;subst hv;trivial
   ·exact Hl v (List.mem_append.2 (.inr hv))
  intro i x v hx hv;have Dd:(fi++#[Value.func (.yield (w.heap.size+1)) #[] #[]]++ca).toList[i]? = some v:=by rw[Array.getElem?_toList];exact hv
  have he:fi.toList.map DV.prim++DV.prim (.func (.yield (w.heap.size+1)) #[] #[])::ca.toList.map DV.prim=((fi++#[Value.func (.yield (w.heap.size+1)) #[] #[]]++ca).toList).map DV.prim:=sS;rw[he,List.getElem?_map,Dd]at hx;cases hx;exact .prim v (hp v (uE Dd))) hh1 Gg hYr (b.atR { a with defers:=[U8 w.heap.size]++a.defers } (.inRangeFunc (w.heap.size+1)::k)::cs)
 have Cm:=step_leave_returned (cs:=cs) (c:=b.atR { a with defers:=[U8 w.heap.size]++a.defers } (.inRangeFunc (w.heap.size+1)::k)) Tu;rw[finish_atR_inRangeFunc]at Cm;have Li:=run_endLoop (P:=X.P) Jy (Jq Ag r' hR);have Uj:=stepR_endRangeFunc (P:=X.P) (b:=b) (a:={ a with defers:=[U8 w.heap.size]++a.defers }) (k:=k) (cs:=cs) Li
 let w3:World:=w2.putObj (w.heap.size+1) (.loop { r' with state:=.exhausted })
 obtain⟨hnD2,hnm2⟩:=KW Xv Ws Jy;have Au:∀b',b'≠w.heap.size+1->w3.heap[b']? = w2.heap[b']?:=fun b' hb=>World.putObj_heap_other hb
 have Nr:∀b' o,D' b' o->w3.cell? ⟨b',o,none⟩=w2.cell? ⟨b',o,none⟩:=fun b' o hd=>by
  simp only[World.cell?];rw[Au b' (fun e=>by subst e;exact hnD2 o hd)]
 have g3:OW D' w2 D' w3:=fun b' o hd=>⟨hd,Nr b' o hd⟩;have hsz3:w.heap.size+2<=w3.heap.size:=by simp only[w3,World.putObj_size];have:=hx.size;omega
 have En:∀b∈φ.map (·.1),∃cs,get s (.heap b)=some (.row (List.map SV.v cs)):=by
  intro b hb;obtain⟨⟨b',Cu⟩,hm,rfl⟩:=List.mem_map.1 hb;exact⟨Cu,Bb b' Cu hm⟩
 have Sx:∀b',b'<w.heap.size->b'∉φ.map (·.1)->w3.heap[b']? = w.heap[b']?:=fun b' hb hn=>by
  refine (Au b' oO).trans ((hx.block b' oO ?_).trans (hold b' hb));simp only[List.mem_cons,not_or];exact⟨oO,hn⟩
 have hD3:w3.heap[w.heap.size]? = some (.deferred (some [])):=by
  refine (Au _ oO).trans ((hx.block _ oO ?_).trans hdef);simp only[List.mem_cons,not_or];exact⟨oO,fun hm=>by have:=Nk _ hm;omega⟩
 have hφD:∀D∈φ.map (·.1),w.heap[D]?≠some (.deferred (some [])):=fun D hm hD=>by
  obtain⟨cs,hg⟩:=En D hm;obtain⟨c,e,h4,_⟩:=R0.holds _ _ hg;rw[hD]at h4;cases h4
 have T:Trans X G a w { D:=D',ν:=G.ν,τ:=G.τ } { a with defers:=[U8 w.heap.size]++a.defers } w3 (fun b'=>b'∈φ.map (·.1)):=by
  refine⟨rfl,fun ⟨Ds,h1,h2,h3⟩=>⟨w.heap.size::Ds,by simp[h1],List.nodup_cons.2 ⟨fun hm=>?_,h2⟩,fun D hD=>?_⟩,hx.os,hx.tape,hx.output,oO,Sx,fun b' hb=>?_,(g1.trans hx.grow).trans g3,fun b' o hd hn=>⟨.inl ?_,?_⟩,R0.nil⟩;· have:=(Array.getElem?_eq_some_iff.1 (h3 _ hm).1).1;omega
  ·rcases List.mem_cons.1 hD with rfl|hD;· exact⟨hD3,R0.ext.size⟩
   ·have h4:=h3 D hD;exact⟨(Sx D (Array.getElem?_eq_some_iff.1 h4.1).1 (fun hm=>hφD D hm h4.1)).trans h4.1,h4.2⟩
  ·obtain⟨cs,hg⟩:=En b' hb;exact (R0.own _ _ b' hg rfl).imp id And.left
  ·have:=hx.new b' o hd hn;omega
  ·obtain⟨u,hu⟩:=Xv.there b' o hd;exact⟨u,(Nr b' o hd).trans hu⟩
 have Bu:∀b'∈Ag.map (·.1),b'∈φ.map (·.1)\/w.heap.size<=b':=fun b' hb=>(u5 b' hb).imp id fun h=>oO;have hh3:HeapOK D' w3 Ag:=YS g3 (fun b' hb=>Au b' (fun e=>by subst e;exact hnm2 hb)) Ws;have R3:Rel X { D:=D',ν:=G.ν,τ:=G.τ } (D8 (DX s φ) Ag) { a with defers:=[U8 w.heap.size]++a.defers } w3:=by
  refine R0.step T (fun m u=>∃b' cs,m = .heap b'/\u = .row (cs.map SV.v)/\(b',cs)∈Ag) (fun m u h=>?_) (fun m u h=>?_) (fun m u m' u' b' h h' hb Ai=>?_)
  ·rcases OB _ _ _ _ h with h|⟨h,Sb⟩;· exact .inl h
   ·obtain⟨h,hn⟩:=RQ _ _ _ _ h;refine .inr ⟨h,fun _ _=>rfl,fun b' hb hB=>?_,fun _ _=>rfl,fun _ _=>rfl⟩;obtain⟨cs,hg⟩:=En b' hB;exact hn b' hB (R0.sep _ _ _ _ b' hg h rfl hb).symm
  ·obtain⟨b',cs,rfl,rfl,hm⟩:=h;refine⟨H3 hh3 hm,fun b2 Ai=>?_⟩;simp only[BC,uC]at Ai;subst Ai;have Kj:b'∈Ag.map (·.1):=List.mem_map.2 ⟨_,hm,rfl⟩;refine⟨(Bu b' Kj).symm,?_,fun _ o=>hh3.nodata b' cs hm o⟩;rcases Bu b' Kj with h1|h1
   ·obtain⟨Cu,hg⟩:=En b' h1;exact R0.own _ _ b' hg rfl
   ·exact .inl (Nat.le_trans R0.ext.size h1)
  ·obtain⟨b1,cs1,rfl,rfl,hm1⟩:=h;obtain⟨b2,cs2,rfl,rfl,hm2⟩:=h';simp only[BC,uC]at hb Ai;rw[hb,Ai]
 obtain⟨w',Jw,h1,h2⟩:=after Ag r' hR (fun b' hb=>(Bu b' hb).imp id fun h=>TI fun u hu=>by
  have Nw:=R0.holds _ _ hu;cases u with
  | row cs=>have:=H9 Nw rfl;omega
  | ob q=>have:=H9 Nw rfl;omega
  | mp q=>have:=H9 Nw rfl;omega
  | one x=>exact Nw.elim
  | tk E n=>exact Nw.elim) _ _ w3 b cs hf hk Hb R3
 exact⟨w',Jw,h1,.head Ec (Steps.trans Kc (.head Cm (.head Uj h2)))⟩
theorem z3u {A:St}{φ Ag:BS}{d l:Nat}{x:DV}{r':Loop}(hA:∀m v,(m,v)∈A->get s m=some v/\m≠.slot d/\m≠.heap l/\∀b∈φ.map (·.1),m≠.heap b)(Aw:(Ag.map (·.1)).Nodup)(hl:l∉Ag.map (·.1))(u5:∀c∈Ag.map (·.1),c∈φ.map (·.1)\/newB c s) :
  v9 ((.slot d,.one (.v x))::(.heap l,.ob r')::(A++DO Ag)) (CM (D8 (DX (CM s (.slot d) (.one (.v x))) φ) Ag) (.heap l) (.ob r')):=by
 have Qq:∀(Ag:BS) (s:St) (b:Nat) (cs:List DV),(Ag.map (·.1)).Nodup->(b,cs)∈Ag->get (D8 s Ag) (.heap b)=some (.row (cs.map SV.v)):=by
  intro Ag
  induction Ag with
  | nil=>intro s b cs _ h;cases h
  | cons p r ih=>
   obtain⟨b0,c0⟩:=p;intro s b cs hn h;simp only[List.map_cons,List.nodup_cons]at hn;simp only[D8,BM];rcases List.mem_cons.1 h with e|h;· cases e;simp
   ·have:b0≠b:=fun e=>hn.1 (by rw[e];exact List.mem_map.2 ⟨_,h,rfl⟩);simp only[Loc.heap.injEq,this,if_false];exact ih s b cs hn.2 h
 have Wl:∀(Ag:BS) (s:St) (m:Loc),(∀b∈Ag.map (·.1),m≠.heap b)->get (D8 s Ag) m=get s m:=by
  intro Ag
  induction Ag with
  | nil=>intro s m _;rfl
  | cons p r ih=>
   obtain⟨b0,c0⟩:=p;intro s m h;simp only[D8,BM];rw[if_neg (fun e=>h b0 sS e.symm)];exact ih s m fun b hb=>h b (by simp[hb])
 have Ys:∀(φ:BS) (s:St) (m:Loc),(∀b∈φ.map (·.1),m≠.heap b)->get (DX s φ) m=get s m:=by
  intro φ
  induction φ with
  | nil=>intro s m _;rfl
  | cons p r ih=>
   obtain⟨b0,c0⟩:=p;intro s m h;simp only[DX];rw[ih _ m fun b hb=>h b (by simp[hb]),O5,if_neg (fun e=>h b0 sS e.symm)]
 intro m v hm;simp only[get]at hm;rw[BM];split at hm
 ·rename_i e;subst e;cases hm;simp only[reduceCtorEq,if_false];rw[Wl _ _ _ sS,Ys _ _ _ sS,BM,if_pos rfl]
 ·rename_i Ju;split at hm
  ·rename_i e;subst e;cases hm;simp
  ·rename_i hhl;rw[if_neg hhl];rw[HS]at hm;rcases Option.or_eq_some_iff.1 hm with hm|⟨-,hm⟩
   ·obtain⟨h1,h2,h3,h4⟩:=hA m v (VW hm);have h5:∀b∈Ag.map (·.1),m≠.heap b:=by
     rintro b hb rfl;rcases u5 b hb with h|h;· exact h4 b h rfl
     ·have key:∀s:St,newB b s->get s (.heap b)=none:=by
       intro s
       induction s with
       | nil=>intro _;rfl
       | cons p r ih=>
        obtain⟨m,u⟩:=p;intro hn;cases m with
        | heap b'=>simp only[newB]at hn;simp only[get,Loc.heap.injEq,hn.1,if_false];exact ih hn.2
        | slot n=>simp only[newB]at hn;simp only[get,reduceCtorEq,if_false];exact ih hn
        | loc n=>simp only[newB]at hn;simp only[get,reduceCtorEq,if_false];exact ih hn
        | tok n=>simp only[newB]at hn;simp only[get,reduceCtorEq,if_false];exact ih hn
      rw[key s h]at h1;cases h1
    rw[Wl _ _ _ h5,Ys _ _ _ h4,BM,if_neg (fun e=>h2 e.symm)];exact h1
   ·obtain⟨b,cs,rfl,rfl,Co⟩:=NC hm;exact Qq _ _ b cs Aw Co
theorem V0 {Ab:List Nat}{ops:Array Oper}{ll:List Oper}{K:St->Prop}{d:Tmp}{y:Operand}{args:Array Operand}{Bo:Array TypeId}{ty:TypeId}{pos:String}{af:Array Edge}{l:Nat}(hy:CS X (get s) y=some (.v (.prim (.func (.yield l) #[] #[]))))
  {ds Ej:List DV} {P:Program} {gl:AB} (hP:X.P=P) (u6:X.gl=gl) {r:Loop} {φ:BS} {R:Bool->BS->Loop->Prop} (hc:YC P gl X.D0 X.w0 l r Ej φ R) (Kp:r.params.size=Ej.length) (u9:GK X (get s) args.toList=some ds) (Dv:ds=Ej) (Bb:BW (get s) φ) (Aw:(φ.map (·.1)).Nodup) (hl:get s (.heap l)=some (.ob r)) (Ci:d<X.n)
  (A:St) (hA:∀m v,(m,v)∈A->get s m=some v/\m≠.slot d/\m≠.heap l/\∀b∈φ.map (·.1),m≠.heap b)
  (h:∀b Ag r',R b Ag r'->(Ag.map (·.1)).Nodup/\l∉Ag.map (·.1)) (hk:∀b Ag r',R b Ag r'->(∀c∈Ag.map (·.1),c∈φ.map (·.1)\/newB c s)->vc X Ab ops ll ((.slot d,.one (.v (.prim (.bool b))))::(.heap l,.ob r')::(A++DO Ag)) K) :
  ZR X Ab ops ll K ⟨some d,.call { callee:=.value y,args:=args,argTypes:=Bo },ty,pos,af,none⟩ s (AZ X Ab s ⟨some d,.call { callee:=.value y,args:=args,argTypes:=Bo },ty,pos,af,none⟩):=by
 subst Dv;have e:AZ X Ab s ⟨some d,.call { callee:=.value y,args:=args,argTypes:=Bo },ty,pos,af,none⟩=none:=by
  simp only[AZ,CY,GP,O6,HT];split <;> rfl
 rw[e];intro n hn G a w R0;obtain⟨h1,h2⟩:=EQ hn;simp only[List.length_cons,List.range'_succ,wpOpsIn,h1,Region.wanted,if_true];refine z3r (o:=⟨some d,.call { callee:=.value y,args:=args,argTypes:=Bo },ty,pos,af,none⟩) rfl hy u9 Kp (by rw[hP,u6];exact hc) Bb Aw hl rfl Ci R0 _ _ fun b Ag r' G' a' w' hR u5 R'=>?_
 have Bu:∀c∈Ag.map (·.1),c∈φ.map (·.1)\/newB c s:=fun c hc=>(u5 c hc).imp id fun hh=>TI fun v hv=>by
  have Nw:=R0.holds _ _ hv;cases v with
  | row cs=>exact hh _ _ hv rfl
  | ob r=>exact hh _ _ hv rfl
  | mp l=>exact hh _ _ hv rfl
  | one x=>exact Nw.elim
  | tk E n=>exact Nw.elim
 exact CU (hk b Ag r' hR Bu) (n+1) h2 G' a' w' (R'.weaken (z3u hA (h b Ag r' hR).1 (h b Ag r' hR).2 Bu))
theorem ZU (φ:BS)(n:Nat):QZ (DO φ) (.slot n)=DO φ:=by
 induction φ with
 | nil=>rfl
 | cons p r ih=>obtain⟨b,cs⟩:=p;simp[DO,QZ,ih]
theorem z3v (d:Nat)(cs:List DV):EC d (cs.map SV.v)=false:=by
 induction cs with
 | nil=>rfl
 | cons c r ih=>simp[EC,G8,ih]
theorem S4 {φ:BS}(hn:(φ.map (·.1)).Nodup):∀{A:St},(∀m v,(m,v)∈A->∀b∈φ.map (·.1),m≠.heap b)->BW (get (A++DO φ)) φ:=by
 intro A hA b cs hm;have h1:get (DO φ) (.heap b)=some (.row (cs.map SV.v)):=by
  induction φ with
  | nil=>cases hm
  | cons p r ih=>
   obtain⟨b0,c0⟩:=p;simp only[List.map_cons,List.nodup_cons]at hn;simp only[DO,get];rcases List.mem_cons.1 hm with e|hm;· cases e;simp
   ·have:b0≠b:=fun e=>hn.1 (by rw[e];exact List.mem_map.2 ⟨_,hm,rfl⟩);simp only[Loc.heap.injEq,this,if_false];exact ih hn.2 (fun m v h b hb=>hA m v h b (by simp[hb])) hm
 rw[HS,h1];cases hq:get A (.heap b) with
 | none=>rfl
 | some v=>exact absurd rfl (hA _ _ (VW hq) b (List.mem_map.2 ⟨_,hm,rfl⟩))
theorem jZ {A A':St}{φ:BS}{kk:List Item}(hA:∀m v,(m,v)∈A'->get A m=some v)(h:W X kk (A'++DO φ))(hd:∀m v,(m,v)∈A->∀b∈φ.map (·.1),m≠.heap b):W X kk (A++DO φ):=by
 intro G a w b cs hf hk hr R;refine h G a w b cs hf hk hr (R.weaken fun m v hm=>?_);rw[HS]at hm ⊢;rcases Option.or_eq_some_iff.1 hm with hm|⟨-,hm⟩;· rw[hA m v (VW hm)];rfl
 ·obtain⟨b,cs,rfl,rfl,Co⟩:=NC hm;cases hq:get A (.heap b) with
  | none=>exact hm
  | some u=>exact absurd rfl (hd _ _ (VW hq) b (List.mem_map.2 ⟨_,Co,rfl⟩))
theorem JQ {φ:BS}{n:Nat}{v:LV}(h:BW (get s) φ):BW (get ((.slot n,v)::s)) φ:=fun b cs hm=>by
 simp only[get,reduceCtorEq,if_false];exact h b cs hm
theorem JR {φ:BS}{n:Nat}{v:LV}(hn:n∉φ.map (·.1))(h:BW (get s) φ):BW (get ((.heap n,v)::s)) φ:=fun b cs hm=>by
 have:n≠b:=fun e=>hn (by rw[e];exact List.mem_map.2 ⟨_,hm,rfl⟩);simp only[get,Loc.heap.injEq,this,if_false];exact h b cs hm
theorem JS {φ:BS}(hn:(φ.map (·.1)).Nodup):BW (get (DO φ)) φ:=S4 (A:=[]) hn sS
theorem B8 {φ:BS}{b:Nat}{cs:List DV}(h:get s (.heap b)=some (.row (cs.map SV.v)))(h':BW (get s) φ):BW (get s) ((b,cs)::φ):=by
 intro b' Cu hm;rcases List.mem_cons.1 hm with e|hm;· cases e;exact h
 ·exact h' b' Cu hm
attribute [go_sem] ZU
end
end
section
section
variable {X:Ctx}{s:St}
theorem OG {E:Nat}:∀{ys:List (List DV)},(∀e∈ys,e.length=E)->∀{k:Nat} {d:DV},ys.flatten[k]? = some d->∃i j e,ys[i]? = some e/\e[j]? = some d/\k=i * E+j
 | [],_,k,d,h=>by simp at h
 | e::r,hE,k,d,h=>by
  have he:=hE e sS;by_cases hk:k<e.length
  ·rw[List.flatten_cons,List.getElem?_append_left hk]at h;exact⟨0,k,e,sS,h,sS⟩
  ·rw[List.flatten_cons,List.getElem?_append_right oO]at h;obtain⟨i,j,e',h1,h2,h3⟩:=OG (fun e he=>hE e (by simp[he])) h;refine⟨i+1,j,e',by simpa using h1,h2,?_⟩;rw[Nat.add_mul];omega
theorem JT {E:Nat}:∀{ys:List (List DV)},(∀e∈ys,e.length=E)->ys.flatten.length=ys.length * E
 | [],_=>sS
 | e::r,hE=>by
  have:=JT (ys:=r) fun e he=>hE e (by simp[he]);rw[List.flatten_cons,List.length_append,this,hE e sS,List.length_cons,Nat.add_mul];omega
def AP (ys:List (List DV)):List SV:=ys.flatten.map SV.v
theorem kA {o:Oper}{x y:Operand}{T T2:TypeId}(ho:o.op = .call { callee:=.builtin .append,args:=#[x,y],argTypes:=#[T,T2] }){d:Nat}(hd:o.dst=some d)(hn:d<X.n)
  {E B:Nat} (he:FI X.P T=some (E,B)) (hB:0<B/\B<=1024) (h2:(E0 X.P T2).isSome=true) (hx:CS X (get s) x=some (.own 0 [])) {ys:List (List DV)} (hy:(CS X (get s) y).bind LN=some ys)
  (Cn:0<ys.length) (Ao:ys.length<=I6) (Db:∀e∈ys,e.length=E) {G:Gh} {a:Act} {w:World} (R:Rel X G s a w) (next:Act->World->Prop) (Q:Exit->Act->World->Prop)
  (hK:∀b cap,ys.length<=cap->newB b s->X.w0.heap.size<=b->∀G' a' w',Rel X G' (CM (CM s (.slot d) (.one (.v (.prim (.slice (some ⟨b,0,none⟩) ys.length cap))))) (.heap b) (.row (AP ys))) a' w'->next a' w') :
  o.wpIn X.F 0 X.P a w next Q:=by
 obtain⟨hv,hr⟩:=jI R hx;rw[R.nil]at hv;obtain⟨q,hq,Ft⟩:=Option.bind_eq_some_iff.1 hy;obtain⟨yb,Qb,Oj,Jc,-⟩:=GQ Ft (A8 R hq);obtain⟨c2,g,g1,g2,g3⟩:=TD Jc Db
 have Tq:∀w':World,w'.heap=w.heap->(Builtin.firstCells E ys.length (a.eval y)).run X.P w' = .ok (YJ g (ys.length * E)) w':=fun w' hw=>by
  refine E5 (D:=G.D) ?_;rcases g3 with h|⟨b,o',cap,h,hc⟩;· exact .inl h
  ·exact .inr ⟨b,o',cap,h,fun k hk=>by rw[IC hw];exact hc k hk⟩
 obtain⟨c,e,nc,r1,r2,r3,r4,r5⟩:=RM (P:=X.P) (t:=T) (ty:=o.type) (t2:=T2) (w:=w) he hB h2 (base:=none) (len:=0) (cap:=0) (old:=#[]) (fun w' _=>LQ (P:=X.P) Jc w') Tq (fun w' _=>by simp[Builtin.firstCells]) oO oO sS (LP _ _);rw[Nat.zero_add]at r1 r2
 have Zk:newB w.heap.size s:=TI fun v hv=>by
  have hh:=R.holds _ _ hv;cases v with
  | row cs=>exact absurd (H9 hh rfl) (Nat.lt_irrefl _)
  | ob r=>exact absurd (H9 hh rfl) (Nat.lt_irrefl _)
  | mp l=>exact absurd (H9 hh rfl) (Nat.lt_irrefl _)
  | one x=>exact hh.elim
  | tk E n=>exact hh.elim
 have Az:(execOp a.eval o).run X.P w = .ok (.value (.slice (some ⟨w.heap.size,0,none⟩) ys.length nc)) (w.drew.alloc (.cells c e)):=by
  have Bh:(Builtin.append_ #[T,T2] o.type #[a.eval x,a.eval y]).run X.P w = .ok (.slice (some ⟨w.heap.size,0,none⟩) ys.length nc) (w.drew.alloc (.cells c e)):=by rw[hv];exact r1
  simp[execOp,ho,resolve,invoke,builtin,Bh]
 refine M5 (by intro c e;rw[ho]at e;cases e) ?_;rw[Az,D1,hd];have hp:=FV a (some d) (.slice (some ⟨w.heap.size,0,none⟩) ys.length nc);have T':Trans X G a w G (a.put (some d) (.slice (some ⟨w.heap.size,0,none⟩) ys.length nc)) (w.drew.alloc (.cells c e)) (fun _=>False):=by
  refine⟨hp.1,fun h=>(h.heap fun b hb=>CX w.drew _ b hb).put hp.2,rfl,rfl,rfl,sS,fun b hb _=>CX w.drew _ b hb,fun _ h=>h.elim,fun b k hD=>⟨hD,World.cell?_alloc_lt w.drew _ _ (R.wf.lt hD)⟩,fun b k hD Ia=>absurd hD Ia,R.nil⟩
 refine hK w.heap.size nc r2 Zk R.ext.size G _ _ ?_;have hlen:=JT Db;refine R.step T' (fun l u=>(l = .slot d/\u = .one (.v (.prim (.slice (some ⟨w.heap.size,0,none⟩) ys.length nc))))\/(l = .heap w.heap.size/\u = .row (AP ys))) (fun l u h=>?_) (fun l u h=>?_) (fun l u l' u' b h h' hb Ai=>?_)
 ·rw[BM,BM]at h;by_cases h1:Loc.heap w.heap.size=l;· rw[if_pos h1]at h;cases h;exact .inl (.inr ⟨h1.symm,rfl⟩)
  ·rw[if_neg h1]at h;by_cases h3:Loc.slot d=l;· rw[if_pos h3]at h;cases h;exact .inl (.inl ⟨h3.symm,rfl⟩)
   ·rw[if_neg h3]at h;exact .inr ⟨h,fun n hn=>FH _ _ _ _ (fun e=>h3 (by rw[hn,e])),fun b hb Qc=>Qc.elim,fun _ _=>rfl,fun _ _=>rfl⟩
 ·rcases h with⟨rfl,rfl⟩|⟨rfl,rfl⟩
  ·refine⟨?_,fun b hb=>by cases hb⟩;show LE G _ (.v _) _;rw[E4 _ _ _ (by rw[R.size];exact hn)];exact .prim _ tT
  ·refine⟨⟨c,e,JP w.drew _,?_,fun i x hx=>?_⟩,fun b hb=>?_⟩
   ·simp only[AP,List.length_map];rw[hlen,r3];exact Nat.mul_le_mul_right _ r2
   ·simp only[AP,List.getElem?_map]at hx;cases Jj:ys.flatten[i]? with
    | none=>rw[Jj]at hx;cases hx
    | some dd=>
     rw[Jj]at hx;cases hx;obtain⟨i1,j1,e1,k1,k2,rfl⟩:=OG Db Jj;have hj:j1<E:=by rw[<- Db e1 (uE k1)];exact (uA k2).1
     have hi:i1<ys.length:=(uA k1).1;refine⟨c2 e1 (uE k1) dd (uE k2),g (i1 * E+j1),?_,(g1 i1 j1 e1 dd k1 k2).mono T'.grow⟩;have:=r5 (i1 * E+j1) (NB hi hj);rw[Nat.zero_mul,Nat.zero_add]at this;rw[this];exact O9 _ _ _ (NB hi hj)
   ·cases hb;exact⟨.inl (Nat.le_refl _),.inl R.ext.size,fun _ o hD=>absurd (R.wf.lt hD) (Nat.lt_irrefl _)⟩
 ·rcases h with⟨rfl,rfl⟩|⟨rfl,rfl⟩;· cases hb
  ·rcases h' with⟨rfl,rfl⟩|⟨rfl,rfl⟩;· cases Ai
   ·rfl
theorem oB {Ab:List Nat}{ops:Array Oper}{l:List Oper}{K:St->Prop}{d:Tmp}{x y:Operand}{T T2 ty:TypeId}{pos:String}{af:Array Edge}{q:Option (Prop × St)}
  {E B:Nat} {ys:List (List DV)} (hx:CS X (get s) x=some (.own 0 [])) (hy:(CS X (get s) y).bind LN=some ys) (he:FI X.P T=some (E,B)) (hB:0<B/\B<=1024) (h2:(E0 X.P T2).isSome=true) (hn:d<X.n)
  (Db:∀e∈ys,e.length=E) (Cn:0<ys.length) (Ao:ys.length<=I6) (hq:q=none)
  (h:∀b cap,ys.length<=cap->newB b s->X.w0.heap.size<=b->vc X Ab ops l (CM (CM s (.slot d) (.one (.v (.prim (.slice (some ⟨b,0,none⟩) ys.length cap))))) (.heap b) (.row (AP ys))) K) :
  ZR X Ab ops l K ⟨some d,.call { callee:=.builtin .append,args:=#[x,y],argTypes:=#[T,T2] },ty,pos,af,none⟩ s q:=by
 subst hq;intro n Ka G a w R0;obtain⟨h1,h3⟩:=EQ Ka;simp only[List.length_cons,List.range'_succ,wpOpsIn,h1,Region.wanted,if_true];refine kA (o:=⟨some d,.call { callee:=.builtin .append,args:=#[x,y],argTypes:=#[T,T2] },ty,pos,af,none⟩) rfl rfl hn he hB h2 hx hy Cn Ao Db R0 _ _ fun b cap hc hb hw G' a' w' R'=>?_;exact CU (h b cap hc hb hw) (n+1) h3 G' a' w' R'
def IR (b:Nat)(ys:List (List DV)):SV->SV
 | .v (.prim (.slice (some ⟨b',0,none⟩) n cap))=>if b' = b/\n=ys.length/\n<=cap then .v (.sl ys) else .v (.prim (.slice (some ⟨b',0,none⟩) n cap))
 | x=>x
def NI (b:Nat)(ys:List (List DV)):List SV->List SV
 | []=>[]
 | x::r=>IR b ys x::NI b ys r
def gD (b:Nat)(ys:List (List DV)):LV->LV
 | .one x=>.one (IR b ys x)
 | .row cs=>.row (NI b ys cs)
 | .tk E n=>.tk E n
 | .ob r=>.ob r
 | .mp l=>.mp l
def frz (b:Nat)(ys:List (List DV)):St->St
 | []=>[]
 | (l,v)::r=>(l,gD b ys v)::frz b ys r
theorem zdw (b:Nat)(ys:List (List DV))(s:St)(l:Loc):get (frz b ys s) l=(get s l).map (gD b ys):=by
 induction s with
 | nil=>rfl
 | cons p r ih=>
  obtain⟨m,v⟩:=p;simp only[frz,get];split;· rfl
  ·exact ih
theorem wH (b:Nat)(ys:List (List DV))(cs:List SV):(NI b ys cs).length=cs.length/\∀i:Nat,(NI b ys cs)[i]? = cs[i]?.map (IR b ys):=by
 induction cs with
 | nil=>simp[NI]
 | cons x r ih=>
  refine⟨by simp[NI,ih.1],fun i=>?_⟩;cases i with
  | zero=>simp[NI]
  | succ i=>simp[NI,ih.2]
theorem YT {b:Nat}{ys:List (List DV)}{G:Gh}{w:World}(Ju:∀cap,ys.length<=cap->RV G.D w (.sl ys) (.slice (some ⟨b,0,none⟩) ys.length cap)){x:SV}{v:Value}(h:LE G w x v):LE G w (IR b ys x) v:=by
 unfold IR;split
 ·rename_i b' n cap;split
  ·rename_i hc;obtain⟨rfl,rfl,Bi⟩:=hc;have:=(BJ h).1;rw[this];exact Ju cap Bi
  ·exact h
 ·exact h
theorem wI {b:Nat}{ys:List (List DV)}{x:SV}(h:x.isCell=true):(IR b ys x).isCell=true:=by
 unfold IR;split;· split <;> rfl
 ·exact h
theorem Rel.told {G:Gh}{a:Act}{w:World}(R:Rel X G s a w)(b:Nat)(ys:List (List DV))(Ju:∀cap,ys.length<=cap->RV G.D w (.sl ys) (.slice (some ⟨b,0,none⟩) ys.length cap)):Rel X G (frz b ys s) a w:=by
 have Ew:∀l v,BC G l (gD b ys v)=BC G l v:=by
  intro l v;cases v <;> cases l <;> rfl
 have Ay:∀l v,get (frz b ys s) l=some v->∃v0,get s l=some v0/\v=gD b ys v0:=by
  intro l v h;rw[zdw]at h;obtain⟨v0,h1,h2⟩:=Option.map_eq_some_iff.1 h;exact⟨v0,h1,h2.symm⟩
 have Ak:∀k cs,LM G w k cs->LM G w k (NI b ys cs):=by
  rintro k cs ⟨c,e,h1,h2,h3⟩;obtain⟨f1,f2⟩:=wH b ys cs;refine⟨c,e,h1,oO,fun i x hx=>?_⟩;rw[f2]at hx;obtain⟨x0,h4,rfl⟩:=Option.map_eq_some_iff.1 hx;obtain⟨k1,v,k2,k3⟩:=h3 i x0 h4;exact⟨wI k1,v,k2,YT Ju k3⟩
 refine⟨R.size,R.defers,R.ext,R.wf,R.nil,fun l v hg=>?_,fun l v l' v' b' hg Fs hb Ai=>?_,fun l v b' hg hb=>?_,fun l v b' o hg hb ht=>?_⟩
 ·obtain⟨v0,h1,rfl⟩:=Ay l v hg;have hh:=R.holds l v0 h1;cases l <;> cases v0 <;> first|exact hh.elim|exact YT Ju hh|exact Ak _ _ hh|exact hh
 ·obtain⟨v0,h1,rfl⟩:=Ay l v hg;obtain⟨v1,h2,rfl⟩:=Ay l' v' Fs;rw[Ew]at hb Ai;exact R.sep l v0 l' v1 b' h1 h2 hb Ai
 ·obtain⟨v0,h1,rfl⟩:=Ay l v hg;rw[Ew]at hb;exact R.own l v0 b' h1 hb
 ·obtain⟨v0,h1,rfl⟩:=Ay l v hg;rw[Ew]at hb;exact R.data l v0 b' o h1 hb ht
theorem Rel.freeze {G:Gh}{a:Act}{w:World}(R:Rel X G s a w){b E:Nat}{ys:List (List DV)}(hE:∀e∈ys,e.length=E)(Ao:ys.length<=I6)(hw:X.w0.heap.size<=b)(Ak:get s (.heap b)=some (.row (AP ys))) :
  ∃G',Rel X G' (frz b ys (QZ s (.heap b))) a w:=by
 obtain⟨c,e,h1,h2,h3⟩:=R.holds _ _ Ak;have hlen:=JT hE;have Ot:(AP ys).length=ys.length * E:=by simp only[AP,List.length_map];exact hlen
 rw[Ot]at h2;have Ah:∀k,w.cell? ⟨b,k,none⟩=c[k]?:=fun k=>by simp[World.cell?,h1]
 let G':Gh:={ D:=FJ G.D b 0 (ys.length * E),ν:=G.ν,τ:=G.τ }
 have T:Trans X G a w G' a w (fun b'=>b' = b):=by
  refine⟨rfl,fun h=>h,rfl,rfl,rfl,Nat.le_refl _,fun _ _ _=>rfl,fun b' hb=>by subst hb;exact .inl hw,fun _ _ hD=>⟨.inl hD,rfl⟩,fun b' k hD Ia=>?_,R.nil⟩;rcases hD with hD|⟨rfl,_,hk⟩;· exact absurd hD Ia
  ·exact⟨.inr ⟨rfl,hw⟩,_,(Ah k).trans (uG oO)⟩
 have R1:Rel X G' (QZ s (.heap b)) a w:=by
  refine R.step T (fun _ _=>False) (fun l u h=>?_) (fun l u h=>h.elim) (fun l u l' u' b h _ _ _=>h.elim);rw[O5]at h;by_cases hl:Loc.heap b=l;· rw[if_pos hl]at h;cases h
  ·rw[if_neg hl]at h;refine .inr ⟨h,fun _ _=>rfl,fun b' Ai he=>?_,fun _ _=>rfl,fun _ _=>rfl⟩;subst he;exact hl (R.sep _ _ _ _ b' Ak h rfl Ai)
 refine⟨G',R1.told b ys fun cap Bi=>?_⟩;have Ay:∀i j e' d,ys[i]? = some e'->e'[j]? = some d->d.isCell=true/\∃v,c[i * E+j]? = some v/\RV G.D w d v:=by
  intro i j e' d hi hj;have hk:ys.flatten[i * E+j]? = some d:=by
   clear h2 h3 Ot hlen Ak R1 T G' Ao Bi
   induction ys generalizing i with
   | nil=>simp at hi
   | cons y r ih=>
    have hy:=hE y sS;cases i with
    | zero=>
     simp at hi;subst hi;have Ol:=(uA hj).1;rw[Nat.zero_mul,Nat.zero_add,List.flatten_cons,List.getElem?_append_left Ol];exact hj
    | succ i=>
     rw[List.flatten_cons,List.getElem?_append_right (by rw[hy,Nat.add_mul];omega),hy];rw[show (i+1) * E+j - E=i * E+j by rw[Nat.add_mul];omega];exact ih (fun e he=>hE e (by simp[he])) i (by simpa using hi)
  obtain⟨k1,v,k2,k3⟩:=h3 (i * E+j) (.v d) (by simp only[AP,List.getElem?_map,hk];rfl);exact⟨k1,v,k2,k3⟩
 refine PX (E:=E) (f:=fun k=>c[k]?.getD undef) Ao Bi hE (fun e' Qk d hd=>?_) (fun k hk=>?_) (fun i j e' d hi hj=>?_)
 ·obtain⟨i,hi⟩:=List.mem_iff_getElem?.1 Qk;obtain⟨j,hj⟩:=List.mem_iff_getElem?.1 hd;exact (Ay i j e' d hi hj).1
 ·have Ac:k<c.size:=oO;refine⟨?_,.inr ⟨rfl,oO,oO⟩⟩;rw[Nat.zero_add,Ah,uG Ac];rfl
 ·obtain⟨-,v,k2,k3⟩:=Ay i j e' d hi hj;simp only[k2,Option.getD_some];exact k3.mono T.grow
theorem oC {b E:Nat}{ys:List (List DV)}{kk:List Item}(Ak:get s (.heap b)=some (.row (AP ys)))(hE:∀e∈ys,e.length=E)(Ao:ys.length<=I6)(hw:X.w0.heap.size<=b)(h:W X kk (frz b ys (QZ s (.heap b)))):W X kk s:=by
 intro G a w b' cs hf Fc hr R;obtain⟨G',R'⟩:=R.freeze hE Ao hw Ak;exact h G' a w b' cs hf Fc hr R'
theorem z00 {E:Nat}{ys:List (List DV)}(hE:∀e∈ys,e.length=E){i:Nat}(hi:i<ys.length){z:List DV}(hz:z.length=E):put (AP ys) (i * E) (z.map SV.v)=AP (ys.set i z):=by
 have hlen:=JT hE;have Ot:(AP ys).length=ys.length * E:=by simp only[AP,List.length_map];exact hlen
 have hle:i * E+(z.map SV.v).length<=(AP ys).length:=by
  rw[Ot,List.length_map,hz]
  calc i * E+E=(i+1) * E:=by rw[Nat.add_mul,Nat.one_mul]
   _<=ys.length * E:=Nat.mul_le_mul_right _ hi
 apply List.ext_getElem?;intro k;rw[VV _ _ _ _ hle];clear hle Ot hlen;simp only[AP,List.length_map,hz,List.getElem?_map]
 induction ys generalizing i k with
 | nil=>simp at hi
 | cons y r ih=>
  have hy:=hE y sS;cases i with
  | zero=>
   simp only[Nat.zero_mul,Nat.zero_le,true_and,Nat.zero_add,Nat.sub_zero,List.set_cons_zero,List.flatten_cons];split
   ·rename_i hk;rw[List.getElem?_append_left oO]
   ·rename_i hk;rw[List.getElem?_append_right oO,List.getElem?_append_right oO,hy,hz]
  | succ i=>
   simp only[List.set_cons_succ,List.flatten_cons];have ih':=ih (fun e he=>hE e (by simp[he])) (i:=i) (by simpa using hi) (k - E);by_cases hk:k<E;· rw[if_neg (by rw[Nat.add_mul];omega),List.getElem?_append_left oO,List.getElem?_append_left oO]
   ·rw[List.getElem?_append_right oO,List.getElem?_append_right oO,hy,<- ih'];have e1:(i+1) * E=i * E+E:=by rw[Nat.add_mul,Nat.one_mul]
    by_cases h2:i * E<=k - E/\k - E<i * E+E
    ·rw[if_pos h2,if_pos oO]
     congr 2;omega
    ·rw[if_neg h2,if_neg oO]
end
end
section
structure Hid (p:Prop):Prop where
 out:p
abbrev sV (n:Nat)(x:DV):Loc × LV:=(.slot n,.one (.v x))
abbrev sP (n:Nat):Loc × LV:=(.slot n,.one (.loc n 0))
abbrev sL (n:Nat)(r:List SV):Loc × LV:=(.loc n,.row r)
abbrev sB (n:Nat)(r:List SV):Loc × LV:=(.heap n,.row r)
@[go_sem] theorem zog (n:Nat) (x:DV):sV n x=(.slot n,.one (.v x)):=rfl
@[go_sem] theorem zoh (n:Nat):sP n=(.slot n,.one (.loc n 0)):=rfl
@[go_sem] theorem zoi (n:Nat) (r:List SV):sL n r=(.loc n,.row r):=rfl
@[go_sem] theorem zoj (n:Nat) (r:List SV):sB n r=(.heap n,.row r):=rfl
theorem j2 {p q:Prop}(a:p)(b:q):p/\q:=⟨a,b⟩
def zl8 (_:List (Nat × Nat)):Prop:=True
theorem wr (l:List (Nat × Nat)):zl8 l:=trivial
theorem BR {q p:Prop}(k:q)(h:Hid q->p:=by
 intro zk;repeat (first|refine DA ?_|refine BX ?_|refine C4 ?_|refine AN ?_|refine B7 ?_|refine CC rfl ?_)
 exact zk.out):p:=h ⟨k⟩
theorem GX {q p:Prop}(k:q)(h:Hid q->p:=by
 intro zk;repeat (first|refine AN ?_|refine BX ?_|refine B7 ?_|refine CC rfl ?_)
 exact zk.out):p:=h ⟨k⟩
theorem I7 {q p:Prop}(k:q)(h:Hid q->p:=by
 intro zk;repeat (refine⟨oO,?_⟩)
 first|refine hK _ ?_|refine⟨by rfl,hK _ ?_⟩
 exact zk.out):p:=h ⟨k⟩
theorem K0 {q p:Prop}(k:q)(h:Hid q->p:=by
 intro zk;simp[go_sem,hP,u6,hn];exact zk.out):p:=h ⟨k⟩
theorem A5 {q p:Prop}(k:q)(h:Hid q->p:=by
 intro zk;repeat (first|refine DA ?_|refine BX ?_|refine C4 ?_|refine AN ?_|refine B7 ?_|refine CC rfl ?_)
 first|refine B4 [] fun K hK=>?_|refine AU (by rw[hP];exact BK) [] fun K hK=>?_
 simp[go_sem,hP,u6,hn];repeat (refine⟨oO,?_⟩)
 first|refine hK _ ?_|refine⟨by rfl,hK _ ?_⟩
 clear hK K;exact zk.out):p:=h ⟨k⟩
theorem A2 {q p:Prop}(k:q)(h:Hid q->p:=by
 intro zk;repeat (first|refine DA ?_|refine BX ?_|refine C4 ?_|refine AN ?_|refine B7 ?_|refine CC rfl ?_|((first|refine B4 [] fun K hK=>?_|refine AU (by rw[hP];exact BK) [] fun K hK=>?_);simp[go_sem,hP,u6,hn];(repeat (refine⟨oO,?_⟩));(first|refine hK _ ?_|refine⟨by rfl,hK _ ?_⟩);clear hK K)|refine BN rfl (fun _=>?_) (fun hq=>False.elim (by first|(simp;done)|(simp;omega)|(simp at hq;done)|(simp at hq;omega)))|refine BN rfl (fun hq=>False.elim (by first|(simp;done)|(simp;omega)|(simp at hq;done)|(simp at hq;omega))) (fun _=>?_))
 exact zk.out):p:=h ⟨k⟩
theorem rW {Bj q p:Prop}(ze:Bj)(k:q)(h:Bj->Hid q->p:=by
 intro ze zk;simp[go_sem,hP,u6,hn,ze];exact zk.out):p:=h ze ⟨k⟩
theorem BZ {Bj q p:Prop}(ze:Bj)(k:q)(h:Bj->Hid q->p:=by
 intro ze zk;repeat (first|refine DA ?_|refine BX ?_|refine C4 ?_|refine AN ?_|refine B7 ?_|refine CC rfl ?_)
 first|refine B4 [] fun K hK=>?_|refine AU (by rw[hP];exact BK) [] fun K hK=>?_
 simp[go_sem,hP,u6,hn,ze];repeat (refine⟨oO,?_⟩)
 first|refine hK _ ?_|refine⟨by rfl,hK _ ?_⟩
 clear hK K;exact zk.out):p:=h ze ⟨k⟩
theorem A7 {Bj q p:Prop}(ze:Bj)(k:q)(h:Bj->Hid q->p:=by
 intro ze zk;repeat (first|refine DA ?_|refine BX ?_|refine C4 ?_|refine AN ?_|refine B7 ?_|refine CC rfl ?_|((first|refine B4 [] fun K hK=>?_|refine AU (by rw[hP];exact BK) [] fun K hK=>?_);simp[go_sem,hP,u6,hn,ze];(repeat (refine⟨oO,?_⟩));(first|refine hK _ ?_|refine⟨by rfl,hK _ ?_⟩);clear hK K)|refine BN rfl (fun _=>?_) (fun hq=>False.elim (by first|(simp[ze];done)|(simp[ze];omega)|(simp[ze]at hq;done)|(simp[ze]at hq;omega)))|refine BN rfl (fun hq=>False.elim (by first|(simp[ze];done)|(simp[ze];omega)|(simp[ze]at hq;done)|(simp[ze]at hq;omega))) (fun _=>?_))
 exact zk.out):p:=h ze ⟨k⟩
theorem t_y {Bj q p:Prop}(ze:Bj)(k:q)(h:Bj->Hid q->p:=by
 intro ze zk;repeat (first|refine DA ?_|refine BX ?_|refine C4 ?_|refine AN ?_|refine B7 ?_|refine CC rfl ?_)
 refine BN rfl ?_ ?_;rotate_left;· intro hq;first|(simp[ze]at hq;done)|(simp[ze]at hq;omega)
 intro _;exact zk.out):p:=h ze ⟨k⟩
theorem t_n {Bj q p:Prop}(ze:Bj)(k:q)(h:Bj->Hid q->p:=by
 intro ze zk;repeat (first|refine DA ?_|refine BX ?_|refine C4 ?_|refine AN ?_|refine B7 ?_|refine CC rfl ?_)
 refine BN rfl ?_ ?_;· intro hq;first|(simp[ze]at hq;done)|(simp[ze]at hq;omega)
 intro _;exact zk.out):p:=h ze ⟨k⟩
theorem AQ {q p:Prop}(k:q)(h:Hid q->p:=by
 intro zk;repeat (first|refine DA ?_|refine BX ?_|refine C4 ?_|refine AN ?_|refine B7 ?_|refine CC rfl ?_)
 refine BN rfl ?_ ?_;rotate_left;· intro h;simp at h;try omega
 intro _;exact zk.out):p:=h ⟨k⟩
theorem B9 {q p:Prop}(k:q)(h:Hid q->p:=by
 intro zk;repeat (first|refine DA ?_|refine BX ?_|refine C4 ?_|refine AN ?_|refine B7 ?_|refine CC rfl ?_)
 refine BN rfl ?_ ?_;· intro h;simp at h;try omega
 intro _;exact zk.out):p:=h ⟨k⟩
theorem F8 {Bj pc q p:Prop}(ze:Bj)(c:pc)(k:q)(h:Bj->pc->Hid q->p:=by
 intro ze c zk;repeat (refine⟨oO,?_⟩)
 first|refine nG hP u6 c (by simp[go_sem,hP,u6,hn,ze]) rfl (by simp[go_sem]) sS (by rw[hn];exact uF rfl) ?_|refine gA (fun _ _=>E8) hP u6 c (by simp[go_sem,hP,u6,hn,ze]) rfl (by simp[go_sem]) sS (by rw[hn];exact uF rfl) ?_|refine z3j hP u6 c (by simp[go_sem,hP,u6,hn,ze]) rfl (by simp[go_sem]) sS (by rw[hn];exact uF rfl) (by simp[go_sem];rfl) (by rw[hn];exact uF rfl) (by simp[go_sem]) ?_|refine vX (fun _ _=>E8) hP u6 c (by simp[go_sem,hP,u6,hn,ze]) rfl (by simp[go_sem]) sS (by rw[hn];exact uF rfl) (by simp[go_sem];rfl) (by rw[hn];exact uF rfl) (by simp[go_sem]) ?_
 simp[go_sem,hP,u6,hn,ze];exact zk.out):p:=h ze c ⟨k⟩
theorem A3 {Bj Ea q p:Prop}(ze:Bj)(c1:Ea)(k:q)(h:Bj->Ea->Hid q->p:=by
 intro ze c1 zk;repeat (first|refine DA ?_|refine BX ?_|refine C4 ?_|refine AN ?_|refine B7 ?_|refine CC rfl ?_)
 first|refine B4 [] fun K hK=>?_|refine AU (by rw[hP];exact BK) [] fun K hK=>?_
 simp[go_sem,hP,u6,hn,ze];refine F8 ze c1 ?_;repeat (refine⟨oO,?_⟩)
 first|refine hK _ ?_|refine⟨by rfl,hK _ ?_⟩
 clear hK K;exact zk.out):p:=h ze c1 ⟨k⟩
theorem BL {Bj Ea Eu q p:Prop}(ze:Bj)(c1:Ea)(c2:Eu)(k:q)(h:Bj->Ea->Eu->Hid q->p:=by
 intro ze c1 c2 zk;repeat (first|refine DA ?_|refine BX ?_|refine C4 ?_|refine AN ?_|refine B7 ?_|refine CC rfl ?_)
 first|refine B4 [] fun K hK=>?_|refine AU (by rw[hP];exact BK) [] fun K hK=>?_
 simp[go_sem,hP,u6,hn,ze];refine F8 ze c1 ?_;refine F8 ze c2 ?_;repeat (refine⟨oO,?_⟩)
 first|refine hK _ ?_|refine⟨by rfl,hK _ ?_⟩
 clear hK K;exact zk.out):p:=h ze c1 c2 ⟨k⟩
theorem F9 {Bj Ea Eu Fq q p:Prop}(ze:Bj)(c1:Ea)(c2:Eu)(c3:Fq)(k:q)(h:Bj->Ea->Eu->Fq->Hid q->p:=by
 intro ze c1 c2 c3 zk;repeat (first|refine DA ?_|refine BX ?_|refine C4 ?_|refine AN ?_|refine B7 ?_|refine CC rfl ?_)
 first|refine B4 [] fun K hK=>?_|refine AU (by rw[hP];exact BK) [] fun K hK=>?_
 simp[go_sem,hP,u6,hn,ze];refine F8 ze c1 ?_;refine F8 ze c2 ?_;refine F8 ze c3 ?_;repeat (refine⟨oO,?_⟩)
 first|refine hK _ ?_|refine⟨by rfl,hK _ ?_⟩
 clear hK K;exact zk.out):p:=h ze c1 c2 c3 ⟨k⟩
theorem IS {Bj Ea Eu Fq Gl q p:Prop}(ze:Bj)(c1:Ea)(c2:Eu)(c3:Fq)(c4:Gl)(k:q)(h:Bj->Ea->Eu->Fq->Gl->Hid q->p:=by
 intro ze c1 c2 c3 c4 zk;repeat (first|refine DA ?_|refine BX ?_|refine C4 ?_|refine AN ?_|refine B7 ?_|refine CC rfl ?_)
 first|refine B4 [] fun K hK=>?_|refine AU (by rw[hP];exact BK) [] fun K hK=>?_
 simp[go_sem,hP,u6,hn,ze];refine F8 ze c1 ?_;refine F8 ze c2 ?_;refine F8 ze c3 ?_;refine F8 ze c4 ?_;repeat (refine⟨oO,?_⟩)
 first|refine hK _ ?_|refine⟨by rfl,hK _ ?_⟩
 clear hK K;exact zk.out):p:=h ze c1 c2 c3 c4 ⟨k⟩
theorem WA {Bj Ea Eu Fq Gl Hn q p:Prop}(ze:Bj)(c1:Ea)(c2:Eu)(c3:Fq)(c4:Gl)(c5:Hn)(k:q)(h:Bj->Ea->Eu->Fq->Gl->Hn->Hid q->p:=by
 intro ze c1 c2 c3 c4 c5 zk;repeat (first|refine DA ?_|refine BX ?_|refine C4 ?_|refine AN ?_|refine B7 ?_|refine CC rfl ?_)
 first|refine B4 [] fun K hK=>?_|refine AU (by rw[hP];exact BK) [] fun K hK=>?_
 simp[go_sem,hP,u6,hn,ze];refine F8 ze c1 ?_;refine F8 ze c2 ?_;refine F8 ze c3 ?_;refine F8 ze c4 ?_;refine F8 ze c5 ?_;repeat (refine⟨oO,?_⟩)
 first|refine hK _ ?_|refine⟨by rfl,hK _ ?_⟩
 clear hK K;exact zk.out):p:=h ze c1 c2 c3 c4 c5 ⟨k⟩
theorem XO {Bj Ea Eu Fq Gl Hn Je q p:Prop}(ze:Bj)(c1:Ea)(c2:Eu)(c3:Fq)(c4:Gl)(c5:Hn)(c6:Je)(k:q)(h:Bj->Ea->Eu->Fq->Gl->Hn->Je->Hid q->p:=by
 intro ze c1 c2 c3 c4 c5 c6 zk;repeat (first|refine DA ?_|refine BX ?_|refine C4 ?_|refine AN ?_|refine B7 ?_|refine CC rfl ?_)
 first|refine B4 [] fun K hK=>?_|refine AU (by rw[hP];exact BK) [] fun K hK=>?_
 simp[go_sem,hP,u6,hn,ze];refine F8 ze c1 ?_;refine F8 ze c2 ?_;refine F8 ze c3 ?_;refine F8 ze c4 ?_;refine F8 ze c5 ?_;refine F8 ze c6 ?_;repeat (refine⟨oO,?_⟩)
 first|refine hK _ ?_|refine⟨by rfl,hK _ ?_⟩
 clear hK K;exact zk.out):p:=h ze c1 c2 c3 c4 c5 c6 ⟨k⟩
theorem cC {Bj Ea Eu Fq Gl Hn Je Kx q p:Prop}(ze:Bj)(c1:Ea)(c2:Eu)(c3:Fq)(c4:Gl)(c5:Hn)(c6:Je)(c7:Kx)(k:q)(h:Bj->Ea->Eu->Fq->Gl->Hn->Je->Kx->Hid q->p:=by
 intro ze c1 c2 c3 c4 c5 c6 c7 zk;repeat (first|refine DA ?_|refine BX ?_|refine C4 ?_|refine AN ?_|refine B7 ?_|refine CC rfl ?_)
 first|refine B4 [] fun K hK=>?_|refine AU (by rw[hP];exact BK) [] fun K hK=>?_
 simp[go_sem,hP,u6,hn,ze];refine F8 ze c1 ?_;refine F8 ze c2 ?_;refine F8 ze c3 ?_;refine F8 ze c4 ?_;refine F8 ze c5 ?_;refine F8 ze c6 ?_;refine F8 ze c7 ?_;repeat (refine⟨oO,?_⟩)
 first|refine hK _ ?_|refine⟨by rfl,hK _ ?_⟩
 clear hK K;exact zk.out):p:=h ze c1 c2 c3 c4 c5 c6 c7 ⟨k⟩
theorem wJ {Bj Ea Eu Fq Gl Hn Je Kx Mo q p:Prop}(ze:Bj)(c1:Ea)(c2:Eu)(c3:Fq)(c4:Gl)(c5:Hn)(c6:Je)(c7:Kx)(c8:Mo)(k:q)(h:Bj->Ea->Eu->Fq->Gl->Hn->Je->Kx->Mo->Hid q->p:=by
 intro ze c1 c2 c3 c4 c5 c6 c7 c8 zk;repeat (first|refine DA ?_|refine BX ?_|refine C4 ?_|refine AN ?_|refine B7 ?_|refine CC rfl ?_)
 first|refine B4 [] fun K hK=>?_|refine AU (by rw[hP];exact BK) [] fun K hK=>?_
 simp[go_sem,hP,u6,hn,ze];refine F8 ze c1 ?_;refine F8 ze c2 ?_;refine F8 ze c3 ?_;refine F8 ze c4 ?_;refine F8 ze c5 ?_;refine F8 ze c6 ?_;refine F8 ze c7 ?_;refine F8 ze c8 ?_;repeat (refine⟨oO,?_⟩)
 first|refine hK _ ?_|refine⟨by rfl,hK _ ?_⟩
 clear hK K;exact zk.out):p:=h ze c1 c2 c3 c4 c5 c6 c7 c8 ⟨k⟩
theorem z8n {Bj Ea Eu Fq Gl Hn Je Kx Mo Sh q p:Prop}(ze:Bj)(c1:Ea)(c2:Eu)(c3:Fq)(c4:Gl)(c5:Hn)(c6:Je)(c7:Kx)(c8:Mo)(c9:Sh)(k:q)(h:Bj->Ea->Eu->Fq->Gl->Hn->Je->Kx->Mo->Sh->Hid q->p:=by
 intro ze c1 c2 c3 c4 c5 c6 c7 c8 c9 zk;repeat (first|refine DA ?_|refine BX ?_|refine C4 ?_|refine AN ?_|refine B7 ?_|refine CC rfl ?_)
 first|refine B4 [] fun K hK=>?_|refine AU (by rw[hP];exact BK) [] fun K hK=>?_
 simp[go_sem,hP,u6,hn,ze];refine F8 ze c1 ?_;refine F8 ze c2 ?_;refine F8 ze c3 ?_;refine F8 ze c4 ?_;refine F8 ze c5 ?_;refine F8 ze c6 ?_;refine F8 ze c7 ?_;refine F8 ze c8 ?_;refine F8 ze c9 ?_;repeat (refine⟨oO,?_⟩)
 first|refine hK _ ?_|refine⟨by rfl,hK _ ?_⟩
 clear hK K;exact zk.out):p:=h ze c1 c2 c3 c4 c5 c6 c7 c8 c9 ⟨k⟩
theorem zgd {Bj Ea Eu Fq Gl Hn Je Kx Mo Sh Od q p:Prop}(ze:Bj)(c1:Ea)(c2:Eu)(c3:Fq)(c4:Gl)(c5:Hn)(c6:Je)(c7:Kx)(c8:Mo)(c9:Sh)(Up:Od)(k:q)(h:Bj->Ea->Eu->Fq->Gl->Hn->Je->Kx->Mo->Sh->Od->Hid q->p:=by
 intro ze c1 c2 c3 c4 c5 c6 c7 c8 c9 Up zk;repeat (first|refine DA ?_|refine BX ?_|refine C4 ?_|refine AN ?_|refine B7 ?_|refine CC rfl ?_)
 first|refine B4 [] fun K hK=>?_|refine AU (by rw[hP];exact BK) [] fun K hK=>?_
 simp[go_sem,hP,u6,hn,ze];refine F8 ze c1 ?_;refine F8 ze c2 ?_;refine F8 ze c3 ?_;refine F8 ze c4 ?_;refine F8 ze c5 ?_;refine F8 ze c6 ?_;refine F8 ze c7 ?_;refine F8 ze c8 ?_;refine F8 ze c9 ?_;refine F8 ze Up ?_;repeat (refine⟨oO,?_⟩)
 first|refine hK _ ?_|refine⟨by rfl,hK _ ?_⟩
 clear hK K;exact zk.out):p:=h ze c1 c2 c3 c4 c5 c6 c7 c8 c9 Up ⟨k⟩
theorem zge {Bj Ea Eu Fq Gl Hn Je Kx Mo Sh Od Xz Xa q p:Prop}(ze:Bj)(c1:Ea)(c2:Eu)(c3:Fq)(c4:Gl)(c5:Hn)(c6:Je)(c7:Kx)(c8:Mo)(c9:Sh)(Up:Od)(c11:Xz)(c12:Xa)(k:q)(h:Bj->Ea->Eu->Fq->Gl->Hn->Je->Kx->Mo->Sh->Od->Xz->Xa->Hid q->p:=by
 intro ze c1 c2 c3 c4 c5 c6 c7 c8 c9 Up c11 c12 zk;repeat (first|refine DA ?_|refine BX ?_|refine C4 ?_|refine AN ?_|refine B7 ?_|refine CC rfl ?_)
 first|refine B4 [] fun K hK=>?_|refine AU (by rw[hP];exact BK) [] fun K hK=>?_
 simp[go_sem,hP,u6,hn,ze];refine F8 ze c1 ?_;refine F8 ze c2 ?_;refine F8 ze c3 ?_;refine F8 ze c4 ?_;refine F8 ze c5 ?_;refine F8 ze c6 ?_;refine F8 ze c7 ?_;refine F8 ze c8 ?_;refine F8 ze c9 ?_;refine F8 ze Up ?_;refine F8 ze c11 ?_;refine F8 ze c12 ?_;repeat (refine⟨oO,?_⟩)
 first|refine hK _ ?_|refine⟨by rfl,hK _ ?_⟩
 clear hK K;exact zk.out):p:=h ze c1 c2 c3 c4 c5 c6 c7 c8 c9 Up c11 c12 ⟨k⟩
theorem CG {pzl pz2 Bj pzt p:Prop}(zl:pzl)(z2:pz2)(ze:Bj)(zt:pzt)(h:pzl->pz2->Bj->pzt->p:=by
 intro zl z2 ze zt;repeat (first|(refine zhy zl (by simp[go_sem]) (by simp[go_sem,z2] <;> omega) (by simp[go_sem]) zt)|refine DA ?_|refine BX ?_|refine C4 ?_|refine AN ?_|refine B7 ?_|refine CC rfl ?_|((first|refine B4 [] fun K hK=>?_|refine AU (by rw[hP];exact BK) [] fun K hK=>?_);simp[go_sem,hP,u6,hn,ze];(repeat (refine⟨oO,?_⟩));(first|refine hK _ ?_|refine⟨by rfl,hK _ ?_⟩);clear hK K)|refine BN rfl (fun _=>?_) (fun hq=>False.elim (by first|(simp[ze];done)|(simp[ze];omega)|(simp[ze]at hq;done)|(simp[ze]at hq;omega)))|refine BN rfl (fun hq=>False.elim (by first|(simp[ze];done)|(simp[ze];omega)|(simp[ze]at hq;done)|(simp[ze]at hq;omega))) (fun _=>?_))):p:=h zl z2 ze zt
theorem EO {q p:Prop}(k:q)(h:Hid q->p:=by
 intro zk;repeat (first|refine DA ?_|refine BX ?_|refine C4 ?_|refine AN ?_|refine B7 ?_|refine CC rfl ?_)
 first|refine bW hP hf u8 hR ?_|refine bX hP hf u8 hR ?_
 exact zk.out):p:=h ⟨k⟩
theorem zl9 {Bj pc q p:Prop}(ze:Bj)(c:pc)(k:q)(h:Bj->pc->Hid q->p:=by
 intro ze c zk;repeat (refine⟨oO,?_⟩)
 first|refine nG hP u6 c (by simp[go_sem,hP,u6,hn,ze]) rfl (by simp[go_sem,hP,u6,hn,ze]) (by simp[ze]) (by rw[hn];exact uF rfl) ?_|refine gA (fun _ _=>E8) hP u6 c (by simp[go_sem,hP,u6,hn,ze]) rfl (by simp[go_sem,hP,u6,hn,ze]) (by simp[ze]) (by rw[hn];exact uF rfl) ?_
 simp[go_sem,hP,u6,hn,ze];exact zk.out):p:=h ze c ⟨k⟩
theorem j3 {pa pb pc:Prop}(a:pa)(b:pb)(c:pc):pa/\pb/\pc:=⟨a,b,c⟩
theorem j4 {pa pb pc pd:Prop}(a:pa)(b:pb)(c:pc)(d:pd):pa/\pb/\pc/\pd:=⟨a,b,c,d⟩
theorem j5 {pa pb pc pd pe:Prop}(a:pa)(b:pb)(c:pc)(d:pd)(e:pe):pa/\pb/\pc/\pd/\pe:=⟨a,b,c,d,e⟩
theorem j6 {pa pb pc pd pe pf:Prop}(a:pa)(b:pb)(c:pc)(d:pd)(e:pe)(f:pf):pa/\pb/\pc/\pd/\pe/\pf:=⟨a,b,c,d,e,f⟩
theorem j7 {pa pb pc pd pe pf pg:Prop}(a:pa)(b:pb)(c:pc)(d:pd)(e:pe)(f:pf)(g:pg):pa/\pb/\pc/\pd/\pe/\pf/\pg:=⟨a,b,c,d,e,f,g⟩
theorem j8 {pa pb pc pd pe pf pg ph:Prop}(a:pa)(b:pb)(c:pc)(d:pd)(e:pe)(f:pf)(g:pg)(h:ph):pa/\pb/\pc/\pd/\pe/\pf/\pg/\ph:=⟨a,b,c,d,e,f,g,h⟩
theorem RH {p:Prop}(h:p:=by simp[Ty.dv,Ty.cells_eq,Ty.kind_mk,Ty.args_mk,Tm.dv,Tm.cells_eq,Tm.kind_mk,Tm.index_mk,Tm.type_mk,Tm.args_mk,Val.dv,Val.cells_eq,Val.kind_mk,Val.num_mk,Val.list_mk,Val.args_mk,Fm.dv,Fm.cells_eq,Fm.kind_mk,Fm.type_mk,Fm.terms_mk,Fm.args_mk,Pf.dv,Pf.cells_eq,Pf.kind_mk,Pf.index_mk,Pf.type_mk,Pf.terms_mk,Pf.forms_mk,Pf.args_mk,AH]):p:=h
theorem AM {p:Prop}(h:p:=by
 repeat (first|refine DA ?_|refine BX ?_|refine C4 ?_|refine AN ?_|refine B7 ?_|refine CC rfl ?_)
 first|refine bW hP hf u8 hR ?_|refine bX hP hf u8 hR ?_
 simp[go_sem,hP,u6,hn] <;> (try omega)):p:=h
theorem AC {Bj p:Prop}(ze:Bj)(h:Bj->p:=by
 intro ze;repeat (first|refine DA ?_|refine BX ?_|refine C4 ?_|refine AN ?_|refine B7 ?_|refine CC rfl ?_)
 first|refine bW hP hf u8 hR ?_|refine bX hP hf u8 hR ?_
 simp[go_sem,hP,u6,hn,ze] <;> (try omega)):p:=h ze
theorem BI {p:Prop}(h:p:=by
 repeat (first|refine DA ?_|refine BX ?_|refine C4 ?_|refine AN ?_|refine B7 ?_|refine CC rfl ?_)
 first|refine bW hP hf u8 hR ?_|refine bX hP hf u8 hR ?_
 simp[go_sem,hP,u6,hn] <;> (try omega);all_goals exact RH):p:=h
theorem AT {Bj p:Prop}(ze:Bj)(h:Bj->p:=by
 intro ze;repeat (first|refine DA ?_|refine BX ?_|refine C4 ?_|refine AN ?_|refine B7 ?_|refine CC rfl ?_)
 first|refine bW hP hf u8 hR ?_|refine bX hP hf u8 hR ?_
 simp[go_sem,hP,u6,hn,ze] <;> (try omega);all_goals exact RH):p:=h ze
theorem AY {Bj p:Prop}(zf0:BS)(ze:Bj)(h:∀zf:BS,zf=zf0->Bj->p:=by
 intro zf zw ze;repeat (first|refine DA ?_|refine BX ?_|refine C4 ?_|refine AN ?_|refine B7 ?_|refine CC rfl ?_)
 first|refine RX hP hf u8 _ zf (by subst zw;first|(simp[go_sem,hP,u6,hn,ze];done)|(simp[go_sem,hP,u6,hn,ze];rfl)) (by subst zw;simp[go_sem,hP,u6,hn,ze]) (by subst zw;simp[ze]) ?_ hR.2|refine z8i hP hf u8 _ zf (by subst zw;first|(simp[go_sem,hP,u6,hn,ze];done)|(simp[go_sem,hP,u6,hn,ze];rfl)) (by subst zw;simp[go_sem,hP,u6,hn,ze]) (by subst zw;simp[ze]) ?_ hR.2
 rw[hR.1];subst zw;refine⟨?_,by simp[ze]⟩;try simp[ze]
 try all_goals exact RH):p:=h zf0 rfl ze
theorem zhy {X:Ctx}{k:List Item}{s s':St}{l:List (Nat × Nat)}(_:zl8 l)(h0:XH l 0=0)(hs:K4 (XH l) s s')(hi:Q0 (XH l) (HB s'))(h:W X k s'):W X k s:=CR l h0 hs hi h
theorem AA {X:Ctx}{k:List Item}{s s':St}{e:Prop}(l:List (Nat × Nat))(ze:e)(h:W X k s')(h0:XH l 0=0:=by simp[go_sem])(hs:e->K4 (XH l) s s':=by
 intro ze;simp[go_sem,ze] <;> omega) (hi:Q0 (XH l) (HB s'):=by simp[go_sem]):W X k s:=CR l h0 (hs ze) hi h
theorem A6 {P:Program}{gl:AB}{f:FuncId}{args:List DV}{φ:BS}{R:DV->BS->Prop}{fn:Func}{body:Code}(hf:P.funcs[f]? = some fn)
  (h:∀X:Ctx,X.P=P->X.gl=gl->X.f=f->X.fn=fn->X.n=fn.ntmps->X.R=R/\X.md = .fn->X.ids=φ.map (·.1)->(∀x∈args,DV.fit x)->W X [.code body] (entry args φ))
  (hb : fn.body = some body := by rfl) (Gi : (fn.name == "runtime.NumGoroutine") = false := by kernel_rfl) (hn : args.length <= fn.ntmps := by exact uF rfl) : Con P gl f args φ R :=
 z15 hf hb Gi hn h
end
section
def AH (l:List Int):List (List DV):=l.map fun n=>[A0 n]
theorem gE {α:Type}(f:α->List DV)(g:α->DV)(hg:∀a,g a = .agg (f a))(l:List α):DV.fit (.sl (l.map f))↔l.length<=I6/\∀a∈l,(g a).fit:=by
 simp only[DV.fit,List.length_map];refine and_congr Iff.rfl ?_;rw[fS];constructor
 ·intro h a ha;obtain⟨i,hi,rfl⟩:=List.mem_iff_getElem.1 ha;rw[hg];show DV.fit.fits _;rw[fits_iff];intro j c hc;exact h i j _ c (by simp[hi]) hc
 ·intro h i j e c he hc;rw[List.getElem?_map]at he;cases hq:l[i]? with
  | none=>simp[hq]at he
  | some a=>
   simp[hq]at he;subst he;have:=h a (uE hq);rw[hg]at this;exact (fits_iff _).1 this j c hc
theorem kB {α:Type}(f:α->List DV)(g:α->DV)(hg:∀a,g a = .agg (f a)){p:α->Prop}(hp:∀a,(g a).fit↔p a)(l:List α):DV.fit (.sl (l.map f))↔l.length<=I6/\∀a∈l,p a:=by
 rw[gE f g hg];simp only[hp]
theorem WB (l:List Int):DV.fit (.sl (AH l))↔l.length<=I6/\∀n∈l,C9 .i64 n:=by
 unfold AH;rw[kB (fun n=>[A0 n]) (fun n=>.agg [A0 n]) (fun _=>rfl) (p:=fun n=>C9 .i64 n) (fun n=>by simp[DV.fit,DV.fit.fits,D5,C9])]
theorem S5 {α:Type}(f:α->α->Bool)(g:List α->List α->Bool)(h0:g [] []=true)(h1:∀a r,g (a::r) []=false)(h2:∀a r,g [] (a::r)=false)(h3:∀a r b t,g (a::r) (b::t)=(f a b&&g r t))(az bs:List α) :
  g az bs=true↔az.length=bs.length/\∀(i:Nat) (a b:α),az[i]? = some a->bs[i]? = some b->f a b=true:=by
 induction az generalizing bs with
 | nil=>cases bs <;> simp[h0,h2]
 | cons a r ih=>
  cases bs with
  | nil=>simp[h1]
  | cons b t=>
   simp only[h3,uH,ih,List.length_cons,Nat.add_right_cancel_iff];constructor
   ·rintro⟨h1,h2,h3⟩;refine⟨h2,fun i x y hx hy=>?_⟩;cases i with
    | zero=>simp at hx hy;subst hx hy;exact h1
    | succ i=>exact h3 i x y (by simpa using hx) (by simpa using hy)
   ·rintro⟨h1,h2⟩;exact⟨h2 0 a b rfl rfl,h1,fun i x y hx hy=>h2 (i+1) x y (by simpa using hx) (by simpa using hy)⟩
theorem IT {α:Type}{f:α->α->Bool}{b:Bool}{az bs:List α}(h:b=true↔az.length=bs.length/\∀(i:Nat) (a b:α),az[i]? = some a->bs[i]? = some b->f a b=true)(ih:∀a∈az,∀b,f a b=true↔a=b):b=true↔az=bs:=by
 rw[h];constructor
 ·rintro⟨h2,h3⟩;apply List.ext_getElem h2;intro i hi hj;exact (ih _ (List.getElem_mem hi) _).1 (h3 i _ _ (uB hi) (uB hj))
 ·rintro rfl;exact⟨rfl,fun i x y hx hy=>by rw[hx]at hy;cases hy;exact (ih x (uE hx) x).2 rfl⟩
theorem YU (l:List Int):(AH l).length=l.length:=by simp[AH]
theorem IU {l:List Int}{i:Nat}{n:Int}(h:l[i]? = some n):(AH l)[i]? = some [A0 n]:=by simp[AH,h]
theorem AK:AH []=[]:=rfl
theorem YV (l m:List Int):AH (l++m)=AH l++AH m:=by simp[AH]
theorem XP (n:Int)(m:List Int):AH (n::m)=[A0 n]::AH m:=rfl
theorem z3w (l:List Int):(∀e∈AH l,e.length=1)=True:=by simp[AH]
attribute [go_sem] YU z3w YV
inductive Ty where
 | mk (kind:Int) (args:List Ty)
namespace Ty
def kind:Ty->Int | .mk x _=>x
def args:Ty->List Ty | .mk _ x=>x
theorem ind {p:Ty->Prop}(h:∀t:Ty,(∀a∈t.args,p a)->p t)(t:Ty):p t:=
 Ty.rec (motive_1:=p) (motive_2:=fun az=>∀a∈az,p a) (fun v0 v1 ih=>h (.mk v0 v1) ih) (fun a ha=>by cases ha)
  (fun a r ha hr b hb=>by
   rcases List.mem_cons.1 hb with rfl|hb;· exact ha
   ·exact hr b hb) t
def cells:Ty->List DV
 | .mk v0 v1=>[A0 v0,.sl (all v1)]
where
 all:List Ty->List (List DV)
  | []=>[]
  | a::r=>cells a::all r
theorem all_map (az:List Ty):cells.all az=az.map cells:=by
 induction az with
 | nil=>rfl
 | cons a r ih=>simp[cells.all,ih]
theorem cells_eq (t:Ty):t.cells=[A0 t.kind,.sl (List.map cells t.args)]:=by
 cases t with
 | mk v0 v1=>simp[cells,kind,args,all_map]
def dv (t:Ty):DV:=.agg t.cells
theorem fold (t:Ty):DV.agg [A0 t.kind,.sl (List.map Ty.cells t.args)]=t.dv:=by rw[Ty.dv,Ty.cells_eq]
theorem cells_mk (kind:Int)(args:List Ty):(mk kind args).cells=[A0 kind,.sl (List.map Ty.cells args)]:=by rw[cells_eq];rfl
theorem fold_mk (kind:Int)(args:List Ty):DV.agg [A0 kind,.sl (List.map Ty.cells args)]=(mk kind args).dv:=by rw[dv,cells_mk]
theorem cellsD_dv (t:Ty):DN t.dv=[A0 t.kind,.sl (List.map Ty.cells t.args)]:=by rw[Ty.dv,DN,Ty.cells_eq]
theorem length_cells (t:Ty):t.cells.length=2:=by rw[cells_eq];rfl
theorem isCell_dv (t:Ty):t.dv.isCell=false:=rfl
theorem isAgg_dv (t:Ty):t.dv.isAgg=true:=rfl
theorem eta (t:Ty):Ty.mk t.kind t.args=t:=by cases t;rfl
theorem kind_mk (kind:Int)(args:List Ty):(mk kind args).kind=kind:=rfl
theorem args_mk (kind:Int)(args:List Ty):(mk kind args).args=args:=rfl
def fit:Ty->Prop
 | .mk v0 v1=>C9 .i64 v0/\v1.length<=I6/\fits v1
where
 fits:List Ty->Prop
  | []=>True
  | a::r=>fit a/\fits r
theorem fits_iff (az:List Ty):fit.fits az↔∀a∈az,a.fit:=by
 induction az with
 | nil=>simp[fit.fits]
 | cons a r ih=>simp[fit.fits,ih]
theorem fit_eq (t:Ty):t.fit↔C9 .i64 t.kind/\t.args.length<=I6/\∀a∈t.args,a.fit:=by
 cases t with
 | mk v0 v1=>simp only[fit,fits_iff,kind,args]
theorem dv_fit (t:Ty):t.dv.fit↔t.fit:=by
 induction t using Ty.ind with
 | h t ih=>
  rw[fit_eq,<- fold];have hs:DV.fit (.sl (t.args.map cells))↔t.args.length<=I6/\∀a∈t.args,a.fit:=by
   rw[gE cells dv (fun _=>rfl)];exact and_congr Iff.rfl ⟨fun h a ha=>(ih a ha).1 (h a ha),fun h a ha=>(ih a ha).2 (h a ha)⟩
  rw[<- hs];simp only[DV.fit,DV.fit.fits,D5,C9,and_true,and_assoc]
def same:Ty->Ty->Bool
 | .mk v0 v1,.mk w0 w1=>v0==w0&&sames v1 w1
where
 sames:List Ty->List Ty->Bool
  | [],[]=>true
  | a::r,b::t=>same a b&&sames r t
  | _,_=>false
theorem sames_iff (az bs:List Ty):same.sames az bs=true↔az.length=bs.length/\∀(i:Nat) (a b:Ty),az[i]? = some a->bs[i]? = some b->a.same b=true:=
 S5 same same.sames rfl (fun _ _=>rfl) (fun _ _=>rfl) (fun _ _ _ _=>rfl) az bs
theorem same_eq (a b:Ty):a.same b=(a.kind==b.kind&&same.sames a.args b.args):=by
 cases a;cases b;rfl
theorem same_iff (a b:Ty):a.same b=true↔a=b:=by
 induction a using Ty.ind generalizing b with
 | h a ih=>
  have hs:same.sames a.args b.args=true↔a.args=b.args:=IT (sames_iff _ _) ih;rw[same_eq];simp only[uH,beq_iff_eq,hs];constructor
  ·intro h;cases a;cases b;simp only[kind,args]at h;simp_all
  ·rintro rfl;simp
theorem sames_eq (az bs:List Ty):same.sames az bs=true↔az=bs:=IT (sames_iff _ _) fun a _=>same_iff a
end Ty
attribute [go_sem] Ty.cells_eq Ty.fold Ty.cellsD_dv Ty.isCell_dv Ty.isAgg_dv Ty.kind_mk Ty.args_mk
inductive Tm where
 | mk (kind:Int) (index:Int) (type:Ty) (args:List Tm)
namespace Tm
def kind:Tm->Int | .mk x _ _ _=>x
def index:Tm->Int | .mk _ x _ _=>x
def type:Tm->Ty | .mk _ _ x _=>x
def args:Tm->List Tm | .mk _ _ _ x=>x
theorem ind {p:Tm->Prop}(h:∀t:Tm,(∀a∈t.args,p a)->p t)(t:Tm):p t:=
 Tm.rec (motive_1:=p) (motive_2:=fun az=>∀a∈az,p a) (fun v0 v1 v2 v3 ih=>h (.mk v0 v1 v2 v3) ih) (fun a ha=>by cases ha)
  (fun a r ha hr b hb=>by
   rcases List.mem_cons.1 hb with rfl|hb;· exact ha
   ·exact hr b hb) t
def cells:Tm->List DV
 | .mk v0 v1 v2 v3=>[A0 v0,A0 v1,A0 v2.kind,.sl (List.map Ty.cells v2.args),.sl (all v3)]
where
 all:List Tm->List (List DV)
  | []=>[]
  | a::r=>cells a::all r
theorem all_map (az:List Tm):cells.all az=az.map cells:=by
 induction az with
 | nil=>rfl
 | cons a r ih=>simp[cells.all,ih]
theorem cells_eq (t:Tm):t.cells=[A0 t.kind,A0 t.index,A0 t.type.kind,.sl (List.map Ty.cells t.type.args),.sl (List.map cells t.args)]:=by
 cases t with
 | mk v0 v1 v2 v3=>simp[cells,kind,index,type,args,all_map]
def dv (t:Tm):DV:=.agg t.cells
theorem fold (t:Tm):DV.agg [A0 t.kind,A0 t.index,A0 t.type.kind,.sl (List.map Ty.cells t.type.args),.sl (List.map Tm.cells t.args)]=t.dv:=by rw[Tm.dv,Tm.cells_eq]
theorem cells_mk (kind:Int)(index:Int)(type:Ty)(args:List Tm):(mk kind index type args).cells=[A0 kind,A0 index,A0 type.kind,.sl (List.map Ty.cells type.args),.sl (List.map Tm.cells args)]:=by rw[cells_eq];rfl
theorem fold_mk (kind:Int)(index:Int)(type:Ty)(args:List Tm):DV.agg [A0 kind,A0 index,A0 type.kind,.sl (List.map Ty.cells type.args),.sl (List.map Tm.cells args)]=(mk kind index type args).dv:=by rw[dv,cells_mk]
theorem cellsD_dv (t:Tm):DN t.dv=[A0 t.kind,A0 t.index,A0 t.type.kind,.sl (List.map Ty.cells t.type.args),.sl (List.map Tm.cells t.args)]:=by rw[Tm.dv,DN,Tm.cells_eq]
theorem length_cells (t:Tm):t.cells.length=5:=by rw[cells_eq];rfl
theorem isCell_dv (t:Tm):t.dv.isCell=false:=rfl
theorem isAgg_dv (t:Tm):t.dv.isAgg=true:=rfl
theorem eta (t:Tm):Tm.mk t.kind t.index t.type t.args=t:=by cases t;rfl
theorem kind_mk (kind:Int)(index:Int)(type:Ty)(args:List Tm):(mk kind index type args).kind=kind:=rfl
theorem index_mk (kind:Int)(index:Int)(type:Ty)(args:List Tm):(mk kind index type args).index=index:=rfl
theorem type_mk (kind:Int)(index:Int)(type:Ty)(args:List Tm):(mk kind index type args).type=type:=rfl
theorem args_mk (kind:Int)(index:Int)(type:Ty)(args:List Tm):(mk kind index type args).args=args:=rfl
def fit:Tm->Prop
 | .mk v0 v1 v2 v3=>C9 .i64 v0/\C9 .i64 v1/\v2.fit/\v3.length<=I6/\fits v3
where
 fits:List Tm->Prop
  | []=>True
  | a::r=>fit a/\fits r
theorem fits_iff (az:List Tm):fit.fits az↔∀a∈az,a.fit:=by
 induction az with
 | nil=>simp[fit.fits]
 | cons a r ih=>simp[fit.fits,ih]
theorem fit_eq (t:Tm):t.fit↔C9 .i64 t.kind/\C9 .i64 t.index/\t.type.fit/\t.args.length<=I6/\∀a∈t.args,a.fit:=by
 cases t with
 | mk v0 v1 v2 v3=>simp only[fit,fits_iff,kind,index,type,args]
theorem dv_fit (t:Tm):t.dv.fit↔t.fit:=by
 induction t using Tm.ind with
 | h t ih=>
  rw[fit_eq,<- fold];have hs:DV.fit (.sl (t.args.map cells))↔t.args.length<=I6/\∀a∈t.args,a.fit:=by
   rw[gE cells dv (fun _=>rfl)];exact and_congr Iff.rfl ⟨fun h a ha=>(ih a ha).1 (h a ha),fun h a ha=>(ih a ha).2 (h a ha)⟩
  have Iy:DV.fit (A0 t.type.kind)/\DV.fit (.sl (List.map Ty.cells t.type.args))↔t.type.fit:=by
   rw[<- Ty.dv_fit,<- Ty.fold];simp only[DV.fit,DV.fit.fits,and_true,and_assoc]
  rw[<- hs,<- Iy];simp only[DV.fit,DV.fit.fits,D5,C9,and_true,and_assoc]
def same:Tm->Tm->Bool
 | .mk v0 v1 v2 v3,.mk w0 w1 w2 w3=>v0==w0&&v1==w1&&v2.same w2&&sames v3 w3
where
 sames:List Tm->List Tm->Bool
  | [],[]=>true
  | a::r,b::t=>same a b&&sames r t
  | _,_=>false
theorem sames_iff (az bs:List Tm):same.sames az bs=true↔az.length=bs.length/\∀(i:Nat) (a b:Tm),az[i]? = some a->bs[i]? = some b->a.same b=true:=
 S5 same same.sames rfl (fun _ _=>rfl) (fun _ _=>rfl) (fun _ _ _ _=>rfl) az bs
theorem same_eq (a b:Tm):a.same b=(a.kind==b.kind&&a.index==b.index&&a.type.same b.type&&same.sames a.args b.args):=by
 cases a;cases b;rfl
theorem same_iff (a b:Tm):a.same b=true↔a=b:=by
 induction a using Tm.ind generalizing b with
 | h a ih=>
  have hs:same.sames a.args b.args=true↔a.args=b.args:=IT (sames_iff _ _) ih;rw[same_eq];simp only[uH,beq_iff_eq,hs,Ty.same_iff];constructor
  ·intro h;cases a;cases b;simp only[kind,index,type,args]at h;simp_all
  ·rintro rfl;simp
theorem sames_eq (az bs:List Tm):same.sames az bs=true↔az=bs:=IT (sames_iff _ _) fun a _=>same_iff a
end Tm
attribute [go_sem] Tm.cells_eq Tm.fold Tm.cellsD_dv Tm.isCell_dv Tm.isAgg_dv Tm.kind_mk Tm.index_mk Tm.type_mk Tm.args_mk
inductive Val where
 | mk (kind:Int) (num:Int) (list:List Int) (args:List Val)
namespace Val
def kind:Val->Int | .mk x _ _ _=>x
def num:Val->Int | .mk _ x _ _=>x
def list:Val->List Int | .mk _ _ x _=>x
def args:Val->List Val | .mk _ _ _ x=>x
theorem ind {p:Val->Prop}(h:∀t:Val,(∀a∈t.args,p a)->p t)(t:Val):p t:=
 Val.rec (motive_1:=p) (motive_2:=fun az=>∀a∈az,p a) (fun v0 v1 v2 v3 ih=>h (.mk v0 v1 v2 v3) ih) (fun a ha=>by cases ha)
  (fun a r ha hr b hb=>by
   rcases List.mem_cons.1 hb with rfl|hb;· exact ha
   ·exact hr b hb) t
def cells:Val->List DV
 | .mk v0 v1 v2 v3=>[A0 v0,A0 v1,.sl (AH v2),.sl (all v3)]
where
 all:List Val->List (List DV)
  | []=>[]
  | a::r=>cells a::all r
theorem all_map (az:List Val):cells.all az=az.map cells:=by
 induction az with
 | nil=>rfl
 | cons a r ih=>simp[cells.all,ih]
theorem cells_eq (t:Val):t.cells=[A0 t.kind,A0 t.num,.sl (AH t.list),.sl (List.map cells t.args)]:=by
 cases t with
 | mk v0 v1 v2 v3=>simp[cells,kind,num,list,args,all_map]
def dv (t:Val):DV:=.agg t.cells
theorem fold (t:Val):DV.agg [A0 t.kind,A0 t.num,.sl (AH t.list),.sl (List.map Val.cells t.args)]=t.dv:=by rw[Val.dv,Val.cells_eq]
theorem cells_mk (kind:Int)(num:Int)(list:List Int)(args:List Val):(mk kind num list args).cells=[A0 kind,A0 num,.sl (AH list),.sl (List.map Val.cells args)]:=by rw[cells_eq];rfl
theorem fold_mk (kind:Int)(num:Int)(list:List Int)(args:List Val):DV.agg [A0 kind,A0 num,.sl (AH list),.sl (List.map Val.cells args)]=(mk kind num list args).dv:=by rw[dv,cells_mk]
theorem cellsD_dv (t:Val):DN t.dv=[A0 t.kind,A0 t.num,.sl (AH t.list),.sl (List.map Val.cells t.args)]:=by rw[Val.dv,DN,Val.cells_eq]
theorem length_cells (t:Val):t.cells.length=4:=by rw[cells_eq];rfl
theorem isCell_dv (t:Val):t.dv.isCell=false:=rfl
theorem isAgg_dv (t:Val):t.dv.isAgg=true:=rfl
theorem eta (t:Val):Val.mk t.kind t.num t.list t.args=t:=by cases t;rfl
theorem kind_mk (kind:Int)(num:Int)(list:List Int)(args:List Val):(mk kind num list args).kind=kind:=rfl
theorem num_mk (kind:Int)(num:Int)(list:List Int)(args:List Val):(mk kind num list args).num=num:=rfl
theorem list_mk (kind:Int)(num:Int)(list:List Int)(args:List Val):(mk kind num list args).list=list:=rfl
theorem args_mk (kind:Int)(num:Int)(list:List Int)(args:List Val):(mk kind num list args).args=args:=rfl
def fit:Val->Prop
 | .mk v0 v1 v2 v3=>C9 .i64 v0/\C9 .i64 v1/\(v2.length<=I6/\∀n∈v2,C9 .i64 n)/\v3.length<=I6/\fits v3
where
 fits:List Val->Prop
  | []=>True
  | a::r=>fit a/\fits r
theorem fits_iff (az:List Val):fit.fits az↔∀a∈az,a.fit:=by
 induction az with
 | nil=>simp[fit.fits]
 | cons a r ih=>simp[fit.fits,ih]
theorem fit_eq (t:Val):t.fit↔C9 .i64 t.kind/\C9 .i64 t.num/\(t.list.length<=I6/\∀n∈t.list,C9 .i64 n)/\t.args.length<=I6/\∀a∈t.args,a.fit:=by
 cases t with
 | mk v0 v1 v2 v3=>simp only[fit,fits_iff,kind,num,list,args]
theorem dv_fit (t:Val):t.dv.fit↔t.fit:=by
 induction t using Val.ind with
 | h t ih=>
  rw[fit_eq,<- fold];have hs:DV.fit (.sl (t.args.map cells))↔t.args.length<=I6/\∀a∈t.args,a.fit:=by
   rw[gE cells dv (fun _=>rfl)];exact and_congr Iff.rfl ⟨fun h a ha=>(ih a ha).1 (h a ha),fun h a ha=>(ih a ha).2 (h a ha)⟩
  rw[<- hs];rw[<- WB t.list];simp only[DV.fit,DV.fit.fits,D5,C9,and_true,and_assoc]
def same:Val->Val->Bool
 | .mk v0 v1 v2 v3,.mk w0 w1 w2 w3=>v0==w0&&v1==w1&&v2==w2&&sames v3 w3
where
 sames:List Val->List Val->Bool
  | [],[]=>true
  | a::r,b::t=>same a b&&sames r t
  | _,_=>false
theorem sames_iff (az bs:List Val):same.sames az bs=true↔az.length=bs.length/\∀(i:Nat) (a b:Val),az[i]? = some a->bs[i]? = some b->a.same b=true:=
 S5 same same.sames rfl (fun _ _=>rfl) (fun _ _=>rfl) (fun _ _ _ _=>rfl) az bs
theorem same_eq (a b:Val):a.same b=(a.kind==b.kind&&a.num==b.num&&a.list==b.list&&same.sames a.args b.args):=by
 cases a;cases b;rfl
theorem same_iff (a b:Val):a.same b=true↔a=b:=by
 induction a using Val.ind generalizing b with
 | h a ih=>
  have hs:same.sames a.args b.args=true↔a.args=b.args:=IT (sames_iff _ _) ih;rw[same_eq];simp only[uH,beq_iff_eq,hs];constructor
  ·intro h;cases a;cases b;simp only[kind,num,list,args]at h;simp_all
  ·rintro rfl;simp
theorem sames_eq (az bs:List Val):same.sames az bs=true↔az=bs:=IT (sames_iff _ _) fun a _=>same_iff a
end Val
attribute [go_sem] Val.cells_eq Val.fold Val.cellsD_dv Val.isCell_dv Val.isAgg_dv Val.kind_mk Val.num_mk Val.list_mk Val.args_mk
inductive Fm where
 | mk (kind:Int) (type:Ty) (terms:List Tm) (args:List Fm)
namespace Fm
def kind:Fm->Int | .mk x _ _ _=>x
def type:Fm->Ty | .mk _ x _ _=>x
def terms:Fm->List Tm | .mk _ _ x _=>x
def args:Fm->List Fm | .mk _ _ _ x=>x
theorem ind {p:Fm->Prop}(h:∀t:Fm,(∀a∈t.args,p a)->p t)(t:Fm):p t:=
 Fm.rec (motive_1:=p) (motive_2:=fun az=>∀a∈az,p a) (fun v0 v1 v2 v3 ih=>h (.mk v0 v1 v2 v3) ih) (fun a ha=>by cases ha)
  (fun a r ha hr b hb=>by
   rcases List.mem_cons.1 hb with rfl|hb;· exact ha
   ·exact hr b hb) t
def cells:Fm->List DV
 | .mk v0 v1 v2 v3=>[A0 v0,A0 v1.kind,.sl (List.map Ty.cells v1.args),.sl (v2.map Tm.cells),.sl (all v3)]
where
 all:List Fm->List (List DV)
  | []=>[]
  | a::r=>cells a::all r
theorem all_map (az:List Fm):cells.all az=az.map cells:=by
 induction az with
 | nil=>rfl
 | cons a r ih=>simp[cells.all,ih]
theorem cells_eq (t:Fm):t.cells=[A0 t.kind,A0 t.type.kind,.sl (List.map Ty.cells t.type.args),.sl (t.terms.map Tm.cells),.sl (List.map cells t.args)]:=by
 cases t with
 | mk v0 v1 v2 v3=>simp[cells,kind,type,terms,args,all_map]
def dv (t:Fm):DV:=.agg t.cells
theorem fold (t:Fm):DV.agg [A0 t.kind,A0 t.type.kind,.sl (List.map Ty.cells t.type.args),.sl (t.terms.map Tm.cells),.sl (List.map Fm.cells t.args)]=t.dv:=by rw[Fm.dv,Fm.cells_eq]
theorem cells_mk (kind:Int)(type:Ty)(terms:List Tm)(args:List Fm):(mk kind type terms args).cells=[A0 kind,A0 type.kind,.sl (List.map Ty.cells type.args),.sl (terms.map Tm.cells),.sl (List.map Fm.cells args)]:=by rw[cells_eq];rfl
theorem fold_mk (kind:Int)(type:Ty)(terms:List Tm)(args:List Fm):DV.agg [A0 kind,A0 type.kind,.sl (List.map Ty.cells type.args),.sl (terms.map Tm.cells),.sl (List.map Fm.cells args)]=(mk kind type terms args).dv:=by rw[dv,cells_mk]
theorem cellsD_dv (t:Fm):DN t.dv=[A0 t.kind,A0 t.type.kind,.sl (List.map Ty.cells t.type.args),.sl (t.terms.map Tm.cells),.sl (List.map Fm.cells t.args)]:=by rw[Fm.dv,DN,Fm.cells_eq]
theorem length_cells (t:Fm):t.cells.length=5:=by rw[cells_eq];rfl
theorem isCell_dv (t:Fm):t.dv.isCell=false:=rfl
theorem isAgg_dv (t:Fm):t.dv.isAgg=true:=rfl
theorem eta (t:Fm):Fm.mk t.kind t.type t.terms t.args=t:=by cases t;rfl
theorem kind_mk (kind:Int)(type:Ty)(terms:List Tm)(args:List Fm):(mk kind type terms args).kind=kind:=rfl
theorem type_mk (kind:Int)(type:Ty)(terms:List Tm)(args:List Fm):(mk kind type terms args).type=type:=rfl
theorem terms_mk (kind:Int)(type:Ty)(terms:List Tm)(args:List Fm):(mk kind type terms args).terms=terms:=rfl
theorem args_mk (kind:Int)(type:Ty)(terms:List Tm)(args:List Fm):(mk kind type terms args).args=args:=rfl
def fit:Fm->Prop
 | .mk v0 v1 v2 v3=>C9 .i64 v0/\v1.fit/\(v2.length<=I6/\∀a∈v2,a.fit)/\v3.length<=I6/\fits v3
where
 fits:List Fm->Prop
  | []=>True
  | a::r=>fit a/\fits r
theorem fits_iff (az:List Fm):fit.fits az↔∀a∈az,a.fit:=by
 induction az with
 | nil=>simp[fit.fits]
 | cons a r ih=>simp[fit.fits,ih]
theorem fit_eq (t:Fm):t.fit↔C9 .i64 t.kind/\t.type.fit/\(t.terms.length<=I6/\∀a∈t.terms,a.fit)/\t.args.length<=I6/\∀a∈t.args,a.fit:=by
 cases t with
 | mk v0 v1 v2 v3=>simp only[fit,fits_iff,kind,type,terms,args]
theorem dv_fit (t:Fm):t.dv.fit↔t.fit:=by
 induction t using Fm.ind with
 | h t ih=>
  rw[fit_eq,<- fold];have hs:DV.fit (.sl (t.args.map cells))↔t.args.length<=I6/\∀a∈t.args,a.fit:=by
   rw[gE cells dv (fun _=>rfl)];exact and_congr Iff.rfl ⟨fun h a ha=>(ih a ha).1 (h a ha),fun h a ha=>(ih a ha).2 (h a ha)⟩
  have Iy:DV.fit (A0 t.type.kind)/\DV.fit (.sl (List.map Ty.cells t.type.args))↔t.type.fit:=by
   rw[<- Ty.dv_fit,<- Ty.fold];simp only[DV.fit,DV.fit.fits,and_true,and_assoc]
  rw[<- hs,<- Iy];rw[<- kB Tm.cells Tm.dv (fun _=>rfl) Tm.dv_fit t.terms];simp only[DV.fit,DV.fit.fits,D5,C9,and_true,and_assoc]
def same:Fm->Fm->Bool
 | .mk v0 v1 v2 v3,.mk w0 w1 w2 w3=>v0==w0&&v1.same w1&&Tm.same.sames v2 w2&&sames v3 w3
where
 sames:List Fm->List Fm->Bool
  | [],[]=>true
  | a::r,b::t=>same a b&&sames r t
  | _,_=>false
theorem sames_iff (az bs:List Fm):same.sames az bs=true↔az.length=bs.length/\∀(i:Nat) (a b:Fm),az[i]? = some a->bs[i]? = some b->a.same b=true:=
 S5 same same.sames rfl (fun _ _=>rfl) (fun _ _=>rfl) (fun _ _ _ _=>rfl) az bs
theorem same_eq (a b:Fm):a.same b=(a.kind==b.kind&&a.type.same b.type&&Tm.same.sames a.terms b.terms&&same.sames a.args b.args):=by
 cases a;cases b;rfl
theorem same_iff (a b:Fm):a.same b=true↔a=b:=by
 induction a using Fm.ind generalizing b with
 | h a ih=>
  have hs:same.sames a.args b.args=true↔a.args=b.args:=IT (sames_iff _ _) ih;rw[same_eq];simp only[uH,beq_iff_eq,hs,Ty.same_iff,Tm.sames_eq];constructor
  ·intro h;cases a;cases b;simp only[kind,type,terms,args]at h;simp_all
  ·rintro rfl;simp
theorem sames_eq (az bs:List Fm):same.sames az bs=true↔az=bs:=IT (sames_iff _ _) fun a _=>same_iff a
end Fm
attribute [go_sem] Fm.cells_eq Fm.fold Fm.cellsD_dv Fm.isCell_dv Fm.isAgg_dv Fm.kind_mk Fm.type_mk Fm.terms_mk Fm.args_mk
inductive Pf where
 | mk (kind:Int) (index:Int) (type:Ty) (terms:List Tm) (forms:List Fm) (args:List Pf)
namespace Pf
def kind:Pf->Int | .mk x _ _ _ _ _=>x
def index:Pf->Int | .mk _ x _ _ _ _=>x
def type:Pf->Ty | .mk _ _ x _ _ _=>x
def terms:Pf->List Tm | .mk _ _ _ x _ _=>x
def forms:Pf->List Fm | .mk _ _ _ _ x _=>x
def args:Pf->List Pf | .mk _ _ _ _ _ x=>x
theorem ind {p:Pf->Prop}(h:∀t:Pf,(∀a∈t.args,p a)->p t)(t:Pf):p t:=
 Pf.rec (motive_1:=p) (motive_2:=fun az=>∀a∈az,p a) (fun v0 v1 v2 v3 v4 v5 ih=>h (.mk v0 v1 v2 v3 v4 v5) ih) (fun a ha=>by cases ha)
  (fun a r ha hr b hb=>by
   rcases List.mem_cons.1 hb with rfl|hb;· exact ha
   ·exact hr b hb) t
def cells:Pf->List DV
 | .mk v0 v1 v2 v3 v4 v5=>[A0 v0,A0 v1,A0 v2.kind,.sl (List.map Ty.cells v2.args),.sl (v3.map Tm.cells),.sl (v4.map Fm.cells),.sl (all v5)]
where
 all:List Pf->List (List DV)
  | []=>[]
  | a::r=>cells a::all r
theorem all_map (az:List Pf):cells.all az=az.map cells:=by
 induction az with
 | nil=>rfl
 | cons a r ih=>simp[cells.all,ih]
theorem cells_eq (t:Pf):t.cells=[A0 t.kind,A0 t.index,A0 t.type.kind,.sl (List.map Ty.cells t.type.args),.sl (t.terms.map Tm.cells),.sl (t.forms.map Fm.cells),.sl (List.map cells t.args)]:=by
 cases t with
 | mk v0 v1 v2 v3 v4 v5=>simp[cells,kind,index,type,terms,forms,args,all_map]
def dv (t:Pf):DV:=.agg t.cells
theorem fold (t:Pf):DV.agg [A0 t.kind,A0 t.index,A0 t.type.kind,.sl (List.map Ty.cells t.type.args),.sl (t.terms.map Tm.cells),.sl (t.forms.map Fm.cells),.sl (List.map Pf.cells t.args)]=t.dv:=by rw[Pf.dv,Pf.cells_eq]
theorem cells_mk (kind:Int)(index:Int)(type:Ty)(terms:List Tm)(forms:List Fm)(args:List Pf):(mk kind index type terms forms args).cells=[A0 kind,A0 index,A0 type.kind,.sl (List.map Ty.cells type.args),.sl (terms.map Tm.cells),.sl (forms.map Fm.cells),.sl (List.map Pf.cells args)]:=by rw[cells_eq];rfl
theorem fold_mk (kind:Int)(index:Int)(type:Ty)(terms:List Tm)(forms:List Fm)(args:List Pf):DV.agg [A0 kind,A0 index,A0 type.kind,.sl (List.map Ty.cells type.args),.sl (terms.map Tm.cells),.sl (forms.map Fm.cells),.sl (List.map Pf.cells args)]=(mk kind index type terms forms args).dv:=by rw[dv,cells_mk]
theorem cellsD_dv (t:Pf):DN t.dv=[A0 t.kind,A0 t.index,A0 t.type.kind,.sl (List.map Ty.cells t.type.args),.sl (t.terms.map Tm.cells),.sl (t.forms.map Fm.cells),.sl (List.map Pf.cells t.args)]:=by rw[Pf.dv,DN,Pf.cells_eq]
theorem length_cells (t:Pf):t.cells.length=7:=by rw[cells_eq];rfl
theorem isCell_dv (t:Pf):t.dv.isCell=false:=rfl
theorem isAgg_dv (t:Pf):t.dv.isAgg=true:=rfl
theorem eta (t:Pf):Pf.mk t.kind t.index t.type t.terms t.forms t.args=t:=by cases t;rfl
theorem kind_mk (kind:Int)(index:Int)(type:Ty)(terms:List Tm)(forms:List Fm)(args:List Pf):(mk kind index type terms forms args).kind=kind:=rfl
theorem index_mk (kind:Int)(index:Int)(type:Ty)(terms:List Tm)(forms:List Fm)(args:List Pf):(mk kind index type terms forms args).index=index:=rfl
theorem type_mk (kind:Int)(index:Int)(type:Ty)(terms:List Tm)(forms:List Fm)(args:List Pf):(mk kind index type terms forms args).type=type:=rfl
theorem terms_mk (kind:Int)(index:Int)(type:Ty)(terms:List Tm)(forms:List Fm)(args:List Pf):(mk kind index type terms forms args).terms=terms:=rfl
theorem forms_mk (kind:Int)(index:Int)(type:Ty)(terms:List Tm)(forms:List Fm)(args:List Pf):(mk kind index type terms forms args).forms=forms:=rfl
theorem args_mk (kind:Int)(index:Int)(type:Ty)(terms:List Tm)(forms:List Fm)(args:List Pf):(mk kind index type terms forms args).args=args:=rfl
def fit:Pf->Prop
 | .mk v0 v1 v2 v3 v4 v5=>C9 .i64 v0/\C9 .i64 v1/\v2.fit/\(v3.length<=I6/\∀a∈v3,a.fit)/\(v4.length<=I6/\∀a∈v4,a.fit)/\v5.length<=I6/\fits v5
where
 fits:List Pf->Prop
  | []=>True
  | a::r=>fit a/\fits r
theorem fits_iff (az:List Pf):fit.fits az↔∀a∈az,a.fit:=by
 induction az with
 | nil=>simp[fit.fits]
 | cons a r ih=>simp[fit.fits,ih]
theorem fit_eq (t:Pf):t.fit↔C9 .i64 t.kind/\C9 .i64 t.index/\t.type.fit/\(t.terms.length<=I6/\∀a∈t.terms,a.fit)/\(t.forms.length<=I6/\∀a∈t.forms,a.fit)/\t.args.length<=I6/\∀a∈t.args,a.fit:=by
 cases t with
 | mk v0 v1 v2 v3 v4 v5=>simp only[fit,fits_iff,kind,index,type,terms,forms,args]
theorem dv_fit (t:Pf):t.dv.fit↔t.fit:=by
 induction t using Pf.ind with
 | h t ih=>
  rw[fit_eq,<- fold];have hs:DV.fit (.sl (t.args.map cells))↔t.args.length<=I6/\∀a∈t.args,a.fit:=by
   rw[gE cells dv (fun _=>rfl)];exact and_congr Iff.rfl ⟨fun h a ha=>(ih a ha).1 (h a ha),fun h a ha=>(ih a ha).2 (h a ha)⟩
  have Iy:DV.fit (A0 t.type.kind)/\DV.fit (.sl (List.map Ty.cells t.type.args))↔t.type.fit:=by
   rw[<- Ty.dv_fit,<- Ty.fold];simp only[DV.fit,DV.fit.fits,and_true,and_assoc]
  rw[<- hs,<- Iy];rw[<- kB Tm.cells Tm.dv (fun _=>rfl) Tm.dv_fit t.terms];rw[<- kB Fm.cells Fm.dv (fun _=>rfl) Fm.dv_fit t.forms];simp only[DV.fit,DV.fit.fits,D5,C9,and_true,and_assoc]
def same:Pf->Pf->Bool
 | .mk v0 v1 v2 v3 v4 v5,.mk w0 w1 w2 w3 w4 w5=>v0==w0&&v1==w1&&v2.same w2&&Tm.same.sames v3 w3&&Fm.same.sames v4 w4&&sames v5 w5
where
 sames:List Pf->List Pf->Bool
  | [],[]=>true
  | a::r,b::t=>same a b&&sames r t
  | _,_=>false
theorem sames_iff (az bs:List Pf):same.sames az bs=true↔az.length=bs.length/\∀(i:Nat) (a b:Pf),az[i]? = some a->bs[i]? = some b->a.same b=true:=
 S5 same same.sames rfl (fun _ _=>rfl) (fun _ _=>rfl) (fun _ _ _ _=>rfl) az bs
theorem same_eq (a b:Pf):a.same b=(a.kind==b.kind&&a.index==b.index&&a.type.same b.type&&Tm.same.sames a.terms b.terms&&Fm.same.sames a.forms b.forms&&same.sames a.args b.args):=by
 cases a;cases b;rfl
theorem same_iff (a b:Pf):a.same b=true↔a=b:=by
 induction a using Pf.ind generalizing b with
 | h a ih=>
  have hs:same.sames a.args b.args=true↔a.args=b.args:=IT (sames_iff _ _) ih;rw[same_eq];simp only[uH,beq_iff_eq,hs,Ty.same_iff,Tm.sames_eq,Fm.sames_eq];constructor
  ·intro h;cases a;cases b;simp only[kind,index,type,terms,forms,args]at h;simp_all
  ·rintro rfl;simp
theorem sames_eq (az bs:List Pf):same.sames az bs=true↔az=bs:=IT (sames_iff _ _) fun a _=>same_iff a
end Pf
attribute [go_sem] Pf.cells_eq Pf.fold Pf.cellsD_dv Pf.isCell_dv Pf.isAgg_dv Pf.kind_mk Pf.index_mk Pf.type_mk Pf.terms_mk Pf.forms_mk Pf.args_mk
end
end Go.Proofs.YtkfiobkjflmchaaGreatDoor.Lift
