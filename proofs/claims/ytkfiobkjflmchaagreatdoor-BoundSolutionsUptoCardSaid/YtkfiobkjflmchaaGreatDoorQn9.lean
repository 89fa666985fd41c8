import Derived.Test.YtkfiobkjflmchaaGreatDoorQn8
set_option maxHeartbeats 8000000
set_option maxRecDepth 100000
set_option linter.unusedSimpArgs false
set_option linter.unusedVariables false
set_option linter.unnecessarySimpa false
namespace Go.Proofs.YtkfiobkjflmchaaGreatDoor.Lift
open Go
section
variable {gl:AB}
abbrev bn (n:Int):List DV:=[.sl [],.sl [],A0 n]
theorem GS (b:Nat)(n:Int)(h0:0<=n)(h1:n<=1099511627776):cT gl 89 [DP b] [(b,bn n)] (A0 (n+1)) [(b,bn (n+1))]:=by
 refine A6 Tryz.func89 ?_;intro X hP u6 hf u8 hn hR u5 u4;refine A2 ?_;exact AY [(b,bn (n+1))] tT
theorem XU (l:List Tm)(t:Tm)(hl:l.length<=1000000):cT gl 198 [.sl (l.map Tm.cells),t.dv] [] (.sl ((l++[t]).map Tm.cells)) []:=by
 refine A6 Tryz.func198 ?_;intro X hP u6 hf u8 hn hR u5 u4;have Ap:=Tm.cells_eq t;refine A7 @Ap ?_;exact AC @Ap
theorem NQ (s:Ty)(n:Int)(t:Tm):cT gl 138 [s.dv,A0 n,t.dv] [] (Tm.mk 2 n s [t]).dv []:=by
 refine A6 Tryz.func138 ?_;intro X hP u6 hf u8 hn hR u5 u4;have Ap:=Tm.cells_eq t;refine A7 @Ap ?_;exact AT @Ap
theorem z4k (t:Tm)(hc:t.count<=1073741824):cT gl 143 [t.dv] [] (A0 t.count) []:=by
 induction t using Tm.ind with
 | h t ih=>
 refine A6 Tryz.func143 ?_;intro X hP u6 hf u8 hn hR u5 u4;have Jk:=Tm.fit_len (u4 t.dv sS);have Cd:=Tm.count_eq t;refine A2 ?_;refine BR ?_;refine CR [] (by simp[go_sem]) (by simp[go_sem,Tm.count.counts] <;> omega) (by simp[go_sem]) (CD (t.args) (fun done rest=>[sP 1,sL 1 [.v (A0 t.kind),.v (A0 t.index),.v (A0 t.type.kind),.v (.sl (t.type.args.map Ty.cells)),.v (.sl (t.args.map Tm.cells))],sV 2 (A0 0),sV 3 (A0 (1+Tm.count.counts done:Nat)),sV 4 (A0 done.length)]) ?_ ?_)
 ·intro done x rest hL Ad u7;have Ac:done.length<t.args.length:=by rw[hL];simp
  have Aj:=uE Ad;have If:=Tm.counts_append done (x::rest);have Bp:=Tm.counts_append done [x];rw[<- hL]at If;simp only[Tm.count.counts]at If Bp;have w:=ih x Aj oO;have Dx:=Tm.fold x;refine A5 ?_;refine AQ ?_;refine A7 @Ad ?_;refine A3 (j2 @Ad @Dx) w ?_;refine CG (wr []) @Bp tT u7
 ·refine A5 ?_;refine B9 ?_;refine A2 ?_;exact AC @Cd
theorem dK (v:List Tm):∀(l:List Tm) (n:Int),(B0.namesR v n l).1.length=l.length
 | [],_=>rfl
 | x::r,n=>by simp only[B0.namesR,List.length_cons,dK v r]
theorem TR (b:Nat)(t:Tm)(ht:t.shape=true):∀(v:List Tm) (n:Int),t.closedN v.length=true->0<=n->n+(t.count:Int)<=1099511627776->v.length+t.count<=1000000 ->
  cT gl 135 [DP b,t.dv,.sl (v.map Tm.cells)] [(b,bn n)] (B0 v n t).1.dv [(b,bn (B0 v n t).2)]:=by
 induction t using Tm.ind with
 | h t ih=>
 intro v n Bn Ik Yf hl;obtain⟨ha,hi,hv,Al,hs⟩:=Tm.shape_node ht;have Ap:=Tm.count_eq t;have As:=Tm.fold t;rw[LX];rw[Tm.closedN_eq]at Bn;by_cases h1:t.kind=1
 ·rw[if_pos h1];rw[if_pos h1]at Bn;have Bn:=of_decide_eq_true (Bool.and_eq_true_iff.1 Bn).2;have Ac:v.length - 1 - t.index.toNat<v.length:=oO;have hx:=uB Ac;rw[List.getD_eq_getElem?_getD,hx,Option.getD_some];generalize v[v.length - 1 - t.index.toNat]=x at *;have Cp:v[(v.length - 1 - t.index:Int).toNat]? = some x:=by rw[<- hx];congr 1;omega
  have Zr:v.length<=1000000:=oO;have Br:=Tm.cells_eq x;have Sy:t.index<(v.length:Int):=oO;refine A6 Tryz.func135 ?_;intro X hP u6 hf u8 hn hR u5 u4;refine A7 (j5 @h1 @Cp @Sy @hi @Zr) ?_;exact AY [(b,bn n)] @Br
 rw[if_neg h1];rw[if_neg h1]at Bn;by_cases h2:t.kind=2
 ·rw[if_pos h2];rw[h2]at ha
  obtain⟨y,hy⟩:∃y,t.args=[y]:=by
   match hh:t.args,ha with
   | [y],_=>exact⟨y,rfl⟩
  have Zt:y∈t.args:=by rw[hy];simp
  have Dh:=Tm.count_mem Zt;have Kk:y.closedN (v++[vT (n+1)]).length=true:=by
   have:=(Tm.closeds_iff _ _).1 Bn y Zt;rw[if_pos h2]at this;rw[List.length_append];exact this
  rw[hy];have w1:=GS (gl:=gl) b n Ik oO;have w2:=SI (gl:=gl) (n+1);have w3:=XU (gl:=gl) v (vT (n+1)) oO;have w4:=ih y Zt (hs y Zt) (v++[vT (n+1)]) (n+1) Kk oO oO (by rw[List.length_append];show v.length+1+y.count<=_;omega);show RC _ _ _ _ _ (Tm.mk 2 (n+1) t.type [(B0 (v++[vT (n+1)]) (n+1) y).1]).dv [(b,bn (B0 (v++[vT (n+1)]) (n+1) y).2)];generalize B0 (v++[vT (n+1)]) (n+1) y=r at *;obtain⟨r1,r2⟩:=r;simp only at w4 ⊢;have Ad:t.args[0]? = some y:=by rw[hy];rfl
  have Fg:=Tm.fold y;have Vn:=Tm.cells_eq r1;have Fa:(vT (n+1)).dv=(Tm.mk 1 (n+1) (Ty.mk 0 []) []).dv:=rfl;have Te:(vT (n+1)).dv = .agg [A0 1,A0 (n+1),A0 0,.sl [],.sl []]:=rfl;have hv3:(Tm.mk 1 (n+1) (Ty.mk 0 []) []).dv = .agg [A0 1,A0 (n+1),A0 0,.sl [],.sl []]:=rfl;rw[hv3]at w2;rw[Te]at w3;generalize (v++[vT (n+1)]).map Tm.cells=V2 at *;refine A6 Tryz.func135 ?_;intro X hP u6 hf u8 hn hR u5 u4;refine A7 @h2 ?_;refine A3 tT w1 ?_;refine A2 ?_;refine F9 (j2 @Ad @Fg) w2 w3 w4 ?_;refine A2 ?_;exact AY [(b,bn r2)] (j2 @Vn @h2)
 rw[if_neg h2];have Bn:=(Tm.closeds_iff _ _).1 Bn;rw[if_neg h2]at Bn;have hlen:=dK v;have Un:B0.namesR v n []=([],n):=rfl;have hga:t.args.length<=3:=by
  have:AO t.kind<=3:=by unfold AO;(repeat' split) <;> omega
  omega
 refine A6 Tryz.func135 ?_;intro X hP u6 hf u8 hn hR u5 u4;refine A7 (j2 @h1 @h2) ?_;refine BR ?_;refine AA [(1007,0)] @Un (CD (t.args) (fun done rest=>[sV 0 (DP b),sV 2 (.sl (v.map Tm.cells)),sP 4,sL 4 [.v (A0 t.kind),.v (A0 t.index),.v (A0 t.type.kind),.v (.sl (t.type.args.map Ty.cells)),.v (.sl (t.args.map Tm.cells))],sP 6,sL 6 [.v (A0 0),.v (A0 0),.v (A0 0),.own 0 [],.own 0 []],sP 7,sL 7 [.v (A0 t.kind),.v (A0 0),.v (A0 t.type.kind),.v (.sl (t.type.args.map Ty.cells)),.own 1007 ((B0.namesR v n done).1.map Tm.cells)],(.tok 1007,.tk 5 done.length),sV 8 (A0 done.length),sB  b [.v (.sl []),.v (.sl []),.v (A0 (B0.namesR v n done).2)]]) ?_ ?_)
 ·intro done x rest hL Ad u7;have Ac:done.length<t.args.length:=by rw[hL];simp
  have Aj:=uE Ad;have Br:=Tm.count_mem Aj;have If:=Tm.counts_append done (x::rest);rw[<- hL]at If;simp only[Tm.count.counts]at If;obtain⟨d1,d2⟩:=oW v done n;have hclx:x.closedN v.length=true:=Bn x Aj;have w:=ih x Aj (hs x Aj) v (B0.namesR v n done).2 hclx oO oO oO;have Nl:=Z3 v x done n;rw[Nl,List.map_append]at u7;have hld:=hlen done n;have Dx:=Tm.fold x;generalize B0.namesR v n done=q at *;obtain⟨q1,q2⟩:=q;simp only at w u7 hld ⊢;generalize B0 v q2 x=r at *;obtain⟨r1,r2⟩:=r;simp only[List.map_cons,List.map_nil]at w u7 ⊢;have Vn:=Tm.cells_eq r1;rw[Vn]at u7;have hlq:(q1.map Tm.cells).length=done.length:=by rw[List.length_map,hld]
  have hwq:∀e∈q1.map Tm.cells,e.length=5:=by
   intro e he;obtain⟨z,_,rfl⟩:=List.mem_map.1 he;exact Tm.length_cells z
  have Bw:done.length<=2147483647:=oO;generalize q1.map Tm.cells=Q at *;refine A5 ?_;refine AQ ?_;refine A7 @Ad ?_;refine A3 (j5 @Ad @Dx @hlq @hwq @Bw) w ?_;refine CG (wr [(1007,64)]) (j3 @hlq @hwq @Bw) tT u7
 ·refine A5 ?_;refine B9 ?_;refine A2 ?_;exact AY [(b,bn (B0.namesR v n t.args).2)] tT
theorem pM {s:List Int}{n:Int}(h:∀k:Nat,s[k]?≠some n):V4 s n=none:=by
 unfold V4;rw[List.find?_eq_none];intro x _
 simpa using h x
theorem xW (t:Tm):∀(s:List Int),s.length+t.count<=1000000->cT gl 35 [t.dv,.sl (AH s)] [] (HF s t).dv []:=by
 induction t using Tm.ind with
 | h t ih=>
 intro s hl;have Ap:=Tm.count_eq t;have As:=Tm.fold t;rw[KZ];have hls:s.length<=1000000:=oO;have Tx:(AH s).length=s.length:=by simp[AH]
 by_cases h1:t.kind=1
 ·rw[if_pos h1];refine A6 Tryz.func35 ?_;intro X hP u6 hf u8 hn hR u5 u4;refine A7 (j2 @h1 @Tx) ?_;refine BR ?_;refine AA [] @Tx (E6 (fun j:Nat=>j<=s.length/\∀k,j<=k->s[k]?≠some t.index) (fun j:Nat=>[sV 1 (.sl (AH s)),sP 2,sL 2 [.v (A0 t.kind),.v (A0 t.index),.v (A0 t.type.kind),.v (.sl (t.type.args.map Ty.cells)),.v (.sl (t.args.map Tm.cells))],sP 4,sL 4 [.v (A0 0),.v (A0 0),.v (A0 0),.own 0 [],.own 0 []],sV 5 (A0 ((j:Int) - 1))]) (fun j:Nat=>j) s.length (⟨Nat.le_refl _,fun k hk=>by rw[List.getElem?_eq_none hk];intro h;cases h⟩) ?_);intro j hj Cg;obtain⟨i1,i2⟩:=hj;cases j with
  | zero=>
   have hN:=pM (s:=s) (n:=t.index) (fun k=>i2 k (Nat.zero_le _));rw[hN]at hR;generalize t.kind=tk at *;subst h1;refine A2 ?_;exact BI
  | succ j=>
   have Ol:j<s.length:=oO;have hgx:(AH s)[j]? = some [A0 s[j]]:=by simp[AH,uB Ol]
   have Wu:(0:Int)<=j:=oO;by_cases he:s[j]=t.index
   ·have hS:=YY (s:=s) (n:=t.index) (j:=j) (by rw[uB Ol,he]) (fun k hk=>i2 k oO);rw[hS]at hR;have Fa:(vT ((s.length:Int) - 1 - (j:Int))).dv=(Tm.mk 1 ((s.length:Int) - 1 - (j:Int)) (Ty.mk 0 []) []).dv:=rfl;have w:=SI (gl:=gl) ((s.length:Int) - 1 - (j:Int));simp only[Fa]at hR;generalize s[j]=sj at *;generalize AH s=S at *;subst he;refine A7 (j2 @Wu @hgx) ?_;refine A3 @Tx w ?_;exact BI
   ·have Vu:=Cg j ⟨oO,fun k hk=>by
     by_cases hkj:k=j;· subst hkj;rw[uB Ol];intro h;exact he (Option.some.inj h)
     ·exact i2 k oO⟩ oO
    generalize s[j]=sj at *;refine A7 (j3 @Wu @hgx @he) ?_;refine CG (wr []) tT tT Vu
 rw[if_neg h1];obtain⟨s',Iz⟩:∃s',s' = if t.kind=2 then s++[t.index] else s:=⟨_,rfl⟩
 rw[<- Iz];have Ju:s'.length<=s.length+1:=by rw[Iz];split <;> simp
 have If:∀x∈t.args,x.count<t.count:=fun x hx=>by have:=Tm.count_mem hx;omega
 refine A6 Tryz.func35 ?_;intro X hP u6 hf u8 hn hR u5 u4;have hlt3:=Tm.fit_len (u4 t.dv sS);by_cases h2:t.kind=2
 ·rw[if_pos h2]at Iz;have hse:AH s++[[A0 t.index]]=AH s':=by rw[Iz];simp[AH]
  refine A7 (j3 @h1 @h2 @Tx) ?_;refine BR ?_;refine AA [(1006,0)] (j2 @hse @h2) (CD (t.args) (fun done rest=>[sP 2,sL 2 [.v (A0 t.kind),.v (A0 t.index),.v (A0 t.type.kind),.v (.sl (t.type.args.map Ty.cells)),.v (.sl (t.args.map Tm.cells))],sP 4,sL 4 [.v (A0 0),.v (A0 0),.v (A0 0),.own 0 [],.own 0 []],sP 6,sL 6 [.v (A0 t.kind),.v (A0 0),.v (A0 t.type.kind),.v (.sl (t.type.args.map Ty.cells)),.own 1006 (done.map fun x=>(HF s' x).cells)],(.tok 1006,.tk 5 done.length),sV 7 (.sl (AH s')),sV 8 (A0 done.length)]) ?_ ?_)
  ·intro done x rest hL Ad u7;have Ac:done.length<t.args.length:=by rw[hL];simp
   have Aj:=uE Ad;have w:=ih x Aj s' (by have:=If x Aj;omega);have Dx:=Tm.fold x;refine A5 ?_;refine AQ ?_;refine A7 @Ad ?_;refine A3 (j2 @Ad @Dx) w ?_;refine CG (wr [(1006,65)]) tT tT u7
  ·refine A5 ?_;refine B9 ?_;refine A2 ?_;exact AT @h2
 ·rw[if_neg h2]at Iz;subst Iz;refine A7 (j2 @h1 @h2) ?_;refine BR ?_;refine AA [(1006,0)] tT (CD (t.args) (fun done rest=>[sP 2,sL 2 [.v (A0 t.kind),.v (A0 t.index),.v (A0 t.type.kind),.v (.sl (t.type.args.map Ty.cells)),.v (.sl (t.args.map Tm.cells))],sP 4,sL 4 [.v (A0 0),.v (A0 0),.v (A0 0),.own 0 [],.own 0 []],sP 6,sL 6 [.v (A0 t.kind),.v (A0 0),.v (A0 t.type.kind),.v (.sl (t.type.args.map Ty.cells)),.own 1006 (done.map fun x=>(HF s' x).cells)],(.tok 1006,.tk 5 done.length),sV 7 (.sl (AH s')),sV 8 (A0 done.length)]) ?_ ?_)
  ·intro done x rest hL Ad u7;have Ac:done.length<t.args.length:=by rw[hL];simp
   have Aj:=uE Ad;have w:=ih x Aj s' (by have:=If x Aj;omega);have Dx:=Tm.fold x;refine A5 ?_;refine AQ ?_;refine A7 @Ad ?_;refine A3 (j2 @Ad @Dx) w ?_;refine CG (wr [(1006,65)]) tT tT u7
  ·refine A5 ?_;refine B9 ?_;refine A2 ?_;exact BI
end
section
def H5 (k:Int):Int:=if k=4\/k=5\/k=6\/k=7 then 1 else 0
theorem SJ (k:Int):0<=H5 k/\H5 k<=1:=by unfold H5;split <;> omega
def Tm.leasts (ts:List Tm)(m:Int):Bool:=Tm.leastN.leasts ts m
def Tm.natE (t:Tm)(g:List Ty):Int:=if (t.typedE g).2=0 then if (t.typedE g).1.kind=1 then 0 else 7 else (t.typedE g).2
def Tm.natEs:List Tm->List Ty->Int
 | [],_=>0
 | a::r,g=>if a.natE g=0 then Tm.natEs r g else a.natE g
theorem Tm.natEs_append (l r:List Tm)(g:List Ty):Tm.natEs (l++r) g=if Tm.natEs l g=0 then Tm.natEs r g else Tm.natEs l g:=by
 induction l with
 | nil=>rfl
 | cons a l ih=>
  simp only[List.cons_append,Tm.natEs,ih];by_cases h:a.natE g=0;· simp[h]
  ·simp[h]
namespace Fm
def count:Fm->Nat
 | .mk _ _ ts a=>1+Tm.count.counts ts+counts a
where
 counts:List Fm->Nat
  | []=>0
  | a::r=>a.count+counts r
theorem count_eq (t:Fm):t.count=1+Tm.count.counts t.terms+count.counts t.args:=by cases t;rfl
theorem counts_append (l m:List Fm):count.counts (l++m)=count.counts l+count.counts m:=by
 induction l with
 | nil=>simp[count.counts]
 | cons a r ih=>simp[count.counts,ih];omega
theorem count_mem {l:List Fm}{a:Fm}(h:a∈l):a.count<=count.counts l:=by
 induction l with
 | nil=>cases h
 | cons b r ih=>
  simp only[count.counts];rcases List.mem_cons.1 h with rfl|h;· omega
  ·have:=ih h;omega
def chk (f:Fm):Int:=if 4096<f.count then 4 else 0
def upN:Fm->Int->Int->Fm
 | .mk k y ts a,f,b=>.mk k y (ts.map fun t=>t.upN f b) (ups a (f+H5 k) b)
where
 ups:List Fm->Int->Int->List Fm
  | [],_,_=>[]
  | x::r,f,b=>x.upN f b::ups r f b
theorem ups_map (l:List Fm)(f b:Int):upN.ups l f b=l.map fun x=>x.upN f b:=by
 induction l with
 | nil=>rfl
 | cons a r ih=>simp[upN.ups,ih]
theorem upN_eq (t:Fm)(f b:Int):t.upN f b = .mk t.kind t.type (t.terms.map fun x=>x.upN f b) (t.args.map fun x=>x.upN (f+H5 t.kind) b):=by
 cases t;rw[upN,ups_map];rfl
def inN:Fm->Int->Int->Tm->Fm
 | .mk k y ts a,p,d,s=>.mk k y (ts.map fun t=>t.inN p d s) (ins a p (d+H5 k) s)
where
 ins:List Fm->Int->Int->Tm->List Fm
  | [],_,_,_=>[]
  | x::r,p,d,s=>x.inN p d s::ins r p d s
theorem ins_map (l:List Fm)(p d:Int)(s:Tm):inN.ins l p d s=l.map fun x=>x.inN p d s:=by
 induction l with
 | nil=>rfl
 | cons a r ih=>simp[inN.ins,ih]
theorem inN_eq (t:Fm)(p d:Int)(s:Tm):t.inN p d s = .mk t.kind t.type (t.terms.map fun x=>x.inN p d s) (t.args.map fun x=>x.inN p (d+H5 t.kind) s):=by
 cases t;rw[inN,ins_map];rfl
def timesN:Fm->Int->Nat
 | .mk k _ ts a,p=>Tm.timesN.timess ts p+timess a (p+H5 k)
where
 timess:List Fm->Int->Nat
  | [],_=>0
  | x::r,p=>x.timesN p+timess r p
theorem timesN_eq (t:Fm)(p:Int):t.timesN p=Tm.timesN.timess t.terms p+timesN.timess t.args (p+H5 t.kind):=by cases t;rfl
theorem timess_append (l m:List Fm)(p:Int):timesN.timess (l++m) p=timesN.timess l p+timesN.timess m p:=by
 induction l with
 | nil=>simp[timesN.timess]
 | cons a r ih=>simp[timesN.timess,ih];omega
theorem timesN_le (t:Fm)(p:Int):t.timesN p<=t.count:=by
 induction t using Fm.ind generalizing p with
 | h t ih=>
 have key:∀l:List Fm,(∀a∈l,a∈t.args)->timesN.timess l (p+H5 t.kind)<=count.counts l:=by
  intro l
  induction l with
  | nil=>intro _;exact Nat.le_refl _
  | cons a r Dk=>
   intro h;have h1:=ih a (h a sS) (p+H5 t.kind);have h2:=Dk fun b hb=>h b (by simp[hb]);simp only[timesN.timess,count.counts];omega
 have:=key t.args fun _ h=>h;have h3:=Tm.timess_le t.terms p;rw[timesN_eq,count_eq];omega
theorem timess_le (l:List Fm)(p:Int):timesN.timess l p<=count.counts l:=by
 induction l with
 | nil=>exact Nat.le_refl _
 | cons a r ih=>have:=timesN_le a p;simp only[timesN.timess,count.counts];omega
def leastN:Fm->Int->Bool
 | .mk _ _ ts a,m=>Tm.leastN.leasts ts m&&leasts a m
where
 leasts:List Fm->Int->Bool
  | [],_=>true
  | a::r,m=>a.leastN m&&leasts r m
theorem leastN_eq (t:Fm)(m:Int):t.leastN m=(Tm.leastN.leasts t.terms m&&leastN.leasts t.args m):=by cases t;rfl
theorem leasts_append (l r:List Fm)(m:Int):leastN.leasts (l++r) m=(leastN.leasts l m&&leastN.leasts r m):=by
 induction l with
 | nil=>simp[leastN.leasts]
 | cons a r ih=>simp[leastN.leasts,ih,Bool.and_assoc]
def typedN:Fm->List Ty->Int
 | .mk k y ts a,g=>if Tm.natEs ts g=0 then typeds a (if H5 k=1 then g++[y] else g) else Tm.natEs ts g
where
 typeds:List Fm->List Ty->Int
  | [],_=>0
  | a::r,g=>if a.typedN g=0 then typeds r g else a.typedN g
theorem typedN_eq (t:Fm)(g:List Ty):t.typedN g=if Tm.natEs t.terms g=0 then typedN.typeds t.args (if H5 t.kind=1 then g++[t.type] else g) else Tm.natEs t.terms g:=by cases t;rfl
theorem typeds_append (l r:List Fm)(g:List Ty):typedN.typeds (l++r) g=if typedN.typeds l g=0 then typedN.typeds r g else typedN.typeds l g:=by
 induction l with
 | nil=>rfl
 | cons a l ih=>
  simp only[List.cons_append,typedN.typeds,ih];by_cases h:a.typedN g=0;· simp[h]
  ·simp[h]
def good:Fm->Int->Prop
 | .mk k y ts a,m=>(∀t∈ts,t.shape=true/\t.idx m)/\(H5 k=1->y.ok)/\y.count<=64/\goods a m
where
 goods:List Fm->Int->Prop
  | [],_=>True
  | a::r,m=>a.good m/\goods r m
theorem z4l (l:List Fm)(m:Int):good.goods l m↔∀a∈l,a.good m:=by
 induction l with
 | nil=>simp[good.goods]
 | cons a r ih=>simp[good.goods,ih]
theorem good_eq (t:Fm)(m:Int):t.good m↔(∀x∈t.terms,x.shape=true/\x.idx m)/\(H5 t.kind=1->t.type.ok)/\t.type.count<=64/\∀a∈t.args,a.good m:=by cases t;simp only[good,z4l,kind,type,terms,args]
end Fm
def DM (s t:Tm):Fm:=.mk 1 (Ty.mk 0 []) [s,t] []
def FA (k:Int)(a b:Fm):Fm:=.mk k (Ty.mk 0 []) [] [a,b]
def qF (k:Int)(y:Ty)(f:Fm):Fm:=.mk k y [] [f]
inductive FDn:List T->Fm->Prop
 | eq {Γ:List T} {s t:Tm} {F G:BH Γ->T.nat.V} (h1:Dn Γ s .nat F) (h2:Dn Γ t .nat G):FDn Γ (DM s t)
 | two {Γ:List T} {k:Int} {a b:Fm} (hk:k=2\/k=3) (h1:FDn Γ a) (h2:FDn Γ b):FDn Γ (FA k a b)
 | q {Γ:List T} {k:Int} {a:T} {f:Fm} (hk:k=4\/k=5\/k=6\/k=7) (ha:a.ok) (h:FDn (a::Γ) f):FDn Γ (qF k a.ty f)
theorem HY {Γ:List T}{f:Fm}(h:FDn Γ f):∀m:Int,(Γ.length:Int)+f.count<=m->f.good m:=by
 induction h with
 | @eq Γ s t F G h1 h2=>
  intro m hm;have hc:(DM s t).count=1+(s.count+(t.count+0))+0:=rfl;rw[Fm.good_eq];refine⟨fun x hx=>?_,fun h=>by simp[DM,Fm.kind,H5]at h,by show 1<=64;decide,fun a ha=>by simp[DM,Fm.args]at ha⟩;simp only[DM,Fm.terms,List.mem_cons,List.not_mem_nil,or_false]at hx;rcases hx with rfl|rfl;· exact⟨AJ h1,Tm.idx_of _ _ (AJ h1) (EK h1 m oO)⟩
  ·exact⟨AJ h2,Tm.idx_of _ _ (AJ h2) (EK h2 m oO)⟩
 | @two Γ k a b hk h1 h2 Cr Cg=>
  intro m hm;have hc:(FA k a b).count=1+0+(a.count+(b.count+0)):=rfl;rw[Fm.good_eq];refine⟨fun x hx=>by simp[FA,Fm.terms]at hx,fun h=>?_,by show 1<=64;decide,fun x hx=>?_⟩;· rcases hk with rfl|rfl <;> simp[FA,Fm.kind,H5]at h
  ·simp only[FA,Fm.args,List.mem_cons,List.not_mem_nil,or_false]at hx;rcases hx with rfl|rfl;· exact Cr m oO
   ·exact Cg m oO
 | @q Γ k a f hk ha h ih=>
  intro m hm;have hc:(qF k a.ty f).count=1+0+(f.count+0):=rfl;rw[Fm.good_eq];refine⟨fun x hx=>by simp[qF,Fm.terms]at hx,fun _=>T.ok_ty ha,(T.ok_ty ha).2,fun x hx=>?_⟩;simp only[qF,Fm.args,List.mem_cons,List.not_mem_nil,or_false]at hx;subst hx;exact ih m (by simp only[List.length_cons];omega)
theorem l7 {Γ Ξ:List T}{Θ:List T}{f:Fm}(h:FDn Θ f):∀(Δ:List T) (_:Θ=Δ++Γ),FDn (Δ++(Ξ++Γ)) (f.upN Δ.length Ξ.length):=by
 induction h with
 | eq h1 h2=>intro Δ e;subst e;rw[Fm.upN_eq];exact .eq (z9o h1 Δ rfl) (z9o h2 Δ rfl)
 | @two Θ k a b hk h1 h2 Cr Cg=>
  intro Δ e;have e0:(FA k a b).upN Δ.length Ξ.length=FA k (a.upN Δ.length Ξ.length) (b.upN Δ.length Ξ.length):=by
   rw[Fm.upN_eq];rcases hk with rfl|rfl <;> simp[FA,Fm.kind,Fm.type,Fm.terms,Fm.args,H5]
  rw[e0];exact .two hk (Cr Δ e) (Cg Δ e)
 | @q Θ k a f hk ha h ih=>
  intro Δ e;subst e;have e0:(qF k a.ty f).upN Δ.length Ξ.length=qF k a.ty (f.upN ((a::Δ).length:Nat) Ξ.length):=by
   rw[Fm.upN_eq];rcases hk with rfl|rfl|rfl|rfl <;> simp[qF,Fm.kind,Fm.type,Fm.terms,Fm.args,H5]
  rw[e0];exact .q hk ha (ih (a::Δ) rfl)
theorem zab {Γ:List T}{f:Fm}(h:FDn Γ f)(Ξ:List T):FDn (Ξ++Γ) (f.upN 0 Ξ.length):=l7 (Ξ:=Ξ) h [] rfl
theorem zjw {Γ:List T}{s:T}{x:Tm}{X:BH Γ->s.V}(hx:Dn Γ x s X){Θ:List T}{f:Fm}(h:FDn Θ f):∀(Δ:List T) (_:Θ=Δ++s::Γ),FDn (Δ++Γ) (f.inN 0 Δ.length x):=by
 induction h with
 | eq h1 h2=>intro Δ e;subst e;rw[Fm.inN_eq];exact .eq (z9p hx h1 Δ rfl) (z9p hx h2 Δ rfl)
 | @two Θ k a b hk h1 h2 Cr Cg=>
  intro Δ e;have e0:(FA k a b).inN 0 Δ.length x=FA k (a.inN 0 Δ.length x) (b.inN 0 Δ.length x):=by
   rw[Fm.inN_eq];rcases hk with rfl|rfl <;> simp[FA,Fm.kind,Fm.type,Fm.terms,Fm.args,H5]
  rw[e0];exact .two hk (Cr Δ e) (Cg Δ e)
 | @q Θ k a f hk ha h ih=>
  intro Δ e;subst e;have e0:(qF k a.ty f).inN 0 Δ.length x=qF k a.ty (f.inN 0 ((a::Δ).length:Nat) x):=by
   rw[Fm.inN_eq];rcases hk with rfl|rfl|rfl|rfl <;> simp[qF,Fm.kind,Fm.type,Fm.terms,Fm.args,H5]
  rw[e0];exact .q hk ha (ih (a::Δ) rfl)
theorem WT {Γ:List T}{s:T}{x:Tm}{f:Fm}{X:BH Γ->s.V}(hx:Dn Γ x s X)(h:FDn (s::Γ) f):FDn Γ (f.inN 0 0 x):=zjw hx h [] rfl
def Tm.matchE (a b:Tm)(n:Nat):Int:=
 if a.checkN=0 then if b.checkN=0 then if a.same b=true then 0
  else if (Tm.loopN n a 0).2.2=0 then if (Tm.loopN n b 0).2.2=0 then if (Tm.loopN n a 0).1.same (Tm.loopN n b 0).1=true then 0 else 11 else (Tm.loopN n b 0).2.2 else (Tm.loopN n a 0).2.2
 else b.checkN else a.checkN
end
section
variable {gl:AB}
theorem Fm.fit_len {t:Fm}(h:t.dv.fit):t.terms.length<=2147483648/\t.args.length<=2147483648:=by
 have:=(Fm.fit_eq t).1 ((Fm.dv_fit t).1 h);exact⟨this.2.2.1.1,this.2.2.2.1⟩
theorem J5 (k:Int):cT gl 219 [A0 k] [] (AR (decide (H5 k=1))) []:=by
 refine A6 Tryz.func219 ?_;intro X hP u6 hf u8 hn hR u5 u4;by_cases h4:k=4
 ·refine A7 @h4 ?_;refine EO ?_;simp[go_sem,hP,u6,hn,h4,H5] <;> (try omega)
 by_cases h5:k=5
 ·refine A7 (j2 @h4 @h5) ?_;refine EO ?_;simp[go_sem,hP,u6,hn,h5,H5] <;> (try omega)
 by_cases h6:k=6
 ·refine A7 (j3 @h4 @h5 @h6) ?_;refine EO ?_;simp[go_sem,hP,u6,hn,h6,H5] <;> (try omega)
 by_cases h7:k=7
 ·refine A7 (j4 @h4 @h5 @h6 @h7) ?_;refine EO ?_;simp[go_sem,hP,u6,hn,h7,H5] <;> (try omega)
 ·refine A7 (j4 @h4 @h5 @h6 @h7) ?_;refine EO ?_;simp[go_sem,hP,u6,hn,h4,h5,h6,h7,H5] <;> (try omega)
theorem TT (t:Fm):cT gl 257 [t.dv] [] (A0 (H5 t.kind)) []:=by
 refine A6 Tryz.func257 ?_;intro X hP u6 hf u8 hn hR u5 u4;by_cases h:H5 t.kind=1
 ·refine A2 ?_;refine A3 @h (J5 t.kind) ?_;refine A7 @h ?_;exact AC @h
 ·have h0:H5 t.kind=0:=by have:=SJ t.kind;omega
  refine A2 ?_;refine A3 @h (J5 t.kind) ?_;refine A7 @h ?_;exact AC @h0
theorem TU (t:Fm)(hc:t.count<=1073741824):cT gl 168 [t.dv] [] (A0 t.count) []:=by
 induction t using Fm.ind with
 | h t ih=>
 have Ap:=Fm.count_eq t;have Ji:=SJ t.kind;refine A6 Tryz.func168 ?_;intro X hP u6 hf u8 hn hR u5 u4;have hlen:=Fm.fit_len (u4 t.dv sS);refine A2 ?_;refine BR ?_;refine CR [] (by simp[go_sem]) (by simp[go_sem,Tm.count.counts] <;> omega) (by simp[go_sem]) (CD (t.terms) (fun done rest=>[sV 3 (A0 (1+Tm.count.counts done:Nat)),sP 1,sL 1 [.v (A0 t.kind),.v (A0 t.type.kind),.v (.sl (t.type.args.map Ty.cells)),.v (.sl (t.terms.map Tm.cells)),.v (.sl (t.args.map Fm.cells))],sV 2 (A0 0),sV 9 (.sl (t.terms.map Tm.cells)),sV 10 (A0 t.terms.length),sV 11 (A0 done.length)]) ?_ ?_)
 ·intro done x rest hL Ad u7;have Ac:done.length<t.terms.length:=by rw[hL];simp
  have Aj:=uE Ad;have Br:=Tm.count_mem Aj;have Bp:Tm.count.counts t.terms=Tm.count.counts done+(x.count+Tm.count.counts rest):=by rw[hL,Tm.counts_append];rfl
  refine A5 ?_;refine AQ ?_;refine A7 @Ad ?_;refine A3 @Ad (BF x oO) ?_;repeat (first|(refine CR [] (by simp[go_sem]) (by simp[go_sem,Tm.counts_append,Tm.count.counts] <;> omega) (by simp[go_sem]) u7)|refine DA ?_|refine BX ?_|refine C4 ?_|refine AN ?_|refine B7 ?_|refine CC rfl ?_|((first|refine B4 [] fun K hK=>?_|refine AU (by rw[hP];exact BK) [] fun K hK=>?_);simp[go_sem,hP,u6,hn];(repeat (refine⟨oO,?_⟩));(first|refine hK _ ?_|refine⟨by rfl,hK _ ?_⟩);clear hK K)|refine BN rfl (fun _=>?_) (fun hq=>False.elim (by first|(simp;done)|(simp;omega)|(simp at hq;done)|(simp at hq;omega)))|refine BN rfl (fun hq=>False.elim (by first|(simp;done)|(simp;omega)|(simp at hq;done)|(simp at hq;omega))) (fun _=>?_))
 ·refine A5 ?_;refine B9 ?_;refine A2 ?_;refine BR ?_;refine CR [] (by simp[go_sem]) (by simp[go_sem,Fm.count.counts] <;> omega) (by simp[go_sem]) (CD (t.args) (fun done rest=>[sV 3 (A0 (1+Tm.count.counts t.terms+Fm.count.counts done:Nat)),sV 2 (A0 0),sV 21 (.sl (t.args.map Fm.cells)),sV 22 (A0 t.args.length),sV 23 (A0 done.length)]) ?_ ?_)
  ·intro done x rest hL Ad u7;have Ac:done.length<t.args.length:=by rw[hL];simp
   have Aj:=uE Ad;have Br:=Fm.count_mem Aj;have Bp:Fm.count.counts t.args=Fm.count.counts done+(x.count+Fm.count.counts rest):=by rw[hL,Fm.counts_append];rfl
   refine A5 ?_;refine AQ ?_;refine A7 @Ad ?_;refine A3 @Ad (ih x Aj oO) ?_;repeat (first|(refine CR [] (by simp[go_sem]) (by simp[go_sem,Fm.counts_append,Fm.count.counts] <;> omega) (by simp[go_sem]) u7)|refine DA ?_|refine BX ?_|refine C4 ?_|refine AN ?_|refine B7 ?_|refine CC rfl ?_|((first|refine B4 [] fun K hK=>?_|refine AU (by rw[hP];exact BK) [] fun K hK=>?_);simp[go_sem,hP,u6,hn];(repeat (refine⟨oO,?_⟩));(first|refine hK _ ?_|refine⟨by rfl,hK _ ?_⟩);clear hK K)|refine BN rfl (fun _=>?_) (fun hq=>False.elim (by first|(simp;done)|(simp;omega)|(simp at hq;done)|(simp at hq;omega)))|refine BN rfl (fun hq=>False.elim (by first|(simp;done)|(simp;omega)|(simp at hq;done)|(simp at hq;omega))) (fun _=>?_))
  ·refine A5 ?_;refine B9 ?_;refine A2 ?_;exact AC @Ap
theorem PK (t:Fm):cT gl 84 [t.dv] [] (t.dv) []:=by
 induction t using Fm.ind with
 | h t ih=>
 have Ap:=Fm.count_eq t;have Ji:=SJ t.kind;have Al:=Ty.cells_eq t.type;refine A6 Tryz.func84 ?_;intro X hP u6 hf u8 hn hR u5 u4;have hlen:=Fm.fit_len (u4 t.dv sS);refine A2 ?_;refine A3 tT (DF t.type) ?_;refine A2 ?_;refine BR ?_;refine AA [(1003,0)] tT (CD (t.terms) (fun done rest=>[sP 1,sL 1 [.v (A0 t.kind),.v (A0 t.type.kind),.v (.sl (t.type.args.map Ty.cells)),.v (.sl (t.terms.map Tm.cells)),.v (.sl (t.args.map Fm.cells))],sP 2,sL 2 [.v (A0 0),.v (A0 0),.own 0 [],.own 0 [],.own 0 []],sP 3,sL 3 [.v (A0 t.kind),.v (A0 t.type.kind),.v (.sl (t.type.args.map Ty.cells)),.own 1003 (done.map Tm.cells),.own 0 []],(.tok 1003,.tk 5 done.length),sV 15 (.sl (t.terms.map Tm.cells)),sV 16 (A0 t.terms.length),sV 17 (A0 done.length)]) ?_ ?_)
 ·intro done x rest hL Ad u7;have Ac:done.length<t.terms.length:=by rw[hL];simp
  have Aj:=uE Ad;have Br:=Tm.count_mem Aj;have Bp:Tm.count.counts t.terms=Tm.count.counts done+(x.count+Tm.count.counts rest):=by rw[hL,Tm.counts_append];rfl
  refine A5 ?_;refine AQ ?_;refine A7 @Ad ?_;refine A3 @Ad (IV x) ?_;refine CG (wr [(1003,26)]) (Tm.cells_eq x) tT u7
 ·refine A5 ?_;refine B9 ?_;refine A2 ?_;refine BR ?_;refine AA [(1004,0)] tT (CD (t.args) (fun done rest=>[sP 2,sL 2 [.v (A0 0),.v (A0 0),.own 0 [],.own 0 [],.own 0 []],sP 3,sL 3 [.v (A0 t.kind),.v (A0 t.type.kind),.v (.sl (t.type.args.map Ty.cells)),.v (.sl (t.terms.map Tm.cells)),.own 1004 (done.map Fm.cells)],(.tok 1004,.tk 5 done.length),sV 30 (.sl (t.args.map Fm.cells)),sV 31 (A0 t.args.length),sV 32 (A0 done.length)]) ?_ ?_)
  ·intro done x rest hL Ad u7;have Ac:done.length<t.args.length:=by rw[hL];simp
   have Aj:=uE Ad;have Br:=Fm.count_mem Aj;have Bp:Fm.count.counts t.args=Fm.count.counts done+(x.count+Fm.count.counts rest):=by rw[hL,Fm.counts_append];rfl
   refine A5 ?_;refine AQ ?_;refine A7 @Ad ?_;refine A3 @Ad (ih x Aj) ?_;refine CG (wr [(1004,41)]) (Fm.cells_eq x) tT u7
  ·refine A5 ?_;refine B9 ?_;refine A2 ?_;exact AM
theorem XV (t:Fm)(f b:Int)(hi:t.good 1073741824)(Gx:-1073741824<=b)(Et:b<=1073741824)(Bz:0<=f)(Hm:f+t.count<=1073741824):cT gl 236 [t.dv,A0 f,A0 b] [] ((t.upN f b).dv) []:=by
 induction t using Fm.ind generalizing f with
 | h t ih=>
 have Ap:=Fm.count_eq t;have Ji:=SJ t.kind;have Cy:=(Fm.good_eq t _).1 hi;refine A6 Tryz.func236 ?_;intro X hP u6 hf u8 hn hR u5 u4;have hlen:=Fm.fit_len (u4 t.dv sS);refine A2 ?_;refine BR ?_;refine AA [(1007,0)] tT (CD (t.terms) (fun done rest=>[sV 1 (A0 f),sV 2 (A0 b),sP 3,sL 3 [.v (A0 t.kind),.v (A0 t.type.kind),.v (.sl (t.type.args.map Ty.cells)),.v (.sl (t.terms.map Tm.cells)),.v (.sl (t.args.map Fm.cells))],sP 6,sL 6 [.v (A0 0),.v (A0 0),.own 0 [],.own 0 [],.own 0 []],sP 7,sL 7 [.v (A0 t.kind),.v (A0 t.type.kind),.v (.sl (t.type.args.map Ty.cells)),.own 1007 (done.map fun x=>(x.upN f b).cells),.own 0 []],(.tok 1007,.tk 5 done.length),sV 18 (.sl (t.terms.map Tm.cells)),sV 19 (A0 t.terms.length),sV 20 (A0 done.length)]) ?_ ?_)
 ·intro done x rest hL Ad u7;have Ac:done.length<t.terms.length:=by rw[hL];simp
  have Aj:=uE Ad;have Br:=Tm.count_mem Aj;have Bp:Tm.count.counts t.terms=Tm.count.counts done+(x.count+Tm.count.counts rest):=by rw[hL,Tm.counts_append];rfl
  refine A5 ?_;refine AQ ?_;refine A7 @Ad ?_;refine A3 @Ad (z9l x f b (Tm.idx_mono dD (Cy.1 x Aj).2) oO oO Bz oO) ?_;refine CG (wr [(1007,31)]) (Tm.cells_eq (x.upN f b)) tT u7
 ·refine A5 ?_;refine B9 ?_;refine A2 ?_;refine BR ?_;refine AA [(1008,0)] tT (CD (t.args) (fun done rest=>[sV 1 (A0 f),sV 2 (A0 b),sP 3,sL 3 [.v (A0 t.kind),.v (A0 t.type.kind),.v (.sl (t.type.args.map Ty.cells)),.v (.sl (t.terms.map Tm.cells)),.v (.sl (t.args.map Fm.cells))],sP 6,sL 6 [.v (A0 0),.v (A0 0),.own 0 [],.own 0 [],.own 0 []],sP 7,sL 7 [.v (A0 t.kind),.v (A0 t.type.kind),.v (.sl (t.type.args.map Ty.cells)),.v (.sl (t.terms.map fun x=>(x.upN f b).cells)),.own 1008 (done.map fun x=>(x.upN (f+H5 t.kind) b).cells)],(.tok 1008,.tk 5 done.length),sV 35 (.sl (t.args.map Fm.cells)),sV 36 (A0 t.args.length),sV 37 (A0 done.length)]) ?_ ?_)
  ·intro done x rest hL Ad u7;have Ac:done.length<t.args.length:=by rw[hL];simp
   have Aj:=uE Ad;have Br:=Fm.count_mem Aj;have Bp:Fm.count.counts t.args=Fm.count.counts done+(x.count+Fm.count.counts rest):=by rw[hL,Fm.counts_append];rfl
   refine A5 ?_;refine AQ ?_;refine A7 @Ad ?_;refine BL @Ad (TT t) (ih x Aj (f+H5 t.kind) (Cy.2.2.2 x Aj) oO oO) ?_;refine CG (wr [(1008,51)]) (Fm.cells_eq (x.upN (f+H5 t.kind) b)) tT u7
  ·refine A5 ?_;refine B9 ?_;refine A2 ?_;refine EO ?_;simp[go_sem,hP,u6,hn] <;> (try omega);rw[Fm.upN_eq t];simp[Fm.dv,Fm.cells_eq,Fm.kind_mk,Fm.type_mk,Fm.terms_mk,Fm.args_mk];exact fun a _=>(Tm.cells_eq _).symm
theorem zjx (t:Fm)(p d:Int)(s:Tm)(hi:t.good 1073741824)(hs:s.idx 1073741824)(hp:0<=p)(hd:0<=d)(hpd:p+d+t.count+s.count<=1073741824):cT gl 268 [t.dv,A0 p,A0 d,s.dv] [] ((t.inN p d s).dv) []:=by
 induction t using Fm.ind generalizing d with
 | h t ih=>
 have Ap:=Fm.count_eq t;have Ji:=SJ t.kind;have Cy:=(Fm.good_eq t _).1 hi;refine A6 Tryz.func268 ?_;intro X hP u6 hf u8 hn hR u5 u4;have hlen:=Fm.fit_len (u4 t.dv sS);refine A2 ?_;refine BR ?_;refine AA [(1009,0)] tT (CD (t.terms) (fun done rest=>[sV 1 (A0 p),sV 2 (A0 d),sP 4,sL 4 [.v (A0 t.kind),.v (A0 t.type.kind),.v (.sl (t.type.args.map Ty.cells)),.v (.sl (t.terms.map Tm.cells)),.v (.sl (t.args.map Fm.cells))],sP 7,sL 7 [.v (A0 s.kind),.v (A0 s.index),.v (A0 s.type.kind),.v (.sl (s.type.args.map Ty.cells)),.v (.sl (s.args.map Tm.cells))],sP 8,sL 8 [.v (A0 0),.v (A0 0),.own 0 [],.own 0 [],.own 0 []],sP 9,sL 9 [.v (A0 t.kind),.v (A0 t.type.kind),.v (.sl (t.type.args.map Ty.cells)),.own 1009 (done.map fun x=>(x.inN p d s).cells),.own 0 []],(.tok 1009,.tk 5 done.length),sV 20 (.sl (t.terms.map Tm.cells)),sV 21 (A0 t.terms.length),sV 22 (A0 done.length)]) ?_ ?_)
 ·intro done x rest hL Ad u7;have Ac:done.length<t.terms.length:=by rw[hL];simp
  have Aj:=uE Ad;have Br:=Tm.count_mem Aj;have Bp:Tm.count.counts t.terms=Tm.count.counts done+(x.count+Tm.count.counts rest):=by rw[hL,Tm.counts_append];rfl
  refine A5 ?_;refine AQ ?_;refine A7 @Ad ?_;refine A3 @Ad (zgg x p d s (Tm.idx_mono dD (Cy.1 x Aj).2) (Tm.idx_mono dD hs) hp hd oO) ?_;refine CG (wr [(1009,34)]) (Tm.cells_eq (x.inN p d s)) tT u7
 ·refine A5 ?_;refine B9 ?_;refine A2 ?_;refine BR ?_;refine AA [(1010,0)] tT (CD (t.args) (fun done rest=>[sV 1 (A0 p),sV 2 (A0 d),sP 4,sL 4 [.v (A0 t.kind),.v (A0 t.type.kind),.v (.sl (t.type.args.map Ty.cells)),.v (.sl (t.terms.map Tm.cells)),.v (.sl (t.args.map Fm.cells))],sP 7,sL 7 [.v (A0 s.kind),.v (A0 s.index),.v (A0 s.type.kind),.v (.sl (s.type.args.map Ty.cells)),.v (.sl (s.args.map Tm.cells))],sP 8,sL 8 [.v (A0 0),.v (A0 0),.own 0 [],.own 0 [],.own 0 []],sP 9,sL 9 [.v (A0 t.kind),.v (A0 t.type.kind),.v (.sl (t.type.args.map Ty.cells)),.v (.sl (t.terms.map fun x=>(x.inN p d s).cells)),.own 1010 (done.map fun x=>(x.inN p (d+H5 t.kind) s).cells)],(.tok 1010,.tk 5 done.length),sV 38 (.sl (t.args.map Fm.cells)),sV 39 (A0 t.args.length),sV 40 (A0 done.length)]) ?_ ?_)
  ·intro done x rest hL Ad u7;have Ac:done.length<t.args.length:=by rw[hL];simp
   have Aj:=uE Ad;have Br:=Fm.count_mem Aj;have Bp:Fm.count.counts t.args=Fm.count.counts done+(x.count+Fm.count.counts rest):=by rw[hL,Fm.counts_append];rfl
   refine A5 ?_;refine AQ ?_;refine A7 @Ad ?_;refine BL @Ad (TT t) (ih x Aj (d+H5 t.kind) (Cy.2.2.2 x Aj) oO oO) ?_;refine CG (wr [(1010,55)]) (Fm.cells_eq (x.inN p (d+H5 t.kind) s)) tT u7
  ·refine A5 ?_;refine B9 ?_;refine A2 ?_;refine EO ?_;simp[go_sem,hP,u6,hn] <;> (try omega);rw[Fm.inN_eq t];simp[Fm.dv,Fm.cells_eq,Fm.kind_mk,Fm.type_mk,Fm.terms_mk,Fm.args_mk];exact fun a _=>(Tm.cells_eq _).symm
theorem z4m (t:Fm)(p:Int)(hc:t.count<=1073741824)(Lm:0<=p)(hp:p+t.count<=2147483648):cT gl 267 [t.dv,A0 p] [] (A0 (t.timesN p)) []:=by
 induction t using Fm.ind generalizing p with
 | h t ih=>
 have Ap:=Fm.count_eq t;have Ji:=SJ t.kind;refine A6 Tryz.func267 ?_;intro X hP u6 hf u8 hn hR u5 u4;have hlen:=Fm.fit_len (u4 t.dv sS);refine A2 ?_;refine BR ?_;refine CR [] (by simp[go_sem]) (by simp[go_sem,Tm.timesN.timess] <;> omega) (by simp[go_sem]) (CD (t.terms) (fun done rest=>[sV 1 (A0 p),sP 2,sL 2 [.v (A0 t.kind),.v (A0 t.type.kind),.v (.sl (t.type.args.map Ty.cells)),.v (.sl (t.terms.map Tm.cells)),.v (.sl (t.args.map Fm.cells))],sV 4 (A0 0),sV 5 (A0 (Tm.timesN.timess done p:Nat)),sV 11 (.sl (t.terms.map Tm.cells)),sV 12 (A0 t.terms.length),sV 13 (A0 done.length)]) ?_ ?_)
 ·intro done x rest hL Ad u7;have Ac:done.length<t.terms.length:=by rw[hL];simp
  have Aj:=uE Ad;have Br:=Tm.count_mem Aj;have Bp:Tm.count.counts t.terms=Tm.count.counts done+(x.count+Tm.count.counts rest):=by rw[hL,Tm.counts_append];rfl
  have h1:=Tm.timess_le done p;have h2:=Tm.timesN_le x p;refine A5 ?_;refine AQ ?_;refine A7 @Ad ?_;refine A3 @Ad (oK x p oO Lm oO) ?_;repeat (first|(refine CR [] (by simp[go_sem]) (by simp[go_sem,Tm.timess_append,Tm.timesN.timess] <;> omega) (by simp[go_sem]) u7)|refine DA ?_|refine BX ?_|refine C4 ?_|refine AN ?_|refine B7 ?_|refine CC rfl ?_|((first|refine B4 [] fun K hK=>?_|refine AU (by rw[hP];exact BK) [] fun K hK=>?_);simp[go_sem,hP,u6,hn];(repeat (refine⟨oO,?_⟩));(first|refine hK _ ?_|refine⟨by rfl,hK _ ?_⟩);clear hK K)|refine BN rfl (fun _=>?_) (fun hq=>False.elim (by first|(simp;done)|(simp;omega)|(simp at hq;done)|(simp at hq;omega)))|refine BN rfl (fun hq=>False.elim (by first|(simp;done)|(simp;omega)|(simp at hq;done)|(simp at hq;omega))) (fun _=>?_))
 ·refine A5 ?_;refine B9 ?_;refine A2 ?_;refine BR ?_;refine CR [] (by simp[go_sem]) (by simp[go_sem,Fm.timesN.timess] <;> omega) (by simp[go_sem]) (CD (t.args) (fun done rest=>[sV 1 (A0 p),sP 2,sL 2 [.v (A0 t.kind),.v (A0 t.type.kind),.v (.sl (t.type.args.map Ty.cells)),.v (.sl (t.terms.map Tm.cells)),.v (.sl (t.args.map Fm.cells))],sV 4 (A0 0),sV 5 (A0 (Tm.timesN.timess t.terms p+Fm.timesN.timess done (p+H5 t.kind):Nat)),sV 24 (.sl (t.args.map Fm.cells)),sV 25 (A0 t.args.length),sV 26 (A0 done.length)]) ?_ ?_)
  ·intro done x rest hL Ad u7;have Ac:done.length<t.args.length:=by rw[hL];simp
   have Aj:=uE Ad;have Br:=Fm.count_mem Aj;have Bp:Fm.count.counts t.args=Fm.count.counts done+(x.count+Fm.count.counts rest):=by rw[hL,Fm.counts_append];rfl
   have h1:=Tm.timess_le t.terms p;have h2:=Fm.timesN_le x (p+H5 t.kind);have h3:=Fm.timess_le done (p+H5 t.kind);refine A5 ?_;refine AQ ?_;refine A7 @Ad ?_;refine BL @Ad (TT t) (ih x Aj (p+H5 t.kind) oO oO oO) ?_;repeat (first|(refine CR [] (by simp[go_sem]) (by simp[go_sem,Fm.timess_append,Fm.timesN.timess] <;> omega) (by simp[go_sem]) u7)|refine DA ?_|refine BX ?_|refine C4 ?_|refine AN ?_|refine B7 ?_|refine CC rfl ?_|((first|refine B4 [] fun K hK=>?_|refine AU (by rw[hP];exact BK) [] fun K hK=>?_);simp[go_sem,hP,u6,hn];(repeat (refine⟨oO,?_⟩));(first|refine hK _ ?_|refine⟨by rfl,hK _ ?_⟩);clear hK K)|refine BN rfl (fun _=>?_) (fun hq=>False.elim (by first|(simp;done)|(simp;omega)|(simp at hq;done)|(simp at hq;omega)))|refine BN rfl (fun hq=>False.elim (by first|(simp;done)|(simp;omega)|(simp at hq;done)|(simp at hq;omega))) (fun _=>?_))
  ·refine A5 ?_;refine B9 ?_;refine A2 ?_;exact AC (Fm.timesN_eq t)
theorem zjy (t:Tm)(p:Int)(hc:t.count<=1073741824)(Lm:0<=p)(hp:p+t.count<=2147483648):cT gl 256 [t.dv,A0 p] [] (AR (decide (0<t.timesN p))) []:=by
 induction t using Tm.ind generalizing p with
 | h t ih=>
 have Ap:=Tm.count_eq t;have Ji:=K9 t.kind;have Jv:=Tm.timesN_eq t p;refine A6 Tryz.func256 ?_;intro X hP u6 hf u8 hn hR u5 u4;have hlen:=Tm.fit_len (u4 t.dv sS);by_cases h:t.kind=1/\t.index=p
 ·repeat (first|refine DA ?_|refine BX ?_|refine C4 ?_|refine AN ?_|refine B7 ?_|refine CC rfl ?_|((first|refine B4 [] fun K hK=>?_|refine AU (by rw[hP];exact BK) [] fun K hK=>?_);simp[go_sem,hP,u6,hn,h.1,h.2];(repeat (refine⟨oO,?_⟩));(first|refine hK _ ?_|refine⟨by rfl,hK _ ?_⟩);clear hK K)|refine BN rfl (fun _=>?_) (fun hq=>False.elim (by first|(simp[h.1,h.2];done)|(simp[h.1,h.2];omega)|(simp[h.1,h.2]at hq;done)|(simp[h.1,h.2]at hq;omega)))|refine BN rfl (fun hq=>False.elim (by first|(simp[h.1,h.2];done)|(simp[h.1,h.2];omega)|(simp[h.1,h.2]at hq;done)|(simp[h.1,h.2]at hq;omega))) (fun _=>?_))
  rw[if_pos h]at Jv;exact AM
 ·rw[if_neg h]at Jv;refine A2 ?_;apply Q8 [sV 1 (A0 p),sP 2,sL 2 [.v (A0 t.kind),.v (A0 t.index),.v (A0 t.type.kind),.v (.sl (t.type.args.map Ty.cells)),.v (.sl (t.args.map Tm.cells))],sV 19 (A0 0),sV 18 (A0 t.args.length),sV 17 (.sl (t.args.map Tm.cells))]
  ·intro Aa;by_cases h1:t.kind=1
   ·have h2:¬t.index=p:=fun e=>h ⟨h1,e⟩;refine A7 (j2 @h1 @h2) ?_;refine GX ?_;refine AA [] (j2 @h1 @h2) Aa
   ·refine A7 @h1 ?_;refine GX ?_;refine AA [] @h1 Aa
  ·refine BR ?_;refine AA [] tT (DC (t.args) (fun done=>Tm.timesN.timess done (p+AX t.kind)=0) (fun done rest=>[sV 1 (A0 p),sP 2,sL 2 [.v (A0 t.kind),.v (A0 t.index),.v (A0 t.type.kind),.v (.sl (t.type.args.map Ty.cells)),.v (.sl (t.args.map Tm.cells))],sV 17 (.sl (t.args.map Tm.cells)),sV 18 (A0 t.args.length),sV 19 (A0 done.length)]) (rfl) ?_ ?_)
   ·intro done x rest hL Ad hI u7;have Ac:done.length<t.args.length:=by rw[hL];simp
    have Aj:=uE Ad;have Br:=Tm.count_mem Aj;refine A5 ?_;refine AQ ?_;refine A7 @Ad ?_;refine BL @Ad (S8 t) (ih x Aj (p+AX t.kind) oO oO oO) ?_;by_cases hx:0<x.timesN (p+AX t.kind)
    ·refine A7 @hx ?_;have:0<t.timesN p:=by rw[Jv,hL,Tm.timess_append];simp only[Tm.timesN.timess];omega
     exact AC @this
    ·refine CG (wr []) tT @hx (u7 (by rw[Tm.timess_append,hI];simp only[Tm.timesN.timess];omega))
   ·intro hI;rw[hI]at Jv;refine A5 ?_;refine B9 ?_;refine A2 ?_;exact AC @Jv
theorem zfb (t:Fm)(p:Int)(hc:t.count<=1073741824)(Lm:0<=p)(hp:p+t.count<=2147483648):cT gl 234 [t.dv,A0 p] [] (AR (decide (0<t.timesN p))) []:=by
 induction t using Fm.ind generalizing p with
 | h t ih=>
 have Ap:=Fm.count_eq t;have Ji:=SJ t.kind;have Jv:=Fm.timesN_eq t p;refine A6 Tryz.func234 ?_;intro X hP u6 hf u8 hn hR u5 u4;have hlen:=Fm.fit_len (u4 t.dv sS);refine A2 ?_;refine BR ?_;refine AA [] tT (DC (t.terms) (fun done=>Tm.timesN.timess done p=0) (fun done rest=>[sV 1 (A0 p),sP 2,sL 2 [.v (A0 t.kind),.v (A0 t.type.kind),.v (.sl (t.type.args.map Ty.cells)),.v (.sl (t.terms.map Tm.cells)),.v (.sl (t.args.map Fm.cells))],sV 10 (.sl (t.terms.map Tm.cells)),sV 11 (A0 t.terms.length),sV 12 (A0 done.length)]) (rfl) ?_ ?_)
 ·intro done x rest hL Ad hI u7;have Ac:done.length<t.terms.length:=by rw[hL];simp
  have Aj:=uE Ad;have Br:=Tm.count_mem Aj;refine A5 ?_;refine AQ ?_;refine A7 @Ad ?_;refine A3 @Ad (zjy x p oO Lm oO) ?_;by_cases hx:0<x.timesN p
  ·refine A7 @hx ?_;have:0<t.timesN p:=by rw[Jv,hL,Tm.timess_append];simp only[Tm.timesN.timess];omega
   exact AC @this
  ·refine CG (wr []) tT @hx (u7 (by rw[Tm.timess_append,hI];simp only[Tm.timesN.timess];omega))
 ·intro hI;rw[hI]at Jv;refine A5 ?_;refine B9 ?_;refine A2 ?_;refine BR ?_;refine AA [] tT (DC (t.args) (fun done=>Fm.timesN.timess done (p+H5 t.kind)=0) (fun done rest=>[sV 1 (A0 p),sP 2,sL 2 [.v (A0 t.kind),.v (A0 t.type.kind),.v (.sl (t.type.args.map Ty.cells)),.v (.sl (t.terms.map Tm.cells)),.v (.sl (t.args.map Fm.cells))],sV 21 (.sl (t.args.map Fm.cells)),sV 22 (A0 t.args.length),sV 23 (A0 done.length)]) (rfl) ?_ ?_)
  ·intro done x rest hL Ad Iw u7;have Ac:done.length<t.args.length:=by rw[hL];simp
   have Aj:=uE Ad;have Br:=Fm.count_mem Aj;refine A5 ?_;refine AQ ?_;refine A7 @Ad ?_;refine BL @Ad (TT t) (ih x Aj (p+H5 t.kind) oO oO oO) ?_;by_cases hx:0<x.timesN (p+H5 t.kind)
   ·refine A7 @hx ?_;have:0<t.timesN p:=by rw[Jv,hL,Fm.timess_append];simp only[Fm.timesN.timess];omega
    exact AC @this
   ·refine CG (wr []) tT @hx (u7 (by rw[Fm.timess_append,Iw];simp only[Fm.timesN.timess];omega))
  ·intro Iw;rw[Iw]at Jv;refine A5 ?_;refine B9 ?_;refine A2 ?_;exact AC @Jv
theorem hZ (t:Fm)(m:Int):cT gl 239 [t.dv,A0 m] [] (AR (t.leastN m)) []:=by
 induction t using Fm.ind with
 | h t ih=>
 refine A6 Tryz.func239 ?_;intro X hP u6 hf u8 hn hR u5 u4;have hlen:=Fm.fit_len (u4 t.dv sS);refine A2 ?_;refine BR ?_;refine AA [] tT (DC (t.terms) (fun done=>Tm.leastN.leasts done m=true) (fun done rest=>[sV 1 (A0 m),sP 2,sL 2 [.v (A0 t.kind),.v (A0 t.type.kind),.v (.sl (t.type.args.map Ty.cells)),.v (.sl (t.terms.map Tm.cells)),.v (.sl (t.args.map Fm.cells))],sV 10 (.sl (t.terms.map Tm.cells)),sV 11 (A0 t.terms.length),sV 12 (A0 done.length)]) (rfl) ?_ ?_)
 ·intro done x rest hL Ad hI u7;have Ac:done.length<t.terms.length:=by rw[hL];simp
  refine A5 ?_;refine AQ ?_;refine A7 @Ad ?_;refine A3 @Ad (cG x m) ?_;by_cases hx:x.leastN m=true;· refine CG (wr []) tT @hx (u7 (by rw[Tm.leasts_append,hI];simp[Tm.leastN.leasts,hx]))
  ·refine A7 @hx ?_;refine EO ?_;simp[go_sem,hP,u6,hn] <;> (try omega);rw[Fm.leastN_eq t,hL,Tm.leasts_append];simp[Tm.leastN.leasts,hx]
 ·intro hI;refine A5 ?_;refine B9 ?_;refine A2 ?_;refine BR ?_;refine AA [] tT (DC (t.args) (fun done=>Fm.leastN.leasts done m=true) (fun done rest=>[sV 1 (A0 m),sV 22 (.sl (t.args.map Fm.cells)),sV 23 (A0 t.args.length),sV 24 (A0 done.length)]) (rfl) ?_ ?_)
  ·intro done x rest hL Ad Iw u7;have Ac:done.length<t.args.length:=by rw[hL];simp
   have Aj:=uE Ad;refine A5 ?_;refine AQ ?_;refine A7 @Ad ?_;refine A3 @Ad (ih x Aj) ?_;by_cases hx:x.leastN m=true;· refine CG (wr []) tT @hx (u7 (by rw[Fm.leasts_append,Iw];simp[Fm.leastN.leasts,hx]))
   ·refine A7 @hx ?_;refine EO ?_;simp[go_sem,hP,u6,hn] <;> (try omega);rw[Fm.leastN_eq t,hL,Fm.leasts_append];simp[Fm.leastN.leasts,hx]
  ·intro Iw;refine A5 ?_;refine B9 ?_;refine A2 ?_;exact AC (j3 (Fm.leastN_eq t) @hI @Iw)
theorem z4n (t:Fm)(g:List Ty)(hi:t.good 1073741824)(u6:g.length+t.count<=1048576)(hg:∀x∈g,x.ok):cT gl 222 [.sl (g.map Ty.cells),t.dv] [] (A0 (t.typedN g)) []:=by
 induction t using Fm.ind generalizing g with
 | h t ih=>
 have Ap:=Fm.count_eq t;have Cy:=(Fm.good_eq t _).1 hi;have Yt:=Fm.typedN_eq t g;refine A6 Tryz.func222 ?_;intro X hP u6 hf u8 hn hR u5 u4;have hlen:=Fm.fit_len (u4 t.dv sS);refine A2 ?_;refine BR ?_;refine AA [] tT (DC (t.terms) (fun done=>Tm.natEs done g=0) (fun done rest=>[sV 0 (.sl (g.map Ty.cells)),sP 3,sL 3 [.v (A0 t.kind),.v (A0 t.type.kind),.v (.sl (t.type.args.map Ty.cells)),.v (.sl (t.terms.map Tm.cells)),.v (.sl (t.args.map Fm.cells))],sV 13 (.sl (t.terms.map Tm.cells)),sV 14 (A0 t.terms.length),sV 15 (A0 done.length)]) (rfl) ?_ ?_)
 ·intro done x rest hL Ad hI u7;have Ac:done.length<t.terms.length:=by rw[hL];simp
  have Aj:=uE Ad;have Br:=Tm.count_mem Aj;have Au:x.natE g≠0->t.typedN g=x.natE g:=by
   intro hx;have e1:Tm.natEs t.terms g=x.natE g:=by rw[hL,Tm.natEs_append,if_pos hI];simp[Tm.natEs,hx]
   rw[Yt,e1,if_neg hx]
  have Vl:=Ty.cells_eq (x.typedE g).1;refine A5 ?_;refine AQ ?_;refine A7 @Ad ?_;refine A3 (j2 @Ad @Vl) (S7 x g oO (DS x (Cy.1 x Aj).1) oO hg) ?_;by_cases h1:(x.typedE g).2=0
  ·by_cases h2:(x.typedE g).1.kind=1;· refine CG (wr []) tT (j2 @h1 @h2) (u7 (by rw[Tm.natEs_append,if_pos hI];simp[Tm.natEs,Tm.natE,h1,h2]))
   ·have e:x.natE g=7:=by unfold Tm.natE;rw[if_pos h1,if_neg h2]
    have e2:=Au (by rw[e];decide);refine A7 (j2 @h1 @h2) ?_;exact AC (j2 @e2 @e)
  ·have e:x.natE g=(x.typedE g).2:=by unfold Tm.natE;rw[if_neg h1]
   have e2:=Au (by rw[e];exact h1);refine A7 @h1 ?_;exact AC (j2 @e2 @e)
 ·intro hI;rw[if_pos hI]at Yt;refine A5 ?_;refine B9 ?_;refine A2 ?_;apply Q8 [sV 0 (.sl ((if H5 t.kind=1 then g++[t.type] else g).map Ty.cells)),sP 3,sL 3 [.v (A0 t.kind),.v (A0 t.type.kind),.v (.sl (t.type.args.map Ty.cells)),.v (.sl (t.terms.map Tm.cells)),.v (.sl (t.args.map Fm.cells))],sV 48 (A0 0),sV 47 (A0 t.args.length),sV 46 (.sl (t.args.map Fm.cells))]
  ·intro Aa;have Xt:=Ty.cells_eq t.type;by_cases h1:H5 t.kind=1
   ·refine A3 @h1 (J5 t.kind) ?_;have Hq:g.length<=2147483647:=oO;refine A7 (j4 @h1 @IX @Xt @Ty.length_cells) ?_;refine GX ?_;refine AA [] (j2 @h1 @Xt) Aa
   ·refine A3 @h1 (J5 t.kind) ?_;refine A7 @h1 ?_;refine GX ?_;refine AA [] @h1 Aa
  ·have Vq:(if H5 t.kind=1 then g++[t.type] else g).length<=g.length+1:=by split <;> simp
   have Le:∀x∈(if H5 t.kind=1 then g++[t.type] else g),x.ok:=by
    intro x hx;split at hx
    ·rename_i h1;rcases List.mem_append.1 hx with hx|hx;· exact hg x hx
     ·simp at hx;subst hx;exact Cy.2.1 h1
    ·exact hg x hx
   generalize (if H5 t.kind=1 then g++[t.type] else g)=g2 at *;refine BR ?_;refine AA [] tT (DC (t.args) (fun done=>Fm.typedN.typeds done g2=0) (fun done rest=>[sV 0 (.sl (g2.map Ty.cells)),sV 46 (.sl (t.args.map Fm.cells)),sV 47 (A0 t.args.length),sV 48 (A0 done.length)]) (rfl) ?_ ?_)
   ·intro done x rest hL Ad Iw u7;have Ac:done.length<t.args.length:=by rw[hL];simp
    have Aj:=uE Ad;have Br:=Fm.count_mem Aj;refine A5 ?_;refine AQ ?_;refine A7 @Ad ?_;refine A3 @Ad (ih x Aj g2 (Cy.2.2.2 x Aj) oO Le) ?_;by_cases hx:x.typedN g2=0;· refine CG (wr []) tT @hx (u7 (by rw[Fm.typeds_append,if_pos Iw];simp[Fm.typedN.typeds,hx]))
    ·have e:t.typedN g=x.typedN g2:=by rw[Yt,hL,Fm.typeds_append,if_pos Iw];simp[Fm.typedN.typeds,hx]
     refine A7 @hx ?_;exact AC @e
   ·intro Iw;rw[Iw]at Yt;refine A5 ?_;refine B9 ?_;refine A2 ?_;exact AC @Yt
theorem VC:cT gl 176 [.agg [A0 0,.sl []]] [] (AR true) []:=LF (Ty.mk 0 [])
theorem VE (s t:Tm):(DM s t).dv = .agg [A0 1,A0 0,.sl [],.sl [s.cells,t.cells],.sl []]:=rfl
theorem TV (k:Int)(a b:Fm):(FA k a b).dv = .agg [A0 k,A0 0,.sl [],.sl [],.sl [a.cells,b.cells]]:=rfl
theorem MK (k:Int)(y:Ty)(a:Fm):(qF k y a).dv = .agg [A0 k,A0 y.kind,.sl (y.args.map Ty.cells),.sl [],.sl [a.cells]]:=by
 show DV.agg _=_;rw[Fm.cells_eq];rfl
theorem iA {Γ:List T}{f:Fm}(h:FDn Γ f):cT gl 167 [f.dv] [] (AR true) []:=by
 induction h with
 | @eq Γ s t F G h1 h2=>
  have w1:=K7 (gl:=gl) s (DS s (AJ h1));have w2:=K7 (gl:=gl) t (DS t (AJ h2));rw[AJ h1]at w1;rw[AJ h2]at w2;have l1:=Tm.length_cells s;have l2:=Tm.length_cells t;rw[VE];refine A6 Tryz.func167 ?_;intro X hP u6 hf u8 hn hR u5 u4;refine A2 ?_;refine F9 tT VC w1 w2 ?_;exact AM
 | @two Γ k a b hk h1 h2 Cr Cg=>
  have l1:=Fm.length_cells a;have l2:=Fm.length_cells b;rw[TV];refine A6 Tryz.func167 ?_;intro X hP u6 hf u8 hn hR u5 u4;rcases hk with rfl|rfl
  ·refine A2 ?_;refine F9 tT VC Cr Cg ?_;exact AM
  ·refine A2 ?_;refine F9 tT VC Cr Cg ?_;exact AM
 | @q Γ k a f hk ha h ih=>
  have l1:=Fm.length_cells f;have wc:=EJ (gl:=gl) a.ty (by have:=(T.ok_ty ha).2;omega);rw[(Ty.checkN_iff _).2 (T.ok_ty ha)]at wc;have hq:H5 k=1:=by unfold H5;rw[if_pos hk]
  have wq:=J5 (gl:=gl) k;rw[hq]at wq;have As:=Ty.fold a.ty;have h1:¬k=1:=oO;have h2:¬k=2:=oO;have h3:¬k=3:=oO;rw[MK];refine A6 Tryz.func167 ?_;intro X hP u6 hf u8 hn hR u5 u4;refine A7 (j3 @h1 @h2 @h3) ?_;refine A3 tT wq ?_;refine A2 ?_;refine BL @As wc ih ?_;exact AM
theorem H6 {Γ:List T}{f:Fm}(h:FDn Γ f)(hc:f.count<=1073741824):cT gl 117 [f.dv] [] (A0 f.chk) []:=by
 have As:=Fm.fold f;refine A6 Tryz.func117 ?_;intro X hP u6 hf u8 hn hR u5 u4;refine A2 ?_;refine A3 tT (iA h) ?_;refine A2 ?_;refine A3 tT (TU f hc) ?_;unfold Fm.chk at hR;by_cases h2:4096<f.count
 ·refine A7 @h2 ?_;exact AC @h2
 ·refine A7 @h2 ?_;exact AC @h2
theorem iB {Γ:List T}{f:Fm}(h:FDn Γ f):∀m:Int,(Γ.length:Int)+f.count<=m->f.leastN m=true:=by
 induction h with
 | @eq Γ s t F G h1 h2=>
  intro m hm;have hc:(DM s t).count=1+(s.count+(t.count+0))+0:=rfl;rw[Fm.leastN_eq];simp[DM,Fm.terms,Fm.args,Tm.leastN.leasts,Fm.leastN.leasts,EK h1 m oO,EK h2 m oO]
 | @two Γ k a b hk h1 h2 Cr Cg=>
  intro m hm;have hc:(FA k a b).count=1+0+(a.count+(b.count+0)):=rfl;rw[Fm.leastN_eq];simp[FA,Fm.terms,Fm.args,Tm.leastN.leasts,Fm.leastN.leasts,Cr m oO,Cg m oO]
 | @q Γ k a f hk ha h ih=>
  intro m hm;have hc:(qF k a.ty f).count=1+0+(f.count+0):=rfl;rw[Fm.leastN_eq];simp[qF,Fm.terms,Fm.args,Tm.leastN.leasts,Fm.leastN.leasts,ih m (by simp only[List.length_cons];omega)]
def AF:Fm:=.mk 0 (Ty.mk 0 []) [] []
theorem pN {Γ:List T}{f:Fm}(h:FDn Γ f)(hc:f.count<=1000000)(Js:Γ.length<=1000000)(b:Int)(hb:0<=b)(Et:b<=4096)(p:Int)(hp:0<=p)(hp2:p<=4096):cT gl 199 [f.dv,A0 p,A0 b] [] (.tup [(if f.chk=0 then f.upN p b else AF).dv,A0 f.chk]) []:=by
 have As:=Fm.fold f;have wl:=hZ (gl:=gl) f 536870912;rw[iB h 536870912 oO]at wl;have wu:=XV (gl:=gl) f p b (HY h _ oO) oO oO hp oO;have wc:=PK (gl:=gl) (f.upN p b);have Lj:=Fm.cells_eq (f.upN p b);have Mk:=Fm.fold (f.upN p b);generalize f.upN p b=u at *;refine A6 Tryz.func199 ?_;intro X hP u6 hf u8 hn hR u5 u4;have b1:¬p<0:=oO;have b2:¬4096<p:=oO;have b3:¬b<0:=oO;have b4:¬4096<b:=oO;by_cases h0:f.chk=0
 ·refine A2 ?_;refine A3 @h0 (H6 h oO) ?_;refine A7 @h0 ?_;have J0:=j4 @b1 @b2 @b3 @b4;refine A3 J0 wl ?_;refine A7 J0 ?_;refine BL @As wu wc ?_;exact AT (j2 @h0 @Lj)
 ·refine A2 ?_;refine A3 @h0 (H6 h oO) ?_;refine A7 @h0 ?_;refine EO ?_;simp[go_sem,hP,u6,hn,h0,AF] <;> (try omega);all_goals exact RH
theorem iC {Γ:List T}{a b:Tm}{s:T}{F G:BH Γ->s.V}(ha:Dn Γ a s F)(hb:Dn Γ b s G)(Js:Γ.length<=1000000)(ca:a.count<=1000000)(cb:b.count<=1000000):cT gl 221 [a.dv,b.dv,A0 1000] [] (A0 (a.matchE b 1000)) []:=by
 have Da:=Tm.fold a;have Gt:=Tm.fold b;have wa:=G9 (gl:=gl) a (DS a (AJ ha)) oO;have wb:=G9 (gl:=gl) b (DS b (AJ hb)) oO;have ws:=UG (gl:=gl) a b;have Xx:=UG (gl:=gl) (Tm.loopN 1000 a 0).1 (Tm.loopN 1000 b 0).1
 have na:a.checkN=0->cT gl 253 [a.dv,A0 1000] [] (.tup [(Tm.loopN 1000 a 0).1.dv,A0 (Tm.loopN 1000 a 0).2.1,A0 (Tm.loopN 1000 a 0).2.2]) []:=fun h=>
  gP a 1000 (DS a (AJ ha)) (EK ha _ oO) dD (kT Js 1000 ha ((Tm.checkN_iff a).1 h).2)
 have nb:b.checkN=0->cT gl 253 [b.dv,A0 1000] [] (.tup [(Tm.loopN 1000 b 0).1.dv,A0 (Tm.loopN 1000 b 0).2.1,A0 (Tm.loopN 1000 b 0).2.2]) []:=fun h=>
  gP b 1000 (DS b (AJ hb)) (EK hb _ oO) dD (kT Js 1000 hb ((Tm.checkN_iff b).1 h).2)
 have hm:=Tm.matchE.eq_1 a b 1000;generalize a.matchE b 1000=m at *;generalize Tm.loopN 1000 a 0=la at *;generalize Tm.loopN 1000 b 0=lb at *;obtain⟨ua,va,ea⟩:=la;obtain⟨ub,vb,eb⟩:=lb;simp only at Xx na nb hm;have hua:=Tm.fold ua;have hub:=Tm.fold ub;have If:=Tm.cells_eq ua;have Mz:=Tm.cells_eq ub;refine A6 Tryz.func221 ?_;intro X hP u6 hf u8 hn hR u5 u4;refine A2 ?_;refine A3 @Da wa ?_;by_cases h1:a.checkN=0;rotate_left
 ·rw[if_neg h1]at hm;refine A7 @h1 ?_;exact AC @hm
 rw[if_pos h1]at hm;refine A7 @h1 ?_;refine A3 @Gt wb ?_;by_cases h2:b.checkN=0;rotate_left
 ·rw[if_neg h2]at hm;refine A7 @h2 ?_;exact AC @hm
 rw[if_pos h2]at hm;refine A7 @h2 ?_;by_cases h3:a.same b=true
 ·rw[if_pos h3]at hm;refine A3 (j3 @Da @Gt @h3) ws ?_;refine A2 ?_;exact AC @hm
 rw[if_neg h3]at hm;have h3:a.same b=false:=by simpa using h3
 refine A3 (j3 @Da @Gt @h3) ws ?_;refine A2 ?_;refine A3 (j2 @Da @If) (na h1) ?_;by_cases h4:ea=0;rotate_left
 ·rw[if_neg h4]at hm;refine A7 @h4 ?_;exact AC @hm
 rw[if_pos h4]at hm;refine A7 @h4 ?_;refine A3 (j2 @Gt @Mz) (nb h2) ?_;by_cases h5:eb=0;rotate_left
 ·rw[if_neg h5]at hm;refine A7 @h5 ?_;exact AC @hm
 rw[if_pos h5]at hm;refine A7 @h5 ?_;by_cases h6:ua.same ub=true
 ·rw[if_pos h6]at hm;refine A3 (j3 @hua @hub @h6) Xx ?_;refine A2 ?_;exact AC @hm
 ·rw[if_neg h6]at hm;have h6:ua.same ub=false:=by simpa using h6
  refine A3 (j3 @hua @hub @h6) Xx ?_;refine A2 ?_;exact AC @hm
theorem Z7 (a:Tm)(n:Nat)(h:a.shape=true):a.matchE a n=0\/a.matchE a n=4:=by
 unfold Tm.matchE;by_cases h1:a.checkN=0;· rw[if_pos h1,if_pos h1,if_pos ((Tm.same_iff a a).2 rfl)];exact .inl rfl
 ·rw[if_neg h1]
  right
  unfold Tm.checkN at h1 ⊢;rw[if_pos h]at h1 ⊢;split at h1;· rename_i h2;rw[if_pos h2]
  ·exact absurd rfl h1
def HP (a b:Int):Int:=if a=0 then b else a
theorem DI {a b:Int}(h:HP a b=0):a=0/\b=0:=by
 unfold HP at h;split at h;· rename_i h1;exact⟨h1,h⟩
 ·rename_i h1;exact absurd h h1
theorem NR {p:Int->Prop}{a b:Int}(ha:p a)(hb:p b):p (HP a b):=by unfold HP;split <;> assumption
def KK (e:Int):Prop:=e=0\/e=3\/e=4\/e=5
theorem LK (f:Fm):KK f.chk:=by unfold Fm.chk KK;split <;> simp
theorem SK {a b:Fm}(h:¬(a.kind=b.kind/\a.type=b.type)):cT gl 172 [a.dv,b.dv] [] (A0 11) []:=by
 have Eg:=Ty.fold a.type;have htb:=Ty.fold b.type;have wt:=AV (gl:=gl) a.type b.type;refine A6 Tryz.func172 ?_;intro X hP u6 hf u8 hn hR u5 u4;by_cases hk:a.kind=b.kind
 ·have ht:a.type.same b.type=false:=by
   refine Bool.eq_false_iff.2 fun e=>h ⟨hk,(Ty.same_iff _ _).1 e⟩
  refine A7 @hk ?_;refine A3 (j4 @hk @Eg @htb @ht) wt ?_;refine A2 ?_;exact AM
 ·refine A7 @hk ?_;exact AM
theorem z4o {Γ:List T}{a:Fm}(ha:FDn Γ a):Γ.length+a.count<=1000000->∀b,FDn Γ b->Γ.length+b.count<=1000000->∃e,(a=b->KK e)/\cT gl 172 [a.dv,b.dv] [] (A0 e) []:=by
 induction ha with
 | @eq Γ s t F G h1 h2=>
  intro ca b hb cb;by_cases hk:(DM s t).kind=b.kind/\(DM s t).type=b.type;rotate_left;· exact⟨11,fun e=>absurd (by rw[<- e];exact⟨rfl,rfl⟩) hk,SK hk⟩
  cases hb with
  | @two _ k x y Ax _ _=>exfalso;have:=hk.1;simp[DM,FA,Fm.kind]at this;omega
  | @q _ k x y Ax _ _=>exfalso;have:=hk.1;simp[DM,qF,Fm.kind]at this;omega
  | @eq _ s' t' F' G' g1 g2=>
  have c1:(DM s t).count=1+(s.count+(t.count+0))+0:=rfl;have c2:(DM s' t').count=1+(s'.count+(t'.count+0))+0:=rfl;have w1:=iC (gl:=gl) h1 g1 oO oO oO;have w2:=iC (gl:=gl) h2 g2 oO oO oO;refine⟨HP (s.matchE s' 1000) (t.matchE t' 1000),fun e=>?_,?_⟩
  ·have e:Fm.mk 1 (Ty.mk 0 []) [s,t] []=Fm.mk 1 (Ty.mk 0 []) [s',t'] []:=e;simp only[Fm.mk.injEq,List.cons.injEq,and_true,true_and]at e;obtain⟨rfl,rfl⟩:=e;exact NR ((Z7 s 1000 (AJ h1)).elim .inl fun h=>.inr (.inr (.inl h))) ((Z7 t 1000 (AJ h2)).elim .inl fun h=>.inr (.inr (.inl h)))
  have l1:=Tm.length_cells s;have l2:=Tm.length_cells t;have l3:=Tm.length_cells s';have l4:=Tm.length_cells t';have wz:cT gl 87 [.agg [A0 0,.sl []],.agg [A0 0,.sl []]] [] (AR true) []:=AV (Ty.mk 0 []) (Ty.mk 0 []);generalize s.matchE s' 1000=e1 at *;generalize t.matchE t' 1000=e2 at *;unfold HP;rw[VE,VE];refine A6 Tryz.func172 ?_;intro X hP u6 hf u8 hn hR u5 u4;refine A2 ?_;refine A3 tT wz ?_;refine A2 ?_;refine D4 ?_;refine A2 ?_;refine A3 tT w1 ?_;by_cases q1:e1=0;rotate_left
  ·rw[if_neg q1]at hR;refine A7 @q1 ?_;exact AM
  rw[if_pos q1]at hR;refine A7 @q1 ?_;refine CN ?_;refine A2 ?_;refine A3 tT w2 ?_;by_cases q2:e2=0;rotate_left
  ·refine A7 @q2 ?_;exact AM
  refine A7 @q2 ?_;refine CN ?_;refine A2 ?_;refine D4 ?_;refine A2 ?_;exact AC @q2
 | @two Γ k x y hk h1 h2 Cr Cg=>
  intro ca b hb cb;by_cases Fc:(FA k x y).kind=b.kind/\(FA k x y).type=b.type;rotate_left;· exact⟨11,fun e=>absurd (by rw[<- e];exact⟨rfl,rfl⟩) Fc,SK Fc⟩
  cases hb with
  | @eq _ s' t' F' G' g1 g2=>exfalso;have:=Fc.1;simp[DM,FA,Fm.kind]at this;omega
  | @q _ k x y Ax _ _=>exfalso;have:=Fc.1;simp[FA,qF,Fm.kind]at this;omega
  | @two _ k' x' y' Ax g1 g2=>
  have Fc:k=k':=Fc.1;subst Fc;have c1:(FA k x y).count=1+0+(x.count+(y.count+0)):=rfl;have c2:(FA k x' y').count=1+0+(x'.count+(y'.count+0)):=rfl;obtain⟨e1,r1,w1⟩:=Cr oO x' g1 oO;obtain⟨e2,r2,w2⟩:=Cg oO y' g2 oO;refine⟨HP e1 e2,fun e=>?_,?_⟩
  ·have e:Fm.mk k (Ty.mk 0 []) [] [x,y]=Fm.mk k (Ty.mk 0 []) [] [x',y']:=e;simp only[Fm.mk.injEq,List.cons.injEq,and_true,true_and]at e;exact NR (r1 e.1) (r2 e.2)
  have l1:=Fm.length_cells x;have l2:=Fm.length_cells y;have l3:=Fm.length_cells x';have l4:=Fm.length_cells y';have wz:cT gl 87 [.agg [A0 0,.sl []],.agg [A0 0,.sl []]] [] (AR true) []:=AV (Ty.mk 0 []) (Ty.mk 0 []);clear hk Ax;unfold HP;rw[TV,TV];refine A6 Tryz.func172 ?_;intro X hP u6 hf u8 hn hR u5 u4;refine A2 ?_;refine A3 tT wz ?_;refine A2 ?_;refine D4 ?_;refine A2 ?_;refine D4 ?_;refine A2 ?_;refine A3 tT w1 ?_;by_cases q1:e1=0;rotate_left
  ·rw[if_neg q1]at hR;refine A7 @q1 ?_;exact AM
  rw[if_pos q1]at hR;refine A7 @q1 ?_;refine CN ?_;refine A2 ?_;refine A3 tT w2 ?_;by_cases q2:e2=0;rotate_left
  ·refine A7 @q2 ?_;exact AM
  refine A7 @q2 ?_;refine CN ?_;refine A2 ?_;exact AC @q2
 | @q Γ k s x hk hs h ih=>
  intro ca b hb cb;by_cases Fc:(qF k s.ty x).kind=b.kind/\(qF k s.ty x).type=b.type;rotate_left;· exact⟨11,fun e=>absurd (by rw[<- e];exact⟨rfl,rfl⟩) Fc,SK Fc⟩
  cases hb with
  | @eq _ s' t' F' G' g1 g2=>exfalso;have:=Fc.1;simp[DM,qF,Fm.kind]at this;omega
  | @two _ k x y Ax _ _=>exfalso;have:=Fc.1;simp[FA,qF,Fm.kind]at this;omega
  | @q _ k' s' x' Ax Iz g=>
  have Fk:k=k':=Fc.1;have Bv:s=s':=T.ty_inj Fc.2;subst Fk Bv;have c1:(qF k s.ty x).count=1+0+(x.count+0):=rfl;have c2:(qF k s.ty x').count=1+0+(x'.count+0):=rfl;obtain⟨e1,r1,w1⟩:=ih (by simp only[List.length_cons];omega) x' g (by simp only[List.length_cons];omega);refine⟨e1,fun e=>?_,?_⟩
  ·have e:Fm.mk k s.ty [] [x]=Fm.mk k s.ty [] [x']:=e;simp only[Fm.mk.injEq,List.cons.injEq,and_true,true_and]at e;exact r1 e
  have l1:=Fm.length_cells x;have l3:=Fm.length_cells x';have As:=Ty.fold s.ty;have wz:=AV (gl:=gl) s.ty s.ty;rw[(Ty.same_iff s.ty s.ty).2 rfl]at wz;rw[MK,MK];refine A6 Tryz.func172 ?_;intro X hP u6 hf u8 hn hR u5 u4;refine A2 ?_;refine A3 @As wz ?_;refine A2 ?_;refine D4 ?_;refine A2 ?_;refine D4 ?_;refine A2 ?_;refine A3 tT w1 ?_;by_cases q1:e1=0
  ·refine A7 @q1 ?_;refine CN ?_;refine A2 ?_;exact AC @q1
  ·refine A7 @q1 ?_;exact AM
theorem iE {Γ:List T}{a b:Fm}(ha:FDn Γ a)(hb:FDn Γ b)(ca:Γ.length+a.count<=1000000)(cb:Γ.length+b.count<=1000000):∃e,(a=b->KK e)/\cT gl 125 [a.dv,b.dv] [] (A0 e) []:=by
 obtain⟨e,r,w⟩:=z4o (gl:=gl) ha ca b hb cb;refine⟨HP a.chk (HP b.chk e),fun h=>NR (LK a) (NR (LK b) (r h)),?_⟩;have Da:=Fm.fold a;have Gt:=Fm.fold b;have w1:=H6 (gl:=gl) ha oO;have w2:=H6 (gl:=gl) hb oO;unfold HP;generalize a.chk=e1 at *;generalize b.chk=e2 at *;refine A6 Tryz.func125 ?_;intro X hP u6 hf u8 hn hR u5 u4;by_cases q1:e1=0;rotate_left
 ·rw[if_neg q1]at hR;refine A2 ?_;refine A3 @Da w1 ?_;refine A7 @q1 ?_;exact AM
 rw[if_pos q1]at hR;by_cases q2:e2=0;rotate_left
 ·rw[if_neg q2]at hR;refine A2 ?_;refine A3 @Da w1 ?_;refine A7 @q1 ?_;refine A3 @Gt w2 ?_;refine A7 @q2 ?_;exact AM
 rw[if_pos q2]at hR;refine A2 ?_;refine A3 @Da w1 ?_;refine A7 @q1 ?_;refine A3 @Gt w2 ?_;refine A7 @q2 ?_;refine A3 (j2 @Da @Gt) w ?_;exact AM
theorem N4 (t:Fm)(f b:Int):(t.upN f b).count=t.count:=by
 induction t using Fm.ind generalizing f with
 | h t ih=>
 have k1:∀l:List Tm,Tm.count.counts (l.map fun x=>x.upN f b)=Tm.count.counts l:=by
  intro l
  induction l with
  | nil=>rfl
  | cons a r Dk=>simp[Tm.count.counts,Dk,CP]
 have k2:∀l:List Fm,(∀a∈l,a∈t.args)->Fm.count.counts (l.map fun x=>x.upN (f+H5 t.kind) b)=Fm.count.counts l:=by
  intro l
  induction l with
  | nil=>intro _;rfl
  | cons a r Dk=>intro h;simp[Fm.count.counts,Dk (fun b hb=>h b (by simp[hb])),ih a (h a sS)]
 rw[Fm.upN_eq,Fm.count_eq,Fm.terms_mk,Fm.args_mk,k1,k2 _ fun _ h=>h,<- Fm.count_eq]
theorem z4p {Γ:List T}{f:Fm}(h:FDn Γ f)(x:Tm):∀p d:Int,((f.inN p d x).count:Int)=f.count+f.timesN (p+d) * ((x.count:Int) - 1):=by
 induction h with
 | @eq Γ s t F G h1 h2=>
  intro p d;have e1:=cZ s p d x (AJ h1);have e2:=cZ t p d x (AJ h2);have c1:((DM s t).inN p d x).count=1+((s.inN p d x).count+((t.inN p d x).count+0))+0:=rfl;have c2:(DM s t).count=1+(s.count+(t.count+0))+0:=rfl;have c3:(DM s t).timesN (p+d)=(s.timesN (p+d)+(t.timesN (p+d)+0))+0:=rfl;rw[c1,c2,c3];simp only[Int.natCast_add,Int.add_mul,Nat.add_zero];omega
 | @two Γ k a b hk h1 h2 Cr Cg=>
  intro p d;have e0:H5 k=0:=by rcases hk with rfl|rfl <;> rfl
  have e1:=Cr p d;have e2:=Cg p d;have c1:((FA k a b).inN p d x).count=1+0+((a.inN p d x).count+((b.inN p d x).count+0)):=by
   show 1+0+((a.inN p (d+H5 k) x).count+((b.inN p (d+H5 k) x).count+0))=_;rw[e0,Int.add_zero]
  have c2:(FA k a b).count=1+0+(a.count+(b.count+0)):=rfl;have c3:(FA k a b).timesN (p+d)=0+(a.timesN (p+d)+(b.timesN (p+d)+0)):=by
   show 0+(a.timesN (p+d+H5 k)+(b.timesN (p+d+H5 k)+0))=_;rw[e0,Int.add_zero]
  rw[c1,c2,c3];simp only[Int.natCast_add,Int.add_mul,Nat.add_zero,Nat.zero_add];omega
 | @q Γ k a f hk ha h ih=>
  intro p d;have e0:H5 k=1:=if_pos hk;have e1:=ih p (d+1);have c1:((qF k a.ty f).inN p d x).count=1+0+((f.inN p (d+1) x).count+0):=by
   show 1+0+((f.inN p (d+H5 k) x).count+0)=_;rw[e0]
  have c2:(qF k a.ty f).count=1+0+(f.count+0):=rfl;have c3:(qF k a.ty f).timesN (p+d)=0+(f.timesN (p+(d+1))+0):=by
   show 0+(f.timesN (p+d+H5 k)+0)=_;rw[e0,Int.add_assoc]
  rw[c1,c2,c3];simp only[Nat.add_zero,Nat.zero_add];omega
def Jj0 (f:Fm)(s:Tm):Int:=HP f.chk (HP s.checkN (if 4096<(f.count:Int)+f.timesN 0 * ((s.count:Int) - 1) then 4 else 0))
theorem dL {s:Tm}(h:s.shape=true):KK s.checkN:=by
 unfold Tm.checkN KK;rw[if_pos h];split <;> simp
theorem SM {Γ:List T}{s0:T}{f:Fm}{s:Tm}{X:BH Γ->s0.V}(hs:Dn Γ s s0 X):KK (Jj0 f s):=NR (LK f) (NR (dL (AJ hs)) (by unfold KK;split <;> simp))
theorem PL {Γ:List T}{s0:T}{f:Fm}(hf:FDn (s0::Γ) f){s:Tm}(h:Jj0 f s=0):(f.inN 0 0 s).count<=4096/\f.count<=4096/\s.count<=4096:=by
 obtain⟨h1,h2⟩:=DI h;obtain⟨h2,h3⟩:=DI h2;have e:=z4p hf s 0 0;have h1:f.count<=4096:=by unfold Fm.chk at h1;split at h1 <;> omega
 have h2:=((Tm.checkN_iff s).1 h2).2;rw[Int.add_zero]at e;split at h3;· cases h3
 ·exact⟨oO,h1,h2⟩
theorem zfc {Γ:List T}{s0:T}{f:Fm}(hf:FDn (s0::Γ) f){s:Tm}{X:BH Γ->s0.V}(hs:Dn Γ s s0 X)(Js:Γ.length<=1000000)(cf:f.count<=1000000)(cs:s.count<=1000000) :
  cT gl 255 [f.dv,A0 0,s.dv] [] (.tup [(if Jj0 f s=0 then f.inN 0 0 s else AF).dv,A0 (Jj0 f s)]) []:=by
 have Av:=Fm.fold f;have Cv:=Tm.fold s;have hgd:f.good 1073741824:=HY hf _ (by simp only[List.length_cons];omega);have wl:=hZ (gl:=gl) f 536870912;rw[iB hf 536870912 (by simp only[List.length_cons];omega)]at wl;have Ep:=cG (gl:=gl) s 536870912;rw[EK hs 536870912 oO]at Ep;have w1:=H6 (gl:=gl) hf oO;have w2:=G9 (gl:=gl) s (DS s (AJ hs)) oO;have w3:=TU (gl:=gl) f oO;have w4:=z4m (gl:=gl) f 0 oO dD oO;have w5:=BF (gl:=gl) s oO;have w6:=zjx (gl:=gl) f 0 0 s hgd (Tm.idx_of s _ (AJ hs) (EK hs _ oO)) dD dD oO;have w7:=PK (gl:=gl) (f.inN 0 0 s);have ht:=Fm.timesN_le f 0;have Cq:=Fm.cells_eq (f.inN 0 0 s);have hz:Jj0 f s=HP f.chk (HP s.checkN (if 4096<(f.count:Int)+f.timesN 0 * ((s.count:Int) - 1) then 4 else 0)):=rfl;have hmul:(0:Int)<=(f.timesN 0:Int) * ((s.count:Int) - 1)/\(f.timesN 0:Int) * ((s.count:Int) - 1)<=1000000 * 1000000:=by
  have:=Tm.count_pos s;exact⟨Int.mul_nonneg oO oO,Int.mul_le_mul oO oO oO oO⟩
 generalize f.inN 0 0 s=u at *;generalize Jj0 f s=z at *;generalize Td:(f.timesN 0:Int) * ((s.count:Int) - 1)=pr at *;unfold HP at hz;refine A6 Tryz.func255 ?_;intro X hP u6 hf u8 hn hR u5 u4;by_cases q1:f.chk=0;rotate_left
 ·rw[if_neg q1]at hz;have Un:¬z=0:=by rw[hz];exact q1
  rw[if_neg Un]at hR;refine A2 ?_;refine A3 @Av w1 ?_;refine A7 @q1 ?_;refine EO ?_;simp[go_sem,hP,u6,hn,hz,AF] <;> (try omega);all_goals exact RH
 rw[if_pos q1]at hz;by_cases q2:s.checkN=0;rotate_left
 ·rw[if_neg q2]at hz;have Un:¬z=0:=by rw[hz];exact q2
  rw[if_neg Un]at hR;refine A2 ?_;refine A3 @Av w1 ?_;refine A7 @q1 ?_;refine A3 @Cv w2 ?_;refine A7 @q2 ?_;refine EO ?_;simp[go_sem,hP,u6,hn,hz,AF] <;> (try omega);all_goals exact RH
 rw[if_pos q2]at hz;by_cases q3:4096<(f.count:Int)+pr
 ·rw[if_pos q3]at hz;subst hz;rw[if_neg dD]at hR;refine A2 ?_;refine A3 @Av w1 ?_;refine A7 @q1 ?_;refine A3 @Cv w2 ?_;refine A7 @q2 ?_;refine BL (j2 @Av @Cv) wl Ep ?_;refine A2 ?_;refine F9 (j3 @Av @Cv @Td) w3 w4 w5 ?_;refine A7 @q3 ?_;refine EO ?_;simp[go_sem,hP,u6,hn,AF] <;> (try omega);all_goals exact RH
 ·rw[if_neg q3]at hz;subst hz;rw[if_pos rfl]at hR;refine A2 ?_;refine A3 @Av w1 ?_;refine A7 @q1 ?_;refine A3 @Cv w2 ?_;refine A7 @q2 ?_;refine BL (j2 @Av @Cv) wl Ep ?_;refine A2 ?_;refine F9 (j3 @Av @Cv @Td) w3 w4 w5 ?_;refine A7 @q3 ?_;refine BL (j3 @Av @Cv @Cq) w6 w7 ?_;exact AT @Cq
theorem TW {Γ:List T}{f:Fm}(h:FDn Γ f)(g:List Ty)(hg:∀x∈g,x.ok)(u6:g.length+f.count<=1000000)(Js:Γ.length+f.count<=1000000):cT gl 173 [.sl (g.map Ty.cells),f.dv] [] (A0 (HP f.chk (f.typedN g))) []:=by
 have Av:=Fm.fold f;have w1:=H6 (gl:=gl) h oO;have w2:=z4n (gl:=gl) f g (HY h _ oO) oO hg;unfold HP;refine A6 Tryz.func173 ?_;intro X hP u6 hf u8 hn hR u5 u4;by_cases q1:f.chk=0
 ·rw[if_pos q1]at hR;refine A2 ?_;refine A3 @Av w1 ?_;refine A7 @q1 ?_;refine A3 @Av w2 ?_;exact AM
 ·rw[if_neg q1]at hR;refine A2 ?_;refine A3 @Av w1 ?_;refine A7 @q1 ?_;exact AM
theorem iF {Γ:List T}{f:Fm}(h:FDn Γ f)(g:List Ty)(hg:∀x∈g,x.ok)(u6:g.length+f.count<=1000000)(Js:Γ.length+f.count<=1000000):cT gl 126 [.sl (g.map Ty.cells),f.dv] [] (A0 (HP (MP g) (HP f.chk (f.typedN g)))) []:=by
 have Av:=Fm.fold f;have w1:=KX (gl:=gl) g (fun x hx=>by have:=(hg x hx).2;omega);have w2:=TW (gl:=gl) h g hg u6 Js;generalize HP f.chk (f.typedN g)=e at *;unfold HP;refine A6 Tryz.func126 ?_;intro X hP u6 hf u8 hn hR u5 u4;by_cases q1:MP g=0
 ·rw[if_pos q1]at hR;refine A2 ?_;refine A3 tT w1 ?_;refine A7 @q1 ?_;refine A3 @Av w2 ?_;exact AM
 ·rw[if_neg q1]at hR;refine A2 ?_;refine A3 tT w1 ?_;refine A7 @q1 ?_;exact AM
theorem zjz (s t:Tm):cT gl 190 [s.dv,t.dv] [] (DM s t).dv []:=by
 have h1:=Tm.cells_eq s;have h2:=Tm.cells_eq t;rw[VE];refine A6 Tryz.func190 ?_;intro X hP u6 hf u8 hn hR u5 u4;refine A2 ?_;refine BL tT (IV s) (IV t) ?_;exact AC (j2 @h1 @h2)
theorem zfd (k:Int)(a b:Fm):cT gl 180 [A0 k,a.dv,b.dv] [] (FA k a b).dv []:=by
 have h1:=Fm.cells_eq a;have h2:=Fm.cells_eq b;rw[TV];refine A6 Tryz.func180 ?_;intro X hP u6 hf u8 hn hR u5 u4;refine A2 ?_;refine BL tT (PK a) (PK b) ?_;exact AC (j2 @h1 @h2)
theorem zmn (k:Int)(y:Ty)(a:Fm):cT gl 228 [A0 k,y.dv,a.dv] [] (qF k y a).dv []:=by
 have h1:=Fm.cells_eq a;have h2:=Ty.cells_eq y;rw[MK];refine A6 Tryz.func228 ?_;intro X hP u6 hf u8 hn hR u5 u4;refine A2 ?_;refine BL @h2 (DF y) (PK a) ?_;exact AC (j2 @h1 @h2)
def Fm.content:Fm->Bool
 | .mk k _ _ a=>if k=1 then false else if k=2 then any a else if k=5 then true else last a
where
 any:List Fm->Bool
  | []=>false
  | a::r=>a.content||any r
 last:List Fm->Bool
  | []=>false
  | a::r=>match r with
   | []=>a.content
   | _=>last r
theorem xX (s t:Tm):(DM s t).content=false:=rfl
theorem pO (a b:Fm):(FA 2 a b).content=(a.content||b.content):=by
 show (a.content||(b.content||false))=_;rw[Bool.or_false]
theorem pP (a b:Fm):(FA 3 a b).content=b.content:=rfl
theorem dM (y:Ty)(f:Fm):(qF 5 y f).content=true:=rfl
theorem z4q {k:Int}(y:Ty)(f:Fm)(h:k=4\/k=6\/k=7):(qF k y f).content=f.content:=by rcases h with rfl|rfl|rfl <;> rfl
theorem pQ {Γ:List T}{f:Fm}(h:FDn Γ f):cT gl 134 [f.dv] [] (AR f.content) []:=by
 induction h with
 | @eq Γ s t F G h1 h2=>
  rw[VE,xX];refine A6 Tryz.func134 ?_;intro X hP u6 hf u8 hn hR u5 u4;refine A2 ?_;exact AM
 | @two Γ k a b hk h1 h2 Cr Cg=>
  have l1:=Fm.length_cells a;have l2:=Fm.length_cells b;rw[TV];rcases hk with rfl|rfl
  ·rw[pO];refine A6 Tryz.func134 ?_;intro X hP u6 hf u8 hn hR u5 u4;by_cases q:a.content=true
   ·rw[q]at Cr hR;refine A2 ?_;refine A3 tT Cr ?_;exact AM
   ·have q:a.content=false:=by simpa using q
    rw[q]at Cr hR;refine A2 ?_;refine BL tT Cr Cg ?_;exact AM
  ·rw[pP];refine A6 Tryz.func134 ?_;intro X hP u6 hf u8 hn hR u5 u4;refine A2 ?_;refine A3 tT Cg ?_;exact AM
 | @q Γ k a f hk ha h ih=>
  have l1:=Fm.length_cells f;rw[MK];by_cases h5:k=5
  ·subst h5;rw[dM];refine A6 Tryz.func134 ?_;intro X hP u6 hf u8 hn hR u5 u4;refine A2 ?_;exact AM
  ·rw[z4q _ _ oO];have q1:¬k=1:=oO;have q2:¬k=2:=oO;refine A6 Tryz.func134 ?_;intro X hP u6 hf u8 hn hR u5 u4;refine A7 (j3 @q1 @q2 @h5) ?_;refine A3 tT ih ?_;exact AM
theorem Z8 {Γ:List T}{f:Fm}(h:FDn Γ f)(hc:f.count<=1073741824):cT gl 88 [f.dv] [] (.tup [AR (decide (f.chk=0)&&f.content),A0 f.chk]) []:=by
 have Av:=Fm.fold f;have w1:=H6 (gl:=gl) h hc;have w2:=pQ (gl:=gl) h;refine A6 Tryz.func88 ?_;intro X hP u6 hf u8 hn hR u5 u4;by_cases q1:f.chk=0
 ·refine A2 ?_;refine A3 @Av w1 ?_;refine A7 @q1 ?_;refine A3 @Av w2 ?_;exact AC @q1
 ·refine A2 ?_;refine A3 @Av w1 ?_;refine A7 @q1 ?_;exact AC @q1
theorem SN {Γ:List T}{f:Fm}(h:FDn Γ f)(hc:f.count<=4096):cT gl 32 [f.dv] [] (AR f.content) []:=by
 have w1:=Z8 (gl:=gl) h oO;have h0:f.chk=0:=by unfold Fm.chk;rw[if_neg oO]
 rw[h0]at w1;simp only[decide_true,Bool.true_and]at w1;refine A6 Tryz.func32 ?_;intro X hP u6 hf u8 hn hR u5 u4;refine A2 ?_;refine A3 tT w1 ?_;refine A2 ?_;exact AM
end
section
variable {gl:AB}
def HZ (k:Int)(a b c:Nat)(ix ty:Bool):Prop:=((k=1)/\a=0/\b=0/\c=0/\ix=true/\ty=false)\/((k=3)/\a=0/\b=0/\c=2/\ix=false/\ty=false)\/((k=4\/k=5)/\a=0/\b=0/\c=1/\ix=false/\ty=false)\/((k=8)/\a=0/\b=0/\c=1/\ix=false/\ty=true)\/((k=9)/\a=1/\b=0/\c=1/\ix=false/\ty=false)\/((k=10)/\a=1/\b=1/\c=1/\ix=false/\ty=false)\/((k=11)/\a=0/\b=0/\c=2/\ix=false/\ty=false)\/((k=16\/k=17)/\a=1/\b=1/\c=2/\ix=false/\ty=false)\/((k=18)/\a=1/\b=0/\c=0/\ix=false/\ty=false)\/((k=19)/\a=0/\b=1/\c=2/\ix=false/\ty=false)
inductive PS:Pf->Prop
 | mk {t:Pf} {ix ty:Bool} (hk:HZ t.kind t.terms.length t.forms.length t.args.length ix ty) (hi:0<=t.index) (hx:ix=false->t.index=0) (hy:ty=true->t.type.ok) (hz:ty=false->t.type.zero=true)
   (ht:∀x∈t.terms,x.shape=true/\x.count<=16384) (hf:∀f∈t.forms,∃Γ:List T,Γ.length<=1000/\FDn Γ f/\f.count<=1000000) (ha:∀a∈t.args,PS a):PS t
namespace Pf
def count:Pf->Nat
 | .mk _ _ _ ts fs a=>1+Tm.count.counts ts+Fm.count.counts fs+counts a
where
 counts:List Pf->Nat
  | []=>0
  | a::r=>a.count+counts r
theorem count_eq (t:Pf):t.count=1+Tm.count.counts t.terms+Fm.count.counts t.forms+count.counts t.args:=by cases t;rfl
theorem counts_append (l m:List Pf):count.counts (l++m)=count.counts l+count.counts m:=by
 induction l with
 | nil=>simp[count.counts]
 | cons a r ih=>simp[count.counts,ih];omega
theorem count_mem {l:List Pf}{a:Pf}(h:a∈l):a.count<=count.counts l:=by
 induction l with
 | nil=>cases h
 | cons b r ih=>
  simp only[count.counts];rcases List.mem_cons.1 h with rfl|h;· omega
  ·have:=ih h;omega
def small:Pf->Bool
 | .mk _ _ _ ts fs a=>ts.all (fun t=>decide (t.count<=4096))&&(fs.all (fun f=>decide (f.count<=4096))&&smalls a)
where
 smalls:List Pf->Bool
  | []=>true
  | a::r=>a.small&&smalls r
theorem small_eq (t:Pf):t.small=(t.terms.all (fun t=>decide (t.count<=4096))&&(t.forms.all (fun f=>decide (f.count<=4096))&&small.smalls t.args)):=by cases t;rfl
theorem smalls_append (l m:List Pf):small.smalls (l++m)=(small.smalls l&&small.smalls m):=by
 induction l with
 | nil=>simp[small.smalls]
 | cons a r ih=>simp[small.smalls,ih,Bool.and_assoc]
theorem xY (l:List Pf):small.smalls l=true↔∀a∈l,a.small=true:=by
 induction l with
 | nil=>simp[small.smalls]
 | cons a r ih=>simp[small.smalls,ih]
def chk (p:Pf):Int:=if p.small=true/\p.count<=16384 then 0 else 4
theorem chk_arg {p a:Pf}(h:p.chk=0)(ha:a∈p.args):a.chk=0:=by
 unfold chk at h ⊢;split at h
 ·rename_i hh;have h1:=hh.1;rw[small_eq,uH,uH,xY]at h1;have:=count_mem ha;have:=count_eq p;rw[if_pos ⟨h1.2.2 a ha,oO⟩]
 ·cases h
theorem fit_len {t:Pf}(h:t.dv.fit):t.terms.length<=2147483648/\t.forms.length<=2147483648/\t.args.length<=2147483648:=by
 have:=(Pf.fit_eq t).1 ((Pf.dv_fit t).1 h);exact⟨this.2.2.2.1.1,this.2.2.2.2.1.1,this.2.2.2.2.2.1⟩
end Pf
theorem z4r {k:Int}{a b c:Nat}{ix ty:Bool}(h:HZ k a b c ix ty):cT gl 175 [A0 k] [] (.tup [.agg [A0 a,A0 b,A0 c,AR ix,AR ty],AR true]) []:=by
 unfold HZ at h;rcases h with⟨rfl,rfl,rfl,rfl,rfl,rfl⟩|⟨rfl,rfl,rfl,rfl,rfl,rfl⟩|⟨(rfl|rfl),rfl,rfl,rfl,rfl,rfl⟩|⟨rfl,rfl,rfl,rfl,rfl,rfl⟩|⟨rfl,rfl,rfl,rfl,rfl,rfl⟩|⟨rfl,rfl,rfl,rfl,rfl,rfl⟩|⟨rfl,rfl,rfl,rfl,rfl,rfl⟩|⟨(rfl|rfl),rfl,rfl,rfl,rfl,rfl⟩|⟨rfl,rfl,rfl,rfl,rfl,rfl⟩|⟨rfl,rfl,rfl,rfl,rfl,rfl⟩
 ·refine A6 Tryz.func175 ?_;intro X hP u6 hf u8 hn hR u5 u4;refine A2 ?_;exact AM
 ·refine A6 Tryz.func175 ?_;intro X hP u6 hf u8 hn hR u5 u4;refine A2 ?_;exact AM
 ·refine A6 Tryz.func175 ?_;intro X hP u6 hf u8 hn hR u5 u4;refine A2 ?_;exact AM
 ·refine A6 Tryz.func175 ?_;intro X hP u6 hf u8 hn hR u5 u4;refine A2 ?_;exact AM
 ·refine A6 Tryz.func175 ?_;intro X hP u6 hf u8 hn hR u5 u4;refine A2 ?_;exact AM
 ·refine A6 Tryz.func175 ?_;intro X hP u6 hf u8 hn hR u5 u4;refine A2 ?_;exact AM
 ·refine A6 Tryz.func175 ?_;intro X hP u6 hf u8 hn hR u5 u4;refine A2 ?_;exact AM
 ·refine A6 Tryz.func175 ?_;intro X hP u6 hf u8 hn hR u5 u4;refine A2 ?_;exact AM
 ·refine A6 Tryz.func175 ?_;intro X hP u6 hf u8 hn hR u5 u4;refine A2 ?_;exact AM
 ·refine A6 Tryz.func175 ?_;intro X hP u6 hf u8 hn hR u5 u4;refine A2 ?_;exact AM
 ·refine A6 Tryz.func175 ?_;intro X hP u6 hf u8 hn hR u5 u4;refine A2 ?_;exact AM
 ·refine A6 Tryz.func175 ?_;intro X hP u6 hf u8 hn hR u5 u4;refine A2 ?_;exact AM
theorem iG {t:Pf}(h:PS t):cT gl 128 [t.dv] [] (AR true) []:=by
 induction h with
 | @mk t ix ty hk hi hx hy hz ht hF ha ih=>
 have wn:=z4r (gl:=gl) hk;have Dh:=Ty.fold t.type;refine A6 Tryz.func128 ?_;intro X hP u6 hf u8 hn hR u5 u4;have hlen:=Pf.fit_len (u4 t.dv sS);have Cz:¬t.index<0:=oO;apply Q8 [sP 1,sL 1 [.v (A0 t.kind),.v (A0 t.index),.v (A0 t.type.kind),.v (.sl (t.type.args.map Ty.cells)),.v (.sl (t.terms.map Tm.cells)),.v (.sl (t.forms.map Fm.cells)),.v (.sl (t.args.map Pf.cells))],sV 78 (.sl (t.terms.map Tm.cells)),sV 79 (A0 t.terms.length),sV 80 (A0 0)]
 ·intro Aa;cases ix with
  | true=>
   cases ty with
   | true=>
    have wc:=EJ (gl:=gl) t.type (by have:=(hy rfl).2;omega);rw[(Ty.checkN_iff _).2 (hy rfl)]at wc;refine A2 ?_;refine A3 tT wn ?_;refine A7 @Cz ?_;refine A3 @Dh wc ?_;refine A2 ?_;refine GX ?_;refine AA [] tT Aa
   | false=>
    have wz:=LF (gl:=gl) t.type;rw[hz rfl]at wz;refine A2 ?_;refine A3 tT wn ?_;refine A7 @Cz ?_;refine A3 @Dh wz ?_;refine A2 ?_;refine GX ?_;refine AA [] tT Aa
  | false=>
   have h0:=hx rfl;cases ty with
   | true=>
    have wc:=EJ (gl:=gl) t.type (by have:=(hy rfl).2;omega);rw[(Ty.checkN_iff _).2 (hy rfl)]at wc;refine A2 ?_;refine A3 tT wn ?_;refine A7 @h0 ?_;refine A3 @Dh wc ?_;refine A2 ?_;refine GX ?_;refine AA [] tT Aa
   | false=>
    have wz:=LF (gl:=gl) t.type;rw[hz rfl]at wz;refine A2 ?_;refine A3 tT wn ?_;refine A7 @h0 ?_;refine A3 @Dh wz ?_;refine A2 ?_;refine GX ?_;refine AA [] tT Aa
 ·refine BR ?_;refine AA [] tT (CD (t.terms) (fun done rest=>[sP 1,sL 1 [.v (A0 t.kind),.v (A0 t.index),.v (A0 t.type.kind),.v (.sl (t.type.args.map Ty.cells)),.v (.sl (t.terms.map Tm.cells)),.v (.sl (t.forms.map Fm.cells)),.v (.sl (t.args.map Pf.cells))],sV 78 (.sl (t.terms.map Tm.cells)),sV 79 (A0 t.terms.length),sV 80 (A0 done.length)]) ?_ ?_)
  ·intro done x rest hL Ad u7;have Ac:done.length<t.terms.length:=by rw[hL];simp
   have Aj:=uE Ad;have ws:=K7 (gl:=gl) x (DS x (ht x Aj).1);rw[(ht x Aj).1]at ws;refine A5 ?_;refine AQ ?_;refine A7 @Ad ?_;refine A3 @Ad ws ?_;refine CG (wr []) tT tT u7
  ·refine A5 ?_;refine B9 ?_;refine A2 ?_;refine BR ?_;refine AA [] tT (CD (t.forms) (fun done rest=>[sP 1,sL 1 [.v (A0 t.kind),.v (A0 t.index),.v (A0 t.type.kind),.v (.sl (t.type.args.map Ty.cells)),.v (.sl (t.terms.map Tm.cells)),.v (.sl (t.forms.map Fm.cells)),.v (.sl (t.args.map Pf.cells))],sV 89 (.sl (t.forms.map Fm.cells)),sV 90 (A0 t.forms.length),sV 91 (A0 done.length)]) ?_ ?_)
   ·intro done x rest hL Ad u7;have Ac:done.length<t.forms.length:=by rw[hL];simp
    have Aj:=uE Ad;obtain⟨Γ,-,hd,-⟩:=hF x Aj;refine A5 ?_;refine AQ ?_;refine A7 @Ad ?_;refine A3 @Ad (iA hd) ?_;refine CG (wr []) tT tT u7
   ·refine A5 ?_;refine B9 ?_;refine A2 ?_;refine BR ?_;refine AA [] tT (CD (t.args) (fun done rest=>[sV 100 (.sl (t.args.map Pf.cells)),sV 101 (A0 t.args.length),sV 102 (A0 done.length)]) ?_ ?_)
    ·intro done x rest hL Ad u7;have Ac:done.length<t.args.length:=by rw[hL];simp
     have Aj:=uE Ad;refine A5 ?_;refine AQ ?_;refine A7 @Ad ?_;refine A3 @Ad (ih x Aj) ?_;refine CG (wr []) tT tT u7
    ·refine A5 ?_;refine B9 ?_;refine A2 ?_;exact AM
theorem z4s (t:Pf)(hc:t.count<=1073741824):cT gl 179 [t.dv] [] (A0 t.count) []:=by
 induction t using Pf.ind with
 | h t ih=>
 have Ap:=Pf.count_eq t;refine A6 Tryz.func179 ?_;intro X hP u6 hf u8 hn hR u5 u4;have hlen:=Pf.fit_len (u4 t.dv sS);refine A2 ?_;refine BR ?_;refine CR [] (by simp[go_sem]) (by simp[go_sem,Tm.count.counts] <;> omega) (by simp[go_sem]) (CD (t.terms) (fun done rest=>[sV 3 (A0 (1+Tm.count.counts done:Nat)),sP 1,sL 1 [.v (A0 t.kind),.v (A0 t.index),.v (A0 t.type.kind),.v (.sl (t.type.args.map Ty.cells)),.v (.sl (t.terms.map Tm.cells)),.v (.sl (t.forms.map Fm.cells)),.v (.sl (t.args.map Pf.cells))],sV 2 (A0 0),sV 11 (.sl (t.terms.map Tm.cells)),sV 12 (A0 t.terms.length),sV 13 (A0 done.length)]) ?_ ?_)
 ·intro done x rest hL Ad u7;have Ac:done.length<t.terms.length:=by rw[hL];simp
  have Br:=Tm.count_mem (uE Ad);have Bp:Tm.count.counts t.terms=Tm.count.counts done+(x.count+Tm.count.counts rest):=by rw[hL,Tm.counts_append];rfl
  refine A5 ?_;refine AQ ?_;refine A7 @Ad ?_;refine A3 @Ad (BF x oO) ?_;repeat (first|(refine CR [] (by simp[go_sem]) (by simp[go_sem,Tm.counts_append,Tm.count.counts] <;> omega) (by simp[go_sem]) u7)|refine DA ?_|refine BX ?_|refine C4 ?_|refine AN ?_|refine B7 ?_|refine CC rfl ?_|((first|refine B4 [] fun K hK=>?_|refine AU (by rw[hP];exact BK) [] fun K hK=>?_);simp[go_sem,hP,u6,hn];(repeat (refine⟨oO,?_⟩));(first|refine hK _ ?_|refine⟨by rfl,hK _ ?_⟩);clear hK K)|refine BN rfl (fun _=>?_) (fun hq=>False.elim (by first|(simp;done)|(simp;omega)|(simp at hq;done)|(simp at hq;omega)))|refine BN rfl (fun hq=>False.elim (by first|(simp;done)|(simp;omega)|(simp at hq;done)|(simp at hq;omega))) (fun _=>?_))
 ·refine A5 ?_;refine B9 ?_;refine A2 ?_;refine BR ?_;refine CR [] (by simp[go_sem]) (by simp[go_sem,Fm.count.counts] <;> omega) (by simp[go_sem]) (CD (t.forms) (fun done rest=>[sV 3 (A0 (1+Tm.count.counts t.terms+Fm.count.counts done:Nat)),sP 1,sL 1 [.v (A0 t.kind),.v (A0 t.index),.v (A0 t.type.kind),.v (.sl (t.type.args.map Ty.cells)),.v (.sl (t.terms.map Tm.cells)),.v (.sl (t.forms.map Fm.cells)),.v (.sl (t.args.map Pf.cells))],sV 2 (A0 0),sV 23 (.sl (t.forms.map Fm.cells)),sV 24 (A0 t.forms.length),sV 25 (A0 done.length)]) ?_ ?_)
  ·intro done x rest hL Ad u7;have Ac:done.length<t.forms.length:=by rw[hL];simp
   have Br:=Fm.count_mem (uE Ad);have Bp:Fm.count.counts t.forms=Fm.count.counts done+(x.count+Fm.count.counts rest):=by rw[hL,Fm.counts_append];rfl
   refine A5 ?_;refine AQ ?_;refine A7 @Ad ?_;refine A3 @Ad (TU x oO) ?_;repeat (first|(refine CR [] (by simp[go_sem]) (by simp[go_sem,Fm.counts_append,Fm.count.counts] <;> omega) (by simp[go_sem]) u7)|refine DA ?_|refine BX ?_|refine C4 ?_|refine AN ?_|refine B7 ?_|refine CC rfl ?_|((first|refine B4 [] fun K hK=>?_|refine AU (by rw[hP];exact BK) [] fun K hK=>?_);simp[go_sem,hP,u6,hn];(repeat (refine⟨oO,?_⟩));(first|refine hK _ ?_|refine⟨by rfl,hK _ ?_⟩);clear hK K)|refine BN rfl (fun _=>?_) (fun hq=>False.elim (by first|(simp;done)|(simp;omega)|(simp at hq;done)|(simp at hq;omega)))|refine BN rfl (fun hq=>False.elim (by first|(simp;done)|(simp;omega)|(simp at hq;done)|(simp at hq;omega))) (fun _=>?_))
  ·refine A5 ?_;refine B9 ?_;refine A2 ?_;refine BR ?_;refine CR [] (by simp[go_sem]) (by simp[go_sem,Pf.count.counts] <;> omega) (by simp[go_sem]) (CD (t.args) (fun done rest=>[sV 3 (A0 (1+Tm.count.counts t.terms+Fm.count.counts t.forms+Pf.count.counts done:Nat)),sV 2 (A0 0),sV 35 (.sl (t.args.map Pf.cells)),sV 36 (A0 t.args.length),sV 37 (A0 done.length)]) ?_ ?_)
   ·intro done x rest hL Ad u7;have Ac:done.length<t.args.length:=by rw[hL];simp
    have Aj:=uE Ad;have Br:=Pf.count_mem Aj;have Bp:Pf.count.counts t.args=Pf.count.counts done+(x.count+Pf.count.counts rest):=by rw[hL,Pf.counts_append];rfl
    refine A5 ?_;refine AQ ?_;refine A7 @Ad ?_;refine A3 @Ad (ih x Aj oO) ?_;repeat (first|(refine CR [] (by simp[go_sem]) (by simp[go_sem,Pf.counts_append,Pf.count.counts] <;> omega) (by simp[go_sem]) u7)|refine DA ?_|refine BX ?_|refine C4 ?_|refine AN ?_|refine B7 ?_|refine CC rfl ?_|((first|refine B4 [] fun K hK=>?_|refine AU (by rw[hP];exact BK) [] fun K hK=>?_);simp[go_sem,hP,u6,hn];(repeat (refine⟨oO,?_⟩));(first|refine hK _ ?_|refine⟨by rfl,hK _ ?_⟩);clear hK K)|refine BN rfl (fun _=>?_) (fun hq=>False.elim (by first|(simp;done)|(simp;omega)|(simp at hq;done)|(simp at hq;omega)))|refine BN rfl (fun hq=>False.elim (by first|(simp;done)|(simp;omega)|(simp at hq;done)|(simp at hq;omega))) (fun _=>?_))
   ·refine A5 ?_;refine B9 ?_;refine A2 ?_;exact AC @Ap
theorem z4t (t:Pf)(hc:t.count<=1073741824):cT gl 178 [t.dv] [] (AR t.small) []:=by
 induction t using Pf.ind with
 | h t ih=>
 have Ap:=Pf.count_eq t;have Jx:=Pf.small_eq t;refine A6 Tryz.func178 ?_;intro X hP u6 hf u8 hn hR u5 u4;have hlen:=Pf.fit_len (u4 t.dv sS);refine A2 ?_;refine BR ?_;refine AA [] tT (DC (t.terms) (fun done=>done.all (fun t=>decide (t.count<=4096))=true) (fun done rest=>[sP 1,sL 1 [.v (A0 t.kind),.v (A0 t.index),.v (A0 t.type.kind),.v (.sl (t.type.args.map Ty.cells)),.v (.sl (t.terms.map Tm.cells)),.v (.sl (t.forms.map Fm.cells)),.v (.sl (t.args.map Pf.cells))],sV 10 (.sl (t.terms.map Tm.cells)),sV 11 (A0 t.terms.length),sV 12 (A0 done.length)]) (rfl) ?_ ?_)
 ·intro done x rest hL Ad hI u7;have Ac:done.length<t.terms.length:=by rw[hL];simp
  have Br:=Tm.count_mem (uE Ad);refine A5 ?_;refine AQ ?_;refine A7 @Ad ?_;refine A3 @Ad (BF x oO) ?_;by_cases hx:4096<x.count
  ·have hs:t.small=false:=by
    rw[Jx,hL,List.all_append];simp[show ¬x.count<=4096 from oO]
   refine A7 @hx ?_;exact AC @hs
  ·refine CG (wr []) tT @hx (u7 (by rw[List.all_append,hI];simp;omega))
 ·intro hI;rw[hI]at Jx;refine A5 ?_;refine B9 ?_;refine A2 ?_;refine BR ?_;refine AA [] tT (DC (t.forms) (fun done=>done.all (fun t=>decide (t.count<=4096))=true) (fun done rest=>[sP 1,sL 1 [.v (A0 t.kind),.v (A0 t.index),.v (A0 t.type.kind),.v (.sl (t.type.args.map Ty.cells)),.v (.sl (t.terms.map Tm.cells)),.v (.sl (t.forms.map Fm.cells)),.v (.sl (t.args.map Pf.cells))],sV 21 (.sl (t.forms.map Fm.cells)),sV 22 (A0 t.forms.length),sV 23 (A0 done.length)]) (rfl) ?_ ?_)
  ·intro done x rest hL Ad hI u7;have Ac:done.length<t.forms.length:=by rw[hL];simp
   have Br:=Fm.count_mem (uE Ad);refine A5 ?_;refine AQ ?_;refine A7 @Ad ?_;refine A3 @Ad (TU x oO) ?_;by_cases hx:4096<x.count
   ·have hs:t.small=false:=by
     rw[Jx,hL,List.all_append];simp[show ¬x.count<=4096 from oO]
    refine A7 @hx ?_;exact AC @hs
   ·refine CG (wr []) tT @hx (u7 (by rw[List.all_append,hI];simp;omega))
  ·intro hI;rw[hI]at Jx;refine A5 ?_;refine B9 ?_;refine A2 ?_;refine BR ?_;refine AA [] tT (DC (t.args) (fun done=>Pf.small.smalls done=true) (fun done rest=>[sV 32 (.sl (t.args.map Pf.cells)),sV 33 (A0 t.args.length),sV 34 (A0 done.length)]) (rfl) ?_ ?_)
   ·intro done x rest hL Ad hI u7;have Ac:done.length<t.args.length:=by rw[hL];simp
    have Aj:=uE Ad;have Br:=Pf.count_mem Aj;refine A5 ?_;refine AQ ?_;refine A7 @Ad ?_;refine A3 @Ad (ih x Aj oO) ?_;by_cases hx:x.small=true;· refine CG (wr []) tT @hx (u7 (by rw[Pf.smalls_append,hI];simp[Pf.small.smalls,hx]))
    ·have hx:x.small=false:=by simpa using hx
     have hs:t.small=false:=by
      rw[Jx,hL,Pf.smalls_append];simp[Pf.small.smalls,hx]
     refine A7 @hx ?_;exact AC @hs
   ·intro hI;rw[hI]at Jx;have hs:t.small=true:=by rw[Jx];rfl
    refine A5 ?_;refine B9 ?_;refine A2 ?_;exact AC @hs
theorem iH {t:Pf}(h:PS t)(hc:t.count<=1073741824):cT gl 82 [t.dv] [] (A0 t.chk) []:=by
 have As:=Pf.fold t;have w1:=z4t (gl:=gl) t hc;have w2:=z4s (gl:=gl) t hc;have wf:cT gl 129 [t.dv] [] (AR (decide (t.chk=0))) []:=by
  unfold Pf.chk;refine A6 Tryz.func129 ?_;intro X hP u6 hf u8 hn hR u5 u4;by_cases q1:t.small=true
  ·rw[q1]at w1;by_cases q2:t.count<=16384
   ·have q3:¬(16384:Int)<t.count:=oO;rw[if_pos ⟨q1,q2⟩]at hR;refine A2 ?_;refine BL @As w1 w2 ?_;exact AC @q2
   ·rw[if_neg fun h=>q2 h.2]at hR;refine A2 ?_;refine BL @As w1 w2 ?_;exact AM
  ·rw[if_neg fun h=>q1 h.1]at hR;have q1:t.small=false:=by simpa using q1
   rw[q1]at w1;refine A2 ?_;refine A3 @As w1 ?_;exact AM
 refine A6 Tryz.func82 ?_;intro X hP u6 hf u8 hn hR u5 u4;by_cases q:t.chk=0
 ·refine A2 ?_;refine A3 @As (iG h) ?_;refine A2 ?_;refine A3 (j2 @As @q) wf ?_;refine A7 @q ?_;exact AC @q
 ·have q4:t.chk=4:=by
   unfold Pf.chk at q ⊢;split at q;· exact absurd rfl q
   ·rename_i h;rw[if_neg h]
  refine A2 ?_;refine A3 @As (iG h) ?_;refine A2 ?_;refine A3 (j2 @As @q) wf ?_;refine A7 @q ?_;exact AC @q4
end
section
section
variable {X:Ctx}{s s0:St}{k:List Item}
abbrev zo7 (q:Option Nat)(n cap:Nat):DV:=.prim (.slice (q.map fun b=>⟨b,0,none⟩) n cap)
theorem zac (σ:Nat->Nat)(l:List DV):KL σ (l.map SV.v) (l.map SV.v):=by
 induction l with
 | nil=>simp[KL]
 | cons x r ih=>simp[KL,RD,ih]
structure RS where
 q:Option Nat
 n:Nat
 cap:Nat
 full:List (List DV)
abbrev RS.v (x:RS):DV:=zo7 x.q x.n x.cap
def RS.objs (x:RS):BS:=match x.q with
 | none=>[]
 | some b=>[(b,x.full.flatten)]
theorem I0 (σ:Nat->Nat)(ys:List (List DV)):KL σ (AP ys) (AP ys):=zac σ _
end
end
section
section
variable {X:Ctx}{s s0:St}{k:List Item}
def WU:List (Int × DV)->Int->Option DV
 | [],_=>none
 | (k,d)::r,n=>if n=k then some d else WU r n
def pT (P:Program)(T:TypeId):Bool:=
 match P.underlying T with
 | some (.map key _)=>match P.underlying key with
  | some (.int .i64)=>true
  | _=>false
 | _=>false
theorem XW {P:Program}{T:TypeId}(h:pT P T=true):∃key e,P.underlying T=some (.map key e)/\P.underlying key=some (.int .i64):=by
 unfold pT at h;split at h
 ·rename_i key e hu;split at h;· rename_i hk;exact⟨key,e,hu,hk⟩
  ·cases h
 ·cases h
theorem XX {G:Gh}{w:World}(n:Int):∀(ml:List (Int × DV)) (es:List MapEntry) (j:Nat),es.length=ml.length->(∀(i:Nat) (k:Int) (d:DV) (e:MapEntry),ml[i]? = some (k,d)->es[i]? = some e->e.key = .int .i64 k/\RV G.D w d e.val) ->
  (∀d,WU ml n=some d->∃r v,Instr.findNow (.int .i64) (.int .i64 n) es j=some (some (r,v))/\RV G.D w d v)/\(WU ml n=none->Instr.findNow (.int .i64) (.int .i64 n) es j=some none)
 | [],[],j,_,_=>⟨fun d h=>(by cases h),fun _=>rfl⟩
 | [],e::es,j,h,_=>by simp at h
 | (k,d)::ml,[],j,h,_=>by simp at h
 | (k,d)::ml,e::es,j,hl,h=>by
  obtain⟨h1,h2⟩:=h 0 k d e rfl rfl;have ih:=XX n ml es (j+1) (by simpa using hl) fun i k d e hi he=>h (i+1) k d e (by simpa using hi) (by simpa using he);unfold Instr.findNow;simp only[h1,Instr.sameNow,if_true,WU];by_cases hk:n=k
  ·subst hk;rw[if_pos rfl];simp only[beq_self_eq_true];exact⟨fun d' hd=>(by cases hd;exact⟨j,e.val,rfl,h2⟩),fun hd=>(by cases hd)⟩
  ·rw[if_neg hk];have:(n==k)=false:=by simpa using hk
   rw[this];exact ih
theorem VF {P:Program}{w:World}{r:Nat}{es:Array MapEntry}{clock:Nat}(hb:w.heap[r]? = some (.map es clock)):(getObj r).run P w = .ok (.map es clock) w:=by
 simp[getObj,Sem.run,hb]
theorem dN {P:Program}{w:World}{r:Nat}{es:Array MapEntry}{clock:Nat}(o:Obj)(hb:w.heap[r]? = some (.map es clock)):(setObj r o).run P w = .ok () { w with heap:=w.heap.setIfInBounds r o }:=by
 simp[setObj,Sem.run,hb]
theorem xZ {P:Program}{w:World}{key:TypeId}(hk:P.underlying key=some (.int .i64))(e:Bool)(n:Int)(m:Nat):(Instr.checkKey e (m+1) key (.int .i64 n)).run P w = .ok () w:=by
 unfold Instr.checkKey;simp only[Sem.run_bind,run_underlying hk,Result.andThen,Sem.run_pure]
theorem WV {P:Program}{w:World}{key:TypeId}(hk:P.underlying key=some (.int .i64))(e:Bool)(n:Int):(Instr.checkKey e 10000 key (.int .i64 n)).run P w = .ok () w:=xZ hk e n 9999
theorem Z9 {P:Program}{w:World}{key:TypeId}{k:Value}{l:List MapEntry}{a:Option (Nat × Value)}(hd:P.underlying key=some (.int .i64))(h:Instr.findNow (.int .i64) k l 0=some a):(Instr.findKey key k l).run P w = .ok a w:=by
 simp[Instr.findKey,run_underlying hd,Result.andThen,h]
theorem l8 {o:Oper}{T:TypeId}(ho:o.op = .makeMap T none){d:Nat}(hd:o.dst=some d)(hn:d<X.n){G:Gh}{a:Act}{w:World}(R:Rel X G s a w)(next:Act->World->Prop)(Q:Exit->Act->World->Prop)
  (hK:∀b,newB b s->X.w0.heap.size<=b->∀G' a' w',Rel X G' (CM (CM s (.slot d) (.one (.v (.prim (.map (some b)))))) (.heap b) (.mp [])) a' w'->next a' w'):o.wpIn X.F 0 X.P a w next Q:=by
 refine M5 (by intro c e;rw[ho]at e;cases e) ?_;have Az:(execOp a.eval o).run X.P w = .ok (.value (.map (some w.heap.size))) (w.alloc (.map #[] 0)):=by
  simp[execOp,ho,Instr.makeMap]
 rw[Az,D1,hd];have hp:=FV a (some d) (.map (some w.heap.size))
 have T':Trans X G a w G (a.put (some d) (.map (some w.heap.size))) (w.alloc (.map #[] 0)) (fun _=>False):=
  ⟨hp.1,fun h=>(h.heap fun b hb=>CX w _ b hb).put hp.2,rfl,rfl,rfl,sS,fun b hb _=>CX w _ b hb,fun _ h=>h.elim,fun b k hD=>⟨hD,World.cell?_alloc_lt w _ _ (R.wf.lt hD)⟩,fun b k hD Ia=>absurd hD Ia,R.nil⟩
 refine hK w.heap.size (PG R) R.ext.size G _ _ ?_;refine R.step T' (fun l u=>(l = .slot d/\u = .one (.v (.prim (.map (some w.heap.size)))))\/(l = .heap w.heap.size/\u = .mp [])) (fun l u h=>?_) (fun l u h=>?_) (fun l u l' u' b h h' hb Ai=>?_)
 ·rw[BM,BM]at h;by_cases h1:Loc.heap w.heap.size=l;· rw[if_pos h1]at h;cases h;exact .inl (.inr ⟨h1.symm,rfl⟩)
  ·rw[if_neg h1]at h;by_cases h3:Loc.slot d=l;· rw[if_pos h3]at h;cases h;exact .inl (.inl ⟨h3.symm,rfl⟩)
   ·rw[if_neg h3]at h;exact .inr ⟨h,fun n hn=>FH _ _ _ _ (fun e=>h3 (by rw[hn,e])),fun b hb Qc=>Qc.elim,fun _ _=>rfl,fun _ _=>rfl⟩
 ·rcases h with⟨rfl,rfl⟩|⟨rfl,rfl⟩
  ·refine⟨?_,fun b hb=>by cases hb⟩;show LE G _ (.v _) _;rw[E4 _ _ _ (by rw[R.size];exact hn)];exact .prim _ tT
  ·refine⟨⟨#[],0,JP w _,rfl,fun i k d e hi=>by simp at hi,rfl,fun i e he=>by simp at he⟩,fun b hb=>?_⟩;cases hb;exact⟨.inl (Nat.le_refl _),.inl R.ext.size,fun _ o hD=>absurd (R.wf.lt hD) (Nat.lt_irrefl _)⟩
 ·rcases h with⟨rfl,rfl⟩|⟨rfl,rfl⟩;· cases hb
  ·rcases h' with⟨rfl,rfl⟩|⟨rfl,rfl⟩;· cases Ai
   ·rfl
theorem ZA {Ab:List Nat}{ops:Array Oper}{l:List Oper}{K:St->Prop}{d:Tmp}{T ty:TypeId}{pos:String}{af:Array Edge}{q:Option (Prop × St)}(hn:d<X.n)(hq:q=none)
  (h:∀b,newB b s->X.w0.heap.size<=b->vc X Ab ops l (CM (CM s (.slot d) (.one (.v (.prim (.map (some b)))))) (.heap b) (.mp [])) K):ZR X Ab ops l K ⟨some d,.makeMap T none,ty,pos,af,none⟩ s q:=by
 subst hq;intro m hm G a w R0;obtain⟨p1,p3⟩:=EQ hm;simp only[List.length_cons,List.range'_succ,wpOpsIn,p1,Region.wanted,if_true];exact l8 (o:=⟨some d,.makeMap T none,ty,pos,af,none⟩) rfl rfl hn R0 _ _ fun b hb hw G' a' w' R'=>CU (h b hb hw) (m+1) p3 G' a' w' R'
theorem dO {o:Oper}{T:TypeId}{x i y:Operand}(ho:o.op = .mapUpdate T x i y)(hd:o.dst=none)(hT:pT X.P T=true){b:Nat}{n:Int}{ml:List (Int × DV)}{dv:DV}
  (hx:CS X (get s) x=some (.v (.prim (.map (some b))))) (hi:CS X (get s) i=some (.v (.prim (.int .i64 n)))) (hy:CS X (get s) y=some (.v dv)) (hm:get s (.heap b)=some (.mp ml)) (hl:WU ml n=none):ED X s o (CM s (.heap b) (.mp (ml++[(n,dv)]))):=by
 intro G a w R next Q hK
 have hv:=(BJ (A8 R hx)).1;have hiv:=(BJ (A8 R hi)).1;have Oj:RV G.D w dv (a.eval y):=A8 R hy;obtain⟨key,e,h1,h2⟩:=XW hT;obtain⟨es,cl,m1,m2,m3,mc,mb⟩:=R.holds _ _ hm;have f1:=(XX (G:=G) (w:=w) n ml es.toList 0 (by simpa using m2) fun i k d e hi he=>m3 i k d e hi (by simpa using he)).2 hl;refine M5 (by intro c e;rw[ho]at e;cases e) ?_;have Az:(execOp a.eval o).run X.P w = .ok .skip { w with heap:=w.heap.setIfInBounds b (.map (es.push { key:=.int .i64 n,val:=a.eval y,born:=cl }) (cl+1)) }:=by
  simp[execOp,ho,hv,hiv,Instr.mapUpdate,run_underlying h1,VF m1,WV h2,Z9 h2 f1,dN _ m1]
 rw[Az,VX,hd];have Jz:b<w.heap.size:=(Array.getElem?_eq_some_iff.1 m1).1;have Aw:∀o,¬G.D b o:=fun o=>R.data _ _ b o hm rfl rfl;have Gu:∀b',b'≠b->(w.heap.setIfInBounds b (.map (es.push { key:=.int .i64 n,val:=a.eval y,born:=cl }) (cl+1)))[b']? = w.heap[b']?:=fun b' Ai=>Array.getElem?_setIfInBounds_ne (Ne.symm Ai);have T':Trans X G a w G a { w with heap:=w.heap.setIfInBounds b (.map (es.push { key:=.int .i64 n,val:=a.eval y,born:=cl }) (cl+1)) } (fun b'=>b' = b):=by
  refine⟨rfl,fun h=>h.keep rfl fun D hD=>?_,rfl,rfl,rfl,sS,fun b' Ai hn=>Gu b' hn,fun b' Ai=>?_,fun b' o hD=>⟨hD,?_⟩,fun _ _ h k=>absurd h k,R.nil⟩
  ·refine (Gu D fun e=>?_).trans hD;subst e;rw[m1]at hD;cases hD
  ·subst Ai;exact (R.own _ _ b' hm rfl).imp id And.left
  ·have Au:b'≠b:=fun e=>by subst e;exact Aw o hD
   simp only[World.cell?];rw[Gu b' Au]
 refine hK G a _ ?_;refine R.step T' (fun l u=>l = .heap b/\u = .mp (ml++[(n,dv)])) (fun l u h=>?_) (fun l u h=>?_) (fun l u l' u' b' h h' _ _=>h.1.trans h'.1.symm)
 ·rw[BM]at h;by_cases Ct:Loc.heap b=l;· rw[if_pos Ct]at h;cases h;exact .inl ⟨Ct.symm,rfl⟩
  ·rw[if_neg Ct]at h;refine .inr ⟨h,fun _ _=>rfl,fun b' Ai he=>?_,fun _ _=>rfl,fun _ _=>rfl⟩;subst he;exact Ct (R.sep _ _ _ _ b' hm h rfl Ai)
 ·obtain⟨rfl,rfl⟩:=h;refine⟨⟨es.push { key:=.int .i64 n,val:=a.eval y,born:=cl },cl+1,?_,by simp[m2],fun i' k d e Cz he=>?_,by simp[mc],fun i' e he=>?_⟩,fun b' Ai=>?_⟩;· simp[Jz]
  ·rcases Nat.lt_or_ge i' ml.length with Ac|Uk
   ·rw[List.getElem?_append_left Ac]at Cz;rw[Array.getElem?_push,if_neg oO]at he;obtain⟨q1,q2⟩:=m3 i' k d e Cz he;exact⟨q1,q2.mono T'.grow⟩
   ·rw[List.getElem?_append_right Uk]at Cz;have:i' - ml.length=0:=by
     have:=(uA Cz).1
     simpa using this
    have Dz:i' = es.size:=oO;rw[this]at Cz;simp only[List.getElem?_cons_zero,uC,uD]at Cz;obtain⟨rfl,rfl⟩:=Cz;rw[Array.getElem?_push,if_pos Dz]at he;cases he;exact⟨rfl,Oj.mono T'.grow⟩
  ·rw[Array.getElem?_push]at he;split at he;· rename_i Dz;cases he;show cl=i';omega
   ·exact mb i' e he
  ·cases Ai;exact⟨.inr rfl,R.own _ _ b hm rfl,fun _ o=>Aw o⟩
theorem fK {Ab:List Nat}{ops:Array Oper}{l:List Oper}{K:St->Prop}{T ty:TypeId}{x i y:Operand}{pos:String}{af:Array Edge}{q:Option (Prop × St)}{b:Nat}{n:Int}{ml:List (Int × DV)}{dv:DV}(hT:pT X.P T=true)
  (hx:CS X (get s) x=some (.v (.prim (.map (some b))))) (hi:CS X (get s) i=some (.v (.prim (.int .i64 n)))) (hy:CS X (get s) y=some (.v dv)) (hm:get s (.heap b)=some (.mp ml)) (hl:WU ml n=none) (hq:q=none)
  (h:vc X Ab ops l (CM s (.heap b) (.mp (ml++[(n,dv)]))) K):ZR X Ab ops l K ⟨none,.mapUpdate T x i y,ty,pos,af,none⟩ s q:=by
 subst hq;exact OA rfl (dO (o:=⟨none,.mapUpdate T x i y,ty,pos,af,none⟩) rfl rfl hT hx hi hy hm hl) (CU h)
theorem RS.nodup (x:RS):(x.objs.map (·.1)).Nodup:=by
 unfold RS.objs;cases x.q <;> simp
end
end
section
section
variable {X:Ctx}{s s0:St}{k:List Item}
theorem l9 {o:Oper}{x y:Operand}{T T2:TypeId}(ho:o.op = .call { callee:=.builtin .append,args:=#[x,y],argTypes:=#[T,T2] }){d:Nat}(hd:o.dst=some d)(hn:d<X.n)
  {E B:Nat} (he:FI X.P T=some (E,B)) (hB:0<B/\B<=1024) (h2:(E0 X.P T2).isSome=true) {zs:List (List DV)} {zd:List DV} (hx:CS X (get s) x=some (.own 0 [])) (hy:(CS X (get s) y).bind LN=some zs)
  (Cn:0<zs.length) (Ao:zs.length<=I6) (Db:∀e∈zs,e.length=E) (hz:gJ X.P T=some zd) (Sj:JO zd=true)
  {G:Gh} {a:Act} {w:World} (R:Rel X G s a w) (next:Act->World->Prop) (Q:Exit->Act->World->Prop)
  (hK:∀b' Ba,zs.length<=Ba->newB b' s->X.w0.heap.size<=b'->∀G' a' w',Rel X G' (CM (CM s (.slot d) (.one (.v (PF b' zs.length Ba)))) (.heap b') (.row (AP (zs++List.replicate (Ba - zs.length) zd)))) a' w'->next a' w') :
  o.wpIn X.F 0 X.P a w next Q:=by
 obtain⟨hv,hr⟩:=jI R hx;rw[R.nil]at hv;obtain⟨q,hq,Ft⟩:=Option.bind_eq_some_iff.1 hy;obtain⟨yb,Qb,Oj,Jc,-⟩:=GQ Ft (A8 R hq);obtain⟨c2,g,g1,g2,g3⟩:=TD Jc Db
 have Tq:∀w':World,w'.heap=w.heap->(Builtin.firstCells E zs.length (a.eval y)).run X.P w' = .ok (YJ g (zs.length * E)) w':=fun w' hw=>by
  refine E5 (D:=G.D) ?_;rcases g3 with h|⟨b,o',cap,h,hc⟩;· exact .inl h
  ·exact .inr ⟨b,o',cap,h,fun k hk=>by rw[IC hw];exact hc k hk⟩
 obtain⟨Mm,c,e,nc,r1,r2,r3,r4,r5,r6⟩:=R8 (P:=X.P) (t:=T) (ty:=o.type) (t2:=T2) (w:=w) he hB h2 (base:=none) (len:=0) (cap:=0) (old:=#[]) (fun w' _=>LQ (P:=X.P) Jc w') Tq (fun w' _=>by simp[Builtin.firstCells]) oO oO sS (LP _ _) hz;rw[Nat.zero_add]at r1 r2;have Az:(execOp a.eval o).run X.P w = .ok (.value (.slice (some ⟨w.heap.size,0,none⟩) zs.length nc)) (w.drew.alloc (.cells c e)):=by
  have Bh:(Builtin.append_ #[T,T2] o.type #[a.eval x,a.eval y]).run X.P w = .ok (.slice (some ⟨w.heap.size,0,none⟩) zs.length nc) (w.drew.alloc (.cells c e)):=by rw[hv];exact r1
  simp[execOp,ho,resolve,invoke,builtin,Bh]
 refine M5 (by intro c e;rw[ho]at e;cases e) ?_;rw[Az,D1,hd];have hp:=FV a (some d) (.slice (some ⟨w.heap.size,0,none⟩) zs.length nc);have T':Trans X G a w G (a.put (some d) (.slice (some ⟨w.heap.size,0,none⟩) zs.length nc)) (w.drew.alloc (.cells c e)) (fun _=>False):=by
  refine⟨hp.1,fun h=>(h.heap fun b hb=>CX w.drew _ b hb).put hp.2,rfl,rfl,rfl,sS,fun b hb _=>CX w.drew _ b hb,fun _ h=>h.elim,fun b k hD=>⟨hD,World.cell?_alloc_lt w.drew _ _ (R.wf.lt hD)⟩,fun b k hD Ia=>absurd hD Ia,R.nil⟩
 refine hK w.heap.size nc r2 (PG R) R.ext.size G _ _ (R.newArr hn (w1:=w.drew) rfl T' (E:=E) ?_ ?_ ?_ ?_)
 ·intro e he;rcases List.mem_append.1 he with he|he;· exact Db e he
  ·rw[(List.mem_replicate.1 he).2];exact Mm
 ·intro e he d hd;rcases List.mem_append.1 he with he|he;· exact c2 e he d hd
  ·rw[(List.mem_replicate.1 he).2]at hd;exact (P1 zd).1 Sj d hd
 ·rw[r3];simp only[List.length_append,List.length_replicate];exact Nat.mul_le_mul_right _ oO
 ·intro i j e dd hi hj;rcases Nat.lt_or_ge i zs.length with h' | h'
  ·rw[List.getElem?_append_left h']at hi;have Sr:j<E:=by rw[<- Db e (uE hi)];exact (uA hj).1
   have Ac:=NB h' Sr;refine⟨_,?_,g1 _ _ _ _ hi hj⟩;have:=r5 _ Ac;rw[Nat.zero_mul,Nat.zero_add]at this;rw[this,O9 _ _ _ Ac]
  ·rw[List.getElem?_append_right h']at hi
   obtain⟨Oe,Iu⟩:e=zd/\i - zs.length<nc - (0+zs.length):=by
    have hm:=uE hi;have Ac:=(uA hi).1;simp only[List.length_replicate]at Ac;exact⟨(List.mem_replicate.1 hm).2,oO⟩
   subst Oe;obtain⟨v,q1,q2⟩:=r6 G w R.nil (i - zs.length) j dd Iu hj;refine⟨v,?_,q2⟩;rw[show 0+zs.length+(i - zs.length)=i from oO]at q1;exact q1
theorem pU {Ab:List Nat}{ops:Array Oper}{l:List Oper}{K:St->Prop}{d:Tmp}{x y:Operand}{T T2 ty:TypeId}{pos:String}{af:Array Edge}{q:Option (Prop × St)}
  {E B:Nat} {zs:List (List DV)} {zd:List DV} (hx:CS X (get s) x=some (.own 0 [])) (hy:(CS X (get s) y).bind LN=some zs)
  (he:FI X.P T=some (E,B)) (hz:gJ X.P T=some zd) (Sj:JO zd=true) (hB:0<B/\B<=1024) (h2:(E0 X.P T2).isSome=true) (hn:d<X.n)
  (Cn:0<zs.length) (Ao:zs.length<=I6) (Db:∀e∈zs,e.length=E) (hq:q=none)
  (h3:∀b' Ba,zs.length<=Ba->newB b' s->X.w0.heap.size<=b'->vc X Ab ops l (CM (CM s (.slot d) (.one (.v (PF b' zs.length Ba)))) (.heap b') (.row (AP (zs++List.replicate (Ba - zs.length) zd)))) K) :
  ZR X Ab ops l K ⟨some d,.call { callee:=.builtin .append,args:=#[x,y],argTypes:=#[T,T2] },ty,pos,af,none⟩ s q:=by
 subst hq;intro m hm G a w R0;obtain⟨p1,p3⟩:=EQ hm;simp only[List.length_cons,List.range'_succ,wpOpsIn,p1,Region.wanted,if_true];refine l9 (o:=⟨some d,.call { callee:=.builtin .append,args:=#[x,y],argTypes:=#[T,T2] },ty,pos,af,none⟩) rfl rfl hn he hB h2 hx hy Cn Ao Db hz Sj R0 _ _ fun b' Ba hc hb hw G' a' w' R'=>?_;exact CU (h3 b' Ba hc hb hw) (m+1) p3 G' a' w' R'
end
end
section
theorem zad (k:Int):0<=AX k:=by unfold AX;split <;> decide
theorem dP (t:Tm):∀(k d f b:Int),0<=f->f<=d->(t.upN k d).upN (k+f) b=t.upN k (d+b):=by
 induction t using Tm.ind with
 | h t ih=>
 intro k d f b hf hd;rw[Tm.upN_eq t k d,Tm.upN_eq,Tm.upN_eq t k (d+b)];rw[Tm.kind_mk,Tm.index_mk,Tm.type_mk,Tm.args_mk,List.map_map];have e1:(if t.kind=1/\k+f<=(if t.kind=1/\k<=t.index then t.index+d else t.index) then (if t.kind=1/\k<=t.index then t.index+d else t.index)+b else (if t.kind=1/\k<=t.index then t.index+d else t.index))=(if t.kind=1/\k<=t.index then t.index+(d+b) else t.index):=by
  by_cases h1:t.kind=1/\k<=t.index;· rw[if_pos h1,if_pos ⟨h1.1,oO⟩,if_pos h1];omega
  ·rw[if_neg h1,if_neg h1,if_neg (by rintro⟨q1,q2⟩;exact h1 ⟨q1,oO⟩)]
 rw[e1]
 congr 1
 refine List.map_congr_left fun x hx=>?_;have:=ih x hx (k+AX t.kind) d f b hf hd;rw[show k+AX t.kind+f=k+f+AX t.kind from oO]at this;exact this
theorem zfe (t:Tm):∀(k f n c:Int),0<=f->0<=n->0<=c->(t.upN k n).upN (k+f+n) c=(t.upN (k+f) c).upN k n:=by
 induction t using Tm.ind with
 | h t ih=>
 intro k f n c hf hn hc;rw[Tm.upN_eq t k n,Tm.upN_eq,Tm.upN_eq t (k+f) c,Tm.upN_eq (.mk t.kind _ t.type _)];simp only[Tm.kind_mk,Tm.index_mk,Tm.type_mk,Tm.args_mk,List.map_map];have e2:(t.args.map ((fun x=>x.upN (k+f+n+AX t.kind) c) ∘ fun x=>x.upN (k+AX t.kind) n))=t.args.map ((fun x=>x.upN (k+AX t.kind) n) ∘ fun x=>x.upN (k+f+AX t.kind) c):=by
  refine List.map_congr_left fun x hx=>?_;have:=ih x hx (k+AX t.kind) f n c hf hn hc;rw[show k+AX t.kind+f+n=k+f+n+AX t.kind from oO,show k+AX t.kind+f=k+f+AX t.kind from oO]at this;exact this
 rw[e2]
 congr 1
 by_cases h1:t.kind=1
 ·simp only[h1,true_and];by_cases h2:k+f<=t.index;· rw[if_pos (show k<=t.index from oO),if_pos oO,if_pos h2,if_pos oO];omega
  ·rw[if_neg h2];by_cases h3:k<=t.index;· rw[if_pos h3,if_neg oO]
   ·rw[if_neg h3,if_neg oO]
 ·simp only[h1,false_and,if_false]
theorem zgl (t s:Tm):∀(f d b:Int),0<=f->f<=d->0<=b->(t.upN f b).inN 0 (d+b) s=(t.inN 0 d s).upN f b:=by
 induction t using Tm.ind with
 | h t ih=>
 intro f d b hf hd hb;by_cases h1:t.kind=1
 ·rw[Tm.upN_eq t f b,Tm.inN_eq,Tm.kind_mk,Tm.index_mk,if_pos h1,Tm.inN_eq t,if_pos h1];simp only[h1,true_and];by_cases h2:t.index=0+d
  ·rw[if_pos (show f<=t.index from oO),if_pos oO,if_pos h2];have:=dP s 0 d f b hf hd;simp only[Int.zero_add]at this ⊢;exact this.symm
  ·rw[if_neg h2];by_cases h3:0+d<t.index
   ·rw[if_pos (show f<=t.index from oO),if_neg oO,if_pos oO,if_pos h3];have:=SA (t.index - 1) f b;rw[if_pos oO]at this;show vT _=_;rw[show t.index+b - 1=t.index - 1+b from oO];exact this.symm
   ·rw[if_neg h3];by_cases h4:f<=t.index;· rw[if_pos h4,if_neg oO,if_neg oO,Tm.upN_eq t f b,if_pos ⟨h1,h4⟩,h1]
    ·rw[if_neg h4,if_neg oO,if_neg oO,Tm.upN_eq t f b,if_neg (fun h=>h4 h.2),h1]
 ·rw[Tm.upN_eq t f b,Tm.inN_eq,Tm.kind_mk,Tm.index_mk,Tm.type_mk,Tm.args_mk,if_neg h1,Tm.inN_eq t,if_neg h1,Tm.upN_eq];simp only[Tm.kind_mk,Tm.index_mk,Tm.type_mk,Tm.args_mk,List.map_map,h1,false_and,if_false]
  congr 1
  refine List.map_congr_left fun x hx=>?_;have Lr:=zad t.kind;have:=ih x hx (f+AX t.kind) (d+AX t.kind) b oO oO hb;rw[show d+AX t.kind+b=d+b+AX t.kind from oO]at this;exact this
structure Acts (A:Int->Tm->Tm):Prop where
 node:∀(d:Int) (k i:Int) (y:Ty) (a:List Tm),k≠1->k≠2->A d (Tm.mk k i y a)=Tm.mk k i y (a.map (A d))
 lam:∀(d:Int) (y:Ty) (x:Tm),A d (Tm.mk 2 0 y [x])=Tm.mk 2 0 y [A (d+1) x]
 low:∀(d:Int) (i:Nat),(i:Int)<d->A d (vT i)=vT i
 great:∀d:Int,0<=d->A d JI=JI
 up:∀(d n:Int) (x:Tm),0<=d->0<=n->A (d+n) (x.upN 0 n)=(A d x).upN 0 n
theorem Acts.n1 {A:Int->Tm->Tm}(H:Acts A)(d k:Int)(x:Tm)(h1:k≠1)(h2:k≠2):A d (nT k [x])=nT k [A d x]:=H.node d k 0 _ [x] h1 h2
theorem Acts.n2 {A:Int->Tm->Tm}(H:Acts A)(d k:Int)(x y:Tm)(h1:k≠1)(h2:k≠2):A d (nT k [x,y])=nT k [A d x,A d y]:=H.node d k 0 _ [x,y] h1 h2
end
section
section
variable {X:Ctx}{s:St}
theorem iI {o:Oper}{t:TypeId}{x:Operand}(ho:o.op = .box t x){d:Nat}(hd:o.dst=some d)(hn:d<X.n){y:SV}(hy:CS X (get s) x=some y){cs:List DV}(hc:JZ (BV y)=some cs)(hb:JO cs=true) :
  ED X s o (CM s (.slot d) (.one (.v (.ref cs)))):=by
 intro G a w R next Q hK
 have Ak:HI G w (BV y) (a.eval x).cells:=IA R.nil (A8 R hy);obtain⟨t1,t2⟩:=P0 hc;have Bk:(a.eval x).cells.size=cs.length:=by rw[Ak.1,t1]
 refine M5 (by intro c e;rw[ho]at e;cases e) ?_;simp only[execOp,ho,Instr.box,newVar,newRow,run_newObj,Sem.run_bind,Sem.run_pure,Result.andThen_ok,D1,hd];have T:Trans X G a w { G with D:=FJ G.D w.heap.size 0 cs.length } a (w.alloc (.cells (a.eval x).cells t)) (fun _=>False):=bD R (hi:=cs.length) oO rfl R.nil;refine hK { G with D:=FJ G.D w.heap.size 0 cs.length } _ _ (R.setSlot T rfl rfl (fun _ h=>h) hn ?_);show RV (FJ G.D w.heap.size 0 cs.length) _ _ _;refine .ref cs w.heap.size 0 (fun j=>((a.eval x).cells[j]?).getD undef) ((P1 _).1 hb) (fun j hj=>?_) (fun j hj=>.inr ⟨rfl,Nat.zero_le _,oO⟩) (fun j c hjc=>?_)
 ·have Ac:j<(a.eval x).cells.size:=oO;simp[World.cell?_alloc_new,Ac]
 ·obtain⟨z,hz,hzd⟩:=t2 j c hjc;have Ac:j<(a.eval x).cells.size:=by rw[Bk];exact (uA hjc).1
  have hr:=JN hzd (Ak.2 j z _ hz (uG Ac));simp only[uG Ac,Option.getD_some];exact hr.mono (fun b o hd=>⟨.inl hd,World.cell?_alloc_lt _ _ _ (R.wf.lt hd)⟩)
theorem dQ {Ab:List Nat}{ops:Array Oper}{l:List Oper}{K:St->Prop}{d:Tmp}{t:TypeId}{x:Operand}{ty:TypeId}{pos:String}{af:Array Edge}{q:Option (Prop × St)}{y:SV}{cs:List DV}
  (hy:CS X (get s) x=some y) (hc:JZ (BV y)=some cs) (hb:JO cs=true) (hn:d<X.n) (hq:q=none)
  (k:vc X Ab ops l (CM s (.slot d) (.one (.v (.ref cs)))) K) :
  ZR X Ab ops l K ⟨some d,.box t x,ty,pos,af,none⟩ s q:=by
 subst hq;exact OA rfl (iI (o:=⟨some d,.box t x,ty,pos,af,none⟩) rfl rfl hn hy hc hb) (CU k)
theorem XY {ops:Array Oper}{s0:St}{K:St->Prop}{l:List Oper}{k:St->List Ev->Prop}{ev:List Ev}{fp wr:List Loc}{d:Tmp}{t:TypeId}{x:Operand}{ty:TypeId}{pos:String}{af:Array Edge}{q:Option (Prop × St)}{y:SV}{cs:List DV}
  (hk:∀s ev,k s ev->VD X ops s0 l s ev K) (hy:CS X (get (IK s fp)) x=some y) (hc:JZ (BV y)=some cs) (hb:JO cs=true) (hn:d<X.n) (hq:q=none)
  (g:ZS k ev s fp [d] [(.slot d,some (.one (.v (.ref cs))))]) :
  nP X ops s0 l K k ⟨some d,.box t x,ty,pos,af,none⟩ ev s fp wr q:=by
 subst hq;show VD X ops s0 _ s ev K;refine Q4 ⟨fp,_,[d]⟩ (fun s' hs Hh=>Q5 (.inl rfl) ?_) (hk _ _ g);exact iI (o:=⟨some d,.box t x,ty,pos,af,none⟩) rfl rfl hn (IQ hs hy) hc hb
end
end
section
variable {gl:AB}
abbrev zae:DV:=.prim (.pointer none)
abbrev GT:DV:=.prim .nilIface
def DZ:List Nat->DV
 | []=>zae
 | n::l=>.ref [A0 (n:Int),DZ l]
mutual
def MV.thing:MV->DV
 | .num n=>.iface 3 (A0 (n:Int))
 | .list l=>.iface 178 (DZ l)
 | .both a b=>.iface 184 (.ref [MV.thing a,MV.thing b])
 | .unit=>.iface 188 (.agg [])
 | .clo b e=>.iface 195 (.ref (b.cells++[MV.envM e]))
def MV.envM:List MV->DV
 | []=>zae
 | v::e=>.ref [MV.thing v,MV.envM e]
end
theorem y3:∀l,(DZ l).isCell=true
 | []=>rfl
 | _::_=>rfl
theorem QK (v:MV):v.thing.isCell=true:=by cases v <;> (simp only[MV.thing];rfl)
theorem z4u (e:List MV):(MV.envM e).isCell=true:=by cases e <;> (simp only[MV.envM];rfl)
theorem QL (v:MV):DN v.thing=[v.thing]:=by cases v <;> (simp only[MV.thing];rfl)
theorem pV (e:List MV):DN (MV.envM e)=[MV.envM e]:=by cases e <;> (simp only[MV.envM];rfl)
theorem lA (l:List Nat):DN (DZ l)=[DZ l]:=by cases l <;> rfl
attribute [go_sem] y3 QK z4u QL pV lA
theorem z4v (e:List MV)(i:Nat)(hi:i<e.length):cT gl 148 [MV.envM e,A0 (i:Int)] [] (e.getD i .unit).thing []:=by
 refine A6 Tryz.func148 ?_;intro X hP u6 hf u8 hn hR u5 u4;have h0:e.drop (i - i)=e:=sS;have Oe:C9 .i64 i:=u4 (A0 i) sS;rw[N2]at Oe;refine A2 ?_;refine BR ?_;refine AA [] @h0 (E6 (fun k:Nat=>k<=i) (fun k:Nat=>[sV 0 (MV.envM (e.drop (i - k))),sV 1 (A0 (k:Int)),sV 4 GT]) (fun k:Nat=>k) i (Nat.le_refl i) ?_);intro k hk ih
 obtain⟨v,r,hr⟩:∃v r,e.drop (i - k)=v::r:=by
  cases hq:e.drop (i - k) with
  | nil=>have:=List.drop_eq_nil_iff.1 hq;omega
  | cons v r=>exact⟨v,r,rfl⟩
 have hE:MV.envM (e.drop (i - k)) = .ref [v.thing,MV.envM r]:=by rw[hr,MV.envM]
 cases k with
 | zero=>
  have hv:(e[i]?.getD MV.unit)=v:=by
   have:=congrArg (fun l=>l.head?) hr;simp only[Nat.sub_zero,List.head?_drop,List.head?_cons]at this;simp[this]
  rw[Nat.sub_zero]at hE;refine A5 ?_;refine B9 ?_;refine A7 @hE ?_;exact AC @hv
 | succ k=>
  have hd:e.drop (i - k)=r:=by
   have h1:i - k=(i - (k+1))+1:=oO;rw[h1,<- List.drop_drop,hr,List.drop_one,List.tail_cons]
  have Ov:(0:Int)<(k:Int)+1:=oO;refine A5 ?_;refine AQ ?_;refine BZ @hE ?_;refine A5 ?_;refine GX ?_;refine AA [] @hd (ih k oO oO)
end
end Go.Proofs.YtkfiobkjflmchaaGreatDoor.Lift
