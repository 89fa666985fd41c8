import Derived.Test.YtkfiobkjflmchaaGreatDoorQn10
set_option maxHeartbeats 8000000
set_option maxRecDepth 100000
set_option linter.unusedSimpArgs false
set_option linter.unusedVariables false
set_option linter.unnecessarySimpa false
namespace Go.Proofs.YtkfiobkjflmchaaGreatDoor.Lift
open Go
section
variable {gl:AB}
theorem z54 {E:Nat}{full:List (List DV)}(hE:∀e∈full,e.length=E){i:Nat}{e:List DV}(h:full[i]? = some e):JZ (((AP full).drop (i * E)).take E)=some e:=by
 have he:=hE e (uE h);have h1:((AP full).drop (i * E)).take E=e.map SV.v:=by
  apply List.ext_getElem?;intro j;by_cases hj:j<E
  ·rw[List.getElem?_take_of_lt hj,List.getElem?_drop];have hje:e[j]? = some (e[j]'oO):=uB oO;simp only[AP,List.getElem?_map,QG hE h hje,hje]
  ·rw[List.getElem?_eq_none (by simp;omega),List.getElem?_eq_none (by simp;omega)]
 rw[h1];exact z5x e
theorem y7 (d:Nat)(ys:List (List DV)):EC d (AP ys)=false:=z3v d _
attribute [go_sem] y7
theorem zaw (σ:Nat->Nat)(l:List DV):KL σ (l.map SV.v) (l.map SV.v):=by
 induction l with
 | nil=>simp[KL]
 | cons x r ih=>simp[KL,RD,ih]
theorem TY (σ:Nat->Nat)(ys:List (List DV)):KL σ (AP ys) (AP ys):=zaw σ _
def KR:List T->Nat
 | []=>0
 | a::r=>a.size+KR r
theorem WZ (l r:List T):KR (l++r)=KR l+KR r:=by
 induction l with
 | nil=>simp[KR]
 | cons a l ih=>simp[KR,ih];omega
theorem zax (a:T):1<=a.size:=by cases a <;> simp only[T.size] <;> omega
theorem iL (l:List T):l.length<=KR l:=by
 induction l with
 | nil=>simp[KR]
 | cons a l ih=>have:=zax a;simp only[KR,List.length_cons];omega
def T.parts:T->List T
 | .pair a b=>[a,b]
 | _=>[]
theorem y8 (a:T)(h:a.plain):KR a.parts+1=a.size:=by
 cases a with
 | pair a b=>simp only[T.parts,KR,T.size];omega
 | fn a b=>exact h.elim
 | _=>rfl
theorem qB (a:T)(h:a.plain):∀x∈a.parts,x.plain:=by
 cases a with
 | pair a b=>intro x hx;simp[T.parts]at hx;rcases hx with rfl|rfl;exact h.1;exact h.2
 | fn a b=>exact h.elim
 | _=>intro x hx;simp[T.parts]at hx
theorem y9 (a:T)(h:a.plain):a.ty.args.map Ty.cells=a.parts.map fun x=>x.ty.cells:=by
 cases a with
 | fn a b=>exact h.elim
 | _=>rfl
theorem z55 (a:T):a.parts.length<=2:=by cases a <;> simp[T.parts]
theorem yA (a:T)(h:a.plain):¬a.ty.kind=4:=by
 cases a with
 | fn a b=>exact h.elim
 | _=>simp[T.ty,Ty.kind]
def GD (l:List T):List (List DV):=l.map fun x=>x.ty.cells
theorem yB (l:List T):(GD l).length=l.length:=by simp[GD]
theorem dY (l:List T):∀e∈GD l,e.length=2:=by
 intro e he;simp only[GD,List.mem_map]at he;obtain⟨x,-,rfl⟩:=he;exact Ty.length_cells _
theorem iM {full:List (List DV)}{init parts:List T}(h:full.take init.length=GD init)(rest:List (List DV)):(full.take init.length++GD parts++rest).take (init++parts).length=GD (init++parts):=by
 rw[h];have e:GD init++GD parts=GD (init++parts):=by simp[GD]
 rw[e];exact List.take_left' (yB _)
theorem qC {full:List (List DV)}{n:Nat}{zs rest:List (List DV)}(h:∀e∈full,e.length=2)(h1:∀e∈zs,e.length=2)(h2:∀e∈rest,e.length=2):∀e∈full.take n++zs++rest,e.length=2:=by
 intro e he;rcases List.mem_append.1 he with he|he
 ·rcases List.mem_append.1 he with he|he;· exact h e (List.mem_of_mem_take he)
  ·exact h1 e he
 ·exact h2 e he
theorem zk0 {α:Type}{X:Ctx}{k kk:List Item}{s:St}(E:α->Prop)(S:α->St)(h1:(∀x,E x->W X kk (S x))->W X k s)(h2:∀x,E x->W X kk (S x)):W X k s:=h1 h2
theorem yC (a0:T)(Lm:a0.plain)(Dt:a0.size<=1000000)(b0 lp:Nat)(r:Loop)(Kp:r.params.size=1) :
  ItC Tryz.prog gl 206 [.prim (.func (.yield lp) #[] #[]),DP b0] [(b0,a0.ty.cells)] lp r (fun D0 w0=>∀a:T,a.plain->YC Tryz.prog gl D0 w0 lp r [a.ty.dv] [] fun b Ag r'=>b=true/\Ag=[]/\r' = r) (fun Ag r'=>Ag=[(b0,a0.ty.cells)]/\r' = r):=by
 refine XN Tryz.func206 rfl kK (uF rfl) ?_;intro X hP u6 hf u8 hn Cw u5 u4 Vv hY;have Bw:¬lp=b0:=by simpa using Vv
 have Cx:¬b0=lp:=fun e=>Bw e.symm;simp only[UZ,entry,MH,DO,List.map_cons,List.map_nil,List.cons_append,List.nil_append];have Cb:=Ty.cells_eq a0.ty;refine BR ?_;refine B4 [6] fun K hK=>?_;simp[go_sem,hP,u6,hn,Bw,Cx,Cb];refine z9u (E:=2) (els:=[[A0 a0.ty.kind,.sl (a0.ty.args.map Ty.cells)]]) (by simp[go_sem,hP];rfl) (by simp[go_sem,hP,u6,hn]) ⟨rfl,dD⟩ (by rw[hn];exact uF rfl) (by rfl) ?_;intro b hb hw;simp[go_sem]at hb;simp[go_sem,hP,u6,hn,Bw,Cx,hb];repeat (refine⟨oO,?_⟩)
 refine hK _ ?_;clear hK K;have Gx:¬b=lp:=fun e=>hb.1 e.symm;have Et:¬b=b0:=fun e=>hb.2 e.symm;refine BR ?_
 refine CR [] (by simp[go_sem]) (by simp[go_sem,Gx,Et,hb,Bw,Cx,GD,Cb,TY]) (by simp[go_sem]) (E6
  (fun x:Nat × Nat × List (List DV) × List T=>x.2.2.1.length=x.2.1/\(∀e∈x.2.2.1,e.length=2)/\x.2.2.1.take x.2.2.2.length=GD x.2.2.2/\x.2.2.2.length<=x.2.1/\(∀a∈x.2.2.2,a.plain)/\KR x.2.2.2<=1000000/\¬x.1=lp/\¬x.1=b0)
  (fun x=>[(.slot 0,.one (.v (.prim (.func (.yield lp) #[] #[])))),(.slot 1,.one (.v (DP b0))),(.slot 3,.one (.v (PF x.1 x.2.2.2.length x.2.1))),(.heap lp,.ob r),(.heap b0,.row [.v (A0 a0.ty.kind),.v (.sl (a0.ty.args.map Ty.cells))]),(.heap x.1,.row (AP x.2.2.1))])
  (fun x=>KR x.2.2.2) (b,1,GD [a0],[a0]) ⟨rfl,dY _,rfl,Nat.le_refl _,by simpa using Lm,by simpa [KR] using Dt,Gx,Et⟩ ?_)
 clear hb Gx Et b hw;rintro⟨b,cap,full,rest⟩ ⟨i1,i2,i3,i4,i5,i6,i7,i8⟩ ih;simp only at i1 i2 i3 i4 i5 i6 i7 i8;have Of:¬lp=b:=fun e=>i7 e.symm;have Oh:¬b0=b:=fun e=>i8 e.symm;rcases List.eq_nil_or_concat rest with rfl|⟨init,a,Aa⟩
 ·refine BZ (j6 @Bw @Cx @i7 @i8 @Of @Oh) ?_;refine B9 ?_;refine BR ?_;refine W3 Cw (φ:=[(b0,a0.ty.cells)]) (q:=r) (r:=.tup []) (by rw[hP,hf,u8];exact Tryz.func206) (by rw[u8];simp[go_sem]) (B8 ?_ (by simp[BW])) sS ?_ ⟨rfl,rfl⟩ RP;· simp[go_sem,Bw,Cx,i7,i8,Of,Oh,Cb]
  ·simp[go_sem,Bw,Cx,i7,i8,Of,Oh]
 ·rw[List.concat_eq_append]at Aa;subst Aa;have ha:=i5 a sS;have Tn:(init++[a]).length=init.length+1:=sS;have hls:=iL (init++[a]);rw[Tn]at hls i3 i4;rw[Tn];have Ao:init.length+1<=I6:=by unfold I6;omega
  have Da:full[init.length]? = some a.ty.cells:=by
   have h1:(full.take (init.length+1))[init.length]? = some a.ty.cells:=by rw[i3];simp[GD]
   rw[List.getElem?_take_of_lt oO]at h1;exact h1
  have Mp:=z54 i2 Da;rw[Ty.cells_eq a.ty]at Mp;have hps':=y8 a ha;have Dm:=z55 a;have u9:=y9 a ha;have Bk:=WZ init [a];have hsz2:=WZ init a.parts;simp only[KR]at Bk;have hls2:=iL (init++a.parts);rw[List.length_append]at hls2;have Di:=Ty.fold a.ty;have htr:GD a.parts=a.ty.args.map Ty.cells:=u9.symm;have Ot:(AP full).length=cap * 2:=by rw[EU i2,i1]
  refine BZ (j7 @Ao @Bw @Cx @i7 @i8 @Of @Oh) ?_;refine AQ ?_;have Ac:((init.length:Nat):Int)<(init.length:Nat)+1:=oO;refine BZ (j8 @Ao @Bw @Cx @i7 @i8 @Of @Oh @Mp) ?_;have Gy:init.length+(a.ty.args.map Ty.cells).length<=I6:=by
   rw[u9,List.length_map];unfold I6;omega
  have hzw:∀e∈a.ty.args.map Ty.cells,e.length=2:=by rw[u9];exact dY a.parts
  have Mm:(a.ty.args.map Ty.cells).length=a.parts.length:=by rw[u9,List.length_map]
  have Cc:(init++a.parts).length=init.length+a.parts.length:=List.length_append;have Zj:full.take init.length=GD init:=by
   have h1:(full.take (init.length+1)).take init.length=(GD (init++[a])).take init.length:=by rw[i3]
   rw[List.take_take,Nat.min_eq_left oO]at h1;rw[h1];simp[GD]
  generalize a.ty.args.map Ty.cells=zs at *
  apply zk0 (fun x:Nat × Nat × List (List DV)=>x.2.2.length=x.2.1/\(∀e∈x.2.2,e.length=2)/\x.2.2.take (init++a.parts).length=GD (init++a.parts)/\(init++a.parts).length<=x.2.1/\¬x.1=lp/\¬x.1=b0)
   (fun x=>[(.slot 0,.one (.v (.prim (.func (.yield lp) #[] #[])))),(.slot 1,.one (.v (DP b0))),(.slot 3,.one (.v (PF x.1 (init++a.parts).length x.2.1))),(.slot 4,.one (.loc 4 0)),(.loc 4,.row [.v (A0 a.ty.kind),.v (.sl zs)]),(.heap lp,.ob r),(.heap b0,.row [.v (A0 a0.ty.kind),.v (.sl (a0.ty.args.map Ty.cells))]),(.heap x.1,.row (AP x.2.2))])
  ·intro Aa;refine BR ?_;refine zjq (by rw[hP];exact BK) 7 ?_ ?_ [] [23] fun K hK=>?_;· decide
   ·rfl
   simp[go_sem,hP,u6,hn,Ao,Bw,Cx,i7,i8,Of,Oh,Mp];repeat (refine⟨oO,?_⟩)
   refine⟨by rfl,?_⟩;refine Z4 (E:=2) (B:=32) (b:=b) (n:=init.length) (cap:=cap) (full:=full) (zs:=zs) (zd:=[A0 0,.sl []]) (by simp[go_sem,hP,u6,hn]) (by simp[go_sem,hP,u6,hn]) (by simp[go_sem,Bw,Cx,i7,i8,Of,Oh]) (by simp[go_sem,hP]) (by rw[hP];kernel_rfl) rfl ⟨dD,dD⟩ (by rw[hP];rfl) (by rw[hn];exact uF rfl) i1 oO Gy i2 hzw rfl ?_ ?_
   ·intro hle;simp[go_sem,hP,u6,hn,Bw,Cx,i7,i8,Of,Oh];refine hK _ ?_;clear hK K;rw[Mm]at hle;have q1:(full.take init.length++zs++full.drop (init.length+zs.length)).length=cap:=by
     simp only[List.length_append,List.length_take,List.length_drop,i1,Mm];omega
    have q2:=qC (n:=init.length) i2 hzw (rest:=full.drop (init.length+zs.length)) fun e he=>i2 e (List.mem_of_mem_drop he);have q3:=iM (parts:=a.parts) Zj (full.drop (init.length+zs.length));rw[htr]at q3;have q4:(init++a.parts).length<=cap:=by rw[Cc];exact hle
    have q5:init.length+zs.length=(init++a.parts).length:=by rw[Cc,Mm]
    have Be:=Aa (b,cap,_) ⟨q1,q2,q3,q4,i7,i8⟩;simp only at Be;rw[<- q5]at Be;rw[List.append_assoc]at Be;generalize full.take init.length++(zs++full.drop (init.length+zs.length))=fl at *;refine GX ?_;refine AA [] (j7 @Bw @Cx @i7 @i8 @Of @Oh @TY) Be
   ·intro Ac b' Ba hc Ai hw';simp[go_sem]at Ai;simp[go_sem,hP,u6,hn,Bw,Cx,i7,i8,Of,Oh,Ai];refine hK _ ?_;clear hK K;have k1:¬b' = lp:=fun e=>Ai.1 e.symm;have k2:¬b' = b0:=fun e=>Ai.2.1 e.symm;have k3:¬b=b':=fun e=>Ai.2.2 e;have q1:(full.take init.length++zs++List.replicate (Ba - (init.length+zs.length)) [A0 0,DV.sl []]).length=Ba:=by
     simp only[List.length_append,List.length_take,List.length_replicate,i1];omega
    have q2:=qC (n:=init.length) i2 hzw (rest:=List.replicate (Ba - (init.length+zs.length)) [A0 0,DV.sl []]) fun e he=>by rw[(List.mem_replicate.1 he).2];rfl
    have q3:=iM (parts:=a.parts) Zj (List.replicate (Ba - (init.length+zs.length)) [A0 0,DV.sl []]);rw[htr]at q3;have q5:init.length+zs.length=(init++a.parts).length:=by rw[Cc,Mm]
    have q4:(init++a.parts).length<=Ba:=by rw[<- q5];exact hc
    have Be:=Aa (b',Ba,_) ⟨q1,q2,q3,q4,k1,k2⟩;simp only at Be;rw[<- q5]at Be;rw[List.append_assoc]at Be;generalize full.take init.length++(zs++List.replicate (Ba - (init.length+zs.length)) [A0 0,DV.sl []])=fl at *;refine GX ?_;refine AA [] (j8 @Bw @Cx @i7 @i8 @Of @Oh @Ai (j4 @k1 @k2 @k3 @TY)) Be
  ·rintro⟨b',Ba,Sz⟩ ⟨w1,w2,w3,w4,w5,w6⟩;simp only at w1 w2 w3 w4 w5 w6 ⊢;have Zg:¬lp=b':=fun e=>w5 e.symm;have Xl:¬b0=b':=fun e=>w6 e.symm;have w7:∀x∈init++a.parts,x.plain:=by
    intro x hx;rcases List.mem_append.1 hx with hx|hx;· exact i5 x (by simp[hx])
    ·exact qB a ha x hx
   have w8:KR (init++a.parts)<=1000000:=oO;have w9:KR (init++a.parts)<KR (init++[a]):=oO;have Be:=ih (b',Ba,Sz,init++a.parts) ⟨w1,w2,w3,w4,w7,w8,w5,w6⟩ w9;simp only at Be;generalize Wh:(init++a.parts).length=nn at *;refine BR ?_;first|refine B4 [] fun K hK=>?_|refine AU (by rw[hP];exact BK) [] fun K hK=>?_
   refine rW (j7 @Bw @Cx @w5 @w6 @Zg @Xl @Di) ?_;repeat (refine⟨oO,?_⟩)
   refine V0 (by simp[go_sem]) hP u6 (hY a ha) Kp (by simp[go_sem,Bw,Cx,w5,w6,Zg,Xl,Di]) rfl (by simp[BW]) sS (by simp[go_sem,Bw,Cx,w5,w6,Zg,Xl]) (by rw[hn];exact uF rfl) [(.slot 0,.one (.v (.prim (.func (.yield lp) #[] #[])))),(.slot 1,.one (.v (DP b0))),(.slot 3,.one (.v (PF b' nn Ba))),(.heap b0,.row [.v (A0 a0.ty.kind),.v (.sl (a0.ty.args.map Ty.cells))]),(.heap b',.row (AP Sz))] ?_ ?_ ?_
   ·intro m v h;simp only[List.mem_cons,List.not_mem_nil,or_false,uD]at h;rcases h with⟨rfl,rfl⟩|⟨rfl,rfl⟩|⟨rfl,rfl⟩|⟨rfl,rfl⟩|⟨rfl,rfl⟩ <;> simp[go_sem,Bw,Cx,w5,w6,Zg,Xl]
   ·rintro _ _ _ ⟨rfl,rfl,rfl⟩;simp
   ·rintro _ _ _ ⟨rfl,rfl,rfl⟩ -;simp only[List.cons_append,List.nil_append];simp[go_sem,hP,u6,hn];refine I7 ?_;clear hK K;refine B9 ?_;refine GX ?_;refine AA [] (j7 @Bw @Cx @w5 @w6 @Zg @Xl @TY) Be
theorem dZ (a:T):Con Tryz.prog gl 147 [a.ty.dv] [] fun r φ=>∃b,r = .prim (.func (.func 206) #[] #[.pointer (some ⟨b,0,none⟩)])/\φ=[(b,a.ty.cells)]:=by
 have Cb:=Ty.cells_eq a.ty;refine A6 Tryz.func147 ?_;intro X hP u6 hf u8 hn hR u5 u4;refine A5 ?_;refine FW 1 (by simp[go_sem];rfl) ?_;intro b hb;simp[go_sem];refine A5 ?_;refine BR ?_;refine RX hP hf u8 (.prim (.func (.func 206) #[] #[.pointer (some ⟨b,0,none⟩)])) [(b,a.ty.cells)] (by simp[go_sem,hP,u6,hn]) (by simp[go_sem,Cb]) sS (by rw[hR.1];exact⟨b,rfl,rfl⟩) hR.2
theorem z56 (a:T)(hp:a.plain)(ho:a.ok):cT gl 95 [a.ty.dv] [] (.tup [AR true,A0 0]) []:=by
 have hs:a.size<=64:=ho;have hc:=T.ty_count a;have h0:a.ty.checkN=0:=(Ty.checkN_iff _).2 (T.ok_ty ho);have wc:=NN (gl:=gl) a.ty oO;rw[h0]at wc;have fa:=Ty.fold a.ty;have Cb:=Ty.cells_eq a.ty;refine A6 Tryz.func95 ?_;intro X hP u6 hf u8 hn hR u5 u4;refine A2 ?_;refine A3 @fa wc ?_;refine A2 ?_;refine BR ?_;first|refine B4 [] fun K hK=>?_|refine AU (by rw[hP];exact BK) [] fun K hK=>?_
 refine K0 ?_;repeat (refine⟨oO,?_⟩)
 refine P9 hP u6 (dZ a) (by simp[go_sem]) rfl (by simp[go_sem]) sS (by rw[hn];exact uF rfl) ?_;rintro r ψ ⟨b0,rfl,rfl⟩ -;simp[go_sem];refine I7 ?_;clear hK K;refine BR ?_;refine RZ hR.2 (f:=206) (fi:=#[]) (ca:=#[.pointer (some ⟨b0,0,none⟩)]) (by simp[go_sem]) (by simp[D5]) (φ:=[(b0,a.ty.cells)]) ?_ ?_ (Y:=fun lp r D0 w0=>∀x:T,x.plain->YC X.P X.gl D0 w0 lp r [x.ty.dv] [] fun b Ag r'=>b=true/\Ag=[]/\r' = r) (R:=fun Ag r'=>Ag=[(b0,a.ty.cells)]/\r'.state = .ready/\r'.pending=none) (SL:=[]) ?_ ?_ ?_ ?_ ?_;· exact B8 (by simp[go_sem,Cb]) (by simp[BW])
 ·simp
 ·intro n x h;cases h
 ·intro lp r h1 h2 h3 h4;have:=yC (gl:=gl) a hp oO b0 lp r (by rw[h3];rfl);rw[hP,u6];refine⟨this.1,fun D w vs a1 a2 a3 a4 a5 a6=>(this.2 D w vs a1 a2 a3 a4 a5 a6).mono ?_⟩;rintro e w' ⟨v1,D',Ag,r',rfl,Ym,rest⟩;refine⟨v1,D',Ag,r',rfl,?_,rest⟩;obtain⟨rfl,rfl⟩:=Ym;exact⟨rfl,h1,h2⟩
 ·intro lp r D0 w0 h1 h2 h3 h4 h5 h6 h7 h8 h9 x hx;rw[hP,u6];refine cB X.n h5 h9 h1 (by rw[h3];rfl) (by rw[h3,hn];decide) (by rw[h3];decide) (by rw[h3];simp) ?_;intro X' Yw Mn Me Ka Gr Bu Ct Si;rw[h3,h6,h7];rw[hn]at Ka;clear hP u6 hn;have hP:=Yw;have u6:=Mn;have hn:=Ka;have hk:=yA x hx;have fx:=Ty.fold x.ty;simp only[Q7,h3,YR,RY,DO,List.cons_append,List.nil_append,List.map_nil];refine A5 ?_;refine aG (r:=r) (l:=lp) (by simp[Ctx.rd,Gr]) (by simp[go_sem]) h1 ?_;simp[go_sem];refine A5 ?_;refine BR ?_;refine BN rfl ?_ ?_;· intro h;exact absurd (by simpa using h) hk
  intro _;refine BR ?_;refine W4 Gr (φ:=[]) (by simp[BW]) sS (by simp[go_sem]) none rfl ?_;simp only[Option.isNone_none,true_and];cases r;simp only[R7]at h1 h2 ⊢;subst h1 h2;rfl
 ·rintro Ag r' ⟨-,h,-⟩;rw[h];simp
 ·rintro Ag r' ⟨rfl,-,h⟩ -;rw[h];simp[go_sem];refine A5 ?_;exact AM
theorem eB (n:Nat):(MV.num n).thing = .iface 3 (A0 (n:Int)):=by rw[MV.thing]
theorem ZE (l:List Nat):(MV.list l).thing = .iface 178 (DZ l):=by rw[MV.thing]
theorem ZF (a b:MV):(MV.both a b).thing = .iface 184 (.ref [a.thing,b.thing]):=by rw[MV.thing]
theorem ZG:MV.unit.thing = .iface 188 (.agg []):=by rw[MV.thing]
theorem lC (n:Nat):cT gl 98 [(MV.num n).thing] [] (Val.mk 1 (n:Nat) [] []).dv []:=by
 rw[eB];refine A6 Tryz.func98 ?_;intro X hP u6 hf u8 hn hR u5 u4;refine A2 ?_;exact BI
theorem fL:cT gl 98 [MV.unit.thing] [] (Val.mk 4 0 [] []).dv []:=by
 rw[ZG];refine A6 Tryz.func98 ?_;intro X hP u6 hf u8 hn hR u5 u4;refine A2 ?_;exact BI
theorem z57 (l:List Nat)(n:Nat):AH (List.map Int.ofNat l)++[[A0 (n:Int)]]=AH (List.map Int.ofNat (l++[n])):=by simp[AH]
theorem fM (l:List Nat)(hl:l.length<=1073741824):cT gl 98 [(MV.list l).thing] [] (Val.mk 2 0 (List.map Int.ofNat l) []).dv []:=by
 rw[ZE];refine A6 Tryz.func98 ?_;intro X hP u6 hf u8 hn hR u5 u4;refine A2 ?_;refine BR ?_;refine AA [(1005,0)] @AH.eq_1 (E6 (fun x:List Nat × List Nat=>x.1++x.2=l) (fun x:List Nat × List Nat=>[sV 4 (DZ x.2),sP 5,sL 5 [.v (A0 2),.v (A0 0),.own 1005 (AH (x.1.map Int.ofNat)),.own 0 []],(.tok 1005,.tk 1 x.1.length),sP 2,sL 2 [.v (A0 0),.v (A0 0),.own 0 [],.own 0 []]]) (fun x:List Nat × List Nat=>x.2.length) (([]:List Nat),l) (rfl) ?_);rintro⟨ds,q⟩ hq ih;simp only at hq;have hql:ds.length+q.length=l.length:=by rw[<- hq];simp
 cases q with
 | nil=>
  have Ke:=TX;rw[Ke];have Dv:ds=l:=by rw[<- hq];simp
  subst Dv;refine A5 ?_;refine B9 ?_;refine A2 ?_;exact BI
 | cons n q=>
  have Ke:=NV n q;have hon:=z57 ds n;have Sw:∀e:List DV,e∈AH (List.map Int.ofNat ds)->e.length=1:=by intro e he;simp only[AH,List.mem_map]at he;obtain⟨x,-,rfl⟩:=he;rfl
  have Jk:(AH (List.map Int.ofNat ds)).length=ds.length:=by simp[AH]
  have Bn:ds.length<=2147483647:=by simp at hql;omega
  have e2:(ds++[n])++q=l:=by rw[<- hq];simp
  have e3:q.length<(n::q).length:=sS;have Jy:(ds++[n]).length=ds.length+1:=sS;have hl3:(AH (List.map Int.ofNat (ds++[n]))).length=ds.length+1:=by simp[AH]
  have Va:=ih (ds++[n],q) e2 e3;rw[<- hon]at Va;simp only[Jy]at Va;rw[Ke];generalize AH (List.map Int.ofNat ds)=L at *;refine A5 ?_;refine AQ ?_;refine BZ (j3 @Bn @Sw @Jk) ?_;refine A5 ?_;refine GX ?_;refine AA [(1005,30)] @Jk Va
theorem fN (a b:T)(x y:MV)(v w:Val)(h1:cT gl 98 [x.thing] [] v.dv [])(h2:cT gl 98 [y.thing] [] w.dv []) :
  cT gl 98 [(MV.both x y).thing] [] (Val.mk 3 0 [] [v,w]).dv []:=by
 rw[ZF];have fv:=Val.fold v;have fw:=Val.fold w;refine A6 Tryz.func98 ?_;intro X hP u6 hf u8 hn hR u5 u4;refine A2 ?_;refine BL tT h1 h2 ?_;exact BI
theorem L6:∀(a:T) (x:a.V),a.plain->(gW a x).nle 1073741824->cT gl 98 [(gW a x).thing] [] (B2 a x).dv []
 | .nat,n,_,_=>lC n
 | .list,l,_,h=>fM l (by simp only[gW,MV.nle]at h;exact h.1)
 | .unit,_,_,_=>fL
 | .pair a b,p,hp,h=>by
  simp only[gW,MV.nle]at h;exact fN a b _ _ _ _ (L6 a p.1 hp.1 h.1) (L6 b p.2 hp.2 h.2)
 | .fn _ _,_,hp,_=>hp.elim
theorem qD (n:Nat):cT gl 94 [(Val.mk 1 (n:Nat) [] []).dv] [] (MV.num n).thing []:=by
 rw[eB];refine A6 Tryz.func94 ?_;intro X hP u6 hf u8 hn hR u5 u4;refine A2 ?_;exact AM
theorem lD:cT gl 94 [(Val.mk 4 0 [] []).dv] [] MV.unit.thing []:=by
 rw[ZG];refine A6 Tryz.func94 ?_;intro X hP u6 hf u8 hn hR u5 u4;refine A2 ?_;exact AM
theorem lE (x y:MV)(v w:Val)(h1:cT gl 94 [v.dv] [] x.thing [])(h2:cT gl 94 [w.dv] [] y.thing []) :
  cT gl 94 [(Val.mk 3 0 [] [v,w]).dv] [] (MV.both x y).thing []:=by
 rw[ZF];have fv:=Val.fold v;have fw:=Val.fold w;have lv:=Val.length_cells v;have lw:=Val.length_cells w;refine A6 Tryz.func94 ?_;intro X hP u6 hf u8 hn hR u5 u4;refine A2 ?_;refine BR ?_;refine AU (by rw[hP];exact BK) [34] fun K hK=>?_;simp[go_sem,hP,u6,hn,fv,fw,lv,lw];refine F8 (j2 @fv @fw) (h1) ?_;refine F8 (j2 @fv @fw) (h2) ?_;refine XY (cs:=[x.thing,y.thing]) (y:=.ag [x.thing,y.thing] []) (fun _ _=>E8) (by simp[go_sem,hP,u6,hn]) (by simp[go_sem]) (by simp[go_sem]) (by rw[hn];exact uF rfl) (by rfl) ?_;simp[go_sem,hP,u6,hn];refine I7 ?_;clear hK K;exact AM
theorem lF (l:List Nat):cT gl 94 [(Val.mk 2 0 (List.map Int.ofNat l) []).dv] [] (MV.list l).thing []:=by
 rw[ZE];have Mh:(List.map Int.ofNat l).length=l.length:=sS;refine A6 Tryz.func94 ?_;intro X hP u6 hf u8 hn hR u5 u4;have Jy:=Val.fit_list (u4 (Val.mk 2 0 (List.map Int.ofNat l) []).dv sS);rw[show (Val.mk 2 0 (List.map Int.ofNat l) []).list=List.map Int.ofNat l from rfl]at Jy;refine A2 ?_;refine BR ?_;first|refine B4 [] fun K hK=>?_|refine AU (by rw[hP];exact BK) [] fun K hK=>?_
 refine K0 ?_;repeat (refine⟨oO,?_⟩)
 refine P9 hP u6 (oI (List.map Int.ofNat l)) (by simp[go_sem]) rfl (by simp[go_sem]) sS (by rw[hn];exact uF rfl) ?_;rintro r ψ ⟨b0,rfl,rfl⟩ -;simp[go_sem];refine I7 ?_;clear hK K;refine BR ?_;refine FW 3 (by simp[go_sem];rfl) ?_;intro b3 hb;simp[go_sem]at hb ⊢;have Ai:b0≠b3:=hb
 let Φ:Nat->BS:=fun i=>[(b3,[DZ (l.drop i)])]
 have Zl:DZ (l.drop l.length)=zae:=by rw[List.drop_length];rfl
 refine RZ hR.2 (f:=204) (fi:=#[]) (ca:=#[.pointer (some ⟨b0,0,none⟩)]) (by simp[go_sem]) (by simp[D5]) (φ:=(b0,[.sl (AH (List.map Int.ofNat l))])::Φ l.length) ?_ ?_ (Y:=zgf X.P X.gl (List.map Int.ofNat l) Φ (fun _ _=>False)) (R:=fun Ag r'=>Ag=(b0,[.sl (AH (List.map Int.ofNat l))])::Φ 0/\r'.state = .ready/\r'.pending=none) (SL:=[(3,DP b3)]) ?_ ?_ ?_ ?_ ?_
 ·refine B8 (by simp[go_sem]) (B8 ?_ (by simp[BW]));simp only[Zl];simp[go_sem,Ai]
 ·simp[Φ,Ai]
 ·intro n x h;simp only[List.mem_singleton,uD]at h;obtain⟨rfl,rfl⟩:=h;simp[go_sem]
 ·intro lp r h1 h2 h3 h4;have:=z3z (gl:=gl) (List.map Int.ofNat l) oO b0 Φ (fun _=>rfl) (by simp[Φ]) (by simp[Φ];exact Ai) (Stop:=fun _ _=>False) (fun _ _ h=>h.elim) lp r (by rw[h3];rfl);rw[Mh]at this;rw[hP,u6];refine⟨this.1,fun D w vs a1 a2 a3 a4 a5 a6=>(this.2 D w vs a1 a2 a3 a4 a5 a6).mono ?_⟩;rintro e w' ⟨v1,D',Ag,r',rfl,Ym,rest⟩;refine⟨v1,D',Ag,r',rfl,?_,rest⟩;rcases Ym with⟨rfl,rfl⟩|⟨ψ,-,h⟩;· exact⟨rfl,h1,h2⟩
  ·exact h.elim
 ·intro lp r D0 w0 h1 h2 h3 h4 h5 h6 h7 h8 h9 i x hx;rw[hP,u6];refine cB X.n h5 h9 h1 (by rw[h3];rfl) (by rw[h3,hn];decide) (by rw[h3];decide) (by rw[h3];simp) ?_;intro X' Yw Mn Me Ka Gr Bu Ct Si;rw[h3,h6,h7]
  obtain⟨n,rfl,Yu⟩:∃n:Nat,x=Int.ofNat n/\l.drop i=n::l.drop (i+1):=by
   obtain⟨hi,hxx⟩:=uA hx;have Cz:i<l.length:=by simpa using hi
   refine⟨l[i],?_,List.drop_eq_getElem_cons Cz⟩;rw[<- hxx];simp
  rw[hn]at Ka;clear hP u6 hn;have hP:=Yw;have u6:=Mn;have hn:=Ka;have Hi:lp≠b3:=by simpa [Φ] using Ct
  have Ke:=NV n (l.drop (i+1));simp only[Q7,Φ,h3,YR,RY,DO,List.cons_append,List.nil_append];refine BZ @Hi ?_;refine aG (r:=r) (l:=lp) (by simp[Ctx.rd,Gr]) (by simp[go_sem]) h1 ?_;simp[go_sem,Hi,Hi.symm];refine BR ?_;refine B4 [18] fun K hK=>?_;simp[go_sem,hP,u6,hn,Hi,Hi.symm];refine dQ (cs:=[A0 (n:Int),DZ (l.drop (i+1))]) (y:=.ag [A0 (n:Int),DZ (l.drop (i+1))] []) (by simp[go_sem,hP,u6,hn]) (by simp[go_sem]) (by simp[go_sem]) (by rw[hn];exact uF rfl) (by rfl) ?_;simp[go_sem,hP,u6,hn,Hi,Hi.symm];refine I7 ?_;clear hK K;refine BR ?_;refine W4 Gr (φ:=Φ i) ?_ (by simp[Φ]) (by simp[go_sem,Hi.symm]) none rfl ?_
  ·refine B8 ?_ (by simp[BW]);rw[Yu,Ke];simp[go_sem,Hi,Hi.symm]
  ·simp only[Option.isNone_none,if_true,true_and];cases r;simp only[R7]at h1 h2 ⊢;subst h1 h2;rfl
 ·rintro Ag r' ⟨-,h,-⟩;rw[h];simp
 ·rintro Ag r' ⟨rfl,-,h⟩ -;rw[h];simp[go_sem,Φ,Ai,Ai.symm];refine BZ @Ai ?_;exact AM
theorem M9:∀(a:T) (x:a.V),a.plain->cT gl 94 [(B2 a x).dv] [] (gW a x).thing []
 | .nat,n,_=>qD n
 | .list,l,_=>lF l
 | .unit,_,_=>lD
 | .pair a b,p,hp=>lE _ _ _ _ (M9 a p.1 hp.1) (M9 b p.2 hp.2)
 | .fn _ _,_,hp=>hp.elim
end
section
def Tl:(a:T)->MV->a.V->Prop
 | .nat,v,n=>v = .num n
 | .list,v,l=>v = .list l
 | .unit,v,_=>v = .unit
 | .pair a b,v,p=>∃x y,v = .both x y/\Tl a x p.1/\Tl b y p.2
 | .fn a b,v,f=>∃body e,v = .clo body e/\∀(x:MV) (y:a.V),Tl a x y->∃(r:MV) (c d0:Nat),(∀d,d0<=d->UK d body (x::e)=some (r,c))/\Tl b r (f y)
def TlE:(Γ:List T)->List MV->BH Γ->Prop
 | [],e,_=>e=[]
 | a::Γ,e,ρ=>∃x r,e=x::r/\Tl a x ρ.1/\TlE Γ r ρ.2
theorem TlE.get {Γ:List T}{i:Nat}{a:T}{p:BH Γ->a.V}(h:At Γ i a p):∀{e:List MV} {ρ:BH Γ},TlE Γ e ρ->i<e.length/\Tl a (e.getD i .unit) (p ρ):=by
 induction h with
 | zero=>rintro e ρ ⟨x,r,rfl,h1,h2⟩;exact⟨sS,h1⟩
 | succ h ih=>
  rintro e ρ ⟨x,r,rfl,h1,h2⟩;obtain⟨k1,k2⟩:=ih h2;exact⟨by simpa using k1,by simpa using k2⟩
theorem QO {a b:T}{f:MV}{F:(T.fn a b).V}(hf:Tl (.fn a b) f F){x:MV}{X:a.V}(hx:Tl a x X):∃(v:MV) (c d0:Nat),Tl b v (F X)/\∀d,d0<=d->∀(l:List MV) (w:MV) (c':Nat),HX (UK d) v l=some (w,c')->HX (UK d) f (x::l)=some (w,c+c'):=by
 obtain⟨body,e,rfl,hb⟩:=hf;obtain⟨r,c,d0,h1,h2⟩:=hb x X hx;refine⟨r,c,d0,h2,fun d hd l w c' h=>?_⟩;simp only[HX,h1 d hd,h]
theorem X0 (ev:RF)(v:MV):HX ev v []=some (v,0):=by cases v <;> rfl
theorem zay {a:T}{f:MV}{F:(T.fn .nat (.fn a a)).V}(hf:Tl (.fn .nat (.fn a a)) f F):∀(n k:Nat) {r:MV} {R:a.V},Tl a r R->∃(w:MV) (c d0:Nat),(∀d,d0<=d->ZY (UK d) f n k r=some (w,c))/\Tl a w ((List.range' k n).foldl (fun r i=>F i r) R)
 | 0,k,r,R,hr=>⟨r,0,0,fun d _=>rfl,hr⟩
 | n+1,k,r,R,hr=>by
  obtain⟨v,c1,d1,hv,h1⟩:=QO hf (show Tl .nat (.num k) k from rfl);obtain⟨u,c2,d2,hu,h2⟩:=QO hv hr;obtain⟨w,c3,d3,h3,hw⟩:=zay hf n (k+1) hu;refine⟨w,c1+(c2+0)+c3,max d1 (max d2 d3),fun d hd=>?_,hw⟩;have e1:HX (UK d) f [.num k,r]=some (u,c1+(c2+0)):=h1 d oO [r] u _ (h2 d oO [] u 0 (X0 _ _));simp only[ZY,e1,h3 d oO]
theorem z0g {a:T}{f:MV}{F:(T.fn .nat (.fn .list (.fn a a))).V}(hf:Tl (.fn .nat (.fn .list (.fn a a))) f F){b:MV}{B:a.V}(hb:Tl a b B):∀(l:List Nat),∃(w:MV) (c d0:Nat),(∀d,d0<=d->LY (UK d) f b l=some (w,c))/\Tl a w (WH B F l)
 | []=>⟨b,0,0,fun d _=>rfl,hb⟩
 | x::l=>by
  obtain⟨w,c0,d0,h0,hw⟩:=z0g hf hb l;obtain⟨v,c1,d1,hv,h1⟩:=QO hf (show Tl .nat (.num x) x from rfl);obtain⟨u,c2,d2,hu,h2⟩:=QO hv (show Tl .list (.list l) l from rfl);obtain⟨z,c3,d3,hz,h3⟩:=QO hu hw;refine⟨z,c0+(c1+(c2+(c3+0))),max d0 (max d1 (max d2 d3)),fun d hd=>?_,hz⟩;have e1:HX (UK d) f [.num x,.list l,w]=some (z,c1+(c2+(c3+0))):=h1 d oO _ _ _ (h2 d oO _ _ _ (h3 d oO [] z 0 (X0 _ _)));simp only[LY,h0 d oO,e1]
theorem zaz {d:Nat}{t:Tm}{e:List MV}{l:List MV}{c1 c2:Nat}{v:MV}(h1:3<=t.kind/\t.kind<=13)(h3:t.args.length<=3)(hl:IF (UK d) t.args e=some (l,c1))(hn:gV (UK d) t.kind l=some (v,c2)):UK (d+1) t e=some (v,1+c1+c2):=by
 rw[UK,if_neg (show ¬t.kind=1 from oO),if_neg (show ¬t.kind=2 from oO),if_neg (show ¬3<t.args.length from oO),hl];simp only;unfold z0b;rw[if_pos h1,hn]
def zmp (t:Tm)(e:List MV)(P:MV->Prop):Prop:=∃(v:MV) (c d0:Nat),(∀d,d0<=d->UK d t e=some (v,c))/\P v
theorem GE {t:Tm}{e l:List MV}{v:MV}{P:MV->Prop}{c1 c2 d0:Nat}(h1:3<=t.kind/\t.kind<=13)(h3:t.args.length<=3)(hl:∀d,d0<=d->IF (UK d) t.args e=some (l,c1)/\gV (UK d) t.kind l=some (v,c2))(hP:P v):zmp t e P:=by
 refine⟨v,1+c1+c2,d0+1,fun d hd=>?_,hP⟩;obtain⟨d',rfl⟩:∃d',d=d'+1:=⟨d - 1,oO⟩;exact zaz h1 h3 (hl d' oO).1 (hl d' oO).2
theorem zb0 {Γ:List T}{t:Tm}{a:T}{F:BH Γ->a.V}(h:Dn Γ t a F):∀{e:List MV} {ρ:BH Γ},TlE Γ e ρ->zmp t e fun v=>Tl a v (F ρ):=by
 induction h with
 | var h=>
  intro e ρ he;rename_i Γ i a p;obtain⟨k1,k2⟩:=TlE.get h he;refine⟨_,1,1,fun d hd=>?_,k2⟩;obtain⟨d',rfl⟩:∃d',d=d'+1:=⟨d - 1,oO⟩;have hi:(vT (i:Nat)).index=(i:Int):=rfl;rw[UK,if_pos (show (vT (i:Nat)).kind=1 from rfl),hi,if_pos ⟨oO,by simpa using k1⟩];rfl
 | lam ha hb ih=>
  intro e ρ he;rename_i Γ a r b f;refine⟨.clo b e,1,1,fun d hd=>?_,b,e,rfl,fun x y Er=>?_⟩
  ·obtain⟨d',rfl⟩:∃d',d=d'+1:=⟨d - 1,oO⟩;rw[UK,if_neg (by simp[D3,Tm.kind]),if_pos (show (D3 a b).kind=2 from rfl),if_neg (by simp[D3,Tm.args])];rfl
  ·obtain⟨v,c,d0,h1,h2⟩:=ih (ρ:=(y,ρ)) ⟨x,e,rfl,Er,he⟩;exact⟨v,c,d0,h1,h2⟩
 | app hf hx Cf Bx=>
  intro e ρ he;obtain⟨f',c1,d1,h1,k1⟩:=Cf he;obtain⟨x',c2,d2,h2,k2⟩:=Bx he;obtain⟨w,c3,d3,hw,h3⟩:=QO k1 k2;refine GE (l:=[f',x']) (v:=w) (c1:=c1+(c2+0)) (c2:=c3+0) (d0:=max d1 (max d2 d3)) (by simp[nT,Tm.kind]) (by simp[nT,Tm.args]) (fun d hd=>⟨?_,h3 d oO [] w 0 (X0 _ _)⟩) hw;simp only[nT,Tm.args,IF,h1 d oO,h2 d oO]
 | zero=>
  intro e ρ he;exact GE (l:=[]) (v:=.num 0) (c1:=0) (c2:=0) (d0:=0) (by simp[nT,Tm.kind]) (by simp[nT,Tm.args]) (fun d hd=>⟨rfl,rfl⟩) rfl
 | succ hx ih=>
  intro e ρ he;rename_i Γ x X;obtain⟨x',c1,d1,h1,k1⟩:=ih he;have k1:x' = .num (X ρ):=k1;refine GE (l:=[x']) (v:=.num (Nat.succ (X ρ))) (c1:=c1+0) (c2:=0) (d0:=d1) (by simp[nT,Tm.kind]) (by simp[nT,Tm.args]) (fun d hd=>⟨?_,by rw[k1];rfl⟩) rfl;simp only[nT,Tm.args,IF,h1 d oO]
 | rc ha hb hf hn Ck Cf Bt=>
  intro e ρ he;obtain⟨b',c1,d1,h1,k1⟩:=Ck he;obtain⟨f',c2,d2,h2,k2⟩:=Cf he;obtain⟨n',c3,d3,h3,k3⟩:=Bt he;obtain rfl:n' = .num _:=k3;obtain⟨w,c4,d4,h4,hw⟩:=zay k2 _ 0 k1;refine GE (l:=[b',f',.num _]) (v:=w) (c1:=c1+(c2+(c3+0))) (c2:=c4) (d0:=max d1 (max d2 (max d3 d4))) (by simp[Tm.kind]) (by simp[Tm.args]) (fun d hd=>⟨?_,h4 d oO⟩) (Eq.mpr (congrArg (Tl _ w) (WR _ _ _)) hw);simp only[Tm.args,IF,h1 d oO,h2 d oO,h3 d oO]
 | nil=>
  intro e ρ he;exact GE (l:=[]) (v:=.list []) (c1:=0) (c2:=0) (d0:=0) (by simp[nT,Tm.kind]) (by simp[nT,Tm.args]) (fun d hd=>⟨rfl,rfl⟩) rfl
 | cons hx hl Bx Kt=>
  intro e ρ he;obtain⟨x',c1,d1,h1,k1⟩:=Bx he;obtain⟨l',c2,d2,h2,k2⟩:=Kt he;obtain rfl:x' = .num _:=k1;obtain rfl:l' = .list _:=k2;refine GE (l:=[.num _,.list _]) (v:=.list (_::_)) (c1:=c1+(c2+0)) (c2:=0) (d0:=max d1 d2) (by simp[nT,Tm.kind]) (by simp[nT,Tm.args]) (fun d hd=>⟨?_,rfl⟩) rfl;simp only[nT,Tm.args,IF,h1 d oO,h2 d oO]
 | fold ha hb hf hn Ck Cf Bt=>
  intro e ρ he;obtain⟨b',c1,d1,h1,k1⟩:=Ck he;obtain⟨f',c2,d2,h2,k2⟩:=Cf he;obtain⟨n',c3,d3,h3,k3⟩:=Bt he;obtain rfl:n' = .list _:=k3;obtain⟨w,c4,d4,h4,hw⟩:=z0g k2 k1 _;refine GE (l:=[b',f',.list _]) (v:=w) (c1:=c1+(c2+(c3+0))) (c2:=c4) (d0:=max d1 (max d2 (max d3 d4))) (by simp[Tm.kind]) (by simp[Tm.args]) (fun d hd=>⟨?_,h4 d oO⟩) hw;simp only[Tm.args,IF,h1 d oO,h2 d oO,h3 d oO]
 | pair hx hy Bx Ht=>
  intro e ρ he;obtain⟨x',c1,d1,h1,k1⟩:=Bx he;obtain⟨y',c2,d2,h2,k2⟩:=Ht he;refine GE (l:=[x',y']) (v:=.both x' y') (c1:=c1+(c2+0)) (c2:=0) (d0:=max d1 d2) (by simp[nT,Tm.kind]) (by simp[nT,Tm.args]) (fun d hd=>⟨?_,rfl⟩) ⟨x',y',rfl,k1,k2⟩;simp only[nT,Tm.args,IF,h1 d oO,h2 d oO]
 | fst hx ih=>
  intro e ρ he;obtain⟨x',c1,d1,h1,k1⟩:=ih he;obtain⟨p,q,rfl,hp,hq⟩:=k1;refine GE (l:=[.both p q]) (v:=p) (c1:=c1+0) (c2:=0) (d0:=d1) (by simp[nT,Tm.kind]) (by simp[nT,Tm.args]) (fun d hd=>⟨?_,rfl⟩) hp;simp only[nT,Tm.args,IF,h1 d oO]
 | snd hx ih=>
  intro e ρ he;obtain⟨x',c1,d1,h1,k1⟩:=ih he;obtain⟨p,q,rfl,hp,hq⟩:=k1;refine GE (l:=[.both p q]) (v:=q) (c1:=c1+0) (c2:=0) (d0:=d1) (by simp[nT,Tm.kind]) (by simp[nT,Tm.args]) (fun d hd=>⟨?_,rfl⟩) hq;simp only[nT,Tm.args,IF,h1 d oO]
 | unit=>
  intro e ρ he;exact GE (l:=[]) (v:=.unit) (c1:=0) (c2:=0) (d0:=0) (by simp[nT,Tm.kind]) (by simp[nT,Tm.args]) (fun d hd=>⟨rfl,rfl⟩) rfl
theorem eC:∀(a:T) {v:MV} {x:a.V},a.plain->Tl a v x->v=gW a x
 | .nat,_,_,_,h=>h
 | .list,_,_,_,h=>h
 | .unit,_,_,_,h=>h
 | .pair a b,v,p,hp,h=>by
  obtain⟨x,y,rfl,h1,h2⟩:=h;rw[eC a hp.1 h1,eC b hp.2 h2];rfl
 | .fn _ _,_,_,hp,_=>hp.elim
theorem yD:∀(a:T) (x:a.V),a.plain->Tl a (gW a x) x
 | .nat,_,_=>rfl
 | .list,_,_=>rfl
 | .unit,_,_=>rfl
 | .pair a b,p,hp=>⟨_,_,rfl,yD a p.1 hp.1,yD b p.2 hp.2⟩
 | .fn _ _,_,hp=>hp.elim
theorem qE {r:T}:∀(l:List T) (X:BH l) {g:MV} {F:(O4 l r).V},JJ l->Tl (O4 l r) g F->∃(w:MV) (c d0:Nat),(∀d,d0<=d->HX (UK d) g (GC l X)=some (w,c))/\Tl r w (WS l F X)
 | [],_,g,_,_,h=>⟨g,0,0,fun d _=>X0 _ _,h⟩
 | a::l,X,g,F,hp,h=>by
  obtain⟨v,c1,d1,hv,h1⟩:=QO h (yD a X.1 hp.1);obtain⟨w,c2,d2,h2,hw⟩:=qE l X.2 hp.2.2 hv;exact⟨w,c1+c2,max d1 d2,fun d hd=>h1 d oO _ _ _ (h2 d oO),hw⟩
def NX (d:Nat)(t:Tm)(xs:List MV):Option (MV × Nat):=
 match UK d t [] with
 | none=>none
 | some (g,c1)=>match HX (UK d) g xs with
  | none=>none
  | some (w,c2)=>some (w,c1+c2)
theorem qG {d:Nat}{t:Tm}{xs:List MV}{w:MV}{c:Nat}(h:NX d t xs=some (w,c)):∃g c1 c2,UK d t []=some (g,c1)/\HX (UK d) g xs=some (w,c2)/\c=c1+c2:=by
 unfold NX at h;split at h;· cases h
 ·rename_i g c1 h1;split at h;· cases h
  ·rename_i w' c2 h2;cases h;exact⟨g,c1,c2,h1,h2,rfl⟩
theorem ZH {t:Tm}{l:List T}{r:T}{F:BH []->(O4 l r).V}(h:Dn [] t (O4 l r) F)(X:BH l)(hp:JJ l)(hr:r.plain) :
  ∃c d0,∀d,d0<=d->NX d t (GC l X)=some (gW r (WS l (F ()) X),c):=by
 obtain⟨g,c1,d1,h1,hg⟩:=zb0 h (e:=[]) (ρ:=()) rfl;obtain⟨w,c2,d2,h2,hw⟩:=qE l X hp hg;have hw':=eC r hr hw;subst hw';refine⟨c1+c2,max d1 d2,fun d hd=>?_⟩;unfold NX;rw[h1 d oO];simp only;rw[h2 d oO]
def zfq (v:Val)(c:Nat)(work:Int):DV:=if (c:Int)<=work then .tup [v.dv,A0 (c:Int),A0 0] else .tup [S6.dv,A0 0,A0 5]
theorem zb1 {v:Val}{c:Nat}{work:Int}(h:(c:Int)<=work):zfq v c work = .tup [v.dv,A0 (c:Int),A0 0]:=if_pos h
theorem z0h {v:Val}{c:Nat}{work:Int}(h:¬(c:Int)<=work):zfq v c work = .tup [S6.dv,A0 0,A0 5]:=if_neg h
end
section
variable {gl:AB}
def L7 (l:List MV):List (List DV):=l.map fun x=>[x.thing]
theorem yE:L7 []=[]:=rfl
theorem yF (l:List MV):(L7 l).length=l.length:=by simp[L7]
theorem yG (l:List MV):∀e∈L7 l,e.length=1:=by
 intro e he;simp only[L7,List.mem_map]at he;obtain⟨x,-,rfl⟩:=he;rfl
theorem qH {l:List MV}{i:Nat}{v:MV}(h:l[i]? = some v):L7 (l.take (i+1))=L7 (l.take i)++[[v.thing]]:=by
 rw[List.take_add_one,h];simp[L7]
theorem aA (Cj:FQ gl 0=some IL)(t:Tm)(l:List T)(r:T)(Z:BH l)(y:r.V)(c d:Nat)(Bp:NX d t (GC l Z)=some (gW r y,c))(ht:t.checkN=0)(hi:t.inferN []=((O4 l r).ty,0))(hl:JJ l)(Mh:l.length<=1000000)(hr:r.plain)(Hb:r.ok)(wk:Nat)(Vy:wk<=65536)(M:Nat)(hM:M<=1073000000)(hX:MV.nles M (GC l Z)) :
  cT gl 36 [t.dv,.sl ((HG l Z).map Val.cells),A0 (wk:Int)] [] (zfq (B2 r y) c wk) []:=by
 obtain⟨g,c1,c2,e1,e2,rfl⟩:=qG Bp;have Im:=a9 (gl:=gl) Cj t _ ht hi;have Hw:=VB l Z;have Uy:=gX l Z;have As:=Tm.fold t;have hfz:(Ty.mk 0 []).cells=[A0 0,.sl []]:=rfl;have Hh:=Ty.fold (O4 l r).ty;refine A6 Tryz.func36 ?_;intro X hP u6 hf u8 hn hR u5 u4;refine A2 ?_;refine A3 @As Im ?_;refine A2 ?_;refine BR ?_;refine AA [(1011,0)] (j2 @Hw @yE) (NG (l.length) (fun i=>True) (fun i=>[sV 2 (A0 (wk:Int)),sP 3,sL 3 [.v (A0 t.kind),.v (A0 t.index),.v (A0 t.type.kind),.v (.sl (t.type.args.map Ty.cells)),.v (.sl (t.args.map Tm.cells))],sP 6,sL 6 [.v (A0 0),.v (A0 0),.own 0 [],.own 0 []],sP 9,sL 9 [.v (A0 (O4 (l.drop i) r).ty.kind),.v (.sl ((O4 (l.drop i) r).ty.args.map Ty.cells))],(.slot 11,.one (.own 1011 (L7 ((GC l Z).take i)))),(.tok 1011,.tk 1 i),sV 30 (.sl ((HG l Z).map Val.cells)),sV 31 (A0 l.length),sV 32 (A0 i)]) (trivial) ?_ ?_)
 ·intro i hi _ u7;obtain⟨a,x,g1,g2,g3,g4,g5⟩:=z09 (r:=r) l Z i hi hl;have hvg:(List.map Val.cells (HG l Z))[i]? = some (B2 a x).cells:=by rw[List.getElem?_map,g1];rfl
  have Dw:=Val.fold (B2 a x);have Cd:=Val.cells_eq (B2 a x);have hvc:=(HU a x g4).2;have Bk:a.size<=64:=g5;have w1:=z9i (gl:=gl) (B2 a x) oO;rw[pK x g4 g5]at w1;have w2:=OO (gl:=gl) a.ty a.ty;rw[show a.ty.same a.ty=true from (Ty.same_iff _ _).2 rfl]at w2;have w3:=M9 (gl:=gl) a x g4;have hti:(O4 (l.drop i) r).ty=Ty.mk 4 [a.ty,(O4 (l.drop (i+1)) r).ty]:=by rw[g3,T.ty_fn]
  have Da:=Ty.fold a.ty;have Nl:=qH g2;have Tn:(L7 ((GC l Z).take i)).length=i:=by rw[yF,List.length_take];omega
  have Hg:=yG ((GC l Z).take i);have Cc:i<=2147483647:=oO;have hil2:i+1<=2147483647:=oO;generalize (O4 (l.drop (i+1)) r).ty=ty' at *;generalize (O4 (l.drop i) r).ty=Sn at *;generalize a.ty=ta at *;generalize L7 ((GC l Z).take i)=L at *;generalize L7 ((GC l Z).take (i+1))=L' at *;subst hti;subst Nl;have Ap:=Ty.cells_eq ty';refine A5 ?_;refine AQ ?_;refine A7 (j2 @hvg @Cd) ?_;refine A3 @Dw w1 ?_;refine A2 ?_;refine A3 @Da w2 ?_;refine A2 ?_;refine A3 (j5 @Dw @Hg @Tn @Cc @hil2) w3 ?_;refine CG (wr [(1011,62)]) @Ap @Tn (u7 tT)
 ·intro _;have Dy:O4 (l.drop l.length) r=r:=by rw[List.drop_length];rfl
  have htk:(GC l Z).take l.length=GC l Z:=by rw[<- Uy];exact List.take_length
  rw[Dy,htk];have wd:=z56 (gl:=gl) r hr Hb;have Hh:=Ty.fold r.ty;have hwn:¬((wk:Int)<0):=oO;have hwm:¬(65536<(wk:Int)):=oO;have HW:=XZ (gl:=gl) (most:=wk) oO (fun ev h1 h2=>zaj oO h1 h2) d;have HN:=aM wk d;have ng:=HN M e1 (by simp only[MV.nles]);refine A5 ?_;refine B9 ?_;refine A2 ?_;refine A3 @Hh wd ?_;refine A7 (j2 @hwn @hwm) ?_;refine FW 85 (by simp[go_sem];rfl) ?_;intro b hb;simp[go_sem]at hb ⊢;have we:=HW b M e1 (Nat.zero_le _) oO (by simp only[MV.nles]);have henv:MV.envM []=zae:=by rw[MV.envM]
  rw[henv,Nat.zero_add,AG (Nat.zero_le _)]at we;by_cases Ar:c1<=wk
  ·rw[EL Ar,AG Ar]at we;have wc:=WW (gl:=gl) (most:=wk) oO HW HN b (M+c1) e2 Ar oO ng (MV.nles_mono oO _ hX);rw[AG Ar]at wc;have hmt:(GC l Z).map (fun x=>[x.thing])=L7 (GC l Z):=rfl;rw[hmt]at wc;by_cases Am:c1+c2<=wk
   ·rw[EL Am,AG Am]at wc;have Kr:=PM HN e2 ng (MV.nles_mono oO _ hX);have wp:=L6 (gl:=gl) r y hr (MV.nle_mono oO _ Kr);have Fg:=Val.fold (B2 r y);rw[zb1 oO]at hR;refine A3 @As we ?_;refine A2 ?_;refine A3 tT wc ?_;refine A2 ?_;refine A3 tT wp ?_;exact BI
   ·rw[JC Am,FZ Am]at wc;rw[z0h oO]at hR;refine A3 @As we ?_;refine A2 ?_;refine A3 tT wc ?_;refine A2 ?_;exact AT @S6.eq_1
  ·rw[JC Ar,FZ Ar]at we;rw[z0h oO]at hR;refine A3 @As we ?_;refine A2 ?_;exact AT @S6.eq_1
abbrev yH:DV:=.agg [A0 0,.sl [],A0 0]
theorem ZI (k:Int)(a b:Ty)(ha64:a.count<=64)(hb64:b.count<=64)(hc:¬1+a.count+b.count<=64):cT gl 155 [A0 k,.agg (H1 a),.agg (H1 b)] [] (.tup [yH,A0 4]) []:=by
 refine A6 Tryz.func155 ?_;intro X hP u6 hf u8 hn hR u5 u4;have ha:=C0 a;have hb:=C0 b;have Dr:¬(1:Int)+a.count+b.count<=64:=oO;have Ek:(64:Int)<1+a.count+b.count:=oO;refine A7 (j4 @ha @hb @Dr @Ek) ?_;exact BI
theorem lG (t:Tm)(h:t.kind=10)(x y:Ty)(hx64:x.count<=64)(hy64:y.count<=64)(hc:¬1+x.count+y.count<=64) :
  cT gl 156 [t.dv,.agg (Y0 [x,y])] [] (.tup [yH,A0 4]) []:=by
 rw[UL];have wp:=CB (gl:=gl) 10;rw[if_neg dD,if_neg dD,if_neg dD,if_neg dD,if_neg dD]at wp;have hi:AH []=[]:=rfl;rw[hi]at wp;have wj:=ZI (gl:=gl) 3 x y hx64 hy64 hc;simp only[C0]at wj ⊢;refine A6 Tryz.func156 ?_;intro X hP u6 hf u8 hn hR u5 u4;refine A7 @h ?_;refine A3 @h wp ?_;refine A7 @h ?_;refine A3 tT wj ?_;exact AM
theorem z0i {k:Int}{s t:Ty}(hk:k=3\/k=4)(hs:s.ok)(ht:t.ok)(h:(XQ (Ty.mk k [s,t])).2≠0):¬1+s.count+t.count<=64:=by
 intro hc;apply h;rw[xB (OK hk hs.1 ht.1 hc)]
theorem zb2 (t:Tm)(h:t.kind=3)(x y:Ty)(hk:¬x.kind=4) :
  cT gl 156 [t.dv,.agg (Y0 [x,y])] [] (.tup [yH,A0 7]) []:=by
 rw[UL];have wp:=CB (gl:=gl) 3;rw[if_neg dD,if_neg dD,if_neg dD,if_neg dD,if_neg dD]at wp;have wi:=EM (gl:=gl) x 4;have hi:AH []=[]:=rfl;have hd:decide (x.kind=4)=false:=decide_eq_false hk;rw[hi]at wp;rw[hd]at wi;simp only[C0]at wi;refine A6 Tryz.func156 ?_;intro X hP u6 hf u8 hn hR u5 u4;refine A7 @h ?_;refine A3 @h wp ?_;refine A7 @h ?_;refine A3 tT wi ?_;refine A2 ?_;exact BI
theorem zb3 (t:Tm)(h:t.kind=3)(x y a r:Ty)(hk:x.kind=4)(hx:x.args=[a,r])(ha:a.ok)(hs:a.same y=false) :
  cT gl 156 [t.dv,.agg (Y0 [x,y])] [] (.tup [yH,A0 7]) []:=by
 rw[UL];have wp:=CB (gl:=gl) 3;rw[if_neg dD,if_neg dD,if_neg dD,if_neg dD,if_neg dD]at wp;have wi:=EM (gl:=gl) x 4;have w0:=NW (gl:=gl) x a 0 (by rw[hx];rfl) ha;have ws:=QN (gl:=gl) a y;have hi:AH []=[]:=rfl;have hd:decide (x.kind=4)=true:=decide_eq_true hk;rw[hi]at wp;rw[hd]at wi;rw[hs]at ws;simp only[C0]at wi w0 ws ⊢;refine A6 Tryz.func156 ?_;intro X hP u6 hf u8 hn hR u5 u4;refine A7 @h ?_;refine A3 @h wp ?_;refine A7 @h ?_;refine F9 tT wi w0 ws ?_;refine A2 ?_;exact BI
theorem zfr (t:Tm)(h:t.kind=5)(x:Ty)(hk:¬x.kind=1):cT gl 156 [t.dv,.agg (Y0 [x])] [] (.tup [yH,A0 7]) []:=by
 rw[dW];have wp:=CB (gl:=gl) 5;rw[if_neg dD,if_pos rfl]at wp;have wi:=EM (gl:=gl) x 1;have hi:AH [1,1]=[[A0 1],[A0 1]]:=rfl;have hd:decide (x.kind=1)=false:=decide_eq_false hk;rw[hi]at wp;rw[hd]at wi;simp only[C0]at wi;refine A6 Tryz.func156 ?_;intro X hP u6 hf u8 hn hR u5 u4;refine A7 @h ?_;refine A3 @h wp ?_;refine A2 ?_;refine D4 ?_;refine A2 ?_;refine A3 tT wi ?_;refine A2 ?_;exact BI
theorem zb4 (t:Tm)(h:t.kind=8)(x y:Ty)(hk:¬x.kind=1):cT gl 156 [t.dv,.agg (Y0 [x,y])] [] (.tup [yH,A0 7]) []:=by
 rw[UL];have wp:=CB (gl:=gl) 8;rw[if_neg dD,if_neg dD,if_neg dD,if_pos rfl]at wp;have wi:=EM (gl:=gl) x 1;have hi:AH [2,1,2]=[[A0 2],[A0 1],[A0 2]]:=rfl;have hd:decide (x.kind=1)=false:=decide_eq_false hk;rw[hi]at wp;rw[hd]at wi;simp only[C0]at wi;refine A6 Tryz.func156 ?_;intro X hP u6 hf u8 hn hR u5 u4;refine A7 @h ?_;refine A3 @h wp ?_;refine A2 ?_;refine D4 ?_;refine A2 ?_;refine A3 tT wi ?_;refine A2 ?_;exact BI
theorem zb5 (t:Tm)(h:t.kind=8)(x y:Ty)(hx:x.kind=1)(hk:¬y.kind=2):cT gl 156 [t.dv,.agg (Y0 [x,y])] [] (.tup [yH,A0 7]) []:=by
 rw[UL];have wp:=CB (gl:=gl) 8;rw[if_neg dD,if_neg dD,if_neg dD,if_pos rfl]at wp;have wi:=EM (gl:=gl) x 1;have wj:=EM (gl:=gl) y 2;have hi:AH [2,1,2]=[[A0 2],[A0 1],[A0 2]]:=rfl;rw[hi]at wp;rw[decide_eq_true hx]at wi;rw[decide_eq_false hk]at wj;simp only[C0]at wi wj;refine A6 Tryz.func156 ?_;intro X hP u6 hf u8 hn hR u5 u4;refine A7 @h ?_;refine A3 @h wp ?_;refine A2 ?_;refine D4 ?_;refine A2 ?_;refine A3 tT wi ?_;refine A2 ?_;refine CN ?_;refine A2 ?_;refine A3 tT wj ?_;refine A2 ?_;exact BI
theorem zb6 (t:Tm)(h:t.kind=11\/t.kind=12)(x:Ty)(hk:¬x.kind=3) :
  cT gl 156 [t.dv,.agg (Y0 [x])] [] (.tup [yH,A0 7]) []:=by
 rw[dW];have wp:=CB (gl:=gl) t.kind;rw[if_neg oO,if_neg oO,if_neg oO,if_neg oO,if_neg oO]at wp;have hi:AH []=[]:=rfl;rw[hi]at wp;have wi:=EM (gl:=gl) x 3;rw[decide_eq_false hk]at wi;simp only[C0]at wi;rcases h with h|h
 ·rw[h]at wp;refine A6 Tryz.func156 ?_;intro X hP u6 hf u8 hn hR u5 u4;refine A7 @h ?_;refine A3 @h wp ?_;refine A7 @h ?_;refine A3 tT wi ?_;refine A7 @h ?_;exact BI
 ·rw[h]at wp;refine A6 Tryz.func156 ?_;intro X hP u6 hf u8 hn hR u5 u4;refine A7 @h ?_;refine A3 @h wp ?_;refine A7 @h ?_;refine A3 tT wi ?_;refine A7 @h ?_;exact BI
def qI (t:Tm):Ty:=WX t.type (if t.kind=9 then [Ty.mk 1 [],Ty.mk 2 [],t.type] else [Ty.mk 1 [],t.type])
theorem qJ (t:Tm)(h:t.kind=6\/t.kind=9)(ht:t.type.ok)(x y z:Ty)(he:x.same t.type=false\/y.same (qI t)=false\/¬z.kind=if t.kind=9 then 2 else 1) :
  cT gl 156 [t.dv,.agg (Y0 [x,y,z])] [] (.tup [yH,A0 7]) []:=by
 rw[z0e];have wo:=I1 (gl:=gl) t.type ht;have ws:=QN (gl:=gl) x t.type;have wt:=dX (gl:=gl) t;have wy:=OO (gl:=gl) y (qI t);have Kz:=Ty.fold t.type;have fy:=Ty.fold y;have Bd:=Tm.fold t;rw[show WX t.type (if t.kind=9 then [Ty.mk 1 [],Ty.mk 2 [],t.type] else [Ty.mk 1 [],t.type])=qI t from rfl]at wt;generalize qI t=st at *;have fst:=Ty.fold st;have cst:=Ty.cells_eq st;simp only[C0]at wo ws;have wp:=CB (gl:=gl) t.kind;rw[if_neg oO,if_neg oO,if_neg oO,if_neg oO,if_neg oO]at wp;have hi:AH []=[]:=rfl;rw[hi]at wp;have wi1:=EM (gl:=gl) z 1;have wi2:=EM (gl:=gl) z 2;simp only[C0]at wi1 wi2;cases hx:x.same t.type
 ·rw[hx]at ws;rcases h with h|h
  ·rw[h]at Bd wp;refine A6 Tryz.func156 ?_;intro X hP u6 hf u8 hn hR u5 u4;refine A7 @h ?_;refine A3 @h wp ?_;refine A7 @h ?_;refine A3 (j2 @h @Kz) wo ?_;refine A7 @h ?_;refine A3 (j4 @h @fy @Bd @fst) ws ?_;refine A2 ?_;exact BI
  ·rw[h]at Bd wp;refine A6 Tryz.func156 ?_;intro X hP u6 hf u8 hn hR u5 u4;refine A7 @h ?_;refine A3 @h wp ?_;refine A7 @h ?_;refine A3 (j2 @h @Kz) wo ?_;refine A7 @h ?_;refine A3 (j4 @h @fy @Bd @fst) ws ?_;refine A2 ?_;exact BI
 rw[hx]at ws he;cases hy:y.same st
 ·rw[hy]at wy;rcases h with h|h
  ·rw[h]at Bd wp;refine A6 Tryz.func156 ?_;intro X hP u6 hf u8 hn hR u5 u4;refine A7 @h ?_;refine A3 @h wp ?_;refine A7 @h ?_;refine A3 (j2 @h @Kz) wo ?_;refine A7 @h ?_;refine F9 (j4 @h @fy @Bd @fst) ws wt wy ?_;refine A2 ?_;exact BI
  ·rw[h]at Bd wp;refine A6 Tryz.func156 ?_;intro X hP u6 hf u8 hn hR u5 u4;refine A7 @h ?_;refine A3 @h wp ?_;refine A7 @h ?_;refine A3 (j2 @h @Kz) wo ?_;refine A7 @h ?_;refine F9 (j4 @h @fy @Bd @fst) ws wt wy ?_;refine A2 ?_;exact BI
 rw[hy]at wy he;have hz:¬z.kind=if t.kind=9 then 2 else 1:=by
  rcases he with he|he|he;· cases he
  ·cases he
  ·exact he
 rcases h with h|h
 ·rw[if_neg oO]at hz;rw[decide_eq_false hz]at wi1;rw[h]at Bd wp;refine A6 Tryz.func156 ?_;intro X hP u6 hf u8 hn hR u5 u4;refine A7 @h ?_;refine A3 @h wp ?_;refine A7 @h ?_;refine A3 (j2 @h @Kz) wo ?_;refine A7 @h ?_;refine IS (j4 @h @fy @Bd @fst) ws wt wy wi1 ?_;refine A2 ?_;exact BI
 ·rw[if_pos h]at hz;rw[decide_eq_false hz]at wi2;rw[h]at Bd wp;refine A6 Tryz.func156 ?_;intro X hP u6 hf u8 hn hR u5 u4;refine A7 @h ?_;refine A3 @h wp ?_;refine A7 @h ?_;refine A3 (j2 @h @Kz) wo ?_;refine A7 @h ?_;refine IS (j4 @h @fy @Bd @fst) ws wt wy wi2 ?_;refine A2 ?_;exact BI
theorem zmq {x:Ty}(h:x.ok)(hk:x.kind=1):x=Ty.mk 1 []:=by
 obtain⟨a,rfl⟩:=T.of_shape x h.1;cases a with
 | nat=>rfl
 | list=>exact absurd (show (2:Int)=1 from hk) dD
 | unit=>exact absurd (show (5:Int)=1 from hk) dD
 | pair=>exact absurd (show (3:Int)=1 from hk) dD
 | fn=>exact absurd (show (4:Int)=1 from hk) dD
theorem zmr {x:Ty}(h:x.ok)(hk:x.kind=2):x=Ty.mk 2 []:=by
 obtain⟨a,rfl⟩:=T.of_shape x h.1;cases a with
 | nat=>exact absurd (show (1:Int)=2 from hk) dD
 | list=>rfl
 | unit=>exact absurd (show (5:Int)=2 from hk) dD
 | pair=>exact absurd (show (3:Int)=2 from hk) dD
 | fn=>exact absurd (show (4:Int)=2 from hk) dD
theorem iN (x:Ty):x.same x=true:=(Ty.same_iff _ _).2 rfl
theorem yI {x:Ty}(h:x.ok)(hs:¬x.same (Ty.mk 1 [])=true):¬x.kind=1:=fun hk=>hs (by rw[zmq h hk];exact iN _)
theorem zb7 {x:Ty}(h:x.ok)(hs:¬x.same (Ty.mk 2 [])=true):¬x.kind=2:=fun hk=>hs (by rw[zmr h hk];exact iN _)
theorem eD {b:Bool}(h:¬b=true):b=false:=by cases b;rfl;exact absurd rfl h
theorem zb8 (y:Ty)(h:(XQ y).2≠0):(XQ y).2=4:=by
 unfold XQ at h ⊢;split;· rename_i q;rw[if_pos q]at h;exact absurd rfl h
 ·rfl
theorem z58 {t:Tm}(ht:t.shape=true)(Fk:¬t.kind=1)(Ax:¬t.kind=2){ds:List Ty}(hl:ds.length=t.args.length)(hd:∀d∈ds,d.ok)(hr:(CA t.kind t.type ds).2≠0) :
  cT gl 156 [t.dv,.agg (Y0 ds)] [] (.tup [yH,A0 (CA t.kind t.type ds).2]) []:=by
 obtain⟨ha,hi,hv,Al,hs⟩:=Tm.shape_node ht;rw[<- hl]at ha;generalize he:(CA t.kind t.type ds).2=e at *;unfold CA at he;rw[if_neg Ax]at he;by_cases h3:t.kind=3
 ·rw[if_pos h3]at he;rw[h3]at ha
  match ds,ha with
  | [x,y],_=>
   split at he;· exact absurd he.symm hr
   ·rename_i hx;obtain rfl:7=e:=he;by_cases Rs:x.kind=4
    ·obtain⟨p,q,hp,op,oq,e0,e1⟩:=Ty.ok_args (hd x sS) (.inr Rs);refine zb3 t h3 x y p q Rs hp op (eD fun q=>hx ⟨Rs,?_⟩);show (x.arg 0).same y=true;rw[e0];exact q
    ·exact zb2 t h3 x y Rs
 rw[if_neg h3]at he;by_cases h4:t.kind=4;· rw[if_pos h4]at he;exact absurd he.symm hr
 rw[if_neg h4]at he;by_cases h5:t.kind=5
 ·rw[if_pos h5]at he;rw[h5]at ha
  match ds,ha with
  | [x],_=>
   split at he;· exact absurd he.symm hr
   ·rename_i hx;obtain rfl:7=e:=he;exact zfr t h5 x (yI (hd x sS) hx)
 rw[if_neg h5]at he;by_cases h6:t.kind=6
 ·rw[if_pos h6]at he;rw[h6]at ha;rw[if_pos (.inr (.inl h6))]at Al
  match ds,ha with
  | [x,y,z],_=>
   split at he;· exact absurd he.symm hr
   ·rename_i hx;obtain rfl:7=e:=he;have hx:¬(x.same t.type=true/\y.same (Ty.mk 4 [Ty.mk 1 [],Ty.mk 4 [t.type,t.type]])=true/\z.same (Ty.mk 1 [])=true):=hx;refine qJ t (.inl h6) Al x y z ?_;by_cases q1:x.same t.type=true
    ·by_cases q2:y.same (qI t)=true
     ·refine .inr (.inr ?_);rw[if_neg oO];refine yI (hd z sS) fun q3=>hx ⟨q1,?_,q3⟩;unfold qI at q2;rw[if_neg oO]at q2;exact q2
     ·exact .inr (.inl (eD q2))
    ·exact .inl (eD q1)
 rw[if_neg h6]at he;by_cases h7:t.kind=7;· rw[if_pos h7]at he;exact absurd he.symm hr
 rw[if_neg h7]at he;by_cases h8:t.kind=8
 ·rw[if_pos h8]at he;rw[h8]at ha
  match ds,ha with
  | [x,y],_=>
   split at he;· exact absurd he.symm hr
   ·rename_i hx;obtain rfl:7=e:=he;have hx:¬(x.same (Ty.mk 1 [])=true/\y.same (Ty.mk 2 [])=true):=hx;by_cases q1:x.same (Ty.mk 1 [])=true;· exact zb5 t h8 x y (by rw[(Ty.same_iff _ _).1 q1];rfl) (zb7 (hd y sS) fun q2=>hx ⟨q1,q2⟩)
    ·exact zb4 t h8 x y (yI (hd x sS) q1)
 rw[if_neg h8]at he;by_cases h9:t.kind=9
 ·rw[if_pos h9]at he;rw[h9]at ha;rw[if_pos (.inr (.inr h9))]at Al
  match ds,ha with
  | [x,y,z],_=>
   split at he;· exact absurd he.symm hr
   ·rename_i hx;obtain rfl:7=e:=he;have hx:¬(x.same t.type=true/\y.same (Ty.mk 4 [Ty.mk 1 [],Ty.mk 4 [Ty.mk 2 [],Ty.mk 4 [t.type,t.type]]])=true/\z.same (Ty.mk 2 [])=true):=hx;refine qJ t (.inr h9) Al x y z ?_;by_cases q1:x.same t.type=true
    ·by_cases q2:y.same (qI t)=true
     ·refine .inr (.inr ?_);rw[if_pos h9];refine zb7 (hd z sS) fun q3=>hx ⟨q1,?_,q3⟩;unfold qI at q2;rw[if_pos h9]at q2;exact q2
     ·exact .inr (.inl (eD q2))
    ·exact .inl (eD q1)
 rw[if_neg h9]at he;by_cases Dq:t.kind=10
 ·rw[if_pos Dq]at he;rw[Dq]at ha
  match ds,ha with
  | [x,y],_=>
   have he:(XQ (Ty.mk 3 [x,y])).2=e:=he;have h4:=zb8 (Ty.mk 3 [x,y]) (by rw[he];exact hr);have hb:=z0i (.inl rfl) (hd x sS) (hd y sS) (by rw[h4];decide);rw[h4]at he;subst he;exact lG t Dq x y (hd x sS).2 (hd y sS).2 hb
 rw[if_neg Dq]at he;have Tc:∀x:Ty,(t.kind=11\/t.kind=12)->ds=[x]->¬x.kind=3->7=e->cT gl 156 [t.dv,.agg (Y0 ds)] [] (.tup [yH,A0 e]) []:=by
  intro x hk hx hx3 h7;subst h7 hx;exact zb6 t hk x hx3
 by_cases Bq:t.kind=11
 ·rw[if_pos Bq]at he;rw[Bq]at ha
  match ds,ha with
  | [x],_=>
   split at he;· exact absurd he.symm hr
   ·rename_i hx;exact Tc x (.inl Bq) rfl hx he
 rw[if_neg Bq]at he;by_cases Ch:t.kind=12
 ·rw[if_pos Ch]at he;rw[Ch]at ha
  match ds,ha with
  | [x],_=>
   split at he;· exact absurd he.symm hr
   ·rename_i hx;exact Tc x (.inr Ch) rfl hx he
 rw[if_neg Ch]at he;exact absurd he.symm hr
theorem eE {g:List Ty}:∀{l:List Tm} {e:Int},e≠0->(Tm.inferN.infers l g).2=e->∃(i:Nat) (x:Tm),l[i]? = some x/\(x.inferN g).2=e/\∀(j:Nat) (y:Tm),j<i->l[j]? = some y->(y.inferN g).2=0
 | [],e,h0,h=>absurd h.symm h0
 | a::r,e,h0,h=>by
  simp only[Tm.inferN.infers]at h;by_cases e1:(a.inferN g).2=0
  ·rw[if_pos e1]at h;by_cases e2:(Tm.inferN.infers r g).2=0;· rw[if_pos e2]at h;exact absurd h.symm h0
   ·rw[if_neg e2]at h;obtain⟨i,x,h1,h2,h3⟩:=eE (l:=r) h0 h;refine⟨i+1,x,by simpa using h1,h2,fun j y hj hy=>?_⟩;cases j with
    | zero=>simp at hy;rw[<- hy];exact e1
    | succ j=>exact h3 j y oO (by simpa using hy)
  ·rw[if_neg e1]at h;exact⟨0,a,rfl,h,fun j y hj _=>absurd hj (Nat.not_lt_zero _)⟩
theorem fO {t:Tm}{g:List Ty}(hg:∀x∈g,x.ok)(ht:t.shape=true)(h1:¬t.kind=1)(Ax:¬t.kind=2)(hI:(Tm.inferN.infers t.args g).2=0)(h:(CA t.kind t.type (Tm.inferN.infers t.args g).1).2≠0)
  (Bf:∀(i:Nat) (x:Tm),t.args[i]? = some x->(x.inferN g).2=0->cT gl 105 [.sl (g.map H1),x.dv] [] (.tup [.agg (H1 (x.inferN g).1),A0 0]) []) :
  cT gl 105 [.sl (g.map H1),t.dv] [] (.tup [yH,A0 (CA t.kind t.type (Tm.inferN.infers t.args g).1).2]) []:=by
 obtain⟨ha,hi,hv,Al,hs⟩:=Tm.shape_node ht;obtain⟨Dy,Ae⟩:=Tm.infers_all t.args g hI;have Km:∀d∈(Tm.inferN.infers t.args g).1,d.ok:=by
  intro d hd;obtain⟨i,Iu⟩:=List.getElem?_of_mem hd;have Cc:=(uA Iu).1;obtain⟨x1,x2⟩:=Ae i _ (uB (by omega:i<t.args.length));rw[x2]at Iu;cases Iu;exact Tm.inferN_ok _ g (hs _ (List.getElem_mem _)) hg x1
 have wn:=z58 (gl:=gl) ht h1 Ax Dy Km h;have step:∀(i:Nat) (x:Tm),t.args[i]? = some x->∃d,(Tm.inferN.infers t.args g).1[i]? = some d/\cT gl 105 [.sl (g.map H1),x.dv] [] (.tup [.agg (H1 d),A0 0]) []:=by
  intro i x hx;obtain⟨x1,x2⟩:=Ae i x hx;exact⟨_,x2,Bf i x hx x1⟩
 have h3:t.args.length<=3:=by
  have:AO t.kind<=3:=by unfold AO;(repeat' split) <;> omega
  omega
 have Bd:=Tm.fold t;generalize (CA t.kind t.type (Tm.inferN.infers t.args g).1).2=e at *;generalize (Tm.inferN.infers t.args g).1=ds at *;clear Bf Ae Km;refine A6 Tryz.func105 ?_;intro X hP u6 hf u8 hn hR u5 u4;have Iq:=IM (u4 (.sl (g.map H1)) sS);simp at Iq;generalize List.map H1 g=G at *
 match u9:t.args,h3 with
 | [],_=>
  rw[u9]at Dy;obtain rfl:ds=[]:=List.length_eq_zero_iff.1 Dy;rw[u9]at Bd;simp only[List.map_nil]at Bd;rw[pY]at wn;refine A7 (j3 @h1 @Ax @u9) ?_;refine D4 ?_;refine A7 @u9 ?_;refine A3 @Bd wn ?_;exact AM
 | [x],_=>
  obtain⟨d,q0,w⟩:=step 0 x (by rw[u9];rfl);rw[u9]at Dy
  obtain rfl:ds=[d]:=by
   match ds,Dy,q0 with
   | [_],_,q0=>simp at q0;rw[q0]
  rw[dW]at wn;simp only[C0]at w;rw[u9]at Bd;simp only[List.map_cons,List.map_nil]at Bd;rw[Tm.cells_eq x]at Bd;refine A7 (j3 @h1 @Ax @u9) ?_;refine D4 ?_;refine A7 @u9 ?_;refine A3 tT w ?_;refine A2 ?_;refine AA (s':=[sV 0 (.sl G),sV 67 (A0 1),sV 66 (A0 1),sV 65 (.sl [x.cells]),sP 3,sL 3 [.v (A0 t.kind),.v (A0 t.index),.v (A0 t.type.kind),.v (.sl (t.type.args.map Ty.cells)),.v (.sl [x.cells])],sP 4,sL 4 [.v (A0 0),.own 0 [],.v (A0 0)],sP 9,sL 9 [.v (A0 d.kind),.v (.sl (d.args.map Ty.cells)),.v (A0 (d.count:Int)),.v (A0 0),.own 0 [],.v (A0 0),.v (A0 0),.own 0 [],.v (A0 0)]]) [] @u9 ?_;refine CN ?_;refine A2 ?_;refine A3 @Bd wn ?_;exact AM
 | [x,y],_=>
  obtain⟨d,q0,w⟩:=step 0 x (by rw[u9];rfl);obtain⟨e1,q1,v⟩:=step 1 y (by rw[u9];rfl);rw[u9]at Dy
  obtain rfl:ds=[d,e1]:=by
   match ds,Dy,q0,q1 with
   | [_,_],_,q0,q1=>simp at q0 q1;rw[q0,q1]
  rw[UL]at wn;simp only[C0]at w v;rw[u9]at Bd;simp only[List.map_cons,List.map_nil]at Bd;rw[Tm.cells_eq x,Tm.cells_eq y]at Bd;refine A7 (j3 @h1 @Ax @u9) ?_;refine D4 ?_;refine A7 @u9 ?_;refine A3 tT w ?_;refine A2 ?_;refine AA (s':=[sV 0 (.sl G),sV 67 (A0 1),sV 66 (A0 2),sV 65 (.sl [x.cells,y.cells]),sP 3,sL 3 [.v (A0 t.kind),.v (A0 t.index),.v (A0 t.type.kind),.v (.sl (t.type.args.map Ty.cells)),.v (.sl [x.cells,y.cells])],sP 4,sL 4 [.v (A0 0),.own 0 [],.v (A0 0)],sP 9,sL 9 [.v (A0 d.kind),.v (.sl (d.args.map Ty.cells)),.v (A0 (d.count:Int)),.v (A0 0),.own 0 [],.v (A0 0),.v (A0 0),.own 0 [],.v (A0 0)]]) [] @u9 ?_;refine CN ?_;refine A7 @u9 ?_;refine A3 tT v ?_;refine A2 ?_;refine AA (s':=[sV 0 (.sl G),sV 67 (A0 2),sV 66 (A0 2),sV 65 (.sl [x.cells,y.cells]),sP 3,sL 3 [.v (A0 t.kind),.v (A0 t.index),.v (A0 t.type.kind),.v (.sl (t.type.args.map Ty.cells)),.v (.sl [x.cells,y.cells])],sP 4,sL 4 [.v (A0 0),.own 0 [],.v (A0 0)],sP 9,sL 9 [.v (A0 d.kind),.v (.sl (d.args.map Ty.cells)),.v (A0 (d.count:Int)),.v (A0 e1.kind),.v (.sl (e1.args.map Ty.cells)),.v (A0 (e1.count:Int)),.v (A0 0),.own 0 [],.v (A0 0)]]) [] @u9 ?_;refine CN ?_;refine A2 ?_;refine A3 @Bd wn ?_;exact AM
 | [x,y,z'],_=>
  obtain⟨d,q0,w⟩:=step 0 x (by rw[u9];rfl);obtain⟨e1,q1,v⟩:=step 1 y (by rw[u9];rfl);obtain⟨k,q2,u⟩:=step 2 z' (by rw[u9];rfl);rw[u9]at Dy
  obtain rfl:ds=[d,e1,k]:=by
   match ds,Dy,q0,q1,q2 with
   | [_,_,_],_,q0,q1,q2=>simp at q0 q1 q2;rw[q0,q1,q2]
  rw[z0e]at wn;simp only[C0]at w v u;rw[u9]at Bd;simp only[List.map_cons,List.map_nil]at Bd;rw[Tm.cells_eq x,Tm.cells_eq y,Tm.cells_eq z']at Bd;refine A7 (j3 @h1 @Ax @u9) ?_;refine D4 ?_;refine A7 @u9 ?_;refine A3 tT w ?_;refine A2 ?_;refine AA (s':=[sV 0 (.sl G),sV 67 (A0 1),sV 66 (A0 3),sV 65 (.sl [x.cells,y.cells,z'.cells]),sP 3,sL 3 [.v (A0 t.kind),.v (A0 t.index),.v (A0 t.type.kind),.v (.sl (t.type.args.map Ty.cells)),.v (.sl [x.cells,y.cells,z'.cells])],sP 4,sL 4 [.v (A0 0),.own 0 [],.v (A0 0)],sP 9,sL 9 [.v (A0 d.kind),.v (.sl (d.args.map Ty.cells)),.v (A0 (d.count:Int)),.v (A0 0),.own 0 [],.v (A0 0),.v (A0 0),.own 0 [],.v (A0 0)]]) [] @u9 ?_;refine CN ?_;refine A7 @u9 ?_;refine A3 tT v ?_;refine A2 ?_;refine AA (s':=[sV 0 (.sl G),sV 67 (A0 2),sV 66 (A0 3),sV 65 (.sl [x.cells,y.cells,z'.cells]),sP 3,sL 3 [.v (A0 t.kind),.v (A0 t.index),.v (A0 t.type.kind),.v (.sl (t.type.args.map Ty.cells)),.v (.sl [x.cells,y.cells,z'.cells])],sP 4,sL 4 [.v (A0 0),.own 0 [],.v (A0 0)],sP 9,sL 9 [.v (A0 d.kind),.v (.sl (d.args.map Ty.cells)),.v (A0 (d.count:Int)),.v (A0 e1.kind),.v (.sl (e1.args.map Ty.cells)),.v (A0 (e1.count:Int)),.v (A0 0),.own 0 [],.v (A0 0)]]) [] @u9 ?_;refine CN ?_;refine A7 @u9 ?_;refine A3 tT u ?_;refine A2 ?_
  refine AA (s':=[sV 0 (.sl G),sV 67 (A0 3),sV 66 (A0 3),sV 65 (.sl [x.cells,y.cells,z'.cells]),sP 3,sL 3 [.v (A0 t.kind),.v (A0 t.index),.v (A0 t.type.kind),.v (.sl (t.type.args.map Ty.cells)),.v (.sl [x.cells,y.cells,z'.cells])],sP 4,sL 4 [.v (A0 0),.own 0 [],.v (A0 0)],sP 9,sL 9 [.v (A0 d.kind),.v (.sl (d.args.map Ty.cells)),.v (A0 (d.count:Int)),.v (A0 e1.kind),.v (.sl (e1.args.map Ty.cells)),.v (A0 (e1.count:Int)),.v (A0 k.kind),.v (.sl (k.args.map Ty.cells)),.v (A0 (k.count:Int))]]) [] @u9 ?_;refine CN ?_;refine A2 ?_;refine A3 @Bd wn ?_;exact AM
theorem fP {t:Tm}{g:List Ty}(ht:t.shape=true)(h1:¬t.kind=1)(Ax:¬t.kind=2){e:Int}(he:e≠0){i:Nat}{z:Tm}(z1:t.args[i]? = some z)(z3:∀(j:Nat) (y:Tm),j<i->t.args[j]? = some y->(y.inferN g).2=0)
  (wz:cT gl 105 [.sl (g.map H1),z.dv] [] (.tup [yH,A0 e]) [])
  (Bf:∀(i:Nat) (x:Tm),t.args[i]? = some x->(x.inferN g).2=0->cT gl 105 [.sl (g.map H1),x.dv] [] (.tup [.agg (H1 (x.inferN g).1),A0 0]) []) :
  cT gl 105 [.sl (g.map H1),t.dv] [] (.tup [yH,A0 e]) []:=by
 obtain⟨ha,hi,hv,Al,hs⟩:=Tm.shape_node ht;have h3:t.args.length<=3:=by
  have:AO t.kind<=3:=by unfold AO;(repeat' split) <;> omega
  omega
 have Bd:=Tm.fold t;refine A6 Tryz.func105 ?_;intro X hP u6 hf u8 hn hR u5 u4;have Iq:=IM (u4 (.sl (g.map H1)) sS);simp at Iq;have Lc:i<t.args.length:=(uA z1).1
 match u9:t.args,h3 with
 | [],_=>rw[u9]at Lc;simp at Lc
 | [x],_=>
  rw[u9]at z1 z3 Lc Bd;simp only[List.map_cons,List.map_nil]at Bd;rw[Tm.cells_eq x]at Bd
  match i,Lc,z1,z3 with
  | 0,_,z1,z3=>
   simp at z1;subst z1;clear Bf;generalize List.map H1 g=G at *;refine A7 (j3 @h1 @Ax @u9) ?_;refine D4 ?_;refine A7 @u9 ?_;refine A3 tT wz ?_;refine A7 @he ?_;exact AT @he
  | i+1,Lc,_,_=>exact absurd Lc sS
 | [x,y],_=>
  rw[u9]at z1 z3 Lc Bd;simp only[List.map_cons,List.map_nil]at Bd;rw[Tm.cells_eq x,Tm.cells_eq y]at Bd
  match i,Lc,z1,z3 with
  | 0,_,z1,z3=>
   simp at z1;subst z1;clear Bf;generalize List.map H1 g=G at *;refine A7 (j3 @h1 @Ax @u9) ?_;refine D4 ?_;refine A7 @u9 ?_;refine A3 tT wz ?_;refine A7 @he ?_;exact AT @he
  | 1,_,z1,z3=>
   simp at z1;subst z1;have w:=Bf 0 x (by rw[u9];rfl) (z3 0 x oO rfl);generalize (x.inferN g).1=d at *;simp only[C0]at w;clear Bf;generalize List.map H1 g=G at *;refine A7 (j3 @h1 @Ax @u9) ?_;refine D4 ?_;refine A7 @u9 ?_;refine A3 tT w ?_;refine A2 ?_;refine AA (s':=[sV 0 (.sl G),sV 67 (A0 1),sV 66 (A0 2),sV 65 (.sl [x.cells,y.cells]),sP 3,sL 3 [.v (A0 t.kind),.v (A0 t.index),.v (A0 t.type.kind),.v (.sl (t.type.args.map Ty.cells)),.v (.sl [x.cells,y.cells])],sP 4,sL 4 [.v (A0 0),.own 0 [],.v (A0 0)],sP 9,sL 9 [.v (A0 d.kind),.v (.sl (d.args.map Ty.cells)),.v (A0 (d.count:Int)),.v (A0 0),.own 0 [],.v (A0 0),.v (A0 0),.own 0 [],.v (A0 0)]]) [] @u9 ?_;refine CN ?_;refine A7 @u9 ?_;refine A3 tT wz ?_;refine A7 @he ?_;exact AT @he
  | i+2,Lc,_,_=>exact absurd Lc sS
 | [x,y,z'],_=>
  rw[u9]at z1 z3 Lc Bd;simp only[List.map_cons,List.map_nil]at Bd;rw[Tm.cells_eq x,Tm.cells_eq y,Tm.cells_eq z']at Bd
  match i,Lc,z1,z3 with
  | 0,_,z1,z3=>
   simp at z1;subst z1;clear Bf;generalize List.map H1 g=G at *;refine A7 (j3 @h1 @Ax @u9) ?_;refine D4 ?_;refine A7 @u9 ?_;refine A3 tT wz ?_;refine A7 @he ?_;exact AT @he
  | 1,_,z1,z3=>
   simp at z1;subst z1;have w:=Bf 0 x (by rw[u9];rfl) (z3 0 x oO rfl);generalize (x.inferN g).1=d at *;simp only[C0]at w;clear Bf;generalize List.map H1 g=G at *;refine A7 (j3 @h1 @Ax @u9) ?_;refine D4 ?_;refine A7 @u9 ?_;refine A3 tT w ?_;refine A2 ?_;refine AA (s':=[sV 0 (.sl G),sV 67 (A0 1),sV 66 (A0 3),sV 65 (.sl [x.cells,y.cells,z'.cells]),sP 3,sL 3 [.v (A0 t.kind),.v (A0 t.index),.v (A0 t.type.kind),.v (.sl (t.type.args.map Ty.cells)),.v (.sl [x.cells,y.cells,z'.cells])],sP 4,sL 4 [.v (A0 0),.own 0 [],.v (A0 0)],sP 9,sL 9 [.v (A0 d.kind),.v (.sl (d.args.map Ty.cells)),.v (A0 (d.count:Int)),.v (A0 0),.own 0 [],.v (A0 0),.v (A0 0),.own 0 [],.v (A0 0)]]) [] @u9 ?_;refine CN ?_;refine A7 @u9 ?_;refine A3 tT wz ?_;refine A7 @he ?_;exact AT @he
  | 2,_,z1,z3=>
   simp at z1;subst z1;have w:=Bf 0 x (by rw[u9];rfl) (z3 0 x oO rfl);have v:=Bf 1 y (by rw[u9];rfl) (z3 1 y oO rfl);generalize (x.inferN g).1=d at *;generalize (y.inferN g).1=e1 at *;simp only[C0]at w v;clear Bf;generalize List.map H1 g=G at *;refine A7 (j3 @h1 @Ax @u9) ?_;refine D4 ?_;refine A7 @u9 ?_;refine A3 tT w ?_;refine A2 ?_;refine AA (s':=[sV 0 (.sl G),sV 67 (A0 1),sV 66 (A0 3),sV 65 (.sl [x.cells,y.cells,z'.cells]),sP 3,sL 3 [.v (A0 t.kind),.v (A0 t.index),.v (A0 t.type.kind),.v (.sl (t.type.args.map Ty.cells)),.v (.sl [x.cells,y.cells,z'.cells])],sP 4,sL 4 [.v (A0 0),.own 0 [],.v (A0 0)],sP 9,sL 9 [.v (A0 d.kind),.v (.sl (d.args.map Ty.cells)),.v (A0 (d.count:Int)),.v (A0 0),.own 0 [],.v (A0 0),.v (A0 0),.own 0 [],.v (A0 0)]]) [] @u9 ?_;refine CN ?_;refine A7 @u9 ?_;refine A3 tT v ?_;refine A2 ?_
   refine AA (s':=[sV 0 (.sl G),sV 67 (A0 2),sV 66 (A0 3),sV 65 (.sl [x.cells,y.cells,z'.cells]),sP 3,sL 3 [.v (A0 t.kind),.v (A0 t.index),.v (A0 t.type.kind),.v (.sl (t.type.args.map Ty.cells)),.v (.sl [x.cells,y.cells,z'.cells])],sP 4,sL 4 [.v (A0 0),.own 0 [],.v (A0 0)],sP 9,sL 9 [.v (A0 d.kind),.v (.sl (d.args.map Ty.cells)),.v (A0 (d.count:Int)),.v (A0 e1.kind),.v (.sl (e1.args.map Ty.cells)),.v (A0 (e1.count:Int)),.v (A0 0),.own 0 [],.v (A0 0)]]) [] @u9 ?_;refine CN ?_;refine A7 @u9 ?_;refine A3 tT wz ?_;refine A7 @he ?_;exact AT @he
  | i+3,Lc,_,_=>exact absurd Lc sS
theorem lH (t:Tm)(g:List Ty)(hgt:g.length+t.count<=2147483648)(ht:t.shape=true)(hg:∀x∈g,x.ok){e:Int}(he:e≠0)(h:(t.inferN g).2=e) :
  cT gl 105 [.sl (g.map H1),t.dv] [] (.tup [yH,A0 e]) []:=by
 induction t using Tm.ind generalizing g with
 | h t ih=>
 obtain⟨ha,hi,hv,Al,hs⟩:=Tm.shape_node ht;rw[Tm.inferN_eq t]at h;by_cases h1:t.kind=1
 ·rw[if_pos h1]at h;split at h
  ·rename_i hq;obtain rfl:6=e:=h;refine A6 Tryz.func105 ?_;intro X hP u6 hf u8 hn hR u5 u4;have Iq:=IM (u4 (.sl (g.map H1)) sS);simp at Iq;have Wt:(List.map H1 g).length=g.length:=sS;generalize List.map H1 g=G at *;refine A7 (j3 @h1 @hq @Wt) ?_;exact BI
  ·exact absurd h.symm he
 rw[if_neg h1]at h;by_cases Ax:t.kind=2
 ·rw[if_pos Ax]at h;rw[Ax]at ha
  obtain⟨b,hb⟩:∃b,t.args=[b]:=by
   match hh:t.args,ha with
   | [b],_=>exact⟨b,rfl⟩
  have Ma:b∈t.args:=by rw[hb];simp
  rw[if_pos (.inl Ax)]at Al;have Fs:∀x∈g++[t.type],x.ok:=by
   intro x hx;rcases List.mem_append.1 hx with hx|hx;· exact hg x hx
   ·rw[List.mem_singleton.1 hx];exact Al
  have Yv:t.count=1+(b.count+0):=by rw[Tm.count_eq,hb];rfl
  have Xk:=Tm.count_pos b;have Hq:g.length<=2147483647:=oO;have wo:=I1 (gl:=gl) t.type Al;have Kz:=Ty.fold t.type;have fb:=Tm.fold b;have Rm:List.map H1 (g++[t.type])=List.map H1 g++[H1 t.type]:=sS;have Wt:(List.map H1 g).length=g.length:=sS;have Hg:∀e:List DV,e∈List.map H1 g->e.length=3:=by intro e he;simp only[List.mem_map]at he;obtain⟨x,-,rfl⟩:=he;rfl
  rw[hb]at h;simp only[Tm.inferN.infers]at h;by_cases Ey:(b.inferN (g++[t.type])).2=0
  ·rw[if_pos Ey]at h;simp only[if_true]at h;have hbo:=Tm.inferN_ok b (g++[t.type]) (hs b Ma) Fs Ey;have w1:=OP (gl:=gl) b (g++[t.type]) (by simp;omega) (hs b Ma) Fs Ey;generalize (b.inferN (g++[t.type])).1=rb at *;have Nd:CA t.kind t.type [rb]=XQ (Ty.mk 4 [t.type,rb]):=by rw[Ax];rfl
   rw[Nd]at h;have h4:=zb8 (Ty.mk 4 [t.type,rb]) (by rw[h];exact he);have Ao:=z0i (.inr rfl) Al hbo (by rw[h4];decide);rw[h4]at h;subst h;have wj:=ZI (gl:=gl) 4 t.type rb Al.2 hbo.2 Ao;rw[Rm]at w1;simp only[C0 t.type,C0 rb]at w1 wo wj;refine A6 Tryz.func105 ?_;intro X hP u6 hf u8 hn hR u5 u4;have Iq:=IM (u4 (.sl (g.map H1)) sS);simp at Iq;generalize List.map H1 g=G at *;have Jm:List.take g.length G=G:=by rw[List.take_of_length_le];omega
   refine A7 @Ax ?_;refine A3 (j2 @Ax @Kz) wo ?_;refine A3 (j6 @Ax @hb @Jm @Wt @Hg @Hq) w1 ?_;refine A2 ?_;refine A3 tT wj ?_;exact AM
  ·rw[if_neg Ey]at h;simp only at h;rw[if_neg Ey]at h;have w1:=ih b Ma (g++[t.type]) (by simp;omega) (hs b Ma) Fs h;rw[Rm]at w1;simp only[C0 t.type]at w1 wo;clear ih h;refine A6 Tryz.func105 ?_;intro X hP u6 hf u8 hn hR u5 u4;have Iq:=IM (u4 (.sl (g.map H1)) sS);simp at Iq;generalize List.map H1 g=G at *;have Jm:List.take g.length G=G:=by rw[List.take_of_length_le];omega
   refine A7 @Ax ?_;refine A3 (j2 @Ax @Kz) wo ?_;refine A3 (j6 @Ax @hb @Jm @Wt @Hg @Hq) w1 ?_;refine A7 @he ?_;exact AT @he
 rw[if_neg Ax]at h;have Bf:∀(i:Nat) (x:Tm),t.args[i]? = some x->(x.inferN g).2=0->cT gl 105 [.sl (g.map H1),x.dv] [] (.tup [.agg (H1 (x.inferN g).1),A0 0]) []:=by
  intro i x hx h0;have hm:=uE hx;have Br:=Tm.count_mem hm;have Ap:=Tm.count_eq t;exact OP x g oO (hs x hm) hg h0
 by_cases hI:(Tm.inferN.infers t.args g).2=0
 ·rw[if_pos hI]at h;rw[<- h];exact fO hg ht h1 Ax hI (by rw[h];exact he) Bf
 rw[if_neg hI]at h;obtain⟨i,z,z1,z2,z3⟩:=eE he h;have zm:=uE z1;have wz:=ih z zm g (by have Br:=Tm.count_mem zm;have Ap:=Tm.count_eq t;omega) (hs z zm) hg z2;exact fP ht h1 Ax he z1 z3 wz Bf
theorem Y1 (g:List Ty)(hg:∀x∈g,x.ok)(hl:g.length<=16):cT gl 102 [.sl (g.map Ty.cells)] [] (A0 0) []:=by
 refine A6 Tryz.func102 ?_;intro X hP u6 hf u8 hn hR u5 u4;have Jy:¬(16<(g.length:Int)):=oO;refine A7 @Jy ?_;refine BR ?_;refine AA [] tT (CD (g) (fun done rest=>[sV 11 (A0 done.length),sV 10 (A0 g.length),sV 9 (.sl (g.map Ty.cells)),sV 2 (A0 0)]) ?_ ?_)
 ·intro done x rest hL Ad u7;have Ac:done.length<g.length:=by rw[hL];simp
  have hxo:=hg x (uE Ad);have w:=NN (gl:=gl) x (by have:=hxo.2;omega);rw[(Ty.checkN_iff x).2 hxo]at w;have Dx:=Ty.fold x;refine A5 ?_;refine AQ ?_;refine A7 @Ad ?_;refine A3 (j2 @Ad @Dx) w ?_;refine CG (wr []) tT tT u7
 ·refine A5 ?_;refine B9 ?_;refine A2 ?_;exact AM
theorem SQ (g:List Ty)(hg:∀x∈g,x.ok)(hl:g.length<=16):cT gl 104 [.sl (g.map Ty.cells)] [] (.sl (g.map H1)) []:=by
 refine A6 Tryz.func104 ?_;intro X hP u6 hf u8 hn hR u5 u4;refine A2 ?_;refine BR ?_;refine AA [(1003,0)] tT (CD (g) (fun done rest=>[sV 8 (A0 done.length),sV 7 (A0 g.length),sV 6 (.sl (g.map Ty.cells)),(.slot 2,.one (.own 0 [])),(.slot 3,.one (.own 1003 (done.map H1))),(.tok 1003,.tk 3 done.length)]) ?_ ?_)
 ·intro done x rest hL Ad u7;have Ac:done.length<g.length:=by rw[hL];simp
  have hxo:=hg x (uE Ad);have w:=I1 (gl:=gl) x hxo;have Dx:=Ty.fold x;have Bk:=C0 x;refine A5 ?_;refine AQ ?_;refine A7 @Ad ?_;refine A3 (j4 @Ad @Dx @Bk @z0f) w ?_;refine CG (wr [(1003,16)]) (j2 @Bk @z0f) tT u7
 ·refine A5 ?_;refine B9 ?_;refine A2 ?_;exact AM
theorem Y2 (Cj:FQ gl 0=some IL)(g:List Ty)(hg:∀x∈g,x.ok)(hl:g.length<=16)(t:Tm)(r:Ty)(hc:t.checkN=0)(h:t.inferN g=(r,0)) :
  cT gl 39 [.sl (g.map Ty.cells),t.dv] [] (.tup [r.dv,A0 0]) []:=by
 obtain⟨hs,Ir⟩:=(Tm.checkN_iff t).1 hc;have w2:=LH Cj t (DS t hs) oO;rw[hc]at w2;have w3:=OP (gl:=gl) t g oO hs hg (by rw[h]);rw[h]at w3;have w4:=dU (gl:=gl) r;have w5:=SQ (gl:=gl) g hg hl;have w6:=Y1 (gl:=gl) g hg hl;have Bd:=Tm.fold t;have fr:=Ty.fold r;simp only[C0]at w3 w5;refine A6 Tryz.func39 ?_;intro X hP u6 hf u8 hn hR u5 u4;refine A2 ?_;refine A3 tT w6 ?_;refine A2 ?_;refine A3 @Bd w2 ?_;refine A2 ?_;refine BL @Bd w5 w3 ?_;refine A2 ?_;refine A3 @fr w4 ?_;exact BI
theorem X1 (g:List Ty)(hc:∀t∈g,t.count<=2147483648):cT gl 102 [.sl (g.map Ty.cells)] [] (A0 (MP g)) []:=by
 refine A6 Tryz.func102 ?_;intro X hP u6 hf u8 hn hR u5 u4;have hlen:=IM (u4 (.sl (g.map Ty.cells)) sS);simp only[List.length_map]at hlen;by_cases h:16<g.length
 ·have h2:(16:Int)<(g.length:Int):=oO;refine A7 @h2 ?_;exact AT (j2 @MP.eq_1 @h)
 ·have Jy:¬(16<(g.length:Int)):=oO;refine A7 @Jy ?_;refine BR ?_;refine AA [] tT (DC (g) (fun done=>HD done=0) (fun done rest=>[sV 11 (A0 done.length),sV 10 (A0 g.length),sV 9 (.sl (g.map Ty.cells)),sV 2 (A0 0)]) (rfl) ?_ ?_)
  ·intro done x rest hL Ad hI u7;have Ac:done.length<g.length:=by rw[hL];simp
   have hx:=LG done (x::rest) hI;rw[<- hL]at hx;have w:=NN (gl:=gl) x (hc x (uE Ad));have Dx:=Ty.fold x;refine A5 ?_;refine AQ ?_;refine A7 @Ad ?_;by_cases Ky:x.checkN=0
   ·rw[Ky]at w;refine A3 (j2 @Ad @Dx) w ?_;refine CG (wr []) tT tT (u7 (by rw[LG done [x] hI];simp[HD,Ky]))
   ·refine A3 (j2 @Ad @Dx) w ?_;refine A7 @Ky ?_;exact AT (j6 @MP.eq_1 @h @hx @HD.eq_1 @HD.eq_2 @Ky)
  ·intro hI;refine A5 ?_;refine B9 ?_;refine A2 ?_;exact AT (j3 @MP.eq_1 @h @hI)
theorem zk1 (y:Ty):(XQ y).2=0\/(XQ y).1=AE:=by
 unfold XQ;split;· exact .inl rfl
 ·exact .inr rfl
theorem zk2 {c:Prop}[Decidable c]{a b:Ty × Int}(ha:a.2=0\/a.1=AE)(hb:b.2=0\/b.1=AE):(if c then a else b).2=0\/(if c then a else b).1=AE:=by
 by_cases h:c;· rw[if_pos h];exact ha
 ·rw[if_neg h];exact hb
theorem zfs (k:Int)(y:Ty)(l:List Ty):(CA k y l).2=0\/(CA k y l).1=AE:=by
 unfold CA;repeat' first|exact zk1 _|exact .inl rfl|exact .inr rfl|apply zk2
theorem z59 {k:Int}{y:Ty}{l:List Ty}(h:(CA k y l).2≠0):(CA k y l).1=AE:=(zfs k y l).resolve_left h
theorem z0j {t:Tm}{g:List Ty}(h:(t.inferN g).2≠0):(t.inferN g).1=AE:=by
 rw[Tm.inferN_eq]at h ⊢;by_cases h1:t.kind=1
 ·rw[if_pos h1]at h ⊢;split at h;· rename_i q;rw[if_pos q]
  ·exact absurd rfl h
 ·rw[if_neg h1]at h ⊢;generalize (if t.kind=2 then g++[t.type] else g)=g' at *;split at h;· rename_i q;rw[if_pos q];exact z59 h
  ·rename_i q;rw[if_neg q]
theorem Y3 (Cj:FQ gl 0=some IL)(t:Tm)(g:List Ty)(hg:∀x∈g,x.count<=2147483648)(ht:t.tys)(hc:t.count<=1073741824) :
  cT gl 39 [.sl (g.map Ty.cells),t.dv] [] (.tup [(t.typeE g).1.dv,A0 (t.typeE g).2]) []:=by
 have w1:=X1 (gl:=gl) g hg;have w2:=LH (gl:=gl) Cj t ht oO;have Bd:=Tm.fold t;have fz:AE.dv=DV.agg [A0 0,.sl []]:=rfl;unfold Tm.typeE Tm.typedE;by_cases h1:MP g=0;rotate_left
 ·rw[if_neg h1];generalize MP g=e at *;refine A6 Tryz.func39 ?_;intro X hP u6 hf u8 hn hR u5 u4;refine A2 ?_;refine A3 tT w1 ?_;refine A7 @h1 ?_;exact AT (j2 @AE.eq_1 @h1)
 rw[if_pos h1];rw[h1]at w1;obtain⟨u6,hgo⟩:=oJ h1;by_cases h2:t.checkN=0;rotate_left
 ·rw[if_neg h2];generalize t.checkN=e at *;refine A6 Tryz.func39 ?_;intro X hP u6 hf u8 hn hR u5 u4;refine A2 ?_;refine A3 tT w1 ?_;refine A2 ?_;refine A3 @Bd w2 ?_;refine A7 @h2 ?_;exact AT (j2 @AE.eq_1 @h2)
 rw[if_pos h2];obtain⟨hs,Ir⟩:=(Tm.checkN_iff t).1 h2;by_cases h3:(t.inferN g).2=0
 ·have h4:t.inferN g=((t.inferN g).1,0):=by rw[<- h3]
  have w:=Y2 (gl:=gl) Cj g hgo u6 t _ h2 h4;rw[h3];exact w
 ·have hz:=z0j h3;rw[h2]at w2;have w3:=lH (gl:=gl) t g oO hs hgo h3 rfl;have w5:=SQ (gl:=gl) g hgo u6;rw[hz];generalize (t.inferN g).2=e at *;generalize g.map H1=GG at *;refine A6 Tryz.func39 ?_;intro X hP u6 hf u8 hn hR u5 u4;refine A2 ?_;refine A3 tT w1 ?_;refine A2 ?_;refine A3 @Bd w2 ?_;refine A2 ?_;refine BL @Bd w5 w3 ?_;refine A7 @h3 ?_;exact AT (j2 @AE.eq_1 @h3)
theorem MA (Cj:FQ gl 0=some IL){t:Tm}{a:T}{F:BH []->a.V}(h:Dn [] t a F)(hc:t.count<=536870912) :
  cT gl 39 [.sl [],t.dv] [] (if (t.typeE []).2=0 then .tup [a.ty.dv,A0 0] else .tup [(Ty.mk 0 []).dv,A0 4]) []:=by
 have hs:=AJ h;have w:=Y3 (gl:=gl) Cj t [] sS (DS t hs) oO;simp only[List.map_nil]at w;have Ap:MP []=0:=rfl;by_cases hk:t.checkN=0
 ·have Al:t.typeE []=t.inferN []:=by
   unfold Tm.typeE Tm.typedE;rw[if_pos Ap,if_pos hk]
  rw[Al]at w ⊢;rcases SE h with h1|h1
  ·have h1:t.inferN []=(a.ty,0):=h1;rw[h1]at w ⊢;rw[if_pos rfl];exact w
  ·have h1:(t.inferN []).2=4:=h1;rw[if_neg (by rw[h1];decide)];rw[h1,z0j (t:=t) (g:=[]) (by rw[h1];decide)]at w;exact w
 ·have Pt:t.checkN=4:=by
   unfold Tm.checkN at hk ⊢;rw[if_pos hs]at hk ⊢;split at hk;· rename_i q;rw[if_pos q]
   ·exact absurd rfl hk
  have Al:t.typeE []=(AE,4):=by
   unfold Tm.typeE Tm.typedE;rw[if_pos Ap,if_neg hk,Pt]
  rw[Al]at w ⊢;rw[if_neg dD];exact w
def KS (t:Tm)(v:Val)(c:Nat)(work:Int):Val × Int × Int:=if (t.typeE []).2=0 then (if (c:Int)<=work then (v,(c:Int),0) else (S6,0,5)) else (S6,0,4)
theorem Y4 (t:Tm)(v:Val)(c:Nat)(work:Int):(KS t v c work).2.2=4\/(KS t v c work).2.2=5\/((KS t v c work).2.2=0/\(KS t v c work).1=v):=by
 unfold KS;split
 ·split;· exact .inr (.inr ⟨rfl,rfl⟩)
  ·exact .inr (.inl rfl)
 ·exact .inl rfl
theorem qK {t:Tm}{a:T}{F:BH []->a.V}(h:Dn [] t a F)(h0:(t.typeE []).2=0):t.checkN=0/\t.inferN []=(a.ty,0):=by
 have Ap:MP []=0:=rfl;by_cases hk:t.checkN=0
 ·refine⟨hk,?_⟩;have Al:t.typeE []=t.inferN []:=by
   unfold Tm.typeE Tm.typedE;rw[if_pos Ap,if_pos hk]
  rcases SE h with h1|h1;· exact h1
  ·have h1:(t.inferN []).2=4:=h1;rw[Al,h1]at h0;cases h0
 ·unfold Tm.typeE Tm.typedE at h0;rw[if_pos Ap,if_neg hk]at h0;exact absurd h0 hk
theorem R9 (Cj:FQ gl 0=some IL){t:Tm}{l:List T}{r:T}{F:BH []->(O4 l r).V}(h:Dn [] t (O4 l r) F)(hc:t.count<=536870912)(Z:BH l)(y:r.V)(hl:JJ l)(Mh:l.length<=1000000)(hr:r.plain)(Hb:r.ok){c d:Nat}(Bp:NX d t (GC l Z)=some (gW r y,c))(wk:Nat)(Vy:wk<=65536)(M:Nat)(hM:M<=1073000000)(hX:MV.nles M (GC l Z)) :
  cT gl 36 [t.dv,.sl ((HG l Z).map Val.cells),A0 (wk:Int)] [] (.tup [(KS t (B2 r y) c wk).1.dv,A0 (KS t (B2 r y) c wk).2.1,A0 (KS t (B2 r y) c wk).2.2]) []:=by
 unfold KS;by_cases h0:(t.typeE []).2=0
 ·rw[if_pos h0];obtain⟨h1,h2⟩:=qK h h0;have w:=aA (gl:=gl) Cj t l r Z _ c d Bp h1 h2 hl Mh hr Hb wk Vy M hM hX;unfold zfq at w;split at w;· rename_i q;rw[if_pos q];exact w
  ·rename_i q;rw[if_neg q];exact w
 ·rw[if_neg h0];have Im:=MA (gl:=gl) Cj h hc;rw[if_neg h0]at Im;have As:=Tm.fold t;have fz:(Ty.mk 0 []).dv = .agg [A0 0,.sl []]:=rfl;rw[fz]at Im;refine A6 Tryz.func36 ?_;intro X hP u6 hf u8 hn hR u5 u4;refine A2 ?_;refine A3 @As Im ?_;refine A2 ?_;exact AT @S6.eq_1
end
section
theorem Y5:∀(l:List Int) (n:Int),n<=EV n l/\∀x∈l,x<=EV n l
 | [],n=>⟨Int.le_refl n,fun x h=>by cases h⟩
 | y::l,n=>by
  obtain⟨h1,h2⟩:=Y5 l (max n y);refine⟨?_,fun x hx=>?_⟩
  ·show n<=EV (max n y) l;omega
  ·show x<=EV (max n y) l;rcases List.mem_cons.1 hx with rfl|hx;· omega
   ·exact h2 x hx
theorem iO {B:Int}:∀(l:List Int) (n:Int),n<=B->(∀x∈l,x<=B)->EV n l<=B
 | [],n,h,_=>h
 | y::l,n,h,k=>iO l (max n y) (by have:=k y sS;omega) fun x hx=>k x (by simp[hx])
def bnd:(a:T)->a.V->a.maj.V
 | .nat,n=>n
 | .list,l=>(EV (List.length l:Nat) (List.map Int.ofNat l)).toNat
 | .unit,_=>()
 | .pair a b,p=>(bnd a p.1,bnd b p.2)
 | .fn a b,_=>(T.fn a b).maj.dflt
theorem eF (l:List Nat):((EV (l.length:Nat) (l.map Int.ofNat)).toNat:Int)=EV (l.length:Nat) (l.map Int.ofNat):=by
 have:=(Y5 (l.map Int.ofNat) (l.length:Nat)).1;omega
theorem lI (l:List Nat):(Val.mk 2 0 (l.map Int.ofNat) []).boundN=Val.mk 1 (((EV (l.length:Nat) (l.map Int.ofNat)).toNat:Nat):Int) [] []:=by
 rw[Val.boundN_eq,if_pos (show (Val.mk 2 0 (l.map Int.ofNat) []).kind=2 from rfl)];show Val.mk 1 (EV ((List.map Int.ofNat l).length:Nat) (List.map Int.ofNat l)) [] []=_;rw[eF,List.length_map]
theorem ZJ {N:Int}(l:List Nat)(h:(l.length:Int)<=N/\∀x∈l,(x:Int)<=N):(((EV (l.length:Nat) (l.map Int.ofNat)).toNat:Nat):Int)<=N:=by
 rw[eF]
 exact iO _ _ h.1 fun x hx=>by
  obtain⟨y,hy,rfl⟩:=List.mem_map.1 hx;exact h.2 y hy
theorem aN:∀(a:T) (x:a.V),a.plain->(B2 a x).boundN=B2 a.maj (bnd a x)
 | .nat,n,_=>by rw[Val.boundN_eq];rfl
 | .list,l,_=>lI l
 | .unit,_,_=>by rw[Val.boundN_eq];rfl
 | .pair a b,p,h=>by
  rw[Val.boundN_eq,if_neg (show ¬(B2 (.pair a b) p).kind=2 by simp[B2,Val.kind]),if_pos (show (B2 (.pair a b) p).kind=3 from rfl)];show Val.mk 3 0 [] [(B2 a p.1).boundN,(B2 b p.2).boundN]=Val.mk 3 0 [] [B2 a.maj (bnd a p.1),B2 b.maj (bnd b p.2)];rw[aN a p.1 h.1,aN b p.2 h.2]
 | .fn _ _,_,h=>h.elim
theorem yJ:∀(a:T) (x:a.V),a.plain->Mj a (bnd a x) x
 | .nat,n,_=>Nat.le_refl n
 | .list,l,_=>by
  obtain⟨h1,h2⟩:=Y5 (List.map Int.ofNat l) (List.length l:Nat);have h3:=eF l;refine⟨?_,fun x hx=>?_⟩
  ·show List.length l<=(EV (List.length l:Nat) (List.map Int.ofNat l)).toNat;omega
  ·have:=h2 (Int.ofNat x) (List.mem_map_of_mem (f:=Int.ofNat) hx);show x<=(EV (List.length l:Nat) (List.map Int.ofNat l)).toNat;have h4:(x:Int)<=EV (List.length l:Nat) (List.map Int.ofNat l):=this;omega
 | .unit,_,_=>trivial
 | .pair a b,p,h=>⟨yJ a p.1 h.1,yJ b p.2 h.2⟩
 | .fn _ _,_,h=>h.elim
theorem yK {N:Int}(hN:0<=N):∀(a:T) (x:a.V),a.plain->(gW a x).le N->(gW a.maj (bnd a x)).le N
 | .nat,n,_,h=>h
 | .list,l,_,h=>ZJ l h
 | .unit,_,_,_=>trivial
 | .pair a b,p,hp,h=>⟨yK hN a p.1 hp.1 h.1,yK hN b p.2 hp.2 h.2⟩
 | .fn _ _,_,hp,_=>hp.elim
theorem L8:∀{a:T},a.plain->a.maj.plain
 | .nat,_=>trivial
 | .list,_=>trivial
 | .unit,_=>trivial
 | .pair _ _,h=>⟨L8 h.1,L8 h.2⟩
theorem lJ:∀(r:T) (Y:r.maj.V) (y:r.V),r.plain->Mj r Y y->(B2 r.maj Y).overN (B2 r y)=true
 | .nat,Y,y,_,h=>by
  rw[Val.overN_eq,if_pos ⟨rfl,.inl rfl⟩];exact decide_eq_true (show (B2 .nat y).boundN.num<=Int.ofNat Y by rw[Val.boundN_eq];exact Int.ofNat_le.2 h)
 | .list,Y,l,_,h=>by
  rw[Val.overN_eq,if_pos ⟨rfl,.inr rfl⟩];refine decide_eq_true ?_;rw[aN .list l tT];exact ZJ l ⟨Int.ofNat_le.2 h.1,fun y hy=>Int.ofNat_le.2 (h.2 y hy)⟩
 | .unit,_,_,_,_=>by rw[Val.overN_eq];rfl
 | .pair a b,Y,y,hp,h=>by
  have h1:=lJ a Y.1 y.1 hp.1 h.1;have h2:=lJ b Y.2 y.2 hp.2 h.2;rw[Val.overN_eq,if_neg (by rintro⟨h,-⟩;exact absurd h (show ¬(B2 (T.pair a b).maj Y).kind=1 by show ¬(3:Int)=1;decide)),if_pos ⟨rfl,rfl⟩];show ((B2 a.maj Y.1).overN (B2 a y.1)&&((B2 b.maj Y.2).overN (B2 b y.2)&&true))=true;rw[h1,h2];rfl
 | .fn _ _,_,_,h,_=>h.elim
theorem lK {r:T}{Y:r.maj.V}{y:r.V}(hp:r.plain)(ho:r.ok)(h:Mj r Y y):(B2 r.maj Y).majorizesN (B2 r y)=true:=by
 unfold Val.majorizesN;rw[ON Y (L8 hp) (KD ho),ON y hp ho,lJ r Y y hp h];rfl
theorem yL {a:T}(x:a.V)(hp:a.plain)(ho:a.ok):(B2 a x).mValueE=((B2 a x).boundN,0):=by
 unfold Val.mValueE;rw[if_pos (ON x hp ho)]
def eG:(ls:List T)->BH ls->BH (ls.map T.maj)
 | [],_=>()
 | a::ls,e=>(bnd a e.1,eG ls e.2)
theorem z0k:∀(ls:List T) (X:BH ls),JJ ls->MjE ls (eG ls X) X
 | [],_,_=>trivial
 | a::ls,X,h=>⟨yJ a X.1 h.1,z0k ls X.2 h.2.2⟩
theorem iQ:∀(ls:List T) (X:BH ls),JJ ls->(HG ls X).map Val.boundN=HG (ls.map T.maj) (eG ls X)
 | [],_,_=>rfl
 | a::ls,X,h=>by
  show (B2 a X.1).boundN::(HG ls X.2).map Val.boundN=B2 a.maj (bnd a X.1)::HG (ls.map T.maj) (eG ls X.2);rw[aN a X.1 h.1,iQ ls X.2 h.2.2]
theorem z0l {N:Int}(hN:0<=N):∀(ls:List T) (X:BH ls),JJ ls->MV.les N (GC ls X)->MV.les N (GC (ls.map T.maj) (eG ls X))
 | [],_,_,_=>trivial
 | a::ls,X,h,k=>⟨yK hN a X.1 h.1 k.1,z0l hN ls X.2 h.2.2 k.2⟩
theorem VH:∀{ls:List T},JJ ls->JJ (ls.map T.maj)
 | [],_=>trivial
 | _::_,h=>⟨L8 h.1,KD h.2.1,VH h.2.2⟩
theorem eH:∀(ls:List T) (X:BH ls),JJ ls->∀v∈HG ls X,v.mValueE=(v.boundN,0)/\v.count<=64
 | [],_,_,v,hv=>by cases hv
 | a::ls,X,h,v,hv=>by
  rcases List.mem_cons.1 hv with rfl|hv
  ·have h1:=(HU a X.1 h.1).2;have h2:a.size<=64:=h.2.1;exact⟨yL X.1 h.1 h.2.1,oO⟩
  ·exact eH ls X.2 h.2.2 v hv
def qL:(ls:List T)->{r:T}->(O4 ls r).maj.V->BH (ls.map T.maj)->r.maj.V
 | [],_,f,_=>f
 | _::ls,_,f,e=>qL ls (f e.1) e.2
theorem qM:∀(ls:List T) {r:T} {P:(O4 ls r).maj.V} {f:(O4 ls r).V} {X:BH (ls.map T.maj)} {x:BH ls},Mj (O4 ls r) P f->MjE ls X x->Mj r (qL ls P X) (WS ls f x)
 | [],_,_,_,_,_,h,_=>h
 | a::ls,_,_,_,_,_,h,k=>qM ls (h.1 _ _ k.1) k.2
theorem zfu {A B:T}(e:A=B){a:T}(P:(T.fn a A).V)(x:a.V):(cast (congrArg T.V (congrArg (T.fn a) e)) P:(T.fn a B).V) x=cast (congrArg T.V e) (P x):=by
 subst e;rfl
theorem TZ:∀(ls:List T) (r:T),(O4 ls r).maj=O4 (ls.map T.maj) r.maj
 | [],_=>rfl
 | a::ls,r=>congrArg (T.fn a.maj) (TZ ls r)
theorem iR:∀(ls:List T) {r:T} (P:(O4 ls r).maj.V) (X:BH (ls.map T.maj)),WS (ls.map T.maj) (cast (congrArg T.V (TZ ls r)) P) X=qL ls P X
 | [],_,_,_=>rfl
 | a::ls,r,P,X=>by
  show WS (ls.map T.maj) ((cast (congrArg T.V (congrArg (T.fn a.maj) (TZ ls r))) P:(T.fn a.maj (O4 (ls.map T.maj) r.maj)).V) X.1) X.2=qL ls (P X.1) X.2;exact (congrArg (fun q=>WS (ls.map T.maj) q X.2) (zfu (TZ ls r) P X.1)).trans (iR ls (P X.1) X.2)
theorem zfv {Γ:List T}{t:Tm}{A B:T}(e:A=B){F:BH Γ->A.V}(h:Dn Γ t A F):Dn Γ t B (fun u=>cast (congrArg T.V e) (F u)):=by
 subst e;exact h
theorem lL {t:Tm}{ls:List T}{r:T}{F:BH []->(O4 ls r).V}(h:Dn [] t (O4 ls r) F):∃(P:(O4 ls r).maj.V) (G:BH []->(O4 (ls.map T.maj) r.maj).V),Dn [] (B6 t) (O4 (ls.map T.maj) r.maj) G /\
  (∀X,WS (ls.map T.maj) (G ()) X=qL ls P X)/\Mj (O4 ls r) P (F ())/\Ge (O4 ls r).maj P P:=by
 obtain⟨P,h1,h2,h3⟩:=zjt h;refine⟨P (),fun u=>cast (congrArg T.V (TZ ls r)) (P u),zfv (TZ ls r) h1,fun X=>iR ls (P ()) X,h2 () () tT,h3 () () tT⟩
end
section
variable {gl:AB}
def fQ (t:Tm)(v:Val)(c:Nat)(work:Int):Val × Int × Int:=if (t.typeE []).2=0 then (if t.mTermE.2=0 then KS (B6 t) v c work else (S6,0,4)) else (S6,0,4)
theorem z0m (t:Tm)(v:Val)(c:Nat)(work:Int):(fQ t v c work).2.2=4\/(fQ t v c work).2.2=5\/((fQ t v c work).2.2=0/\(fQ t v c work).1=v):=by
 unfold fQ;split
 ·split;· exact Y4 _ _ _ _
  ·exact .inl rfl
 ·exact .inl rfl
theorem ZK (Cj:FQ gl 0=some IL){t:Tm}{ls:List T}{r:T}{F:BH []->(O4 ls r).V}(h:Dn [] t (O4 ls r) F)(hc:t.count<=536870912){G:BH []->(O4 (ls.map T.maj) r.maj).V}(hm:Dn [] (B6 t) (O4 (ls.map T.maj) r.maj) G)(Z:BH (ls.map T.maj))(y:r.maj.V)(hl:JJ (ls.map T.maj))(Mh:ls.length<=1000)(hr:r.maj.plain)(Hb:r.maj.ok){c d:Nat}(Bp:NX d (B6 t) (GC (ls.map T.maj) Z)=some (gW r.maj y,c))(wk:Nat)(Vy:wk<=65536)(M:Nat)(hM:M<=1073000000)(hX:MV.nles M (GC (ls.map T.maj) Z)) :
  cT gl 14 [t.dv,.sl ((HG (ls.map T.maj) Z).map Val.cells),A0 (wk:Int)] [] (.tup [(fQ t (B2 r.maj y) c wk).1.dv,A0 (fQ t (B2 r.maj y) c wk).2.1,A0 (fQ t (B2 r.maj y) c wk).2.2]) []:=by
 have Im:=MA (gl:=gl) Cj h hc;have As:=Tm.fold t;unfold fQ;by_cases h0:(t.typeE []).2=0;rotate_left
 ·rw[if_neg h0]at Im ⊢;have fz:(Ty.mk 0 []).dv = .agg [A0 0,.sl []]:=rfl;rw[fz]at Im;refine A6 Tryz.func14 ?_;intro X hP u6 hf u8 hn hR u5 u4;refine A2 ?_;refine A3 @As Im ?_;refine A2 ?_;exact AT @S6.eq_1
 rw[if_pos h0]at Im ⊢;have w2:=za8 (gl:=gl) Cj t (DS t (AJ h)) oO;have Hh:=Ty.fold (O4 ls r).ty;rcases za9 h sS with⟨h1,h2,-⟩|h4;rotate_left
 ·rw[if_neg (by rw[h4];decide)];rw[h4]at w2;generalize t.mTermE.1=q at *;have Ou:=Tm.fold q;refine A6 Tryz.func14 ?_;intro X hP u6 hf u8 hn hR u5 u4;refine A2 ?_;refine A3 @As Im ?_;refine A2 ?_;refine A3 @As w2 ?_;refine A2 ?_;exact AT @S6.eq_1
 rw[h1]at w2 ⊢;rw[if_pos rfl];have w3:=R9 (gl:=gl) Cj hm oO Z y hl (by simp;omega) hr Hb Bp wk Vy M hM hX;have Ud:=Tm.fold (B6 t);generalize KS (B6 t) (B2 r.maj y) c wk=cr at *;have Hm:=Val.fold cr.1;generalize B6 t=m at *;refine A6 Tryz.func14 ?_;intro X hP u6 hf u8 hn hR u5 u4;refine A2 ?_;refine A3 @As Im ?_;refine A2 ?_;refine A3 @As w2 ?_;refine A2 ?_;refine A3 @Ud w3 ?_;exact BI
def KF (A O:Val × Int × Int):Bool × Int:=if A.2.2=0 then (decide (O.2.2=0),O.2.2) else (false,A.2.2)
mutual
theorem lM {n:Nat}:∀v:MV,v.le (n:Int)->v.nle n
 | .num k,h=>by simp only[MV.le,MV.nle]at h ⊢;omega
 | .list l,h=>by
  simp only[MV.le,MV.nle]at h ⊢;exact⟨oO,fun x hx=>by have:=h.2 x hx;omega⟩
 | .both a b,h=>by simp only[MV.le,MV.nle]at h ⊢;exact⟨lM a h.1,lM b h.2⟩
 | .unit,_=>by simp only[MV.nle]
 | .clo _ e,h=>by simp only[MV.le,MV.nle]at h ⊢;exact U0 e h.2
theorem U0 {n:Nat}:∀l:List MV,MV.les (n:Int) l->MV.nles n l
 | [],_=>by simp only[MV.nles]
 | v::l,h=>by simp only[MV.les,MV.nles]at h ⊢;exact⟨lM v h.1,U0 l h.2⟩
end
theorem RA (Cj:FQ gl 0=some IL){t:Tm}{ls:List T}{r:T}{F:BH []->(O4 ls r).V}(h:Dn [] t (O4 ls r) F)(hc:t.count<=536870912){G:BH []->(O4 (ls.map T.maj) r.maj).V}(hm:Dn [] (B6 t) (O4 (ls.map T.maj) r.maj) G)
  (Z:BH ls) (y:r.V) (y':r.maj.V) (Kj:(B2 r.maj y').majorizesN (B2 r y)=true) (hl:JJ ls) (Mh:ls.length<=1000) (hr:r.plain) (Hb:r.ok) {c d c' d':Nat} (Bp:NX d t (GC ls Z)=some (gW r y,c)) (Pq:NX d' (B6 t) (GC (ls.map T.maj) (eG ls Z))=some (gW r.maj y',c')) (wk:Nat) (Vy:wk<=65536) (hX:MV.les (1000000:Nat) (GC ls Z)) :
  cT gl 10 [t.dv,.sl ((HG ls Z).map Val.cells),A0 (wk:Int)] [] (.tup [AR (KF (KS t (B2 r y) c wk) (fQ t (B2 r.maj y') c' wk)).1,A0 (KF (KS t (B2 r y) c wk) (fQ t (B2 r.maj y') c' wk)).2]) []:=by
 have As:=Tm.fold t;have w1:=R9 (gl:=gl) Cj h hc Z y hl oO hr Hb Bp wk Vy 1000000 dD (U0 _ hX);have Dr:=Y4 t (B2 r y) c wk;have hb:=iQ ls Z hl;have w3:=ZK (gl:=gl) Cj h hc hm (eG ls Z) y' (VH hl) Mh (L8 hr) (KD Hb) Pq wk Vy 1000000 dD (U0 _ (z0l dD ls Z hl hX));have Hf:=z0m t (B2 r.maj y') c' wk;have hnV:=(HU r y hr).2;have hnW:=(HU r.maj y' (L8 hr)).2;have hro':r.size<=64:=Hb;have hrm:r.maj.size=r.size:=p9 r;have w4:=l6 (gl:=gl) (B2 r.maj y') (B2 r y) oO oO;rw[Kj]at w4;generalize KS t (B2 r y) c wk=Xy at *;generalize fQ t (B2 r.maj y') c' wk=co2 at *;have hva:=eH ls Z hl;have Hw:=VB ls Z;obtain⟨vs,hvs⟩:∃vs,vs=HG ls Z:=⟨_,rfl⟩;rw[<- hvs]at hva hb w1 Hw ⊢;rw[<- hb]at w3;have Ar:=Val.fold Xy.1;have hc1v:=Val.cells_eq Xy.1;unfold KF;refine A6 Tryz.func10 ?_;intro X hP u6 hf u8 hn hR u5 u4;by_cases he:Xy.2.2=0;rotate_left
 ·rw[if_neg he]at hR;refine A2 ?_;refine A3 @As w1 ?_;refine A7 @he ?_;exact AM
 rw[if_pos he]at hR;have Fa:Xy.1=B2 r y:=by
  rcases Dr with h|h|h;· rw[he]at h;cases h
  ·rw[he]at h;cases h
  ·exact h.2
 rw[<- Fa]at w4;generalize Xy.1=vr at *;have Am:=Val.fold co2.1;have hc2v:=Val.cells_eq co2.1;refine A2 ?_;refine A3 @As w1 ?_;refine A7 (j2 @he @hc1v) ?_;refine BR ?_;refine AA [(1011,0)] tT (DC (vs) (fun done=>True) (fun done rest=>[sV 2 (A0 (wk:Int)),sP 3,sL 3 [.v (A0 t.kind),.v (A0 t.index),.v (A0 t.type.kind),.v (.sl (t.type.args.map Ty.cells)),.v (.sl (t.args.map Tm.cells))],sP 8,sL 8 [.v (A0 vr.kind),.v (A0 vr.num),.v (.sl (AH vr.list)),.v (.sl (vr.args.map Val.cells))],(.slot 11,.one (.own 1011 ((done.map Val.boundN).map Val.cells))),(.tok 1011,.tk 4 done.length),sV 29 (.sl (vs.map Val.cells)),sV 30 (A0 vs.length),sV 31 (A0 done.length)]) (trivial) ?_ ?_)
 ·intro done v rest hL Ad _ u7;have Ac:done.length<vs.length:=by rw[hL];simp
  obtain⟨q1,q2⟩:=hva v (uE Ad);have wv:=z4j (gl:=gl) v oO;rw[q1]at wv;have Dw:=Val.fold v;have Cd:=Val.cells_eq v;have Mz:=Val.cells_eq v.boundN;refine A5 ?_;refine AQ ?_;refine A7 (j2 @Ad @Cd) ?_;refine A3 @Dw wv ?_;refine A2 ?_;refine CG (wr [(1011,46)]) @Mz @Mz (u7 tT)
 ·intro _;rcases Hf with h|h|⟨h,hv⟩
  ·rw[h]at hR w3;refine A5 ?_;refine B9 ?_;refine A2 ?_;refine A3 @As w3 ?_;refine A2 ?_;exact AM
  ·rw[h]at hR w3;refine A5 ?_;refine B9 ?_;refine A2 ?_;refine A3 @As w3 ?_;refine A2 ?_;exact AM
  ·rw[h]at hR w3;rw[<- hv]at w4;generalize co2.1=vw at *;refine A5 ?_;refine B9 ?_;refine A2 ?_;refine A3 @As w3 ?_;refine A2 ?_;refine A3 (j2 @Ar @Am) w4 ?_;exact AM
def fe (O:Nat->Val × Int × Int):Nat->Int
 | 0=>0
 | n+1=>if fe O n=0 then (O n).2.2 else fe O n
theorem z0n {O:Nat->Val × Int × Int}{i:Nat}(h:fe O i≠0):∀n,i<=n->fe O n=fe O i
 | 0,hn=>by have:i=0:=oO;rw[this]
 | n+1,hn=>by
  by_cases e:i=n+1;· rw[e]
  ·have:=z0n h n oO;simp only[fe];rw[this,if_neg h]
theorem qN {O:Nat->Val × Int × Int}{i n:Nat}(h0:fe O i=0)(h:(O i).2.2≠0)(Ca:i<n):fe O n=(O i).2.2:=by
 have e:fe O (i+1)=(O i).2.2:=by simp only[fe];rw[if_pos h0]
 rw[z0n (i:=i+1) (by rw[e];exact h) n Ca,e]
def eI (O:Nat->Val × Int × Int)(n:Nat):List Int:=(List.range n).map fun i=>(O i).1.num
theorem z5a (O:Nat->Val × Int × Int)(n:Nat):eI O (n+1)=eI O n++[(O n).1.num]:=by simp[eI,List.range_succ]
def zk3 (O:Nat->Val × Int × Int)(n:Nat):List Int:=if fe O n=0 then eI O n else []
theorem yM (l:List Int)(x:Int):AH (l++[x])=AH l++[[A0 x]]:=by simp[AH]
theorem eJ (Cj:FQ gl 0=some IL){t:Tm}{F:BH []->(T.fn .nat .nat).V}(h:Dn [] t (.fn .nat .nat) F)(hc:t.count<=536870912)(O:Nat->Val × Int × Int)(n wk:Nat)(hn16:n<=16)
  (hO:∀i,i<=n->cT gl 14 [t.dv,.sl [[A0 1,A0 (i:Int),.sl [],.sl []]],A0 (wk:Int)] [] (.tup [(O i).1.dv,A0 (O i).2.1,A0 (O i).2.2]) []) (h4:(t.typeE []).2≠0->(O 0).2.2=4) :
  cT gl 12 [t.dv,A0 (n:Int),A0 (wk:Int)] [] (.tup [.sl (AH (zk3 O (n+1))),A0 (fe O (n+1))]) []:=by
 have Im:=MA (gl:=gl) Cj h hc;have As:=Tm.fold t;unfold zk3;by_cases h0:(t.typeE []).2=0;rotate_left
 ·rw[if_neg h0]at Im;have e4:fe O (n+1)=4:=by
   have:=h4 h0;rw[qN (i:=0) rfl (by rw[this];decide) oO,this]
  rw[e4,if_neg dD];have fz:(Ty.mk 0 []).dv = .agg [A0 0,.sl []]:=rfl;have hi:AH []=[]:=rfl;rw[fz]at Im;rw[hi];refine A6 Tryz.func12 ?_;intro X hP u6 hf u8 hn hR u5 u4;refine A2 ?_;refine A3 @As Im ?_;refine A2 ?_;exact AM
 rw[if_pos h0]at Im;have fz:(T.fn .nat .nat).ty.dv = .agg [A0 4,.sl [[A0 1,.sl []],[A0 1,.sl []]]]:=rfl;rw[fz]at Im;refine A6 Tryz.func12 ?_;intro X hP u6 hf u8 hn hR u5 u4;have e1:¬(n:Int)<0:=oO;have e2:¬16<(n:Int):=oO;have e3:¬16<n:=oO;refine A2 ?_;refine A3 @As Im ?_;refine A7 (j3 @e1 @e2 @e3) ?_;refine BR ?_;refine CR [(1010,0)] (by simp[go_sem]) (by simp[go_sem,eI,AK] <;> omega) (by simp[go_sem]) (NG (n+1) (fun i=>fe O i=0) (fun i=>[sV 2 (A0 (wk:Int)),sP 3,sL 3 [.v (A0 t.kind),.v (A0 t.index),.v (A0 t.type.kind),.v (.sl (t.type.args.map Ty.cells)),.v (.sl (t.args.map Tm.cells))],(.slot 10,.one (.own 1010 (AH (eI O i)))),(.tok 1010,.tk 1 i),sV 49 (A0 ((n:Int)+1)),sV 50 (A0 i)]) (rfl) ?_ ?_)
 ·intro i hi hI u7;have w:=hO i oO;have Ac:(i:Int)<(n:Int)+1:=oO;have Tn:(AH (eI O i)).length=i:=by simp[AH,eI]
  have Hg:∀e:List DV,e∈AH (eI O i)->e.length=1:=by intro e he;simp only[AH,List.mem_map]at he;obtain⟨x,-,rfl⟩:=he;rfl
  have Cc:i<=2147483647:=oO;have Dw:=Val.fold (O i).1;have Cd:=Val.cells_eq (O i).1;by_cases he:(O i).2.2=0
  ·have Iw:fe O (i+1)=0:=by simp only[fe];rw[if_pos hI];exact he
   have Oq:=u7 Iw;rw[z5a,yM]at Oq;generalize AH (eI O i)=L at *;refine BZ @Ac ?_;refine AQ ?_;refine A2 ?_;refine A3 @As w ?_;refine A7 (j4 @he @Hg @Tn @Cc) ?_;refine CG (wr [(1010,70)]) tT @Tn Oq
  ·have Av:=qN hI he hi;rw[Av,if_neg he]at hR;have Om:AH []=[]:=rfl;rw[Om]at hR;generalize AH (eI O i)=L at *;refine BZ @Ac ?_;refine AQ ?_;refine A2 ?_;refine A3 @As w ?_;refine A7 @he ?_;exact AM
 ·intro hI;rw[if_pos hI,hI]at hR;have Kr:¬((n:Int)+1<(n:Int)+1):=oO;refine A5 ?_;refine B9 ?_;refine A2 ?_;exact AM
def Y6 (e:Int):Bool:=decide (e=4)||(decide (e=5)||decide (e=3))
theorem OQ (e:Int):cT gl 9 [A0 e] [] (AR (Y6 e)) []:=by
 unfold Y6;refine A6 Tryz.func9 ?_;intro X hP u6 hf u8 hn hR u5 u4;by_cases h4:e=4
 ·refine A7 @h4 ?_;exact AC @h4
 by_cases h5:e=5
 ·refine A7 (j2 @h4 @h5) ?_;exact AC (j2 @h4 @h5)
 by_cases h3:e=3
 ·refine A7 (j3 @h4 @h5 @h3) ?_;exact AC (j3 @h4 @h5 @h3)
 ·refine A7 (j3 @h4 @h5 @h3) ?_;exact AC (j3 @h4 @h5 @h3)
theorem X2:Dn [] DR (O4 [.nat] .nat) (fun _ (n:Nat)=>Nat.pred n):=z05 []
def oP (i:Nat):Val × Int × Int:=fQ DR (B2 .nat (if i=2 then (1:Nat) else (0:Nat))) (if i=0 then 5 else if i=1 then 37 else 72) 1000
theorem aO (Cj:FQ gl 0=some IL){i k c:Nat}(h:NX 80 (B6 DR) [.num i]=some (.num k,c))(hi:i<=10) :
  cT gl 14 [DR.dv,.sl [[A0 1,A0 (i:Int),.sl [],.sl []]],A0 1000] [] (.tup [(fQ DR (B2 .nat (k:Nat)) c 1000).1.dv,A0 (fQ DR (B2 .nat (k:Nat)) c 1000).2.1,A0 (fQ DR (B2 .nat (k:Nat)) c 1000).2.2]) []:=by
 obtain⟨P,G,g1,-,-,-⟩:=lL X2;exact ZK Cj X2 dD g1 ((i:Nat),()) (show T.nat.maj.V from k) ⟨trivial,by unfold T.ok;decide,trivial⟩ sS tT (by unfold T.ok;decide) h 1000 dD 10 dD ⟨hi,trivial⟩
theorem z5b:NX 80 (B6 DR) [.num 0]=some (.num 0,5):=kK
theorem z5c:NX 80 (B6 DR) [.num 1]=some (.num 0,37):=kK
theorem z5d:NX 80 (B6 DR) [.num 2]=some (.num 1,72):=kK
theorem iT:NX 80 (B6 DR) [.num 4]=some (.num 3,180):=kK
theorem zb9:NX 80 DR [.num 4]=some (.num 3,13):=kK
theorem zk4:fe oP 3=0:=kK
theorem zk5:zk3 oP 3=[0,0,1]:=kK
theorem zk6:fQ DR (B2 .nat (3:Nat)) 180 1000=(Val.mk 1 3 [] [],180,0):=kK
theorem zfw:KF (KS DR (B2 .nat (3:Nat)) 13 1000) (fQ DR (B2 .nat (3:Nat)) 180 1000)=(true,0):=kK
theorem zfx:(DR.typeE []).2=0:=kK
theorem yN (Cj:FQ gl 0=some IL):cT gl 4 [] [] (AR true) []:=by
 have w1:=eJ (gl:=gl) Cj X2 dD oP 2 1000 dD (fun i hi=>by
  match i,hi with
  | 0,_=>exact aO Cj z5b dD
  | 1,_=>exact aO Cj z5c dD
  | 2,_=>exact aO Cj z5d dD
  | i+3,hi=>omega) (fun h=>absurd zfx h)
 rw[zk4,zk5]at w1;have w1:cT gl 12 [DR.dv,A0 2,A0 1000] [] (.tup [.sl [[A0 0],[A0 0],[A0 1]],A0 0]) []:=w1;have w2:=aO (gl:=gl) Cj iT dD;rw[zk6]at w2;have w2:cT gl 14 [DR.dv,.sl [[A0 1,A0 4,.sl [],.sl []]],A0 1000] [] (.tup [.agg [A0 1,A0 3,.sl [],.sl []],A0 180,A0 0]) []:=w2;obtain⟨P,G,g1,-,-,-⟩:=lL X2;have w3:=RA (gl:=gl) Cj X2 dD g1 ((4:Nat),()) (show T.nat.V from (3:Nat)) (show T.nat.maj.V from (3:Nat)) kK ⟨trivial,by unfold T.ok;decide,trivial⟩ sS tT (by unfold T.ok;decide) zb9 iT 1000 dD ⟨by show ((4:Nat):Int)<=1000000;decide,trivial⟩;have e3:KF (KS DR (B2 .nat (show T.nat.V from (3:Nat))) 13 (1000:Nat)) (fQ DR (B2 T.nat.maj (show T.nat.maj.V from (3:Nat))) 180 (1000:Nat))=(true,0):=zfw;rw[e3]at w3;have w3:cT gl 10 [DR.dv,.sl [[A0 1,A0 4,.sl [],.sl []]],A0 1000] [] (.tup [AR true,A0 0]) []:=w3;have wp:=UH (gl:=gl);have By:=Tm.fold DR;generalize DR=t at *;refine A6 Tryz.func4 ?_;intro X hP u6 hf u8 hn hR u5 u4;refine A2 ?_;refine BL tT wp w1 ?_;refine A2 ?_;refine BL tT wp w2 ?_;refine A2 ?_;refine BL tT wp w3 ?_;refine A2 ?_;exact AM
theorem lN {A O:Val × Int × Int}(hA:A.2.2=4\/A.2.2=5\/A.2.2=0)(hO:O.2.2=4\/O.2.2=5\/O.2.2=0):(KF A O).2=4\/(KF A O).2=5\/((KF A O).2=0/\(KF A O).1=true):=by
 unfold KF;rcases hA with h|h|h <;> rcases hO with k|k|k <;> simp[h,k]
def aB (l:List Int)(p:Nat):Tm × Nat:=(Tm.mk 2 0 (Ty.mk 1 []) [(CZ l 2 (Ty.mk 1 []) [Ty.mk 1 []] p).1],(CZ l 2 (Ty.mk 1 []) [Ty.mk 1 []] p).2)
theorem X3 (b:Nat)(l:List Int)(p:Nat)(hl:l.length<=500)(hp:p<=l.length) :
  cT gl 23 [DP b] [(b,CL l p)] (aB l p).1.dv [(b,CL l (aB l p).2)]:=by
 have wn:=NP (gl:=gl);have hg:∀x∈[Ty.mk 1 []],x.small:=by intro x hx;rw[List.mem_singleton.1 hx];exact B5
 have wt:=QD (gl:=gl) b l hl 2 dD (Ty.mk 1 []) [Ty.mk 1 []] p B5 hg sS hp;unfold aB;generalize CZ l 2 (Ty.mk 1 []) [Ty.mk 1 []] p=xd at *;obtain⟨x,q⟩:=xd;simp only at wt ⊢;have wl:=CF (gl:=gl) (Ty.mk 1 []) x;have Dx:=Tm.fold x;have Gz:=Tm.fold (Tm.mk 2 0 (Ty.mk 1 []) [x]);generalize Tm.mk 2 0 (Ty.mk 1 []) [x]=y at *;have e1:(Ty.mk 1 []).dv = .agg [A0 1,.sl []]:=rfl;have e2:List.map Ty.cells [Ty.mk 1 []]=[[A0 1,.sl []]]:=rfl;rw[e1]at wn wt wl;rw[e2]at wt;refine A6 Tryz.func23 ?_;intro X hP u6 hf u8 hn hR u5 u4;refine A2 ?_;refine WA @Dx wn wn wn wt wl ?_;exact AY [(b,CL l q)] tT
theorem yO (l:List Int){p:Nat}(hp:p<=l.length):∃F:BH []->(T.fn .nat .nat).V,Dn [] (aB l p).1 (O4 [.nat] .nat) F/\(aB l p).1.count<=1500/\(aB l p).2<=l.length:=by
 have hg:∀x∈[Ty.mk 1 []],x.small:=by intro x hx;rw[List.mem_singleton.1 hx];exact B5
 obtain⟨F,hF⟩:=WQ l 2 B5 hg hp (G:=[.nat]) (a:=.nat) rfl rfl;have hc:=LW l 2 (Ty.mk 1 []) [Ty.mk 1 []] p B5 hg hp;rw[show cS 2=485 from rfl]at hc;have hle:=(FY dG 2 (Ty.mk 1 []) [Ty.mk 1 []] p B5 hg hp).1;refine⟨_,.lam (a:=.nat) (by unfold T.ok;decide) hF,?_,hle⟩;show 1+((CZ l 2 (Ty.mk 1 []) [Ty.mk 1 []] p).1.count+0)<=1500;omega
end
end Go.Proofs.YtkfiobkjflmchaaGreatDoor.Lift
