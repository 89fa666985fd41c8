import Derived.Test.YtoniciijokeidaaGreatDoorQn10
set_option maxHeartbeats 8000000
set_option maxRecDepth 100000
set_option linter.unusedSimpArgs false
set_option linter.unusedVariables false
set_option linter.unnecessarySimpa false
namespace Go.Proofs.YtoniciijokeidaaGreatDoor.Lift
open Go
section
variable {gl:AF}
theorem gE {E:Nat}{full:List (List DV)}(hE:∀e∈full,e.length=E){i:Nat}{e:List DV}(h:full[i]? = some e):GZ (((AM full).drop (i * E)).take E)=some e:=by
 have he:=hE e (uE h);have h1:((AM full).drop (i * E)).take E=e.map SV.v:=by
  apply List.ext_getElem?;intro j;by_cases hj:j<E
  ·rw[List.getElem?_take_of_lt hj,List.getElem?_drop];have Yv:e[j]? = some (e[j]'oO):=uB oO;simp only[AM,List.getElem?_map,L0 hE h Yv,Yv]
  ·rw[List.getElem?_eq_none (by simp;omega),List.getElem?_eq_none (by simp;omega)]
 rw[h1];exact kR e
theorem vY (d:Nat)(ys:List (List DV)):ED d (AM ys)=false:=fQ d _
attribute [go_sem] vY
theorem zbt (σ:Nat->Nat)(l:List DV):KN σ (l.map SV.v) (l.map SV.v):=by
 induction l with
 | nil=>simp[KN]
 | cons x r ih=>simp[KN,R9,ih]
theorem JZ (σ:Nat->Nat)(ys:List (List DV)):KN σ (AM ys) (AM ys):=zbt σ _
def FX:List T->Nat
 | []=>0
 | a::r=>a.size+FX r
theorem MQ (l r:List T):FX (l++r)=FX l+FX r:=by
 induction l with
 | nil=>simp[FX]
 | cons a l ih=>simp[FX,ih];omega
theorem zbu (a:T):1<=a.size:=by cases a <;> simp only[T.size] <;> omega
theorem T7 (l:List T):l.length<=FX l:=by
 induction l with
 | nil=>simp[FX]
 | cons a l ih=>have:=zbu a;simp only[FX,List.length_cons];omega
def T.parts:T->List T
 | .pair a b=>[a,b]
 | _=>[]
theorem vZ (a:T)(h:a.plain):FX a.parts+1=a.size:=by
 cases a with
 | pair a b=>simp only[T.parts,FX,T.size];omega
 | fn a b=>exact h.elim
 | _=>rfl
theorem oB (a:T)(h:a.plain):∀x∈a.parts,x.plain:=by
 cases a with
 | pair a b=>intro x hx;simp[T.parts]at hx;rcases hx with rfl|rfl;exact h.1;exact h.2
 | fn a b=>exact h.elim
 | _=>intro x hx;simp[T.parts]at hx
theorem wA (a:T)(h:a.plain):a.ty.args.map Ty.cells=a.parts.map fun x=>x.ty.cells:=by
 cases a with
 | fn a b=>exact h.elim
 | _=>rfl
theorem z4l (a:T):a.parts.length<=2:=by cases a <;> simp[T.parts]
theorem wB (a:T)(h:a.plain):¬a.ty.kind=4:=by
 cases a with
 | fn a b=>exact h.elim
 | _=>simp[T.ty,Ty.kind]
def E3 (l:List T):List (List DV):=l.map fun x=>x.ty.cells
theorem wC (l:List T):(E3 l).length=l.length:=by simp[E3]
theorem QO (l:List T):∀e∈E3 l,e.length=2:=by
 intro e he;simp only[E3,List.mem_map]at he;obtain⟨x,-,rfl⟩:=he;exact Ty.length_cells _
theorem T8 {full:List (List DV)}{init parts:List T}(h:full.take init.length=E3 init)(rest:List (List DV)):(full.take init.length++E3 parts++rest).take (init++parts).length=E3 (init++parts):=by
 rw[h];have e:E3 init++E3 parts=E3 (init++parts):=by simp[E3]
 rw[e];exact List.take_left' (wC _)
theorem WC {full:List (List DV)}{n:Nat}{zs rest:List (List DV)}(h:∀e∈full,e.length=2)(h1:∀e∈zs,e.length=2)(h2:∀e∈rest,e.length=2):∀e∈full.take n++zs++rest,e.length=2:=by
 intro e he;rcases List.mem_append.1 he with he|he
 ·rcases List.mem_append.1 he with he|he;· exact h e (List.mem_of_mem_take he)
  ·exact h1 e he
 ·exact h2 e he
theorem zbv {α:Type}{X:Ctx}{k kk:List Item}{s:St}(E:α->Prop)(S:α->St)(h1:(∀x,E x->W X kk (S x))->W X k s)(h2:∀x,E x->W X kk (S x)):W X k s:=h1 h2
theorem wD (a0:T)(hp0:a0.plain)(Cb:a0.size<=1000000)(b0 lp:Nat)(r:Loop)(Ka:r.params.size=1) :
  ItC Tryz.prog gl 138 [.prim (.func (.yield lp) #[] #[]),BC b0] [(b0,a0.ty.cells)] lp r (fun D0 w0=>∀a:T,a.plain->YC Tryz.prog gl D0 w0 lp r [a.ty.dv] [] fun b Ae r'=>b=true/\Ae=[]/\r' = r) (fun Ae r'=>Ae=[(b0,a0.ty.cells)]/\r' = r):=by
 refine SQ Tryz.func138 rfl kK (uF rfl) ?_;intro X hP u7 hf u9 hn Ft u6 u5 Rf hY;have Bc:¬lp=b0:=by simpa using Rf
 have Ax:¬b0=lp:=fun e=>Bc e.symm;simp only[RU,OY,QX,D9,List.map_cons,List.map_nil,List.cons_append,List.nil_append];have Gr:=Ty.cells_eq a0.ty;refine BK ?_;refine AQ [6] fun K hK=>?_;simp[go_sem,hP,u7,hn,Bc,Ax,Gr];refine n7 (E:=2) (els:=[[A0 a0.ty.kind,.sl (a0.ty.args.map Ty.cells)]]) (by simp[go_sem,hP];rfl) (by simp[go_sem,hP,u7,hn]) ⟨rfl,dD⟩ (by rw[hn];exact uF rfl) (by rfl) ?_;intro b hb hw;simp[go_sem]at hb;simp[go_sem,hP,u7,hn,Bc,Ax,hb];repeat (refine⟨oO,?_⟩)
 refine hK _ ?_;clear hK K;have Cx:¬b=lp:=fun e=>hb.1 e.symm;have Bt:¬b=b0:=fun e=>hb.2 e.symm;refine BK ?_
 refine GH [] (by simp[go_sem]) (by simp[go_sem,Cx,Bt,hb,Bc,Ax,E3,Gr,JZ]) (by simp[go_sem]) (CH
  (fun x:Nat × Nat × List (List DV) × List T=>x.2.2.1.length=x.2.1/\(∀e∈x.2.2.1,e.length=2)/\x.2.2.1.take x.2.2.2.length=E3 x.2.2.2/\x.2.2.2.length<=x.2.1/\(∀a∈x.2.2.2,a.plain)/\FX x.2.2.2<=1000000/\¬x.1=lp/\¬x.1=b0)
  (fun x=>[(.slot 0,.one (.v (.prim (.func (.yield lp) #[] #[])))),(.slot 1,.one (.v (BC b0))),(.slot 3,.one (.v (KK x.1 x.2.2.2.length x.2.1))),(.heap lp,.ob r),(.heap b0,.row [.v (A0 a0.ty.kind),.v (.sl (a0.ty.args.map Ty.cells))]),(.heap x.1,.row (AM x.2.2.1))])
  (fun x=>FX x.2.2.2) (b,1,E3 [a0],[a0]) ⟨rfl,QO _,rfl,Nat.le_refl _,by simpa using hp0,by simpa [FX] using Cb,Cx,Bt⟩ ?_)
 clear hb Cx Bt b hw;rintro⟨b,cap,full,rest⟩ ⟨i1,i2,i3,i4,i5,i6,i7,i8⟩ ih;simp only at i1 i2 i3 i4 i5 i6 i7 i8;have Jd:¬lp=b:=fun e=>i7 e.symm;have Iz:¬b0=b:=fun e=>i8 e.symm;rcases List.eq_nil_or_concat rest with rfl|⟨init,a,Ac⟩
 ·refine AX (j6 @Bc @Ax @i7 @i8 @Jd @Iz) ?_;refine B6 ?_;refine BK ?_;refine SO Ft (φ:=[(b0,a0.ty.cells)]) (q:=r) (r:=.tup []) (by rw[hP,hf,u9];exact Tryz.func138) (by rw[u9];simp[go_sem]) (AO ?_ (by simp[BP])) sS ?_ ⟨rfl,rfl⟩ V5;· simp[go_sem,Bc,Ax,i7,i8,Jd,Iz,Gr]
  ·simp[go_sem,Bc,Ax,i7,i8,Jd,Iz]
 ·rw[List.concat_eq_append]at Ac;subst Ac;have ha:=i5 a sS;have Kw:(init++[a]).length=init.length+1:=sS;have hls:=T7 (init++[a]);rw[Kw]at hls i3 i4;rw[Kw];have Al:init.length+1<=HL:=by unfold HL;omega
  have Cy:full[init.length]? = some a.ty.cells:=by
   have h1:(full.take (init.length+1))[init.length]? = some a.ty.cells:=by rw[i3];simp[E3]
   rw[List.getElem?_take_of_lt oO]at h1;exact h1
  have Hl:=gE i2 Cy;rw[Ty.cells_eq a.ty]at Hl;have hps':=vZ a ha;have Fe:=z4l a;have u8:=wA a ha;have Bb:=MQ init [a];have hsz2:=MQ init a.parts;simp only[FX]at Bb;have Wm:=T7 (init++a.parts);rw[List.length_append]at Wm;have Nl:=Ty.fold a.ty;have Tz:E3 a.parts=a.ty.args.map Ty.cells:=u8.symm;have Um:(AM full).length=cap * 2:=by rw[F6 i2,i1]
  refine AX (j7 @Al @Bc @Ax @i7 @i8 @Jd @Iz) ?_;refine AE ?_;have Ag:((init.length:Nat):Int)<(init.length:Nat)+1:=oO;refine AX (j8 @Al @Bc @Ax @i7 @i8 @Jd @Iz @Hl) ?_;have Np:init.length+(a.ty.args.map Ty.cells).length<=HL:=by
   rw[u8,List.length_map];unfold HL;omega
  have Vp:∀e∈a.ty.args.map Ty.cells,e.length=2:=by rw[u8];exact QO a.parts
  have Gk:(a.ty.args.map Ty.cells).length=a.parts.length:=by rw[u8,List.length_map]
  have Bz:(init++a.parts).length=init.length+a.parts.length:=List.length_append;have Pn:full.take init.length=E3 init:=by
   have h1:(full.take (init.length+1)).take init.length=(E3 (init++[a])).take init.length:=by rw[i3]
   rw[List.take_take,Nat.min_eq_left oO]at h1;rw[h1];simp[E3]
  generalize a.ty.args.map Ty.cells=zs at *
  apply zbv (fun x:Nat × Nat × List (List DV)=>x.2.2.length=x.2.1/\(∀e∈x.2.2,e.length=2)/\x.2.2.take (init++a.parts).length=E3 (init++a.parts)/\(init++a.parts).length<=x.2.1/\¬x.1=lp/\¬x.1=b0)
   (fun x=>[(.slot 0,.one (.v (.prim (.func (.yield lp) #[] #[])))),(.slot 1,.one (.v (BC b0))),(.slot 3,.one (.v (KK x.1 (init++a.parts).length x.2.1))),(.slot 4,.one (.loc 4 0)),(.loc 4,.row [.v (A0 a.ty.kind),.v (.sl zs)]),(.heap lp,.ob r),(.heap b0,.row [.v (A0 a0.ty.kind),.v (.sl (a0.ty.args.map Ty.cells))]),(.heap x.1,.row (AM x.2.2))])
  ·intro Ac;refine BK ?_;refine j0 (by rw[hP];exact AZ) 7 ?_ ?_ [] [23] fun K hK=>?_;· decide
   ·rfl
   simp[go_sem,hP,u7,hn,Al,Bc,Ax,i7,i8,Jd,Iz,Hl];repeat (refine⟨oO,?_⟩)
   refine⟨by rfl,?_⟩;refine Y5 (E:=2) (B:=32) (b:=b) (n:=init.length) (cap:=cap) (full:=full) (zs:=zs) (zd:=[A0 0,.sl []]) (by simp[go_sem,hP,u7,hn]) (by simp[go_sem,hP,u7,hn]) (by simp[go_sem,Bc,Ax,i7,i8,Jd,Iz]) (by simp[go_sem,hP]) (by rw[hP];kernel_rfl) rfl ⟨dD,dD⟩ (by rw[hP];rfl) (by rw[hn];exact uF rfl) i1 oO Np i2 Vp rfl ?_ ?_
   ·intro hle;simp[go_sem,hP,u7,hn,Bc,Ax,i7,i8,Jd,Iz];refine hK _ ?_;clear hK K;rw[Gk]at hle;have q1:(full.take init.length++zs++full.drop (init.length+zs.length)).length=cap:=by
     simp only[List.length_append,List.length_take,List.length_drop,i1,Gk];omega
    have q2:=WC (n:=init.length) i2 Vp (rest:=full.drop (init.length+zs.length)) fun e he=>i2 e (List.mem_of_mem_drop he);have q3:=T8 (parts:=a.parts) Pn (full.drop (init.length+zs.length));rw[Tz]at q3;have q4:(init++a.parts).length<=cap:=by rw[Bz];exact hle
    have q5:init.length+zs.length=(init++a.parts).length:=by rw[Bz,Gk]
    have Am:=Ac (b,cap,_) ⟨q1,q2,q3,q4,i7,i8⟩;simp only at Am;rw[<- q5]at Am;rw[List.append_assoc]at Am;generalize full.take init.length++(zs++full.drop (init.length+zs.length))=fl at *;refine K0 ?_;refine AC [] (j7 @Bc @Ax @i7 @i8 @Jd @Iz @JZ) Am
   ·intro Ag b' Au hc Ab hw';simp[go_sem]at Ab;simp[go_sem,hP,u7,hn,Bc,Ax,i7,i8,Jd,Iz,Ab];refine hK _ ?_;clear hK K;have k1:¬b' = lp:=fun e=>Ab.1 e.symm;have k2:¬b' = b0:=fun e=>Ab.2.1 e.symm;have k3:¬b=b':=fun e=>Ab.2.2 e;have q1:(full.take init.length++zs++List.replicate (Au - (init.length+zs.length)) [A0 0,DV.sl []]).length=Au:=by
     simp only[List.length_append,List.length_take,List.length_replicate,i1];omega
    have q2:=WC (n:=init.length) i2 Vp (rest:=List.replicate (Au - (init.length+zs.length)) [A0 0,DV.sl []]) fun e he=>by rw[(List.mem_replicate.1 he).2];rfl
    have q3:=T8 (parts:=a.parts) Pn (List.replicate (Au - (init.length+zs.length)) [A0 0,DV.sl []]);rw[Tz]at q3;have q5:init.length+zs.length=(init++a.parts).length:=by rw[Bz,Gk]
    have q4:(init++a.parts).length<=Au:=by rw[<- q5];exact hc
    have Am:=Ac (b',Au,_) ⟨q1,q2,q3,q4,k1,k2⟩;simp only at Am;rw[<- q5]at Am;rw[List.append_assoc]at Am;generalize full.take init.length++(zs++List.replicate (Au - (init.length+zs.length)) [A0 0,DV.sl []])=fl at *;refine K0 ?_;refine AC [] (j8 @Bc @Ax @i7 @i8 @Jd @Iz @Ab (j4 @k1 @k2 @k3 @JZ)) Am
  ·rintro⟨b',Au,Kr⟩ ⟨w1,w2,w3,w4,w5,w6⟩;simp only at w1 w2 w3 w4 w5 w6 ⊢;have Lh:¬lp=b':=fun e=>w5 e.symm;have Lj:¬b0=b':=fun e=>w6 e.symm;have w7:∀x∈init++a.parts,x.plain:=by
    intro x hx;rcases List.mem_append.1 hx with hx|hx;· exact i5 x (by simp[hx])
    ·exact oB a ha x hx
   have w8:FX (init++a.parts)<=1000000:=oO;have w9:FX (init++a.parts)<FX (init++[a]):=oO;have Am:=ih (b',Au,Kr,init++a.parts) ⟨w1,w2,w3,w4,w7,w8,w5,w6⟩ w9;simp only at Am;generalize hnn:(init++a.parts).length=nn at *;refine BK ?_;first|refine AQ [] fun K hK=>?_|refine AL (by rw[hP];exact AZ) [] fun K hK=>?_
   refine QY (j7 @Bc @Ax @w5 @w6 @Lh @Lj @Nl) ?_;repeat (refine⟨oO,?_⟩)
   refine Q7 (by simp[go_sem]) hP u7 (hY a ha) Ka (by simp[go_sem,Bc,Ax,w5,w6,Lh,Lj,Nl]) rfl (by simp[BP]) sS (by simp[go_sem,Bc,Ax,w5,w6,Lh,Lj]) (by rw[hn];exact uF rfl) [(.slot 0,.one (.v (.prim (.func (.yield lp) #[] #[])))),(.slot 1,.one (.v (BC b0))),(.slot 3,.one (.v (KK b' nn Au))),(.heap b0,.row [.v (A0 a0.ty.kind),.v (.sl (a0.ty.args.map Ty.cells))]),(.heap b',.row (AM Kr))] ?_ ?_ ?_
   ·intro m v h;simp only[List.mem_cons,List.not_mem_nil,or_false,uD]at h;rcases h with⟨rfl,rfl⟩|⟨rfl,rfl⟩|⟨rfl,rfl⟩|⟨rfl,rfl⟩|⟨rfl,rfl⟩ <;> simp[go_sem,Bc,Ax,w5,w6,Lh,Lj]
   ·rintro _ _ _ ⟨rfl,rfl,rfl⟩;simp
   ·rintro _ _ _ ⟨rfl,rfl,rfl⟩ -;simp only[List.cons_append,List.nil_append];simp[go_sem,hP,u7,hn];refine F1 ?_;clear hK K;refine B6 ?_;refine K0 ?_;refine AC [] (j7 @Bc @Ax @w5 @w6 @Lh @Lj @JZ) Am
theorem SH (a:T):Con Tryz.prog gl 104 [a.ty.dv] [] fun r φ=>∃b,r = .prim (.func (.func 138) #[] #[.pointer (some ⟨b,0,none⟩)])/\φ=[(b,a.ty.cells)]:=by
 have Gr:=Ty.cells_eq a.ty;refine A8 Tryz.func104 ?_;intro X hP u7 hf u9 hn hR u6 u5;refine A2 ?_;refine EC 1 (by simp[go_sem];rfl) ?_;intro b hb;simp[go_sem];refine A2 ?_;refine BK ?_;refine WZ hP hf u9 (.prim (.func (.func 138) #[] #[.pointer (some ⟨b,0,none⟩)])) [(b,a.ty.cells)] (by simp[go_sem,hP,u7,hn]) (by simp[go_sem,Gr]) sS (by rw[hR.1];exact⟨b,rfl,rfl⟩) hR.2
theorem T9 (a:T)(hp:a.plain)(ho:a.ok):cT gl 56 [a.ty.dv] [] (.tup [AK true,A0 0]) []:=by
 have hs:a.size<=64:=ho;have hc:=T.ty_count a;have h0:a.ty.checkN=0:=(Ty.checkN_iff _).2 (T.ok_ty ho);have wc:=E1 (gl:=gl) a.ty oO;rw[h0]at wc;have fa:=Ty.fold a.ty;have Gr:=Ty.cells_eq a.ty;refine A8 Tryz.func56 ?_;intro X hP u7 hf u9 hn hR u6 u5;refine A4 ?_;refine A3 @fa wc ?_;refine A4 ?_;refine BK ?_;first|refine AQ [] fun K hK=>?_|refine AL (by rw[hP];exact AZ) [] fun K hK=>?_
 refine KI ?_;repeat (refine⟨oO,?_⟩)
 refine P5 hP u7 (SH a) (by simp[go_sem]) rfl (by simp[go_sem]) sS (by rw[hn];exact uF rfl) ?_;rintro r ψ ⟨b0,rfl,rfl⟩ -;simp[go_sem];refine F1 ?_;clear hK K;refine BK ?_;refine O9 hR.2 (f:=138) (fi:=#[]) (ca:=#[.pointer (some ⟨b0,0,none⟩)]) (by simp[go_sem]) (by simp[FR]) (φ:=[(b0,a.ty.cells)]) ?_ ?_ (Y:=fun lp r D0 w0=>∀x:T,x.plain->YC X.P X.gl D0 w0 lp r [x.ty.dv] [] fun b Ae r'=>b=true/\Ae=[]/\r' = r) (R:=fun Ae r'=>Ae=[(b0,a.ty.cells)]/\r'.state = .ready/\r'.pending=none) (SL:=[]) ?_ ?_ ?_ ?_ ?_;· exact AO (by simp[go_sem,Gr]) (by simp[BP])
 ·simp
 ·intro n x h;cases h
 ·intro lp r h1 h2 h3 h4;have:=wD (gl:=gl) a hp oO b0 lp r (by rw[h3];rfl);rw[hP,u7];refine⟨this.1,fun D w vs a1 a2 a3 a4 a5 a6=>(this.2 D w vs a1 a2 a3 a4 a5 a6).mono ?_⟩;rintro e w' ⟨v1,D',Ae,r',rfl,Uw,rest⟩;refine⟨v1,D',Ae,r',rfl,?_,rest⟩;obtain⟨rfl,rfl⟩:=Uw;exact⟨rfl,h1,h2⟩
 ·intro lp r D0 w0 h1 h2 h3 h4 h5 h6 h7 h8 h9 x hx;rw[hP,u7];refine VG X.n h5 h9 h1 (by rw[h3];rfl) (by rw[h3,hn];decide) (by rw[h3];decide) (by rw[h3];simp) ?_;intro X' Uq Mh hf' Lx En Bw Ha Ox;rw[h3,h6,h7];rw[hn]at Lx;clear hP u7 hn;have hP:=Uq;have u7:=Mh;have hn:=Lx;have hk:=wB x hx;have fx:=Ty.fold x.ty;simp only[OK,h3,VF,Q6,D9,List.cons_append,List.nil_append,List.map_nil];refine A2 ?_;refine VE (r:=r) (l:=lp) (by simp[Ctx.rd,En]) (by simp[go_sem]) h1 ?_;simp[go_sem];refine A2 ?_;refine BK ?_;refine BN rfl ?_ ?_;· intro h;exact absurd (by simpa using h) hk
  intro _;refine BK ?_;refine PY En (φ:=[]) (by simp[BP]) sS (by simp[go_sem]) none rfl ?_;simp only[Option.isNone_none,true_and];cases r;simp only[NG]at h1 h2 ⊢;subst h1 h2;rfl
 ·rintro Ae r' ⟨-,h,-⟩;rw[h];simp
 ·rintro Ae r' ⟨rfl,-,h⟩ -;rw[h];simp[go_sem];refine A2 ?_;exact BR
theorem cU (n:Nat):(MV.num n).thing = .iface 3 (A0 (n:Int)):=by rw[MV.thing]
theorem YK (l:List Nat):(MV.list l).thing = .iface 199 (C8 l):=by rw[MV.thing]
theorem YL (a b:MV):(MV.both a b).thing = .iface 205 (.ref [a.thing,b.thing]):=by rw[MV.thing]
theorem YM:MV.unit.thing = .iface 209 (.agg []):=by rw[MV.thing]
theorem jM (n:Nat):cT gl 144 [(MV.num n).thing] [] (Val.mk 1 (n:Nat) [] []).dv []:=by
 rw[cU];refine A8 Tryz.func144 ?_;intro X hP u7 hf u9 hn hR u6 u5;refine A4 ?_;exact B9
theorem eT:cT gl 144 [MV.unit.thing] [] (Val.mk 4 0 [] []).dv []:=by
 rw[YM];refine A8 Tryz.func144 ?_;intro X hP u7 hf u9 hn hR u6 u5;refine A4 ?_;exact B9
theorem z4m (l:List Nat)(n:Nat):AP (List.map Int.ofNat l)++[[A0 (n:Int)]]=AP (List.map Int.ofNat (l++[n])):=by simp[AP]
theorem eU (l:List Nat)(hl:l.length<=1073741824):cT gl 144 [(MV.list l).thing] [] (Val.mk 2 0 (List.map Int.ofNat l) []).dv []:=by
 rw[YK];refine A8 Tryz.func144 ?_;intro X hP u7 hf u9 hn hR u6 u5;refine A4 ?_;refine BK ?_;refine AC [(1005,0)] @AP.eq_1 (CH (fun x:List Nat × List Nat=>x.1++x.2=l) (fun x:List Nat × List Nat=>[sV 4 (C8 x.2),sP 5,sL 5 [.v (A0 2),.v (A0 0),.own 1005 (AP (x.1.map Int.ofNat)),.own 0 []],(.tok 1005,.tk 1 x.1.length),sP 2,sL 2 [.v (A0 0),.v (A0 0),.own 0 [],.own 0 []]]) (fun x:List Nat × List Nat=>x.2.length) (([]:List Nat),l) (rfl) ?_);rintro⟨ds,q⟩ hq ih;simp only at hq;have hql:ds.length+q.length=l.length:=by rw[<- hq];simp
 cases q with
 | nil=>
  have Mm:=T5;rw[Mm];have Fs:ds=l:=by rw[<- hq];simp
  subst Fs;refine A2 ?_;refine B6 ?_;refine A4 ?_;exact B9
 | cons n q=>
  have Mm:=NT n q;have hon:=z4m ds n;have hw1:∀e:List DV,e∈AP (List.map Int.ofNat ds)->e.length=1:=by intro e he;simp only[AP,List.mem_map]at he;obtain⟨x,-,rfl⟩:=he;rfl
  have Fu:(AP (List.map Int.ofNat ds)).length=ds.length:=by simp[AP]
  have Ci:ds.length<=2147483647:=by simp at hql;omega
  have e2:(ds++[n])++q=l:=by rw[<- hq];simp
  have e3:q.length<(n::q).length:=sS;have Gf:(ds++[n]).length=ds.length+1:=sS;have hl3:(AP (List.map Int.ofNat (ds++[n]))).length=ds.length+1:=by simp[AP]
  have Ux:=ih (ds++[n],q) e2 e3;rw[<- hon]at Ux;simp only[Gf]at Ux;rw[Mm];generalize AP (List.map Int.ofNat ds)=L at *;refine A2 ?_;refine AE ?_;refine AX (j3 @Ci @hw1 @Fu) ?_;refine A2 ?_;refine K0 ?_;refine AC [(1005,30)] @Fu Ux
theorem eV (a b:T)(x y:MV)(v w:Val)(h1:cT gl 144 [x.thing] [] v.dv [])(h2:cT gl 144 [y.thing] [] w.dv []) :
  cT gl 144 [(MV.both x y).thing] [] (Val.mk 3 0 [] [v,w]).dv []:=by
 rw[YL];have fv:=Val.fold v;have fw:=Val.fold w;refine A8 Tryz.func144 ?_;intro X hP u7 hf u9 hn hR u6 u5;refine A4 ?_;refine EW tT h1 h2 ?_;exact B9
theorem LD:∀(a:T) (x:a.V),a.plain->(PR a x).nle 1073741824->cT gl 144 [(PR a x).thing] [] (C5 a x).dv []
 | .nat,n,_,_=>jM n
 | .list,l,_,h=>eU l (by simp only[PR,MV.nle]at h;exact h.1)
 | .unit,_,_,_=>eT
 | .pair a b,p,hp,h=>by
  simp only[PR,MV.nle]at h;exact eV a b _ _ _ _ (LD a p.1 hp.1 h.1) (LD b p.2 hp.2 h.2)
 | .fn _ _,_,hp,_=>hp.elim
theorem oC (n:Nat):cT gl 141 [(Val.mk 1 (n:Nat) [] []).dv] [] (MV.num n).thing []:=by
 rw[cU];refine A8 Tryz.func141 ?_;intro X hP u7 hf u9 hn hR u6 u5;refine A4 ?_;exact BR
theorem jN:cT gl 141 [(Val.mk 4 0 [] []).dv] [] MV.unit.thing []:=by
 rw[YM];refine A8 Tryz.func141 ?_;intro X hP u7 hf u9 hn hR u6 u5;refine A4 ?_;exact BR
theorem jO (x y:MV)(v w:Val)(h1:cT gl 141 [v.dv] [] x.thing [])(h2:cT gl 141 [w.dv] [] y.thing []) :
  cT gl 141 [(Val.mk 3 0 [] [v,w]).dv] [] (MV.both x y).thing []:=by
 rw[YL];have fv:=Val.fold v;have fw:=Val.fold w;have lv:=Val.length_cells v;have lw:=Val.length_cells w;refine A8 Tryz.func141 ?_;intro X hP u7 hf u9 hn hR u6 u5;refine A4 ?_;refine BK ?_;refine AL (by rw[hP];exact AZ) [34] fun K hK=>?_;simp[go_sem,hP,u7,hn,fv,fw,lv,lw];refine FF (j2 @fv @fw) (h1) ?_;refine FF (j2 @fv @fw) (h2) ?_;refine IE (cs:=[x.thing,y.thing]) (y:=.ag [x.thing,y.thing] []) (fun _ _=>D8) (by simp[go_sem,hP,u7,hn]) (by simp[go_sem]) (by simp[go_sem]) (by rw[hn];exact uF rfl) (by rfl) ?_;simp[go_sem,hP,u7,hn];refine F1 ?_;clear hK K;exact BR
theorem jP (l:List Nat):cT gl 141 [(Val.mk 2 0 (List.map Int.ofNat l) []).dv] [] (MV.list l).thing []:=by
 rw[YK];have Hc:(List.map Int.ofNat l).length=l.length:=sS;refine A8 Tryz.func141 ?_;intro X hP u7 hf u9 hn hR u6 u5;have Gf:=Val.fit_list (u5 (Val.mk 2 0 (List.map Int.ofNat l) []).dv sS);rw[show (Val.mk 2 0 (List.map Int.ofNat l) []).list=List.map Int.ofNat l from rfl]at Gf;refine A4 ?_;refine BK ?_;first|refine AQ [] fun K hK=>?_|refine AL (by rw[hP];exact AZ) [] fun K hK=>?_
 refine KI ?_;repeat (refine⟨oO,?_⟩)
 refine P5 hP u7 (mW (List.map Int.ofNat l)) (by simp[go_sem]) rfl (by simp[go_sem]) sS (by rw[hn];exact uF rfl) ?_;rintro r ψ ⟨b0,rfl,rfl⟩ -;simp[go_sem];refine F1 ?_;clear hK K;refine BK ?_;refine EC 3 (by simp[go_sem];rfl) ?_;intro b3 hb;simp[go_sem]at hb ⊢;have Ab:b0≠b3:=hb
 let Φ:Nat->BU:=fun i=>[(b3,[C8 (l.drop i)])]
 have hlast:C8 (l.drop l.length)=AV:=by rw[List.drop_length];rfl
 refine O9 hR.2 (f:=183) (fi:=#[]) (ca:=#[.pointer (some ⟨b0,0,none⟩)]) (by simp[go_sem]) (by simp[FR]) (φ:=(b0,[.sl (AP (List.map Int.ofNat l))])::Φ l.length) ?_ ?_ (Y:=zix X.P X.gl (List.map Int.ofNat l) Φ (fun _ _=>False)) (R:=fun Ae r'=>Ae=(b0,[.sl (AP (List.map Int.ofNat l))])::Φ 0/\r'.state = .ready/\r'.pending=none) (SL:=[(3,BC b3)]) ?_ ?_ ?_ ?_ ?_
 ·refine AO (by simp[go_sem]) (AO ?_ (by simp[BP]));simp only[hlast];simp[go_sem,Ab]
 ·simp[Φ,Ab]
 ·intro n x h;simp only[List.mem_singleton,uD]at h;obtain⟨rfl,rfl⟩:=h;simp[go_sem]
 ·intro lp r h1 h2 h3 h4;have:=z3a (gl:=gl) (List.map Int.ofNat l) oO b0 Φ (fun _=>rfl) (by simp[Φ]) (by simp[Φ];exact Ab) (Stop:=fun _ _=>False) (fun _ _ h=>h.elim) lp r (by rw[h3];rfl);rw[Hc]at this;rw[hP,u7];refine⟨this.1,fun D w vs a1 a2 a3 a4 a5 a6=>(this.2 D w vs a1 a2 a3 a4 a5 a6).mono ?_⟩;rintro e w' ⟨v1,D',Ae,r',rfl,Uw,rest⟩;refine⟨v1,D',Ae,r',rfl,?_,rest⟩;rcases Uw with⟨rfl,rfl⟩|⟨ψ,-,h⟩;· exact⟨rfl,h1,h2⟩
  ·exact h.elim
 ·intro lp r D0 w0 h1 h2 h3 h4 h5 h6 h7 h8 h9 i x hx;rw[hP,u7];refine VG X.n h5 h9 h1 (by rw[h3];rfl) (by rw[h3,hn];decide) (by rw[h3];decide) (by rw[h3];simp) ?_;intro X' Uq Mh hf' Lx En Bw Ha Ox;rw[h3,h6,h7]
  obtain⟨n,rfl,Zh⟩:∃n:Nat,x=Int.ofNat n/\l.drop i=n::l.drop (i+1):=by
   obtain⟨hi,hxx⟩:=uA hx;have Gg:i<l.length:=by simpa using hi
   refine⟨l[i],?_,List.drop_eq_getElem_cons Gg⟩;rw[<- hxx];simp
  rw[hn]at Lx;clear hP u7 hn;have hP:=Uq;have u7:=Mh;have hn:=Lx;have Iu:lp≠b3:=by simpa [Φ] using Ha
  have Mm:=NT n (l.drop (i+1));simp only[OK,Φ,h3,VF,Q6,D9,List.cons_append,List.nil_append];refine AX @Iu ?_;refine VE (r:=r) (l:=lp) (by simp[Ctx.rd,En]) (by simp[go_sem]) h1 ?_;simp[go_sem,Iu,Iu.symm];refine BK ?_;refine AQ [18] fun K hK=>?_;simp[go_sem,hP,u7,hn,Iu,Iu.symm];refine KF (cs:=[A0 (n:Int),C8 (l.drop (i+1))]) (y:=.ag [A0 (n:Int),C8 (l.drop (i+1))] []) (by simp[go_sem,hP,u7,hn]) (by simp[go_sem]) (by simp[go_sem]) (by rw[hn];exact uF rfl) (by rfl) ?_;simp[go_sem,hP,u7,hn,Iu,Iu.symm];refine F1 ?_;clear hK K;refine BK ?_;refine PY En (φ:=Φ i) ?_ (by simp[Φ]) (by simp[go_sem,Iu.symm]) none rfl ?_
  ·refine AO ?_ (by simp[BP]);rw[Zh,Mm];simp[go_sem,Iu,Iu.symm]
  ·simp only[Option.isNone_none,if_true,true_and];cases r;simp only[NG]at h1 h2 ⊢;subst h1 h2;rfl
 ·rintro Ae r' ⟨-,h,-⟩;rw[h];simp
 ·rintro Ae r' ⟨rfl,-,h⟩ -;rw[h];simp[go_sem,Φ,Ab,Ab.symm];refine AX @Ab ?_;exact BR
theorem M8:∀(a:T) (x:a.V),a.plain->cT gl 141 [(C5 a x).dv] [] (PR a x).thing []
 | .nat,n,_=>oC n
 | .list,l,_=>jP l
 | .unit,_,_=>jN
 | .pair a b,p,hp=>jO _ _ _ _ (M8 a p.1 hp.1) (M8 b p.2 hp.2)
 | .fn _ _,_,hp=>hp.elim
end
section
theorem cV:∀(a:T) {v:MV} {x:a.V},a.plain->Tl a v x->v=PR a x
 | .nat,_,_,_,h=>h
 | .list,_,_,_,h=>h
 | .unit,_,_,_,h=>h
 | .pair a b,v,p,hp,h=>by
  obtain⟨x,y,rfl,h1,h2⟩:=h;rw[cV a hp.1 h1,cV b hp.2 h2];rfl
 | .fn _ _,_,_,hp,_=>hp.elim
theorem wE:∀(a:T) (x:a.V),a.plain->Tl a (PR a x) x
 | .nat,_,_=>rfl
 | .list,_,_=>rfl
 | .unit,_,_=>rfl
 | .pair a b,p,hp=>⟨_,_,rfl,wE a p.1 hp.1,wE b p.2 hp.2⟩
 | .fn _ _,_,hp=>hp.elim
theorem oD {r:T}:∀(l:List T) (X:C3 l) {g:MV} {F:(RC l r).V},QH l->Tl (RC l r) g F->∃(w:MV) (c d0:Nat),(∀d,d0<=d->EG (NY d) g (EP l X)=some (w,c))/\Tl r w (nH l F X)
 | [],_,g,_,_,h=>⟨g,0,0,fun d _=>WB _ _,h⟩
 | a::l,X,g,F,hp,h=>by
  obtain⟨v,c1,d1,hv,h1⟩:=QM h (wE a X.1 hp.1);obtain⟨w,c2,d2,h2,hw⟩:=oD l X.2 hp.2.2 hv;exact⟨w,c1+c2,max d1 d2,fun d hd=>h1 d oO _ _ _ (h2 d oO),hw⟩
def WD (d:Nat)(t:Tm)(xs:List MV):Option (MV × Nat):=
 match NY d t [] with
 | none=>none
 | some (g,c1)=>match EG (NY d) g xs with
  | none=>none
  | some (w,c2)=>some (w,c1+c2)
theorem oE {d:Nat}{t:Tm}{xs:List MV}{w:MV}{c:Nat}(h:WD d t xs=some (w,c)):∃g c1 c2,NY d t []=some (g,c1)/\EG (NY d) g xs=some (w,c2)/\c=c1+c2:=by
 unfold WD at h;split at h;· cases h
 ·rename_i g c1 h1;split at h;· cases h
  ·rename_i w' c2 h2;cases h;exact⟨g,c1,c2,h1,h2,rfl⟩
theorem oF {t:Tm}{l:List T}{r:T}{F:C3 []->(RC l r).V}(h:Dn [] t (RC l r) F)(X:C3 l)(hp:QH l)(hr:r.plain) :
  ∃c d0,∀d,d0<=d->WD d t (EP l X)=some (PR r (nH l (F ()) X),c):=by
 obtain⟨g,c1,d1,h1,hg⟩:=zbh h (e:=[]) (ρ:=()) rfl;obtain⟨w,c2,d2,h2,hw⟩:=oD l X hp hg;have hw':=cV r hr hw;subst hw';refine⟨c1+c2,max d1 d2,fun d hd=>?_⟩;unfold WD;rw[h1 d oO];simp only;rw[h2 d oO]
def zhs (v:Val)(c:Nat)(work:Int):DV:=if (c:Int)<=work then .tup [v.dv,A0 (c:Int),A0 0] else .tup [DA.dv,A0 0,A0 5]
theorem zbw {v:Val}{c:Nat}{work:Int}(h:(c:Int)<=work):zhs v c work = .tup [v.dv,A0 (c:Int),A0 0]:=if_pos h
theorem zD {v:Val}{c:Nat}{work:Int}(h:¬(c:Int)<=work):zhs v c work = .tup [DA.dv,A0 0,A0 5]:=if_neg h
end
section
variable {gl:AF}
def LE (l:List MV):List (List DV):=l.map fun x=>[x.thing]
theorem wF:LE []=[]:=rfl
theorem wG (l:List MV):(LE l).length=l.length:=by simp[LE]
theorem wH (l:List MV):∀e∈LE l,e.length=1:=by
 intro e he;simp only[LE,List.mem_map]at he;obtain⟨x,-,rfl⟩:=he;rfl
theorem oG {l:List MV}{i:Nat}{v:MV}(h:l[i]? = some v):LE (l.take (i+1))=LE (l.take i)++[[v.thing]]:=by
 rw[List.take_add_one,h];simp[LE]
theorem Z1 (Bl:ET gl 0=some H1)(t:Tm)(l:List T)(r:T)(Z:C3 l)(y:r.V)(c d:Nat)(Dp:WD d t (EP l Z)=some (PR r y,c))(ht:t.checkN=0)(hi:t.inferN []=((RC l r).ty,0))(hl:QH l)(Hc:l.length<=1000000)(hr:r.plain)(Il:r.ok)(wk:Nat)(Sj:wk<=65536)(M:Nat)(hM:M<=1073000000)(hX:MV.nles M (EP l Z)) :
  cT gl 105 [t.dv,.sl ((I2 l Z).map Val.cells),A0 (wk:Int)] [] (zhs (C5 r y) c wk) []:=by
 obtain⟨g,c1,c2,e1,e2,rfl⟩:=oE Dp;have Gb:=R5 (gl:=gl) Bl t _ ht hi;have Xb:=UL l Z;have Rc:=XA l Z;have Av:=Tm.fold t;have Kc:(Ty.mk 0 []).cells=[A0 0,.sl []]:=rfl;have Eh:=Ty.fold (RC l r).ty;refine A8 Tryz.func105 ?_;intro X hP u7 hf u9 hn hR u6 u5;refine A4 ?_;refine A3 @Av Gb ?_;refine A4 ?_;refine BK ?_;refine AC [(1011,0)] (j2 @Xb @wF) (FD (l.length) (fun i=>True) (fun i=>[sV 2 (A0 (wk:Int)),sP 3,sL 3 [.v (A0 t.kind),.v (A0 t.index),.v (A0 t.type.kind),.v (.sl (t.type.args.map Ty.cells)),.v (.sl (t.args.map Tm.cells))],sP 6,sL 6 [.v (A0 0),.v (A0 0),.own 0 [],.own 0 []],sP 9,sL 9 [.v (A0 (RC (l.drop i) r).ty.kind),.v (.sl ((RC (l.drop i) r).ty.args.map Ty.cells))],(.slot 11,.one (.own 1011 (LE ((EP l Z).take i)))),(.tok 1011,.tk 1 i),sV 30 (.sl ((I2 l Z).map Val.cells)),sV 31 (A0 l.length),sV 32 (A0 i)]) (trivial) ?_ ?_)
 ·intro i hi _ Aa;obtain⟨a,x,g1,g2,g3,g4,g5⟩:=ZE (r:=r) l Z i hi hl;have Uk:(List.map Val.cells (I2 l Z))[i]? = some (C5 a x).cells:=by rw[List.getElem?_map,g1];rfl
  have Kq:=Val.fold (C5 a x);have Et:=Val.cells_eq (C5 a x);have hvc:=(LQ a x g4).2;have Bb:a.size<=64:=g5;have w1:=z9l (gl:=gl) (C5 a x) oO;rw[YB x g4 g5]at w1;have w2:=OD (gl:=gl) a.ty a.ty;rw[show a.ty.same a.ty=true from (Ty.same_iff _ _).2 rfl]at w2;have w3:=M8 (gl:=gl) a x g4;have hti:(RC (l.drop i) r).ty=Ty.mk 4 [a.ty,(RC (l.drop (i+1)) r).ty]:=by rw[g3,T.ty_fn]
  have Cy:=Ty.fold a.ty;have Hs:=oG g2;have Kw:(LE ((EP l Z).take i)).length=i:=by rw[wG,List.length_take];omega
  have Iq:=wH ((EP l Z).take i);have Bz:i<=2147483647:=oO;have hil2:i+1<=2147483647:=oO;generalize (RC (l.drop (i+1)) r).ty=ty' at *;generalize (RC (l.drop i) r).ty=ty0 at *;generalize a.ty=ta at *;generalize LE ((EP l Z).take i)=L at *;generalize LE ((EP l Z).take (i+1))=L' at *;subst hti;subst Hs;have Dg:=Ty.cells_eq ty';refine A2 ?_;refine AE ?_;refine A7 (j2 @Uk @Et) ?_;refine A3 @Kq w1 ?_;refine A4 ?_;refine A3 @Cy w2 ?_;refine A4 ?_;refine A3 (j5 @Kq @Iq @Kw @Bz @hil2) w3 ?_;refine CR (wr [(1011,62)]) @Dg @Kw (Aa tT)
 ·intro _;have Fc:RC (l.drop l.length) r=r:=by rw[List.drop_length];rfl
  have Nq:(EP l Z).take l.length=EP l Z:=by rw[<- Rc];exact List.take_length
  rw[Fc,Nq];have wd:=T9 (gl:=gl) r hr Il;have Eh:=Ty.fold r.ty;have hwn:¬((wk:Int)<0):=oO;have hwm:¬(65536<(wk:Int)):=oO;have HW:=XF (gl:=gl) (most:=wk) oO (fun ev h1 h2=>zbl oO h1 h2) d;have HN:=T3 wk d;have ng:=HN M e1 (by simp only[MV.nles]);refine A2 ?_;refine B6 ?_;refine A4 ?_;refine A3 @Eh wd ?_;refine A7 (j2 @hwn @hwm) ?_;refine EC 85 (by simp[go_sem];rfl) ?_;intro b hb;simp[go_sem]at hb ⊢;have we:=HW b M e1 (Nat.zero_le _) oO (by simp only[MV.nles]);have henv:MV.envM []=AV:=by rw[MV.envM]
  rw[henv,Nat.zero_add,AJ (Nat.zero_le _)]at we;by_cases Ar:c1<=wk
  ·rw[ER Ar,AJ Ar]at we;have wc:=W7 (gl:=gl) (most:=wk) oO HW HN b (M+c1) e2 Ar oO ng (MV.nles_mono oO _ hX);rw[AJ Ar]at wc;have hmt:(EP l Z).map (fun x=>[x.thing])=LE (EP l Z):=rfl;rw[hmt]at wc;by_cases As:c1+c2<=wk
   ·rw[ER As,AJ As]at wc;have Fi:=NQ HN e2 ng (MV.nles_mono oO _ hX);have wp:=LD (gl:=gl) r y hr (MV.nle_mono oO _ Fi);have Cs:=Val.fold (C5 r y);rw[zbw oO]at hR;refine A3 @Av we ?_;refine A4 ?_;refine A3 tT wc ?_;refine A4 ?_;refine A3 tT wp ?_;exact B9
   ·rw[JC As,FQ As]at wc;rw[zD oO]at hR;refine A3 @Av we ?_;refine A4 ?_;refine A3 tT wc ?_;refine A4 ?_;exact AT @DA.eq_1
  ·rw[JC Ar,FQ Ar]at we;rw[zD oO]at hR;refine A3 @Av we ?_;refine A4 ?_;exact AT @DA.eq_1
theorem XG:∀d,vU Tryz.prog gl 60 (R7 d)
 | 0=>by intro t e v c k u b M h;cases h
 | d+1=>by
  have H:=XG d;intro t e v c k u b M h hM hu he;rw[R7]at h;by_cases h1:t.kind=1
  ·rw[if_pos h1]at h;split at h
   ·rename_i hi;cases h;exact zhi t e u b h1 hi.1 hi.2
   ·cases h
  rw[if_neg h1]at h;by_cases h2:t.kind=2
  ·rw[if_pos h2]at h;split at h;· cases h
   ·rename_i hl;cases h;cases ha:t.args with
    | nil=>rw[ha]at hl;exact absurd rfl hl
    | cons x r=>
     have:t.argN 0=x:=by simp[Tm.argN,ha]
     rw[this];exact zhh d t e u b h2 x r ha
  rw[if_neg h2]at h;split at h;· cases h
  rename_i h3;split at h;· cases h
  rename_i l c1 k1 hl;obtain⟨⟨w,c2,k2⟩,hn,hq⟩:=Option.map_eq_some_iff.1 h;cases hq;exact zhl H t e l c1 k1 w c2 k2 u b M h1 h2 oO hl hn oO oO he
end
section
theorem oH {l:List Int}{F:Ty->List Ty->Nat->Tm × Nat}{B:Nat}(hB:16<=B)(hD:TT l F (fun _ _ x=>x.shape=true))(hF:TX l F B):TX l (eQ l F) (3 * B+4):=fun t g p ht hg hp=>by
 have:=cA hD hF t g p ht hg hp;omega
theorem jQ {l:List Int}{F:Ty->List Ty->Nat->Tm × Nat}{B:Nat}(hB:16<=B)(hD:TT l F (fun _ _ x=>x.shape=true))(hF:TX l F B)(k:Int):TX l (fun t g p=>IX l F t g k p) (3 * B+4):=by
 intro t g p ht hg hp;have Bx:∀a:List Ty,(∀x∈a,x.small)->∀x∈g++a,x.small:=by
  intro a ha x hx;rcases List.mem_append.1 hx with hx|hx;· exact hg x hx
  ·exact ha x hx
 have hE:=oH hB hD hF t g p ht hg hp;obtain⟨s1,s2⟩:=FL l (n:=0) hp dD;show (IX l F t g k p).1.count<=_;unfold IX;split
 ·have gs:=Bx [(CS l 0 p).1] (by simpa using s2);have a:=hF t _ _ ht gs s1;have b:=hF _ g _ s2 hg (hD t _ _ ht gs s1).1;show 1+((1+(_+0))+(_+0))<=_;omega
 split
 ·have a:=hF t g _ ht hg s1;have b:=hF _ g _ s2 hg (hD t g _ ht hg s1).1;show 1+((1+(_+(_+0)))+0)<=_;omega
 split
 ·have gs:=Bx [Ty.mk 1 [],t] (by intro x hx;simp at hx;rcases hx with rfl|rfl;exact DN;exact ht);have d:=(hD t _ _ ht gs hp).1;have a:=hF t _ _ ht gs hp;have b:=hF t g _ ht hg d;have c:=QI l (F t g (F t (g++[Ty.mk 1 [],t]) p).2).2;show 1+(_+((1+((1+(_+0))+0))+(_+0)))<=_;omega
 split
 ·have gs:=Bx [Ty.mk 1 [],Ty.mk 2 [],t] (by intro x hx;simp at hx;rcases hx with rfl|rfl|rfl;exact DN;exact F7;exact ht);have d:=(hD t _ _ ht gs hp).1;have a:=hF t _ _ ht gs hp;have b:=hF t g _ ht hg d;have c:=hF (Ty.mk 2 []) g _ F7 hg (hD t g _ ht hg d).1;show 1+(_+((1+((1+((1+(_+0))+0))+0))+(_+0)))<=_;omega
 split
 ·have a:=hF _ g _ s2 hg s1;have b:=hF t g _ ht hg (hD _ g _ s2 hg s1).1;show 1+((1+(_+(_+0)))+0)<=_;omega
 split
 ·split
  ·rename_i i hi;obtain⟨f1,f2,f3⟩:=X5 hi;obtain⟨c0,c1,-⟩:=(hg _ (N3 f1).1).arg (.inr f2);have a:=hF _ g _ c0 hg hp;show 1+((1+0)+(_+0))<=_;omega
  ·omega
 ·omega
def oI:Nat->Nat
 | 0=>45
 | n+1=>3 * oI n+4
theorem gF:∀n,16<=oI n
 | 0=>dD
 | n+1=>by have:=gF n;simp only[oI];omega
theorem WE (l:List Int):∀n,TX l (DC l n) (oI n)
 | 0=>by intro t g p ht hg hp;have:=YD l t ht g p;have:=ht.2;show _<=45;simp only[DC];omega
 | n+1=>by
  intro t g p ht hg hp;have hq:=PD (t:=t) (g:=g) hp;have ih:=jQ (gF n) (HV KB n) (WE l n);unfold DC;split
  ·rename_i x q hx;have:=SB hx;simp only[oI];omega
  ·rename_i q hx;rw[hx]at hq;exact ih _ t g _ ht hg (CO hq)
def Tm.closedN:Tm->Nat->Bool
 | .mk k i _ a,n=>if k=1 then decide (0<=i)&&decide (i.toNat<n) else closeds a (if k=2 then n+1 else n)
where
 closeds:List Tm->Nat->Bool
  | [],_=>true
  | a::r,n=>a.closedN n&&closeds r n
theorem Tm.closedN_eq (t:Tm)(n:Nat):t.closedN n=if t.kind=1 then decide (0<=t.index)&&decide (t.index.toNat<n) else closedN.closeds t.args (if t.kind=2 then n+1 else n):=by cases t;rw[closedN];rfl
theorem Tm.closeds_iff (l:List Tm)(n:Nat):closedN.closeds l n=true↔∀a∈l,a.closedN n=true:=by
 induction l with
 | nil=>simp[closedN.closeds]
 | cons a r ih=>simp[closedN.closeds,ih]
theorem WF {l:List Tm}{g h:List Ty}(e:∀a∈l,a.inferN g=a.inferN h):Tm.inferN.infers l g=Tm.inferN.infers l h:=by
 induction l with
 | nil=>rfl
 | cons a r ih=>simp only[Tm.inferN.infers,e a sS,ih fun x hx=>e x (by simp[hx])]
theorem wI (t:Tm):∀(l g:List Ty),t.closedN l.length=true->t.inferN (g++l)=t.inferN l:=by
 induction t using Tm.ind with
 | h t ih=>
 intro l g hc;rw[Tm.closedN_eq]at hc;rw[Tm.inferN_eq t (g++l),Tm.inferN_eq t l];by_cases h1:t.kind=1
 ·rw[if_pos h1]at hc ⊢;rw[if_pos h1];simp only[uH,decide_eq_true_eq]at hc;have h2:¬((g++l).length:Int)<=t.index:=by simp;omega
  have h3:¬(l.length:Int)<=t.index:=oO;rw[if_neg h2,if_neg h3];have e:(g++l).length - 1 - t.index.toNat=g.length+(l.length - 1 - t.index.toNat):=by simp;omega
  rw[e,List.getD_eq_getElem?_getD,List.getElem?_append_right oO,Nat.add_sub_cancel_left,List.getD_eq_getElem?_getD]
 ·rw[if_neg h1]at hc ⊢;rw[if_neg h1];rw[Tm.closeds_iff]at hc;have e:Tm.inferN.infers t.args (if t.kind=2 then g++l++[t.type] else g++l)=Tm.inferN.infers t.args (if t.kind=2 then l++[t.type] else l):=by
   by_cases h2:t.kind=2
   ·rw[if_pos h2,if_pos h2];rw[if_pos h2]at hc;refine WF fun a ha=>?_;rw[List.append_assoc];exact ih a ha (l++[t.type]) g (by simpa using hc a ha)
   ·rw[if_neg h2,if_neg h2];rw[if_neg h2]at hc;exact WF fun a ha=>ih a ha l g (hc a ha)
  rw[e]
theorem WG {t:Tm}(h:t.closedN 0=true)(g:List Ty):t.inferN g=t.inferN []:=by
 have:=wI t [] g (by simpa using h)
 simpa using this
theorem EY {k:Int}{y:Ty}{l:List Tm}{g:List Ty}{ts:List Ty}(hk:¬k=1)(h:Tm.inferN.infers l (if k=2 then g++[y] else g)=(ts,0)):(Tm.mk k 0 y l).inferN g=CD k y ts:=by
 rw[Tm.inferN_eq];show (if k=1 then _ else if (Tm.inferN.infers l (if k=2 then g++[y] else g)).2=0 then CD k y (Tm.inferN.infers l (if k=2 then g++[y] else g)).1 else _)=_;rw[if_neg hk,h,if_pos rfl]
theorem ZF {a:Tm}{g:List Ty}{s:Ty}(h:a.inferN g=(s,0)):Tm.inferN.infers [a] g=([s],0):=by simp[Tm.inferN.infers,h]
theorem jR {a b:Tm}{g:List Ty}{s t:Ty}(h:a.inferN g=(s,0))(h':b.inferN g=(t,0)):Tm.inferN.infers [a,b] g=([s,t],0):=by simp[Tm.inferN.infers,h,h']
theorem zE {a b c:Tm}{g:List Ty}{s t u:Ty}(h:a.inferN g=(s,0))(h':b.inferN g=(t,0))(Gq:c.inferN g=(u,0)):Tm.inferN.infers [a,b,c] g=([s,t,u],0):=by simp[Tm.inferN.infers,h,h',Gq]
theorem wJ {y:Ty}(h:y.ok):X2 y=(y,0):=by unfold X2;rw[if_pos ((Ty.checkN_iff y).2 h)]
theorem PM (a:Ty):a.same a=true:=(Ty.same_iff a a).2 rfl
theorem OF {k:Int}{s t:Ty}(hk:k=3\/k=4)(hs:s.shape=true)(ht:t.shape=true)(hc:1+s.count+t.count<=64):(Ty.mk k [s,t]).ok:=⟨UD hk hs ht,by rw[show (Ty.mk k [s,t]).count=1+(s.count+(t.count+0)) from rfl];omega⟩
theorem PN {g:List Ty}{s t:Ty}{f x:Tm}(hf:f.inferN g=(Ty.mk 4 [s,t],0))(hx:x.inferN g=(s,0)):(nT 3 [f,x]).inferN g=(t,0):=by
 unfold nT;rw[EY dD (jR hf hx)];unfold CD;rw[if_neg dD,if_pos rfl,if_pos ⟨rfl,PM s⟩];rfl
theorem N5 {g:List Ty}{s t:Ty}{x:Tm}(hx:x.inferN (g++[s])=(t,0))(ho:(Ty.mk 4 [s,t]).ok):(Tm.mk 2 0 s [x]).inferN g=(Ty.mk 4 [s,t],0):=by
 rw[EY dD (by rw[if_pos rfl];exact ZF hx)];unfold CD;rw[if_pos rfl];exact wJ ho
theorem wK {g:List Ty}{s t:Ty}{x y:Tm}(hx:x.inferN g=(s,0))(hy:y.inferN g=(t,0))(ho:(Ty.mk 3 [s,t]).ok):(nT 10 [x,y]).inferN g=(Ty.mk 3 [s,t],0):=by
 unfold nT;rw[EY dD (jR hx hy)];exact wJ ho
theorem z4n {g:List Ty}{s t:Ty}{x:Tm}(hx:x.inferN g=(Ty.mk 3 [s,t],0)):(nT 11 [x]).inferN g=(s,0):=by
 unfold nT;rw[EY dD (ZF hx)];rfl
theorem z4o {g:List Ty}{s t:Ty}{x:Tm}(hx:x.inferN g=(Ty.mk 3 [s,t],0)):(nT 12 [x]).inferN g=(t,0):=by
 unfold nT;rw[EY dD (ZF hx)];rfl
theorem zbx {g:List Ty}{t:Ty}{x f n:Tm}(hx:x.inferN g=(t,0))(hf:f.inferN g=(Ty.mk 4 [Ty.mk 1 [],Ty.mk 4 [t,t]],0))(hn:n.inferN g=(Ty.mk 1 [],0)):(Tm.mk 6 0 t [x,f,n]).inferN g=(t,0):=by
 rw[EY dD (zE hx hf hn)];unfold CD;rw[if_neg dD,if_neg dD,if_neg dD,if_neg dD,if_pos rfl,if_pos ⟨PM t,PM _,rfl⟩]
theorem wL {g:List Ty}{t:Ty}{x f n:Tm}(hx:x.inferN g=(t,0))(hf:f.inferN g=(Ty.mk 4 [Ty.mk 1 [],Ty.mk 4 [Ty.mk 2 [],Ty.mk 4 [t,t]]],0))(hn:n.inferN g=(Ty.mk 2 [],0)):(Tm.mk 9 0 t [x,f,n]).inferN g=(t,0):=by
 rw[EY dD (zE hx hf hn)];unfold CD;rw[if_neg dD,if_neg dD,if_neg dD,if_neg dD,if_neg dD,if_neg dD,if_neg dD,if_pos rfl,if_pos ⟨PM t,PM _,rfl⟩]
theorem cW {g:List Ty}{x:Tm}(hx:x.inferN g=(Ty.mk 1 [],0)):(nT 5 [x]).inferN g=(Ty.mk 1 [],0):=by
 unfold nT;rw[EY dD (ZF hx)];rfl
theorem wM {g:List Ty}{x y:Tm}(hx:x.inferN g=(Ty.mk 1 [],0))(hy:y.inferN g=(Ty.mk 2 [],0)):(nT 8 [x,y]).inferN g=(Ty.mk 2 [],0):=by
 unfold nT;rw[EY dD (jR hx hy)];rfl
theorem wN (g:List Ty):(nT 4 []).inferN g=(Ty.mk 1 [],0):=by unfold nT;rw[EY dD rfl];rfl
theorem z4p (g:List Ty):(nT 7 []).inferN g=(Ty.mk 2 [],0):=by unfold nT;rw[EY dD rfl];rfl
theorem wO (g:List Ty):(nT 13 []).inferN g=(Ty.mk 5 [],0):=by unfold nT;rw[EY dD rfl];rfl
theorem gG (g:List Ty):∀n:Nat,(IU n).inferN g=(Ty.mk 1 [],0)
 | 0=>wN g
 | n+1=>cW (gG g n)
theorem z4q {g:List Ty}{i:Nat}(hi:i<g.length):(vT (i:Nat)).inferN g=(HG g i,0):=by
 rw[Tm.inferN_eq];show (if (1:Int)=1 then if (g.length:Int)<=(i:Int) then _ else (g.getD (g.length - 1 - (i:Int).toNat) A9,0) else _)=_;rw[if_pos rfl,if_neg oO];rfl
theorem oJ (g:List Ty):EF.inferN g=(Ty.mk 4 [Ty.mk 1 [],Ty.mk 4 [Ty.mk 1 [],Ty.mk 1 []]],0):=by
 rw[WG dD g];rfl
theorem wP (g:List Ty):iT.inferN g=(Ty.mk 4 [Ty.mk 1 [],Ty.mk 4 [Ty.mk 1 [],Ty.mk 1 []]],0):=by
 rw[WG dD g];rfl
theorem wQ:DrawOK (fun t g x=>x.inferN g=(t,0)) where
 var g i hi:=z4q hi
 num g n _:=gG g n
 app g s t f x hs ht hf hx:=PN hf hx
 lam g s t x hs ht hx:=N5 hx (OF (.inr rfl) hs.1 ht.1 (by have:=hs.2;have:=ht.2;omega))
 lam2 g s t r x hs ht hr hx:=by
  have c1:=hs.2;have c2:=ht.2;have c3:=hr.2;have h1:=N5 (g:=g++[s]) (s:=t) (t:=r) (x:=x) (by rw[List.append_assoc];exact hx) (OF (.inr rfl) ht.1 hr.1 oO);exact N5 h1 (OF (.inr rfl) hs.1 (UD (.inr rfl) ht.1 hr.1) (by rw[show (Ty.mk 4 [t,r]).count=1+(t.count+(r.count+0)) from rfl];omega))
 lam3 g s t u r x hs ht hu hr hx:=by
  have c1:=hs.2;have c2:=ht.2;have c3:=hr.2;have c4:=hu.2;have h1:=N5 (g:=g++[s]++[t]) (s:=u) (t:=r) (x:=x) (by simp only[List.append_assoc];exact hx) (OF (.inr rfl) hu.1 hr.1 oO);have e1:(Ty.mk 4 [u,r]).count=1+(u.count+(r.count+0)):=rfl;have h2:=N5 h1 (OF (.inr rfl) ht.1 (UD (.inr rfl) hu.1 hr.1) (by rw[e1];omega));have e2:(Ty.mk 4 [t,Ty.mk 4 [u,r]]).count=1+(t.count+((Ty.mk 4 [u,r]).count+0)):=rfl;exact N5 h2 (OF (.inr rfl) hs.1 (UD (.inr rfl) ht.1 (UD (.inr rfl) hu.1 hr.1)) (by rw[e2,e1];omega))
 pair g s t x y hs ht hx hy:=wK hx hy (OF (.inl rfl) hs.1 ht.1 (by have:=hs.2;have:=ht.2;omega))
 fst g s t x hs ht hx:=z4n hx
 snd g s t x hs ht hx:=z4o hx
 rc g t x f n ht hx hf hn:=zbx hx hf hn
 fold g t x f n ht hx hf hn:=wL hx hf hn
 succ g x hx:=cW hx
 plus g x y hx hy:=PN (PN (oJ g) hx) hy
 sub g x y hx hy:=PN (PN (wP g) hx) hy
 nil g:=z4p g
 cons g x y hx hy:=wM hx hy
 unit g:=wO g
end
section
variable {gl:AF}
abbrev wR:DV:=.agg [A0 0,.sl [],A0 0]
theorem YN (k:Int)(a b:Ty)(ha64:a.count<=64)(hb64:b.count<=64)(hc:¬1+a.count+b.count<=64):cT gl 117 [A0 k,.agg (H3 a),.agg (H3 b)] [] (.tup [wR,A0 4]) []:=by
 refine A8 Tryz.func117 ?_;intro X hP u7 hf u9 hn hR u6 u5;have ha:=C2 a;have hb:=C2 b;have Km:¬(1:Int)+a.count+b.count<=64:=oO;have Jn:(64:Int)<1+a.count+b.count:=oO;refine A7 (j4 @ha @hb @Km @Jn) ?_;exact B9
theorem jS (t:Tm)(h:t.kind=10)(x y:Ty)(hx64:x.count<=64)(hy64:y.count<=64)(hc:¬1+x.count+y.count<=64) :
  cT gl 118 [t.dv,.agg (XC [x,y])] [] (.tup [wR,A0 4]) []:=by
 rw[TZ];have wp:=CF (gl:=gl) 10;rw[if_neg dD,if_neg dD,if_neg dD,if_neg dD,if_neg dD]at wp;have hi:AP []=[]:=rfl;rw[hi]at wp;have wj:=YN (gl:=gl) 3 x y hx64 hy64 hc;simp only[C2]at wj ⊢;refine A8 Tryz.func118 ?_;intro X hP u7 hf u9 hn hR u6 u5;refine A7 @h ?_;refine A3 @h wp ?_;refine A7 @h ?_;refine A3 tT wj ?_;exact BR
theorem zF {k:Int}{s t:Ty}(hk:k=3\/k=4)(hs:s.ok)(ht:t.ok)(h:(X2 (Ty.mk k [s,t])).2≠0):¬1+s.count+t.count<=64:=by
 intro hc;apply h;rw[wJ (OF hk hs.1 ht.1 hc)]
theorem zby (t:Tm)(h:t.kind=3)(x y:Ty)(hk:¬x.kind=4) :
  cT gl 118 [t.dv,.agg (XC [x,y])] [] (.tup [wR,A0 7]) []:=by
 rw[TZ];have wp:=CF (gl:=gl) 3;rw[if_neg dD,if_neg dD,if_neg dD,if_neg dD,if_neg dD]at wp;have wi:=EQ (gl:=gl) x 4;have hi:AP []=[]:=rfl;have hd:decide (x.kind=4)=false:=decide_eq_false hk;rw[hi]at wp;rw[hd]at wi;simp only[C2]at wi;refine A8 Tryz.func118 ?_;intro X hP u7 hf u9 hn hR u6 u5;refine A7 @h ?_;refine A3 @h wp ?_;refine A7 @h ?_;refine A3 tT wi ?_;refine A4 ?_;exact B9
theorem zbz (t:Tm)(h:t.kind=3)(x y a r:Ty)(hk:x.kind=4)(hx:x.args=[a,r])(ha:a.ok)(hs:a.same y=false) :
  cT gl 118 [t.dv,.agg (XC [x,y])] [] (.tup [wR,A0 7]) []:=by
 rw[TZ];have wp:=CF (gl:=gl) 3;rw[if_neg dD,if_neg dD,if_neg dD,if_neg dD,if_neg dD]at wp;have wi:=EQ (gl:=gl) x 4;have w0:=NO (gl:=gl) x a 0 (by rw[hx];rfl) ha;have ws:=QJ (gl:=gl) a y;have hi:AP []=[]:=rfl;have hd:decide (x.kind=4)=true:=decide_eq_true hk;rw[hi]at wp;rw[hd]at wi;rw[hs]at ws;simp only[C2]at wi w0 ws ⊢;refine A8 Tryz.func118 ?_;intro X hP u7 hf u9 hn hR u6 u5;refine A7 @h ?_;refine A3 @h wp ?_;refine A7 @h ?_;refine OL tT wi w0 ws ?_;refine A4 ?_;exact B9
theorem zht (t:Tm)(h:t.kind=5)(x:Ty)(hk:¬x.kind=1):cT gl 118 [t.dv,.agg (XC [x])] [] (.tup [wR,A0 7]) []:=by
 rw[cI];have wp:=CF (gl:=gl) 5;rw[if_neg dD,if_pos rfl]at wp;have wi:=EQ (gl:=gl) x 1;have hi:AP [1,1]=[[A0 1],[A0 1]]:=rfl;have hd:decide (x.kind=1)=false:=decide_eq_false hk;rw[hi]at wp;rw[hd]at wi;simp only[C2]at wi;refine A8 Tryz.func118 ?_;intro X hP u7 hf u9 hn hR u6 u5;refine A7 @h ?_;refine A3 @h wp ?_;refine A4 ?_;refine B4 ?_;refine A4 ?_;refine A3 tT wi ?_;refine A4 ?_;exact B9
theorem zc0 (t:Tm)(h:t.kind=8)(x y:Ty)(hk:¬x.kind=1):cT gl 118 [t.dv,.agg (XC [x,y])] [] (.tup [wR,A0 7]) []:=by
 rw[TZ];have wp:=CF (gl:=gl) 8;rw[if_neg dD,if_neg dD,if_neg dD,if_pos rfl]at wp;have wi:=EQ (gl:=gl) x 1;have hi:AP [2,1,2]=[[A0 2],[A0 1],[A0 2]]:=rfl;have hd:decide (x.kind=1)=false:=decide_eq_false hk;rw[hi]at wp;rw[hd]at wi;simp only[C2]at wi;refine A8 Tryz.func118 ?_;intro X hP u7 hf u9 hn hR u6 u5;refine A7 @h ?_;refine A3 @h wp ?_;refine A4 ?_;refine B4 ?_;refine A4 ?_;refine A3 tT wi ?_;refine A4 ?_;exact B9
theorem zc1 (t:Tm)(h:t.kind=8)(x y:Ty)(hx:x.kind=1)(hk:¬y.kind=2):cT gl 118 [t.dv,.agg (XC [x,y])] [] (.tup [wR,A0 7]) []:=by
 rw[TZ];have wp:=CF (gl:=gl) 8;rw[if_neg dD,if_neg dD,if_neg dD,if_pos rfl]at wp;have wi:=EQ (gl:=gl) x 1;have wj:=EQ (gl:=gl) y 2;have hi:AP [2,1,2]=[[A0 2],[A0 1],[A0 2]]:=rfl;rw[hi]at wp;rw[decide_eq_true hx]at wi;rw[decide_eq_false hk]at wj;simp only[C2]at wi wj;refine A8 Tryz.func118 ?_;intro X hP u7 hf u9 hn hR u6 u5;refine A7 @h ?_;refine A3 @h wp ?_;refine A4 ?_;refine B4 ?_;refine A4 ?_;refine A3 tT wi ?_;refine A4 ?_;refine AB ?_;refine A4 ?_;refine A3 tT wj ?_;refine A4 ?_;exact B9
theorem zc2 (t:Tm)(h:t.kind=11\/t.kind=12)(x:Ty)(hk:¬x.kind=3) :
  cT gl 118 [t.dv,.agg (XC [x])] [] (.tup [wR,A0 7]) []:=by
 rw[cI];have wp:=CF (gl:=gl) t.kind;rw[if_neg oO,if_neg oO,if_neg oO,if_neg oO,if_neg oO]at wp;have hi:AP []=[]:=rfl;rw[hi]at wp;have wi:=EQ (gl:=gl) x 3;rw[decide_eq_false hk]at wi;simp only[C2]at wi;rcases h with h|h
 ·rw[h]at wp;refine A8 Tryz.func118 ?_;intro X hP u7 hf u9 hn hR u6 u5;refine A7 @h ?_;refine A3 @h wp ?_;refine A7 @h ?_;refine A3 tT wi ?_;refine A7 @h ?_;exact B9
 ·rw[h]at wp;refine A8 Tryz.func118 ?_;intro X hP u7 hf u9 hn hR u6 u5;refine A7 @h ?_;refine A3 @h wp ?_;refine A7 @h ?_;refine A3 tT wi ?_;refine A7 @h ?_;exact B9
def oK (t:Tm):Ty:=W4 t.type (if t.kind=9 then [Ty.mk 1 [],Ty.mk 2 [],t.type] else [Ty.mk 1 [],t.type])
theorem oL (t:Tm)(h:t.kind=6\/t.kind=9)(ht:t.type.ok)(x y z:Ty)(he:x.same t.type=false\/y.same (oK t)=false\/¬z.kind=if t.kind=9 then 2 else 1) :
  cT gl 118 [t.dv,.agg (XC [x,y,z])] [] (.tup [wR,A0 7]) []:=by
 rw[yU];have wo:=I3 (gl:=gl) t.type ht;have ws:=QJ (gl:=gl) x t.type;have wt:=cJ (gl:=gl) t;have wy:=OD (gl:=gl) y (oK t);have Mw:=Ty.fold t.type;have fy:=Ty.fold y;have Bk:=Tm.fold t;rw[show W4 t.type (if t.kind=9 then [Ty.mk 1 [],Ty.mk 2 [],t.type] else [Ty.mk 1 [],t.type])=oK t from rfl]at wt;generalize oK t=st at *;have fst:=Ty.fold st;have cst:=Ty.cells_eq st;simp only[C2]at wo ws;have wp:=CF (gl:=gl) t.kind;rw[if_neg oO,if_neg oO,if_neg oO,if_neg oO,if_neg oO]at wp;have hi:AP []=[]:=rfl;rw[hi]at wp;have wi1:=EQ (gl:=gl) z 1;have wi2:=EQ (gl:=gl) z 2;simp only[C2]at wi1 wi2;cases hx:x.same t.type
 ·rw[hx]at ws;rcases h with h|h
  ·rw[h]at Bk wp;refine A8 Tryz.func118 ?_;intro X hP u7 hf u9 hn hR u6 u5;refine A7 @h ?_;refine A3 @h wp ?_;refine A7 @h ?_;refine A3 (j2 @h @Mw) wo ?_;refine A7 @h ?_;refine A3 (j4 @h @fy @Bk @fst) ws ?_;refine A4 ?_;exact B9
  ·rw[h]at Bk wp;refine A8 Tryz.func118 ?_;intro X hP u7 hf u9 hn hR u6 u5;refine A7 @h ?_;refine A3 @h wp ?_;refine A7 @h ?_;refine A3 (j2 @h @Mw) wo ?_;refine A7 @h ?_;refine A3 (j4 @h @fy @Bk @fst) ws ?_;refine A4 ?_;exact B9
 rw[hx]at ws he;cases hy:y.same st
 ·rw[hy]at wy;rcases h with h|h
  ·rw[h]at Bk wp;refine A8 Tryz.func118 ?_;intro X hP u7 hf u9 hn hR u6 u5;refine A7 @h ?_;refine A3 @h wp ?_;refine A7 @h ?_;refine A3 (j2 @h @Mw) wo ?_;refine A7 @h ?_;refine OL (j4 @h @fy @Bk @fst) ws wt wy ?_;refine A4 ?_;exact B9
  ·rw[h]at Bk wp;refine A8 Tryz.func118 ?_;intro X hP u7 hf u9 hn hR u6 u5;refine A7 @h ?_;refine A3 @h wp ?_;refine A7 @h ?_;refine A3 (j2 @h @Mw) wo ?_;refine A7 @h ?_;refine OL (j4 @h @fy @Bk @fst) ws wt wy ?_;refine A4 ?_;exact B9
 rw[hy]at wy he;have hz:¬z.kind=if t.kind=9 then 2 else 1:=by
  rcases he with he|he|he;· cases he
  ·cases he
  ·exact he
 rcases h with h|h
 ·rw[if_neg oO]at hz;rw[decide_eq_false hz]at wi1;rw[h]at Bk wp;refine A8 Tryz.func118 ?_;intro X hP u7 hf u9 hn hR u6 u5;refine A7 @h ?_;refine A3 @h wp ?_;refine A7 @h ?_;refine A3 (j2 @h @Mw) wo ?_;refine A7 @h ?_;refine TI (j4 @h @fy @Bk @fst) ws wt wy wi1 ?_;refine A4 ?_;exact B9
 ·rw[if_pos h]at hz;rw[decide_eq_false hz]at wi2;rw[h]at Bk wp;refine A8 Tryz.func118 ?_;intro X hP u7 hf u9 hn hR u6 u5;refine A7 @h ?_;refine A3 @h wp ?_;refine A7 @h ?_;refine A3 (j2 @h @Mw) wo ?_;refine A7 @h ?_;refine TI (j4 @h @fy @Bk @fst) ws wt wy wi2 ?_;refine A4 ?_;exact B9
theorem zqv {x:Ty}(h:x.ok)(hk:x.kind=1):x=Ty.mk 1 []:=by
 obtain⟨a,rfl⟩:=T.of_shape x h.1;cases a with
 | nat=>rfl
 | list=>exact absurd (show (2:Int)=1 from hk) dD
 | unit=>exact absurd (show (5:Int)=1 from hk) dD
 | pair=>exact absurd (show (3:Int)=1 from hk) dD
 | fn=>exact absurd (show (4:Int)=1 from hk) dD
theorem zqw {x:Ty}(h:x.ok)(hk:x.kind=2):x=Ty.mk 2 []:=by
 obtain⟨a,rfl⟩:=T.of_shape x h.1;cases a with
 | nat=>exact absurd (show (1:Int)=2 from hk) dD
 | list=>rfl
 | unit=>exact absurd (show (5:Int)=2 from hk) dD
 | pair=>exact absurd (show (3:Int)=2 from hk) dD
 | fn=>exact absurd (show (4:Int)=2 from hk) dD
theorem gH (x:Ty):x.same x=true:=(Ty.same_iff _ _).2 rfl
theorem wS {x:Ty}(h:x.ok)(hs:¬x.same (Ty.mk 1 [])=true):¬x.kind=1:=fun hk=>hs (by rw[zqv h hk];exact gH _)
theorem zc3 {x:Ty}(h:x.ok)(hs:¬x.same (Ty.mk 2 [])=true):¬x.kind=2:=fun hk=>hs (by rw[zqw h hk];exact gH _)
theorem cX {b:Bool}(h:¬b=true):b=false:=by cases b;rfl;exact absurd rfl h
theorem zc4 (y:Ty)(h:(X2 y).2≠0):(X2 y).2=4:=by
 unfold X2 at h ⊢;split;· rename_i q;rw[if_pos q]at h;exact absurd rfl h
 ·rfl
theorem z4r {t:Tm}(ht:t.shape=true)(Dx:¬t.kind=1)(Ay:¬t.kind=2){ds:List Ty}(hl:ds.length=t.args.length)(hd:∀d∈ds,d.ok)(hr:(CD t.kind t.type ds).2≠0) :
  cT gl 118 [t.dv,.agg (XC ds)] [] (.tup [wR,A0 (CD t.kind t.type ds).2]) []:=by
 obtain⟨ha,hi,hv,Be,hs⟩:=Tm.shape_node ht;rw[<- hl]at ha;generalize he:(CD t.kind t.type ds).2=e at *;unfold CD at he;rw[if_neg Ay]at he;by_cases h3:t.kind=3
 ·rw[if_pos h3]at he;rw[h3]at ha
  match ds,ha with
  | [x,y],_=>
   split at he;· exact absurd he.symm hr
   ·rename_i hx;obtain rfl:7=e:=he;by_cases Ri:x.kind=4
    ·obtain⟨p,q,hp,op,oq,e0,e1⟩:=Ty.ok_args (hd x sS) (.inr Ri);refine zbz t h3 x y p q Ri hp op (cX fun q=>hx ⟨Ri,?_⟩);show (x.arg 0).same y=true;rw[e0];exact q
    ·exact zby t h3 x y Ri
 rw[if_neg h3]at he;by_cases h4:t.kind=4;· rw[if_pos h4]at he;exact absurd he.symm hr
 rw[if_neg h4]at he;by_cases h5:t.kind=5
 ·rw[if_pos h5]at he;rw[h5]at ha
  match ds,ha with
  | [x],_=>
   split at he;· exact absurd he.symm hr
   ·rename_i hx;obtain rfl:7=e:=he;exact zht t h5 x (wS (hd x sS) hx)
 rw[if_neg h5]at he;by_cases h6:t.kind=6
 ·rw[if_pos h6]at he;rw[h6]at ha;rw[if_pos (.inr (.inl h6))]at Be
  match ds,ha with
  | [x,y,z],_=>
   split at he;· exact absurd he.symm hr
   ·rename_i hx;obtain rfl:7=e:=he;have hx:¬(x.same t.type=true/\y.same (Ty.mk 4 [Ty.mk 1 [],Ty.mk 4 [t.type,t.type]])=true/\z.same (Ty.mk 1 [])=true):=hx;refine oL t (.inl h6) Be x y z ?_;by_cases q1:x.same t.type=true
    ·by_cases q2:y.same (oK t)=true
     ·refine .inr (.inr ?_);rw[if_neg oO];refine wS (hd z sS) fun q3=>hx ⟨q1,?_,q3⟩;unfold oK at q2;rw[if_neg oO]at q2;exact q2
     ·exact .inr (.inl (cX q2))
    ·exact .inl (cX q1)
 rw[if_neg h6]at he;by_cases h7:t.kind=7;· rw[if_pos h7]at he;exact absurd he.symm hr
 rw[if_neg h7]at he;by_cases h8:t.kind=8
 ·rw[if_pos h8]at he;rw[h8]at ha
  match ds,ha with
  | [x,y],_=>
   split at he;· exact absurd he.symm hr
   ·rename_i hx;obtain rfl:7=e:=he;have hx:¬(x.same (Ty.mk 1 [])=true/\y.same (Ty.mk 2 [])=true):=hx;by_cases q1:x.same (Ty.mk 1 [])=true;· exact zc1 t h8 x y (by rw[(Ty.same_iff _ _).1 q1];rfl) (zc3 (hd y sS) fun q2=>hx ⟨q1,q2⟩)
    ·exact zc0 t h8 x y (wS (hd x sS) q1)
 rw[if_neg h8]at he;by_cases h9:t.kind=9
 ·rw[if_pos h9]at he;rw[h9]at ha;rw[if_pos (.inr (.inr h9))]at Be
  match ds,ha with
  | [x,y,z],_=>
   split at he;· exact absurd he.symm hr
   ·rename_i hx;obtain rfl:7=e:=he;have hx:¬(x.same t.type=true/\y.same (Ty.mk 4 [Ty.mk 1 [],Ty.mk 4 [Ty.mk 2 [],Ty.mk 4 [t.type,t.type]]])=true/\z.same (Ty.mk 2 [])=true):=hx;refine oL t (.inr h9) Be x y z ?_;by_cases q1:x.same t.type=true
    ·by_cases q2:y.same (oK t)=true
     ·refine .inr (.inr ?_);rw[if_pos h9];refine zc3 (hd z sS) fun q3=>hx ⟨q1,?_,q3⟩;unfold oK at q2;rw[if_pos h9]at q2;exact q2
     ·exact .inr (.inl (cX q2))
    ·exact .inl (cX q1)
 rw[if_neg h9]at he;by_cases Cc:t.kind=10
 ·rw[if_pos Cc]at he;rw[Cc]at ha
  match ds,ha with
  | [x,y],_=>
   have he:(X2 (Ty.mk 3 [x,y])).2=e:=he;have h4:=zc4 (Ty.mk 3 [x,y]) (by rw[he];exact hr);have hb:=zF (.inl rfl) (hd x sS) (hd y sS) (by rw[h4];decide);rw[h4]at he;subst he;exact jS t Cc x y (hd x sS).2 (hd y sS).2 hb
 rw[if_neg Cc]at he;have Ss:∀x:Ty,(t.kind=11\/t.kind=12)->ds=[x]->¬x.kind=3->7=e->cT gl 118 [t.dv,.agg (XC ds)] [] (.tup [wR,A0 e]) []:=by
  intro x hk hx hx3 h7;subst h7 hx;exact zc2 t hk x hx3
 by_cases Ck:t.kind=11
 ·rw[if_pos Ck]at he;rw[Ck]at ha
  match ds,ha with
  | [x],_=>
   split at he;· exact absurd he.symm hr
   ·rename_i hx;exact Ss x (.inl Ck) rfl hx he
 rw[if_neg Ck]at he;by_cases Cf:t.kind=12
 ·rw[if_pos Cf]at he;rw[Cf]at ha
  match ds,ha with
  | [x],_=>
   split at he;· exact absurd he.symm hr
   ·rename_i hx;exact Ss x (.inr Cf) rfl hx he
 rw[if_neg Cf]at he;exact absurd he.symm hr
theorem cZ {g:List Ty}:∀{l:List Tm} {e:Int},e≠0->(Tm.inferN.infers l g).2=e->∃(i:Nat) (x:Tm),l[i]? = some x/\(x.inferN g).2=e/\∀(j:Nat) (y:Tm),j<i->l[j]? = some y->(y.inferN g).2=0
 | [],e,h0,h=>absurd h.symm h0
 | a::r,e,h0,h=>by
  simp only[Tm.inferN.infers]at h;by_cases e1:(a.inferN g).2=0
  ·rw[if_pos e1]at h;by_cases e2:(Tm.inferN.infers r g).2=0;· rw[if_pos e2]at h;exact absurd h.symm h0
   ·rw[if_neg e2]at h;obtain⟨i,x,h1,h2,h3⟩:=cZ (l:=r) h0 h;refine⟨i+1,x,by simpa using h1,h2,fun j y hj hy=>?_⟩;cases j with
    | zero=>simp at hy;rw[<- hy];exact e1
    | succ j=>exact h3 j y oO (by simpa using hy)
  ·rw[if_neg e1]at h;exact⟨0,a,rfl,h,fun j y hj _=>absurd hj (Nat.not_lt_zero _)⟩
theorem eW {t:Tm}{g:List Ty}(hg:∀x∈g,x.ok)(ht:t.shape=true)(h1:¬t.kind=1)(Ay:¬t.kind=2)(hI:(Tm.inferN.infers t.args g).2=0)(h:(CD t.kind t.type (Tm.inferN.infers t.args g).1).2≠0)
  (Bm:∀(i:Nat) (x:Tm),t.args[i]? = some x->(x.inferN g).2=0->cT gl 79 [.sl (g.map H3),x.dv] [] (.tup [.agg (H3 (x.inferN g).1),A0 0]) []) :
  cT gl 79 [.sl (g.map H3),t.dv] [] (.tup [wR,A0 (CD t.kind t.type (Tm.inferN.infers t.args g).1).2]) []:=by
 obtain⟨ha,hi,hv,Be,hs⟩:=Tm.shape_node ht;obtain⟨Fc,Ah⟩:=Tm.infers_all t.args g hI;have Kz:∀d∈(Tm.inferN.infers t.args g).1,d.ok:=by
  intro d hd;obtain⟨i,Jt⟩:=List.getElem?_of_mem hd;have Bz:=(uA Jt).1;obtain⟨x1,x2⟩:=Ah i _ (uB (by omega:i<t.args.length));rw[x2]at Jt;cases Jt;exact Tm.inferN_ok _ g (hs _ (List.getElem_mem _)) hg x1
 have wn:=z4r (gl:=gl) ht h1 Ay Fc Kz h;have step:∀(i:Nat) (x:Tm),t.args[i]? = some x->∃d,(Tm.inferN.infers t.args g).1[i]? = some d/\cT gl 79 [.sl (g.map H3),x.dv] [] (.tup [.agg (H3 d),A0 0]) []:=by
  intro i x hx;obtain⟨x1,x2⟩:=Ah i x hx;exact⟨_,x2,Bm i x hx x1⟩
 have h3:t.args.length<=3:=by
  have:B5 t.kind<=3:=by unfold B5;(repeat' split) <;> omega
  omega
 have Bk:=Tm.fold t;generalize (CD t.kind t.type (Tm.inferN.infers t.args g).1).2=e at *;generalize (Tm.inferN.infers t.args g).1=ds at *;clear Bm Ah Kz;refine A8 Tryz.func79 ?_;intro X hP u7 hf u9 hn hR u6 u5;have Jx:=K7 (u5 (.sl (g.map H3)) sS);simp at Jx;generalize List.map H3 g=G at *
 match u8:t.args,h3 with
 | [],_=>
  rw[u8]at Fc;obtain rfl:ds=[]:=List.length_eq_zero_iff.1 Fc;rw[u8]at Bk;simp only[List.map_nil]at Bk;rw[nV]at wn;refine A7 (j3 @h1 @Ay @u8) ?_;refine B4 ?_;refine A7 @u8 ?_;refine A3 @Bk wn ?_;exact BR
 | [x],_=>
  obtain⟨d,q0,w⟩:=step 0 x (by rw[u8];rfl);rw[u8]at Fc
  obtain rfl:ds=[d]:=by
   match ds,Fc,q0 with
   | [_],_,q0=>simp at q0;rw[q0]
  rw[cI]at wn;simp only[C2]at w;rw[u8]at Bk;simp only[List.map_cons,List.map_nil]at Bk;rw[Tm.cells_eq x]at Bk;refine A7 (j3 @h1 @Ay @u8) ?_;refine B4 ?_;refine A7 @u8 ?_;refine A3 tT w ?_;refine A4 ?_;refine AC (s':=[sV 0 (.sl G),sV 67 (A0 1),sV 66 (A0 1),sV 65 (.sl [x.cells]),sP 3,sL 3 [.v (A0 t.kind),.v (A0 t.index),.v (A0 t.type.kind),.v (.sl (t.type.args.map Ty.cells)),.v (.sl [x.cells])],sP 4,sL 4 [.v (A0 0),.own 0 [],.v (A0 0)],sP 9,sL 9 [.v (A0 d.kind),.v (.sl (d.args.map Ty.cells)),.v (A0 (d.count:Int)),.v (A0 0),.own 0 [],.v (A0 0),.v (A0 0),.own 0 [],.v (A0 0)]]) [] @u8 ?_;refine AB ?_;refine A4 ?_;refine A3 @Bk wn ?_;exact BR
 | [x,y],_=>
  obtain⟨d,q0,w⟩:=step 0 x (by rw[u8];rfl);obtain⟨e1,q1,v⟩:=step 1 y (by rw[u8];rfl);rw[u8]at Fc
  obtain rfl:ds=[d,e1]:=by
   match ds,Fc,q0,q1 with
   | [_,_],_,q0,q1=>simp at q0 q1;rw[q0,q1]
  rw[TZ]at wn;simp only[C2]at w v;rw[u8]at Bk;simp only[List.map_cons,List.map_nil]at Bk;rw[Tm.cells_eq x,Tm.cells_eq y]at Bk;refine A7 (j3 @h1 @Ay @u8) ?_;refine B4 ?_;refine A7 @u8 ?_;refine A3 tT w ?_;refine A4 ?_;refine AC (s':=[sV 0 (.sl G),sV 67 (A0 1),sV 66 (A0 2),sV 65 (.sl [x.cells,y.cells]),sP 3,sL 3 [.v (A0 t.kind),.v (A0 t.index),.v (A0 t.type.kind),.v (.sl (t.type.args.map Ty.cells)),.v (.sl [x.cells,y.cells])],sP 4,sL 4 [.v (A0 0),.own 0 [],.v (A0 0)],sP 9,sL 9 [.v (A0 d.kind),.v (.sl (d.args.map Ty.cells)),.v (A0 (d.count:Int)),.v (A0 0),.own 0 [],.v (A0 0),.v (A0 0),.own 0 [],.v (A0 0)]]) [] @u8 ?_;refine AB ?_;refine A7 @u8 ?_;refine A3 tT v ?_;refine A4 ?_;refine AC (s':=[sV 0 (.sl G),sV 67 (A0 2),sV 66 (A0 2),sV 65 (.sl [x.cells,y.cells]),sP 3,sL 3 [.v (A0 t.kind),.v (A0 t.index),.v (A0 t.type.kind),.v (.sl (t.type.args.map Ty.cells)),.v (.sl [x.cells,y.cells])],sP 4,sL 4 [.v (A0 0),.own 0 [],.v (A0 0)],sP 9,sL 9 [.v (A0 d.kind),.v (.sl (d.args.map Ty.cells)),.v (A0 (d.count:Int)),.v (A0 e1.kind),.v (.sl (e1.args.map Ty.cells)),.v (A0 (e1.count:Int)),.v (A0 0),.own 0 [],.v (A0 0)]]) [] @u8 ?_;refine AB ?_;refine A4 ?_;refine A3 @Bk wn ?_;exact BR
 | [x,y,z'],_=>
  obtain⟨d,q0,w⟩:=step 0 x (by rw[u8];rfl);obtain⟨e1,q1,v⟩:=step 1 y (by rw[u8];rfl);obtain⟨k,q2,u⟩:=step 2 z' (by rw[u8];rfl);rw[u8]at Fc
  obtain rfl:ds=[d,e1,k]:=by
   match ds,Fc,q0,q1,q2 with
   | [_,_,_],_,q0,q1,q2=>simp at q0 q1 q2;rw[q0,q1,q2]
  rw[yU]at wn;simp only[C2]at w v u;rw[u8]at Bk;simp only[List.map_cons,List.map_nil]at Bk;rw[Tm.cells_eq x,Tm.cells_eq y,Tm.cells_eq z']at Bk;refine A7 (j3 @h1 @Ay @u8) ?_;refine B4 ?_;refine A7 @u8 ?_;refine A3 tT w ?_;refine A4 ?_;refine AC (s':=[sV 0 (.sl G),sV 67 (A0 1),sV 66 (A0 3),sV 65 (.sl [x.cells,y.cells,z'.cells]),sP 3,sL 3 [.v (A0 t.kind),.v (A0 t.index),.v (A0 t.type.kind),.v (.sl (t.type.args.map Ty.cells)),.v (.sl [x.cells,y.cells,z'.cells])],sP 4,sL 4 [.v (A0 0),.own 0 [],.v (A0 0)],sP 9,sL 9 [.v (A0 d.kind),.v (.sl (d.args.map Ty.cells)),.v (A0 (d.count:Int)),.v (A0 0),.own 0 [],.v (A0 0),.v (A0 0),.own 0 [],.v (A0 0)]]) [] @u8 ?_;refine AB ?_;refine A7 @u8 ?_;refine A3 tT v ?_;refine A4 ?_;refine AC (s':=[sV 0 (.sl G),sV 67 (A0 2),sV 66 (A0 3),sV 65 (.sl [x.cells,y.cells,z'.cells]),sP 3,sL 3 [.v (A0 t.kind),.v (A0 t.index),.v (A0 t.type.kind),.v (.sl (t.type.args.map Ty.cells)),.v (.sl [x.cells,y.cells,z'.cells])],sP 4,sL 4 [.v (A0 0),.own 0 [],.v (A0 0)],sP 9,sL 9 [.v (A0 d.kind),.v (.sl (d.args.map Ty.cells)),.v (A0 (d.count:Int)),.v (A0 e1.kind),.v (.sl (e1.args.map Ty.cells)),.v (A0 (e1.count:Int)),.v (A0 0),.own 0 [],.v (A0 0)]]) [] @u8 ?_;refine AB ?_;refine A7 @u8 ?_;refine A3 tT u ?_;refine A4 ?_
  refine AC (s':=[sV 0 (.sl G),sV 67 (A0 3),sV 66 (A0 3),sV 65 (.sl [x.cells,y.cells,z'.cells]),sP 3,sL 3 [.v (A0 t.kind),.v (A0 t.index),.v (A0 t.type.kind),.v (.sl (t.type.args.map Ty.cells)),.v (.sl [x.cells,y.cells,z'.cells])],sP 4,sL 4 [.v (A0 0),.own 0 [],.v (A0 0)],sP 9,sL 9 [.v (A0 d.kind),.v (.sl (d.args.map Ty.cells)),.v (A0 (d.count:Int)),.v (A0 e1.kind),.v (.sl (e1.args.map Ty.cells)),.v (A0 (e1.count:Int)),.v (A0 k.kind),.v (.sl (k.args.map Ty.cells)),.v (A0 (k.count:Int))]]) [] @u8 ?_;refine AB ?_;refine A4 ?_;refine A3 @Bk wn ?_;exact BR
theorem eX {t:Tm}{g:List Ty}(ht:t.shape=true)(h1:¬t.kind=1)(Ay:¬t.kind=2){e:Int}(he:e≠0){i:Nat}{z:Tm}(z1:t.args[i]? = some z)(z3:∀(j:Nat) (y:Tm),j<i->t.args[j]? = some y->(y.inferN g).2=0)
  (wz:cT gl 79 [.sl (g.map H3),z.dv] [] (.tup [wR,A0 e]) [])
  (Bm:∀(i:Nat) (x:Tm),t.args[i]? = some x->(x.inferN g).2=0->cT gl 79 [.sl (g.map H3),x.dv] [] (.tup [.agg (H3 (x.inferN g).1),A0 0]) []) :
  cT gl 79 [.sl (g.map H3),t.dv] [] (.tup [wR,A0 e]) []:=by
 obtain⟨ha,hi,hv,Be,hs⟩:=Tm.shape_node ht;have h3:t.args.length<=3:=by
  have:B5 t.kind<=3:=by unfold B5;(repeat' split) <;> omega
  omega
 have Bk:=Tm.fold t;refine A8 Tryz.func79 ?_;intro X hP u7 hf u9 hn hR u6 u5;have Jx:=K7 (u5 (.sl (g.map H3)) sS);simp at Jx;have Mx:i<t.args.length:=(uA z1).1
 match u8:t.args,h3 with
 | [],_=>rw[u8]at Mx;simp at Mx
 | [x],_=>
  rw[u8]at z1 z3 Mx Bk;simp only[List.map_cons,List.map_nil]at Bk;rw[Tm.cells_eq x]at Bk
  match i,Mx,z1,z3 with
  | 0,_,z1,z3=>
   simp at z1;subst z1;clear Bm;generalize List.map H3 g=G at *;refine A7 (j3 @h1 @Ay @u8) ?_;refine B4 ?_;refine A7 @u8 ?_;refine A3 tT wz ?_;refine A7 @he ?_;exact AT @he
  | i+1,Mx,_,_=>exact absurd Mx sS
 | [x,y],_=>
  rw[u8]at z1 z3 Mx Bk;simp only[List.map_cons,List.map_nil]at Bk;rw[Tm.cells_eq x,Tm.cells_eq y]at Bk
  match i,Mx,z1,z3 with
  | 0,_,z1,z3=>
   simp at z1;subst z1;clear Bm;generalize List.map H3 g=G at *;refine A7 (j3 @h1 @Ay @u8) ?_;refine B4 ?_;refine A7 @u8 ?_;refine A3 tT wz ?_;refine A7 @he ?_;exact AT @he
  | 1,_,z1,z3=>
   simp at z1;subst z1;have w:=Bm 0 x (by rw[u8];rfl) (z3 0 x oO rfl);generalize (x.inferN g).1=d at *;simp only[C2]at w;clear Bm;generalize List.map H3 g=G at *;refine A7 (j3 @h1 @Ay @u8) ?_;refine B4 ?_;refine A7 @u8 ?_;refine A3 tT w ?_;refine A4 ?_;refine AC (s':=[sV 0 (.sl G),sV 67 (A0 1),sV 66 (A0 2),sV 65 (.sl [x.cells,y.cells]),sP 3,sL 3 [.v (A0 t.kind),.v (A0 t.index),.v (A0 t.type.kind),.v (.sl (t.type.args.map Ty.cells)),.v (.sl [x.cells,y.cells])],sP 4,sL 4 [.v (A0 0),.own 0 [],.v (A0 0)],sP 9,sL 9 [.v (A0 d.kind),.v (.sl (d.args.map Ty.cells)),.v (A0 (d.count:Int)),.v (A0 0),.own 0 [],.v (A0 0),.v (A0 0),.own 0 [],.v (A0 0)]]) [] @u8 ?_;refine AB ?_;refine A7 @u8 ?_;refine A3 tT wz ?_;refine A7 @he ?_;exact AT @he
  | i+2,Mx,_,_=>exact absurd Mx sS
 | [x,y,z'],_=>
  rw[u8]at z1 z3 Mx Bk;simp only[List.map_cons,List.map_nil]at Bk;rw[Tm.cells_eq x,Tm.cells_eq y,Tm.cells_eq z']at Bk
  match i,Mx,z1,z3 with
  | 0,_,z1,z3=>
   simp at z1;subst z1;clear Bm;generalize List.map H3 g=G at *;refine A7 (j3 @h1 @Ay @u8) ?_;refine B4 ?_;refine A7 @u8 ?_;refine A3 tT wz ?_;refine A7 @he ?_;exact AT @he
  | 1,_,z1,z3=>
   simp at z1;subst z1;have w:=Bm 0 x (by rw[u8];rfl) (z3 0 x oO rfl);generalize (x.inferN g).1=d at *;simp only[C2]at w;clear Bm;generalize List.map H3 g=G at *;refine A7 (j3 @h1 @Ay @u8) ?_;refine B4 ?_;refine A7 @u8 ?_;refine A3 tT w ?_;refine A4 ?_;refine AC (s':=[sV 0 (.sl G),sV 67 (A0 1),sV 66 (A0 3),sV 65 (.sl [x.cells,y.cells,z'.cells]),sP 3,sL 3 [.v (A0 t.kind),.v (A0 t.index),.v (A0 t.type.kind),.v (.sl (t.type.args.map Ty.cells)),.v (.sl [x.cells,y.cells,z'.cells])],sP 4,sL 4 [.v (A0 0),.own 0 [],.v (A0 0)],sP 9,sL 9 [.v (A0 d.kind),.v (.sl (d.args.map Ty.cells)),.v (A0 (d.count:Int)),.v (A0 0),.own 0 [],.v (A0 0),.v (A0 0),.own 0 [],.v (A0 0)]]) [] @u8 ?_;refine AB ?_;refine A7 @u8 ?_;refine A3 tT wz ?_;refine A7 @he ?_;exact AT @he
  | 2,_,z1,z3=>
   simp at z1;subst z1;have w:=Bm 0 x (by rw[u8];rfl) (z3 0 x oO rfl);have v:=Bm 1 y (by rw[u8];rfl) (z3 1 y oO rfl);generalize (x.inferN g).1=d at *;generalize (y.inferN g).1=e1 at *;simp only[C2]at w v;clear Bm;generalize List.map H3 g=G at *;refine A7 (j3 @h1 @Ay @u8) ?_;refine B4 ?_;refine A7 @u8 ?_;refine A3 tT w ?_;refine A4 ?_;refine AC (s':=[sV 0 (.sl G),sV 67 (A0 1),sV 66 (A0 3),sV 65 (.sl [x.cells,y.cells,z'.cells]),sP 3,sL 3 [.v (A0 t.kind),.v (A0 t.index),.v (A0 t.type.kind),.v (.sl (t.type.args.map Ty.cells)),.v (.sl [x.cells,y.cells,z'.cells])],sP 4,sL 4 [.v (A0 0),.own 0 [],.v (A0 0)],sP 9,sL 9 [.v (A0 d.kind),.v (.sl (d.args.map Ty.cells)),.v (A0 (d.count:Int)),.v (A0 0),.own 0 [],.v (A0 0),.v (A0 0),.own 0 [],.v (A0 0)]]) [] @u8 ?_;refine AB ?_;refine A7 @u8 ?_;refine A3 tT v ?_;refine A4 ?_
   refine AC (s':=[sV 0 (.sl G),sV 67 (A0 2),sV 66 (A0 3),sV 65 (.sl [x.cells,y.cells,z'.cells]),sP 3,sL 3 [.v (A0 t.kind),.v (A0 t.index),.v (A0 t.type.kind),.v (.sl (t.type.args.map Ty.cells)),.v (.sl [x.cells,y.cells,z'.cells])],sP 4,sL 4 [.v (A0 0),.own 0 [],.v (A0 0)],sP 9,sL 9 [.v (A0 d.kind),.v (.sl (d.args.map Ty.cells)),.v (A0 (d.count:Int)),.v (A0 e1.kind),.v (.sl (e1.args.map Ty.cells)),.v (A0 (e1.count:Int)),.v (A0 0),.own 0 [],.v (A0 0)]]) [] @u8 ?_;refine AB ?_;refine A7 @u8 ?_;refine A3 tT wz ?_;refine A7 @he ?_;exact AT @he
  | i+3,Mx,_,_=>exact absurd Mx sS
theorem jT (t:Tm)(g:List Ty)(Xq:g.length+t.count<=2147483648)(ht:t.shape=true)(hg:∀x∈g,x.ok){e:Int}(he:e≠0)(h:(t.inferN g).2=e) :
  cT gl 79 [.sl (g.map H3),t.dv] [] (.tup [wR,A0 e]) []:=by
 induction t using Tm.ind generalizing g with
 | h t ih=>
 obtain⟨ha,hi,hv,Be,hs⟩:=Tm.shape_node ht;rw[Tm.inferN_eq t]at h;by_cases h1:t.kind=1
 ·rw[if_pos h1]at h;split at h
  ·rename_i hq;obtain rfl:6=e:=h;refine A8 Tryz.func79 ?_;intro X hP u7 hf u9 hn hR u6 u5;have Jx:=K7 (u5 (.sl (g.map H3)) sS);simp at Jx;have Qz:(List.map H3 g).length=g.length:=sS;generalize List.map H3 g=G at *;refine A7 (j3 @h1 @hq @Qz) ?_;exact B9
  ·exact absurd h.symm he
 rw[if_neg h1]at h;by_cases Ay:t.kind=2
 ·rw[if_pos Ay]at h;rw[Ay]at ha
  obtain⟨b,hb⟩:∃b,t.args=[b]:=by
   match hh:t.args,ha with
   | [b],_=>exact⟨b,rfl⟩
  have Od:b∈t.args:=by rw[hb];simp
  rw[if_pos (.inl Ay)]at Be;have Hd:∀x∈g++[t.type],x.ok:=by
   intro x hx;rcases List.mem_append.1 hx with hx|hx;· exact hg x hx
   ·rw[List.mem_singleton.1 hx];exact Be
  have Yp:t.count=1+(b.count+0):=by rw[Tm.count_eq,hb];rfl
  have Yc:=Tm.count_pos b;have Ks:g.length<=2147483647:=oO;have wo:=I3 (gl:=gl) t.type Be;have Mw:=Ty.fold t.type;have fb:=Tm.fold b;have Rs:List.map H3 (g++[t.type])=List.map H3 g++[H3 t.type]:=sS;have Qz:(List.map H3 g).length=g.length:=sS;have Iq:∀e:List DV,e∈List.map H3 g->e.length=3:=by intro e he;simp only[List.mem_map]at he;obtain⟨x,-,rfl⟩:=he;rfl
  rw[hb]at h;simp only[Tm.inferN.infers]at h;by_cases Da:(b.inferN (g++[t.type])).2=0
  ·rw[if_pos Da]at h;simp only[if_true]at h;have hbo:=Tm.inferN_ok b (g++[t.type]) (hs b Od) Hd Da;have w1:=OE (gl:=gl) b (g++[t.type]) (by simp;omega) (hs b Od) Hd Da;generalize (b.inferN (g++[t.type])).1=rb at *;have Pq:CD t.kind t.type [rb]=X2 (Ty.mk 4 [t.type,rb]):=by rw[Ay];rfl
   rw[Pq]at h;have h4:=zc4 (Ty.mk 4 [t.type,rb]) (by rw[h];exact he);have Al:=zF (.inr rfl) Be hbo (by rw[h4];decide);rw[h4]at h;subst h;have wj:=YN (gl:=gl) 4 t.type rb Be.2 hbo.2 Al;rw[Rs]at w1;simp only[C2 t.type,C2 rb]at w1 wo wj;refine A8 Tryz.func79 ?_;intro X hP u7 hf u9 hn hR u6 u5;have Jx:=K7 (u5 (.sl (g.map H3)) sS);simp at Jx;generalize List.map H3 g=G at *;have Kg:List.take g.length G=G:=by rw[List.take_of_length_le];omega
   refine A7 @Ay ?_;refine A3 (j2 @Ay @Mw) wo ?_;refine A3 (j6 @Ay @hb @Kg @Qz @Iq @Ks) w1 ?_;refine A4 ?_;refine A3 tT wj ?_;exact BR
  ·rw[if_neg Da]at h;simp only at h;rw[if_neg Da]at h;have w1:=ih b Od (g++[t.type]) (by simp;omega) (hs b Od) Hd h;rw[Rs]at w1;simp only[C2 t.type]at w1 wo;clear ih h;refine A8 Tryz.func79 ?_;intro X hP u7 hf u9 hn hR u6 u5;have Jx:=K7 (u5 (.sl (g.map H3)) sS);simp at Jx;generalize List.map H3 g=G at *;have Kg:List.take g.length G=G:=by rw[List.take_of_length_le];omega
   refine A7 @Ay ?_;refine A3 (j2 @Ay @Mw) wo ?_;refine A3 (j6 @Ay @hb @Kg @Qz @Iq @Ks) w1 ?_;refine A7 @he ?_;exact AT @he
 rw[if_neg Ay]at h;have Bm:∀(i:Nat) (x:Tm),t.args[i]? = some x->(x.inferN g).2=0->cT gl 79 [.sl (g.map H3),x.dv] [] (.tup [.agg (H3 (x.inferN g).1),A0 0]) []:=by
  intro i x hx h0;have hm:=uE hx;have An:=Tm.count_mem hm;have Dg:=Tm.count_eq t;exact OE x g oO (hs x hm) hg h0
 by_cases hI:(Tm.inferN.infers t.args g).2=0
 ·rw[if_pos hI]at h;rw[<- h];exact eW hg ht h1 Ay hI (by rw[h];exact he) Bm
 rw[if_neg hI]at h;obtain⟨i,z,z1,z2,z3⟩:=cZ he h;have zm:=uE z1;have wz:=ih z zm g (by have An:=Tm.count_mem zm;have Dg:=Tm.count_eq t;omega) (hs z zm) hg z2;exact eX ht h1 Ay he z1 z3 wz Bm
theorem WH (g:List Ty)(hc:∀t∈g,t.count<=2147483648):cT gl 76 [.sl (g.map Ty.cells)] [] (A0 (OM g)) []:=by
 refine A8 Tryz.func76 ?_;intro X hP u7 hf u9 hn hR u6 u5;have hlen:=K7 (u5 (.sl (g.map Ty.cells)) sS);simp only[List.length_map]at hlen;by_cases h:16<g.length
 ·have h2:(16:Int)<(g.length:Int):=oO;refine A7 @h2 ?_;exact AT (j2 @OM.eq_1 @h)
 ·have Gf:¬(16<(g.length:Int)):=oO;refine A7 @Gf ?_;refine BK ?_;refine AC [] tT (O8 (g) (fun done=>HU done=0) (fun done rest=>[sV 11 (A0 done.length),sV 10 (A0 g.length),sV 9 (.sl (g.map Ty.cells)),sV 2 (A0 0)]) (rfl) ?_ ?_)
  ·intro done x rest hL Aq hI Aa;have Ag:done.length<g.length:=by rw[hL];simp
   have hx:=LI done (x::rest) hI;rw[<- hL]at hx;have w:=E1 (gl:=gl) x (hc x (uE Aq));have Bi:=Ty.fold x;refine A2 ?_;refine AE ?_;refine A7 @Aq ?_;by_cases Mn:x.checkN=0
   ·rw[Mn]at w;refine A3 (j2 @Aq @Bi) w ?_;refine CR (wr []) tT tT (Aa (by rw[LI done [x] hI];simp[HU,Mn]))
   ·refine A3 (j2 @Aq @Bi) w ?_;refine A7 @Mn ?_;exact AT (j6 @OM.eq_1 @h @hx @HU.eq_1 @HU.eq_2 @Mn)
  ·intro hI;refine A2 ?_;refine B6 ?_;refine A4 ?_;exact AT (j3 @OM.eq_1 @h @hI)
theorem zns (y:Ty):(X2 y).2=0\/(X2 y).1=A9:=by
 unfold X2;split;· exact .inl rfl
 ·exact .inr rfl
theorem znt {c:Prop}[Decidable c]{a b:Ty × Int}(ha:a.2=0\/a.1=A9)(hb:b.2=0\/b.1=A9):(if c then a else b).2=0\/(if c then a else b).1=A9:=by
 by_cases h:c;· rw[if_pos h];exact ha
 ·rw[if_neg h];exact hb
theorem zhu (k:Int)(y:Ty)(l:List Ty):(CD k y l).2=0\/(CD k y l).1=A9:=by
 unfold CD;repeat' first|exact zns _|exact .inl rfl|exact .inr rfl|apply znt
theorem z4s {k:Int}{y:Ty}{l:List Ty}(h:(CD k y l).2≠0):(CD k y l).1=A9:=(zhu k y l).resolve_left h
theorem zG {t:Tm}{g:List Ty}(h:(t.inferN g).2≠0):(t.inferN g).1=A9:=by
 rw[Tm.inferN_eq]at h ⊢;by_cases h1:t.kind=1
 ·rw[if_pos h1]at h ⊢;split at h;· rename_i q;rw[if_pos q]
  ·exact absurd rfl h
 ·rw[if_neg h1]at h ⊢;generalize (if t.kind=2 then g++[t.type] else g)=g' at *;split at h;· rename_i q;rw[if_pos q];exact z4s h
  ·rename_i q;rw[if_neg q]
theorem IF (Bl:ET gl 0=some H1)(t:Tm)(g:List Ty)(hg:∀x∈g,x.count<=2147483648)(ht:t.tys)(hc:t.count<=1073741824) :
  cT gl 49 [.sl (g.map Ty.cells),t.dv] [] (.tup [(t.typeE g).1.dv,A0 (t.typeE g).2]) []:=by
 have w1:=WH (gl:=gl) g hg;have w2:=ON (gl:=gl) Bl t ht oO;have Bk:=Tm.fold t;have fz:A9.dv=DV.agg [A0 0,.sl []]:=rfl;unfold Tm.typeE Tm.typedE;by_cases h1:OM g=0;rotate_left
 ·rw[if_neg h1];generalize OM g=e at *;refine A8 Tryz.func49 ?_;intro X hP u7 hf u9 hn hR u6 u5;refine A4 ?_;refine A3 tT w1 ?_;refine A7 @h1 ?_;exact AT (j2 @A9.eq_1 @h1)
 rw[if_pos h1];rw[h1]at w1;obtain⟨u7,Ym⟩:=aS h1;by_cases h2:t.checkN=0;rotate_left
 ·rw[if_neg h2];generalize t.checkN=e at *;refine A8 Tryz.func49 ?_;intro X hP u7 hf u9 hn hR u6 u5;refine A4 ?_;refine A3 tT w1 ?_;refine A4 ?_;refine A3 @Bk w2 ?_;refine A7 @h2 ?_;exact AT (j2 @A9.eq_1 @h2)
 rw[if_pos h2];obtain⟨hs,Cw⟩:=(Tm.checkN_iff t).1 h2;by_cases h3:(t.inferN g).2=0
 ·have h4:t.inferN g=((t.inferN g).1,0):=by rw[<- h3]
  have w:=PI (gl:=gl) Bl g Ym u7 t _ h2 h4;rw[h3];exact w
 ·have hz:=zG h3;rw[h2]at w2;have w3:=jT (gl:=gl) t g oO hs Ym h3 rfl;have w5:=SC (gl:=gl) g Ym u7;rw[hz];generalize (t.inferN g).2=e at *;generalize g.map H3=GG at *;refine A8 Tryz.func49 ?_;intro X hP u7 hf u9 hn hR u6 u5;refine A4 ?_;refine A3 tT w1 ?_;refine A4 ?_;refine A3 @Bk w2 ?_;refine A4 ?_;refine EW @Bk w5 w3 ?_;refine A7 @h3 ?_;exact AT (j2 @A9.eq_1 @h3)
theorem Z2 (Bl:ET gl 0=some H1){t:Tm}{a:T}{F:C3 []->a.V}(h:Dn [] t a F)(hc:t.count<=536870912) :
  cT gl 49 [.sl [],t.dv] [] (if (t.typeE []).2=0 then .tup [a.ty.dv,A0 0] else .tup [(Ty.mk 0 []).dv,A0 4]) []:=by
 have hs:=G4 h;have w:=IF (gl:=gl) Bl t [] sS (JW t hs) oO;simp only[List.map_nil]at w;have Dg:OM []=0:=rfl;by_cases hk:t.checkN=0
 ·have Be:t.typeE []=t.inferN []:=by
   unfold Tm.typeE Tm.typedE;rw[if_pos Dg,if_pos hk]
  rw[Be]at w ⊢;rcases JU h with h1|h1
  ·have h1:t.inferN []=(a.ty,0):=h1;rw[h1]at w ⊢;rw[if_pos rfl];exact w
  ·have h1:(t.inferN []).2=4:=h1;rw[if_neg (by rw[h1];decide)];rw[h1,zG (t:=t) (g:=[]) (by rw[h1];decide)]at w;exact w
 ·have Rr:t.checkN=4:=by
   unfold Tm.checkN at hk ⊢;rw[if_pos hs]at hk ⊢;split at hk;· rename_i q;rw[if_pos q]
   ·exact absurd rfl hk
  have Be:t.typeE []=(A9,4):=by
   unfold Tm.typeE Tm.typedE;rw[if_pos Dg,if_neg hk,Rr]
  rw[Be]at w ⊢;rw[if_neg dD];exact w
def II (t:Tm)(v:Val)(c:Nat)(work:Int):Val × Int × Int:=if (t.typeE []).2=0 then (if (c:Int)<=work then (v,(c:Int),0) else (DA,0,5)) else (DA,0,4)
theorem z4t (t:Tm)(v:Val)(c:Nat)(work:Int):(II t v c work).2.2=4\/(II t v c work).2.2=5\/((II t v c work).2.2=0/\(II t v c work).1=v):=by
 unfold II;split
 ·split;· exact .inr (.inr ⟨rfl,rfl⟩)
  ·exact .inr (.inl rfl)
 ·exact .inl rfl
theorem oM {t:Tm}{a:T}{F:C3 []->a.V}(h:Dn [] t a F)(h0:(t.typeE []).2=0):t.checkN=0/\t.inferN []=(a.ty,0):=by
 have Dg:OM []=0:=rfl;by_cases hk:t.checkN=0
 ·refine⟨hk,?_⟩;have Be:t.typeE []=t.inferN []:=by
   unfold Tm.typeE Tm.typedE;rw[if_pos Dg,if_pos hk]
  rcases JU h with h1|h1;· exact h1
  ·have h1:(t.inferN []).2=4:=h1;rw[Be,h1]at h0;cases h0
 ·unfold Tm.typeE Tm.typedE at h0;rw[if_pos Dg,if_neg hk]at h0;exact absurd h0 hk
theorem Z3 (Bl:ET gl 0=some H1){t:Tm}{l:List T}{r:T}{F:C3 []->(RC l r).V}(h:Dn [] t (RC l r) F)(hc:t.count<=536870912)(Z:C3 l)(y:r.V)(hl:QH l)(Hc:l.length<=1000000)(hr:r.plain)(Il:r.ok){c d:Nat}(Dp:WD d t (EP l Z)=some (PR r y,c))(wk:Nat)(Sj:wk<=65536)(M:Nat)(hM:M<=1073000000)(hX:MV.nles M (EP l Z)) :
  cT gl 105 [t.dv,.sl ((I2 l Z).map Val.cells),A0 (wk:Int)] [] (.tup [(II t (C5 r y) c wk).1.dv,A0 (II t (C5 r y) c wk).2.1,A0 (II t (C5 r y) c wk).2.2]) []:=by
 unfold II;by_cases h0:(t.typeE []).2=0
 ·rw[if_pos h0];obtain⟨h1,h2⟩:=oM h h0;have w:=Z1 (gl:=gl) Bl t l r Z _ c d Dp h1 h2 hl Hc hr Il wk Sj M hM hX;unfold zhs at w;split at w;· rename_i q;rw[if_pos q];exact w
  ·rename_i q;rw[if_neg q];exact w
 ·rw[if_neg h0];have Gb:=Z2 (gl:=gl) Bl h hc;rw[if_neg h0]at Gb;have Av:=Tm.fold t;have fz:(Ty.mk 0 []).dv = .agg [A0 0,.sl []]:=rfl;rw[fz]at Gb;refine A8 Tryz.func105 ?_;intro X hP u7 hf u9 hn hR u6 u5;refine A4 ?_;refine A3 @Av Gb ?_;refine A4 ?_;exact AT @DA.eq_1
end
section
def OT (b:RD)(s:LT):Prop:=∀t e u v u' r,b t e u=some (v,u',false)->s t e=some r->v=r.1/\u' = u+r.2
theorem I4 {b:RD}{s:LT}(h:OT b s){f x v:MV}{u u':Int}{r:MV × Nat}(h1:HJ b f x u=some (v,u',false))(h2:EG s f [x]=some r):v=r.1/\u' = u+r.2:=by
 cases f with
 | clo t e=>
  simp only[HJ]at h1;simp only[EG]at h2;split at h2;· cases h2
  rename_i w c hw;simp only[N4,Nat.add_zero]at h2;cases h2;exact h _ _ _ _ _ _ h1 hw
 | _=>cases h1
theorem jU {b:RD}{s:LT}(h:OT b s):∀{l:List Tm} {e:List MV} {u u':Int} {v:List MV} {r:List MV × Nat},DR b l e u=some (v,u',false)->G6 s l e=some r->v=r.1/\u' = u+r.2
 | [],_,_,_,_,_,h1,h2=>by simp only[DR,G6]at h1 h2;cases h1;cases h2;exact⟨rfl,sS⟩
 | x::l,e,u,u',v,r,h1,h2=>by
  simp only[DR,G6]at h1 h2;split at h1;· cases h1
  ·cases h1
  rename_i v1 u1 e1;split at h1;· cases h1
  rename_i l2 u2 o e2;cases h1;split at h2;· cases h2
  rename_i w c e3;split at h2;· cases h2
  rename_i l3 c3 e4;cases h2;obtain⟨rfl,rfl⟩:=h _ _ _ _ _ _ e1 e3;obtain⟨rfl,rfl⟩:=jU h e2 e4;exact⟨rfl,by simp only[Int.natCast_add];omega⟩
theorem zH {b:RD}{s:LT}(h:OT b s){f:MV}:∀{n k:Nat} {x v:MV} {u u':Int} {r:MV × Nat},G8 b f n k x u=some (v,u',false)->QF s f n k x=some r->v=r.1/\u' = u+r.2
 | 0,_,_,_,_,_,_,h1,h2=>by simp only[G8,QF]at h1 h2;cases h1;cases h2;exact⟨rfl,sS⟩
 | n+1,k,x,v,u,u',r,h1,h2=>by
  simp only[G8]at h1;simp only[QF]at h2;split at h1;· cases h1
  ·cases h1
  rename_i g u1 e1;split at h1;· cases h1
  ·cases h1
  rename_i r2 u2 e2;split at h2;· cases h2
  rename_i y c e3;split at h2;· cases h2
  rename_i z c2 e4;cases h2;rw[GU]at e3;obtain⟨⟨g',c3⟩,q1,q2⟩:=Option.bind_eq_some_iff.1 e3;obtain⟨⟨y',c4⟩,q3,q4⟩:=Option.map_eq_some_iff.1 q2;cases q4;obtain⟨rfl,rfl⟩:=I4 h e1 q1;obtain⟨rfl,rfl⟩:=I4 h e2 q3;obtain⟨rfl,rfl⟩:=zH h h1 e4;exact⟨rfl,by simp only[Int.natCast_add];omega⟩
theorem oN {b:RD}{s:LT}(h:OT b s){f x0:MV}:∀{L rest:List Nat} {x v:MV} {u u':Int} {c0:Nat} {r:MV × Nat},EK b f L rest x u=some (v,u',false)->G7 s f x0 rest=some (x,c0)->G7 s f x0 (L.reverse++rest)=some r->v=r.1/\u'+c0=u+r.2
 | [],rest,x,v,u,u',c0,r,h1,h2,h3=>by
  simp only[EK]at h1;simp only[List.reverse_nil,List.nil_append]at h3;rw[h2]at h3;cases h1;cases h3;exact⟨rfl,rfl⟩
 | y::L,rest,x,v,u,u',c0,r,h1,h2,h3=>by
  simp only[EK]at h1;have hr:(y::L).reverse++rest=L.reverse++(y::rest):=sS;rw[hr]at h3;split at h1;· cases h1
  ·cases h1
  rename_i g u1 e1;split at h1;· cases h1
  ·cases h1
  rename_i g2 u2 e2;split at h1;· cases h1
  ·cases h1
  rename_i x' u3 e3;obtain⟨r0,cr⟩:=r;obtain⟨v1,c1,hd,-⟩:=T6 L.reverse.length h3;rw[List.drop_left]at hd;obtain⟨v2,c2,c3,k1,k2,k3⟩:=XE hd;rw[h2]at k1;cases k1;rw[GU]at k2;obtain⟨⟨g',c4⟩,q1,q2⟩:=Option.bind_eq_some_iff.1 k2;obtain⟨⟨y',c5⟩,q3,q4⟩:=Option.map_eq_some_iff.1 q2;rw[GU]at q3;obtain⟨⟨g3,c6⟩,q5,q6⟩:=Option.bind_eq_some_iff.1 q3;obtain⟨⟨y3,c7⟩,q7,q8⟩:=Option.map_eq_some_iff.1 q6;cases q8;cases q4;obtain⟨rfl,rfl⟩:=I4 h e1 q1;obtain⟨rfl,rfl⟩:=I4 h e2 q5;obtain⟨rfl,rfl⟩:=I4 h e3 q7;obtain⟨rfl,k5⟩:=oN h h1 hd h3;refine⟨rfl,?_⟩;simp only at k5 k3 ⊢;omega
theorem zc5 {b:RD}{s:LT}(h:OT b s){k:Int}{l:List MV}{v:MV}{u u':Int}{r:MV × Nat}(h1:MP b k l u=some (v,u',false))(h2:U1 s k l=some r):v=r.1/\u' = u+r.2:=by
 unfold U1 at h2;split at h2;rotate_left;· cases h2
 rename_i hk;unfold MP at h1;unfold VZ at h2;by_cases h3:k=3
 ·rw[if_pos h3]at h1 h2;split at h1;· exact I4 h h1 h2
  ·cases h1
 rw[if_neg h3]at h1 h2;by_cases h4:k=4
 ·rw[if_pos h4]at h1 h2;cases h1;cases h2;exact⟨rfl,sS⟩
 rw[if_neg h4]at h1 h2;by_cases h5:k=5
 ·rw[if_pos h5]at h1 h2;split at h1;· cases h1;cases h2;exact⟨rfl,sS⟩
  ·cases h1
 rw[if_neg h5]at h1 h2;by_cases h6:k=6
 ·rw[if_pos h6]at h1 h2;split at h1;· exact zH h h1 h2
  ·cases h1
 rw[if_neg h6]at h1 h2;by_cases h7:k=7
 ·rw[if_pos h7]at h1 h2;cases h1;cases h2;exact⟨rfl,sS⟩
 rw[if_neg h7]at h1 h2;by_cases h8:k=8
 ·rw[if_pos h8]at h1 h2;split at h1;· cases h1;cases h2;exact⟨rfl,sS⟩
  ·cases h1
 rw[if_neg h8]at h1 h2;by_cases h9:k=9
 ·rw[if_pos h9]at h1 h2;split at h1
  ·rename_i x f m;have:=oN h h1 (show G7 s f x []=some (x,0) from rfl) (show G7 s f x (m.reverse.reverse++[])=some r by rw[List.reverse_reverse,List.append_nil];exact h2);exact⟨this.1,by have:=this.2;omega⟩
  ·cases h1
 rw[if_neg h9]at h1 h2;by_cases Cc:k=10
 ·rw[if_pos Cc]at h1 h2;split at h1;· cases h1;cases h2;exact⟨rfl,sS⟩
  ·cases h1
 rw[if_neg Cc]at h1 h2;by_cases Ck:k=11
 ·rw[if_pos Ck]at h1 h2;split at h1;· cases h1;cases h2;exact⟨rfl,sS⟩
  ·cases h1
 rw[if_neg Ck]at h1 h2;by_cases Cf:k=12
 ·rw[if_pos Cf]at h1 h2;split at h1;· cases h1;cases h2;exact⟨rfl,sS⟩
  ·cases h1
 rw[if_neg Cf]at h1 h2;cases h1;cases h2;exact⟨rfl,sS⟩
theorem wT (most:Int):∀d d',OT (OB most d) (NY d')
 | 0,_=>fun t e u v u' r h=>by cases h
 | d+1,0=>fun t e u v u' r _ h=>by cases h
 | d+1,d'+1=>fun t e u v u' r h1 h2=>by
  have ih:=wT most d d';rw[OB]at h1;rw[NY]at h2;split at h1;· cases h1
  by_cases k1:t.kind=1
  ·rw[if_pos k1]at h1 h2;split at h2
   ·rename_i hi;rw[if_pos hi.1,uB hi.2]at h1;cases h1;cases h2;refine⟨?_,rfl⟩;simp[List.getD,uB hi.2]
   ·cases h2
  rw[if_neg k1]at h1 h2;by_cases k2:t.kind=2
  ·rw[if_pos k2]at h1 h2;split at h1
   ·rename_i b r' hb;split at h2;· cases h2
    cases h1;cases h2;refine⟨?_,rfl⟩;simp[Tm.argN,hb]
   ·cases h1
  rw[if_neg k2]at h1 h2;split at h2;· cases h2
  split at h2;· cases h2
  rename_i l c hl;split at h2;· cases h2
  rename_i w c' hw;cases h2;split at h1;· cases h1
  ·cases h1
  rename_i l' u1 e1;obtain⟨rfl,rfl⟩:=jU ih e1 hl;obtain⟨rfl,rfl⟩:=zc5 ih h1 hw;exact⟨rfl,by simp only[Int.natCast_add];omega⟩
end
section
def z4u (most:Int)(b:RD)(s:LT):Prop:=∀t e u v u' r,b t e u=some (v,u',true)->s t e=some r->most<u+(r.2:Int)
variable {most:Int}{b:RD}{s:LT}
theorem TA (h:z4u most b s){f x v:MV}{u u':Int}{r:MV × Nat}(h1:HJ b f x u=some (v,u',true))(h2:EG s f [x]=some r):most<u+(r.2:Int):=by
 cases f with
 | clo t e=>
  simp only[HJ]at h1;simp only[EG]at h2;split at h2;· cases h2
  rename_i w c hw;simp only[N4,Nat.add_zero]at h2;cases h2;exact h _ _ _ _ _ _ h1 hw
 | _=>cases h1
theorem zc6 (g:OT b s)(h:z4u most b s):∀{l:List Tm} {e:List MV} {u u':Int} {v:List MV} {r:List MV × Nat},DR b l e u=some (v,u',true)->G6 s l e=some r->most<u+(r.2:Int)
 | [],_,_,_,_,_,h1,h2=>by simp only[DR]at h1;cases h1
 | x::l,e,u,u',v,r,h1,h2=>by
  simp only[DR,G6]at h1 h2;split at h2;· cases h2
  rename_i w c e3;split at h2;· cases h2
  rename_i l3 c3 e4;cases h2;split at h1;· cases h1
  ·rename_i v1 u1 e1;have:=h _ _ _ _ _ _ e1 e3;simp only[Int.natCast_add]at this ⊢;omega
  rename_i v1 u1 e1;split at h1;· cases h1
  rename_i l2 u2 o e2;cases h1;have h5:=(g _ _ _ _ _ _ e1 e3).2;have:=zc6 g h e2 e4;simp only[Int.natCast_add]at this h5 ⊢;omega
theorem zc7 (g:OT b s)(h:z4u most b s){f:MV}:∀{n k:Nat} {x v:MV} {u u':Int} {r:MV × Nat},G8 b f n k x u=some (v,u',true)->QF s f n k x=some r->most<u+(r.2:Int)
 | 0,_,_,_,_,_,_,h1,h2=>by simp only[G8]at h1;cases h1
 | n+1,k,x,v,u,u',r,h1,h2=>by
  simp only[G8]at h1;simp only[QF]at h2;split at h2;· cases h2
  rename_i y c e3;split at h2;· cases h2
  rename_i z c2 e4;cases h2;rw[GU]at e3;obtain⟨⟨g',c3⟩,q1,q2⟩:=Option.bind_eq_some_iff.1 e3;obtain⟨⟨y',c4⟩,q3,q4⟩:=Option.map_eq_some_iff.1 q2;cases q4;split at h1;· cases h1
  ·rename_i w1 u1 e1;have:=TA h e1 q1;simp only[Int.natCast_add]at this ⊢;omega
  rename_i g1 u1 e1;obtain⟨rfl,rfl⟩:=I4 g e1 q1;split at h1;· cases h1
  ·rename_i w2 u2 e2;have:=TA h e2 q3;simp only[Int.natCast_add]at this ⊢;omega
  rename_i r2 u2 e2;obtain⟨rfl,rfl⟩:=I4 g e2 q3;have:=zc7 g h h1 e4;simp only[Int.natCast_add]at this ⊢;omega
theorem zI (g:OT b s)(h:z4u most b s){f x0:MV}:∀{L rest:List Nat} {x v:MV} {u u':Int} {c0:Nat} {r:MV × Nat},EK b f L rest x u=some (v,u',true)->G7 s f x0 rest=some (x,c0)->G7 s f x0 (L.reverse++rest)=some r->most+(c0:Int)<u+(r.2:Int)
 | [],rest,x,v,u,u',c0,r,h1,h2,h3=>by simp only[EK]at h1;cases h1
 | y::L,rest,x,v,u,u',c0,r,h1,h2,h3=>by
  simp only[EK]at h1;have hr:(y::L).reverse++rest=L.reverse++(y::rest):=sS;rw[hr]at h3;obtain⟨r0,cr⟩:=r;obtain⟨v1,c1,hd,hle⟩:=T6 L.reverse.length h3;rw[List.drop_left]at hd;obtain⟨v2,c2,c3,k1,k2,k3⟩:=XE hd;rw[h2]at k1;cases k1;rw[GU]at k2;obtain⟨⟨g',c4⟩,q1,q2⟩:=Option.bind_eq_some_iff.1 k2;obtain⟨⟨y',c5⟩,q3,q4⟩:=Option.map_eq_some_iff.1 q2;rw[GU]at q3;obtain⟨⟨g3,c6⟩,q5,q6⟩:=Option.bind_eq_some_iff.1 q3;obtain⟨⟨y3,c7⟩,q7,q8⟩:=Option.map_eq_some_iff.1 q6;cases q8;cases q4;split at h1;· cases h1
  ·rename_i w1 u1 e1;have:=TA h e1 q1;simp only at this ⊢;omega
  rename_i g1 u1 e1;obtain⟨rfl,rfl⟩:=I4 g e1 q1;split at h1;· cases h1
  ·rename_i w2 u2 e2;have:=TA h e2 q5;simp only at this ⊢;omega
  rename_i g2 u2 e2;obtain⟨rfl,rfl⟩:=I4 g e2 q5;split at h1;· cases h1
  ·rename_i w3 u3 e3;have:=TA h e3 q7;simp only at this ⊢;omega
  rename_i x' u3 e3;obtain⟨rfl,rfl⟩:=I4 g e3 q7;have:=zI g h h1 hd h3;simp only at this ⊢;omega
theorem zhv (g:OT b s)(h:z4u most b s){k:Int}{l:List MV}{v:MV}{u u':Int}{r:MV × Nat}(h1:MP b k l u=some (v,u',true))(h2:U1 s k l=some r):most<u+(r.2:Int):=by
 unfold U1 at h2;split at h2;rotate_left;· cases h2
 rename_i hk;unfold MP at h1;unfold VZ at h2;by_cases h3:k=3
 ·rw[if_pos h3]at h1 h2;split at h1;· exact TA h h1 h2
  ·cases h1
 rw[if_neg h3]at h1 h2;by_cases h4:k=4;· rw[if_pos h4]at h1;cases h1
 rw[if_neg h4]at h1 h2;by_cases h5:k=5;· rw[if_pos h5]at h1;split at h1 <;> cases h1
 rw[if_neg h5]at h1 h2;by_cases h6:k=6
 ·rw[if_pos h6]at h1 h2;split at h1;· exact zc7 g h h1 h2
  ·cases h1
 rw[if_neg h6]at h1 h2;by_cases h7:k=7;· rw[if_pos h7]at h1;cases h1
 rw[if_neg h7]at h1 h2;by_cases h8:k=8;· rw[if_pos h8]at h1;split at h1 <;> cases h1
 rw[if_neg h8]at h1 h2;by_cases h9:k=9
 ·rw[if_pos h9]at h1 h2;split at h1
  ·rename_i x f m;have:=zI g h h1 (show G7 s f x []=some (x,0) from rfl) (show G7 s f x (m.reverse.reverse++[])=some r by rw[List.reverse_reverse,List.append_nil];exact h2);omega
  ·cases h1
 rw[if_neg h9]at h1;by_cases Cc:k=10;· rw[if_pos Cc]at h1;split at h1 <;> cases h1
 rw[if_neg Cc]at h1;by_cases Ck:k=11;· rw[if_pos Ck]at h1;split at h1 <;> cases h1
 rw[if_neg Ck]at h1;by_cases Cf:k=12;· rw[if_pos Cf]at h1;split at h1 <;> cases h1
 rw[if_neg Cf]at h1;cases h1
theorem zj8 (most:Int):∀d d',z4u most (OB most d) (NY d')
 | 0,_=>fun t e u v u' r h=>by cases h
 | d+1,0=>fun t e u v u' r _ h=>by cases h
 | d+1,d'+1=>fun t e u v u' r h1 h2=>by
  have ih:=zj8 most d d';have ig:=wT most d d';rw[OB]at h1;rw[NY]at h2;split at h1
  ·rename_i hu;have:1<=r.2:=by
    split at h2
    ·split at h2;· cases h2;exact Nat.le_refl _
     ·cases h2
    split at h2
    ·split at h2;· cases h2
     ·cases h2;exact Nat.le_refl _
    split at h2;· cases h2
    split at h2;· cases h2
    split at h2;· cases h2
    cases h2;show 1<=1+_+_;omega
   omega
  by_cases k1:t.kind=1
  ·rw[if_pos k1]at h1;split at h1;· split at h1 <;> cases h1
   ·cases h1
  rw[if_neg k1]at h1 h2;by_cases k2:t.kind=2
  ·rw[if_pos k2]at h1;split at h1 <;> cases h1
  rw[if_neg k2]at h1 h2;split at h2;· cases h2
  split at h2;· cases h2
  rename_i l c hl;split at h2;· cases h2
  rename_i w c' hw;cases h2;split at h1;· cases h1
  ·rename_i l' u1 e1;have:=zc6 ig ih e1 hl;simp only[Int.natCast_add]at this ⊢;omega
  rename_i l' u1 e1;obtain⟨rfl,rfl⟩:=jU ig e1 hl;have:=zhv ig ih h1 hw;simp only[Int.natCast_add]at this ⊢;omega
theorem eY {t:Tm}{r:T}{F:C3 []->r.V}(h:Dn [] t r F){w:Int}(hw:0<=w){d c:Nat}(he:NY d t []=some (PR r (F ()),c))(hr:r.plain) :
  GS t [] (r:=r) (F ()) () w=II t (C5 r (F ())) c w:=by
 obtain⟨v,u,o,h1,-,m1,-⟩:=fZ (l:=[]) (r:=r) hw h () tT;unfold GS II;by_cases h0:(t.typeE []).2=0
 ·rw[if_pos h0,if_pos h0,h1];unfold XB at h1;split at h1;· cases h1
  ·rename_i v' u' e1;cases h1;have:=zj8 w _ d _ _ _ _ _ _ e1 he;simp only at this;rw[if_neg oO]
  ·rename_i v' u' e1;simp only[EP,LU]at h1;cases h1;have:=(wT w _ d _ _ _ _ _ _ e1 he).2;simp only at this;rw[if_pos oO];show (C5 r (F ()),u,0)=_;rw[show u=(c:Int) from oO]
 ·rw[if_neg h0,if_neg h0];rcases bY h with h2|h2;· rw[h2]at h0;exact absurd rfl h0
  ·rw[h2]
end
section
variable {gl:AF}
def T.parts2:T->List T
 | .pair a b=>[a,b]
 | .fn a b=>[a,b]
 | _=>[]
theorem oP (a:T):FX a.parts2+1=a.size:=by
 cases a with
 | pair a b=>simp only[T.parts2,FX,T.size];omega
 | fn a b=>simp only[T.parts2,FX,T.size];omega
 | _=>rfl
theorem z4v (a:T)(hk:¬a.ty.kind=4)(h:¬a.plain):∃x∈a.parts2,¬x.plain:=by
 cases a with
 | pair a b=>
  by_cases ha:a.plain;· exact⟨b,by simp[T.parts2],fun hb=>h ⟨ha,hb⟩⟩
  ·exact⟨a,by simp[T.parts2],ha⟩
 | fn a b=>exact absurd rfl hk
 | nat=>exact absurd tT h
 | list=>exact absurd tT h
 | unit=>exact absurd tT h
theorem oQ (a:T):a.ty.args.map Ty.cells=a.parts2.map fun x=>x.ty.cells:=by cases a <;> rfl
theorem wU (a:T):a.parts2.length<=2:=by cases a <;> simp[T.parts2]
theorem oR (a0:T)(hp0:¬a0.plain)(Cb:a0.size<=1000000)(b0 c2 c3 lp:Nat)(r r1:Loop)(Ka:r.params.size=1)(f2:¬b0=c2)(f3:¬b0=c3)(g2:¬c2=c3) :
  ItC Tryz.prog gl 138 [.prim (.func (.yield lp) #[] #[]),BC b0] [(b0,a0.ty.cells),(c2,[AK false]),(c3,[A0 0])] lp r (fun D0 w0=>∀a:T,YC Tryz.prog gl D0 w0 lp r [a.ty.dv] [(c2,[AK false]),(c3,[A0 0])] fun b Ae r'=>Ae=[(c2,[AK false]),(c3,[A0 0])]/\((¬a.ty.kind=4/\b=true/\r' = r)\/(a.ty.kind=4/\b=false/\r' = r1))) (fun Ae r'=>Ae=[(b0,a0.ty.cells),(c2,[AK false]),(c3,[A0 0])]/\r' = r1):=by
 refine SQ Tryz.func138 rfl kK (uF rfl) ?_;intro X hP u7 hf u9 hn Ft u6 u5 Rf hY;have hl3:¬lp=b0/\¬lp=c2/\¬lp=c3:=by simpa using Rf
 obtain⟨Bc,e2,e3⟩:=hl3;have Ax:¬b0=lp:=fun e=>Bc e.symm;have Dq:=Ne.symm e2;have Fb:=Ne.symm e3;have Gt:=Ne.symm f2;have Gs:=Ne.symm f3;have Eg:=Ne.symm g2;simp only[RU,OY,QX,D9,List.map_cons,List.map_nil,List.cons_append,List.nil_append];have Gr:=Ty.cells_eq a0.ty;refine BK ?_;refine AQ [6] fun K hK=>?_;simp[go_sem,hP,u7,hn,Bc,Ax,e2,Dq,e3,Fb,f2,Gt,f3,Gs,g2,Eg,Gr];refine n7 (E:=2) (els:=[[A0 a0.ty.kind,.sl (a0.ty.args.map Ty.cells)]]) (by simp[go_sem,hP];rfl) (by simp[go_sem,hP,u7,hn]) ⟨rfl,dD⟩ (by rw[hn];exact uF rfl) (by rfl) ?_;intro b hb hw;simp[go_sem]at hb;simp[go_sem,hP,u7,hn,Bc,Ax,e2,Dq,e3,Fb,f2,Gt,f3,Gs,g2,Eg,hb];repeat (refine⟨oO,?_⟩)
 refine hK _ ?_;clear hK K;have Cx:¬b=lp:=fun e=>hb.1 e.symm;have Bt:¬b=b0:=fun e=>hb.2.1 e.symm;have Mf:¬b=c2:=fun e=>hb.2.2.1 e.symm;have hb4:¬b=c3:=fun e=>hb.2.2.2 e.symm;refine BK ?_
 refine GH [] (by simp[go_sem]) (by simp[go_sem,Cx,Bt,Mf,hb4,hb,Bc,Ax,e2,Dq,e3,Fb,f2,Gt,f3,Gs,g2,Eg,E3,Gr,JZ]) (by simp[go_sem]) (CH
  (fun x:Nat × Nat × List (List DV) × List T=>x.2.2.1.length=x.2.1/\(∀e∈x.2.2.1,e.length=2)/\x.2.2.1.take x.2.2.2.length=E3 x.2.2.2/\x.2.2.2.length<=x.2.1/\(∃a∈x.2.2.2,¬a.plain)/\FX x.2.2.2<=1000000/\¬x.1=lp/\¬x.1=b0/\¬x.1=c2/\¬x.1=c3)
  (fun x=>[(.slot 0,.one (.v (.prim (.func (.yield lp) #[] #[])))),(.slot 1,.one (.v (BC b0))),(.slot 3,.one (.v (KK x.1 x.2.2.2.length x.2.1))),(.heap lp,.ob r),(.heap b0,.row [.v (A0 a0.ty.kind),.v (.sl (a0.ty.args.map Ty.cells))]),(.heap c2,.row [.v (AK false)]),(.heap c3,.row [.v (A0 0)]),(.heap x.1,.row (AM x.2.2.1))])
  (fun x=>FX x.2.2.2) (b,1,E3 [a0],[a0]) ⟨rfl,QO _,rfl,Nat.le_refl _,⟨a0,sS,hp0⟩,by simpa [FX] using Cb,Cx,Bt,Mf,hb4⟩ ?_)
 clear hb Cx Bt Mf hb4 b hw;rintro⟨b,cap,full,rest⟩ ⟨i1,i2,i3,i4,i5,i6,i7,i8,m2,m3⟩ ih;simp only at i1 i2 i3 i4 i5 i6 i7 i8 m2 m3;have Tf:=Ne.symm m2;have Ta:=Ne.symm m3;have Jd:¬lp=b:=fun e=>i7 e.symm;have Iz:¬b0=b:=fun e=>i8 e.symm;rcases List.eq_nil_or_concat rest with rfl|⟨init,a,Ac⟩
 ·obtain⟨a,ha,-⟩:=i5;cases ha
 ·rw[List.concat_eq_append]at Ac;subst Ac;have Kw:(init++[a]).length=init.length+1:=sS;have hls:=T7 (init++[a]);rw[Kw]at hls i3 i4;rw[Kw];have Al:init.length+1<=HL:=by unfold HL;omega
  have Cy:full[init.length]? = some a.ty.cells:=by
   have h1:(full.take (init.length+1))[init.length]? = some a.ty.cells:=by rw[i3];simp[E3]
   rw[List.getElem?_take_of_lt oO]at h1;exact h1
  have Hl:=gE i2 Cy;rw[Ty.cells_eq a.ty]at Hl;have hps':=oP a;have Fe:=wU a;have u8:=oQ a;have Bb:=MQ init [a];have hsz2:=MQ init a.parts2;simp only[FX]at Bb;have Wm:=T7 (init++a.parts2);rw[List.length_append]at Wm;have Nl:=Ty.fold a.ty;have Tz:E3 a.parts2=a.ty.args.map Ty.cells:=u8.symm;have Um:(AM full).length=cap * 2:=by rw[F6 i2,i1]
  refine AX (j8 @Al @Bc @Ax @e2 @Dq @e3 @Fb (j8 @f2 @Gt @f3 @Gs @g2 @Eg @i7 (j7 @i8 @Jd @Iz @m2 @Tf @m3 @Ta))) ?_;refine AE ?_;have Ag:((init.length:Nat):Int)<(init.length:Nat)+1:=oO;refine AX (j8 @Al @Bc @Ax @e2 @Dq @e3 @Fb (j8 @f2 @Gt @f3 @Gs @g2 @Eg @i7 (j8 @i8 @Jd @Iz @m2 @Tf @m3 @Ta @Hl))) ?_;have Np:init.length+(a.ty.args.map Ty.cells).length<=HL:=by
   rw[u8,List.length_map];unfold HL;omega
  have Vp:∀e∈a.ty.args.map Ty.cells,e.length=2:=by rw[u8];exact QO a.parts2
  have Gk:(a.ty.args.map Ty.cells).length=a.parts2.length:=by rw[u8,List.length_map]
  have Bz:(init++a.parts2).length=init.length+a.parts2.length:=List.length_append;have Pn:full.take init.length=E3 init:=by
   have h1:(full.take (init.length+1)).take init.length=(E3 (init++[a])).take init.length:=by rw[i3]
   rw[List.take_take,Nat.min_eq_left oO]at h1;rw[h1];simp[E3]
  generalize a.ty.args.map Ty.cells=zs at *
  apply zbv (fun x:Nat × Nat × List (List DV)=>x.2.2.length=x.2.1/\(∀e∈x.2.2,e.length=2)/\x.2.2.take (init++a.parts2).length=E3 (init++a.parts2)/\(init++a.parts2).length<=x.2.1/\¬x.1=lp/\¬x.1=b0/\¬x.1=c2/\¬x.1=c3)
   (fun x=>[(.slot 0,.one (.v (.prim (.func (.yield lp) #[] #[])))),(.slot 1,.one (.v (BC b0))),(.slot 3,.one (.v (KK x.1 (init++a.parts2).length x.2.1))),(.slot 4,.one (.loc 4 0)),(.loc 4,.row [.v (A0 a.ty.kind),.v (.sl zs)]),(.heap lp,.ob r),(.heap b0,.row [.v (A0 a0.ty.kind),.v (.sl (a0.ty.args.map Ty.cells))]),(.heap c2,.row [.v (AK false)]),(.heap c3,.row [.v (A0 0)]),(.heap x.1,.row (AM x.2.2))])
  ·intro Ac;refine BK ?_;refine j0 (by rw[hP];exact AZ) 7 ?_ ?_ [] [23] fun K hK=>?_;· decide
   ·rfl
   simp[go_sem,hP,u7,hn,Al,Bc,Ax,e2,Dq,e3,Fb,f2,Gt,f3,Gs,g2,Eg,i7,i8,Jd,Iz,m2,Tf,m3,Ta,Hl];repeat (refine⟨oO,?_⟩)
   refine⟨by rfl,?_⟩;refine Y5 (E:=2) (B:=32) (b:=b) (n:=init.length) (cap:=cap) (full:=full) (zs:=zs) (zd:=[A0 0,.sl []]) (by simp[go_sem,hP,u7,hn]) (by simp[go_sem,hP,u7,hn]) (by simp[go_sem,Bc,Ax,e2,Dq,e3,Fb,f2,Gt,f3,Gs,g2,Eg,i7,i8,Jd,Iz,m2,Tf,m3,Ta]) (by simp[go_sem,hP]) (by rw[hP];kernel_rfl) rfl ⟨dD,dD⟩ (by rw[hP];rfl) (by rw[hn];exact uF rfl) i1 oO Np i2 Vp rfl ?_ ?_
   ·intro hle;simp[go_sem,hP,u7,hn,Bc,Ax,e2,Dq,e3,Fb,f2,Gt,f3,Gs,g2,Eg,i7,i8,Jd,Iz,m2,Tf,m3,Ta];refine hK _ ?_;clear hK K;rw[Gk]at hle;have q1:(full.take init.length++zs++full.drop (init.length+zs.length)).length=cap:=by
     simp only[List.length_append,List.length_take,List.length_drop,i1,Gk];omega
    have q2:=WC (n:=init.length) i2 Vp (rest:=full.drop (init.length+zs.length)) fun e he=>i2 e (List.mem_of_mem_drop he);have q3:=T8 (parts:=a.parts2) Pn (full.drop (init.length+zs.length));rw[Tz]at q3;have q4:(init++a.parts2).length<=cap:=by rw[Bz];exact hle
    have q5:init.length+zs.length=(init++a.parts2).length:=by rw[Bz,Gk]
    have Am:=Ac (b,cap,_) ⟨q1,q2,q3,q4,i7,i8,m2,m3⟩;simp only at Am;rw[<- q5]at Am;rw[List.append_assoc]at Am;generalize full.take init.length++(zs++full.drop (init.length+zs.length))=fl at *;refine K0 ?_;refine AC [] (j8 @Bc @Ax @e2 @Dq @e3 @Fb @f2 (j8 @Gt @f3 @Gs @g2 @Eg @i7 @i8 (j7 @Jd @Iz @m2 @Tf @m3 @Ta @JZ))) Am
   ·intro Ag b' Au hc Ab hw';simp[go_sem]at Ab;simp[go_sem,hP,u7,hn,Bc,Ax,e2,Dq,e3,Fb,f2,Gt,f3,Gs,g2,Eg,i7,i8,Jd,Iz,m2,Tf,m3,Ta,Ab];refine hK _ ?_;clear hK K;have k1:¬b' = lp:=fun e=>Ab.1 e.symm;have k2:¬b' = b0:=fun e=>Ab.2.1 e.symm;have k4:¬b' = c2:=fun e=>Ab.2.2.1 e.symm;have k5:¬b' = c3:=fun e=>Ab.2.2.2.1 e.symm;have k3:¬b=b':=fun e=>Ab.2.2.2.2 e;have q1:(full.take init.length++zs++List.replicate (Au - (init.length+zs.length)) [A0 0,DV.sl []]).length=Au:=by
     simp only[List.length_append,List.length_take,List.length_replicate,i1];omega
    have q2:=WC (n:=init.length) i2 Vp (rest:=List.replicate (Au - (init.length+zs.length)) [A0 0,DV.sl []]) fun e he=>by rw[(List.mem_replicate.1 he).2];rfl
    have q3:=T8 (parts:=a.parts2) Pn (List.replicate (Au - (init.length+zs.length)) [A0 0,DV.sl []]);rw[Tz]at q3;have q5:init.length+zs.length=(init++a.parts2).length:=by rw[Bz,Gk]
    have q4:(init++a.parts2).length<=Au:=by rw[<- q5];exact hc
    have Am:=Ac (b',Au,_) ⟨q1,q2,q3,q4,k1,k2,k4,k5⟩;simp only at Am;rw[<- q5]at Am;rw[List.append_assoc]at Am;generalize full.take init.length++(zs++List.replicate (Au - (init.length+zs.length)) [A0 0,DV.sl []])=fl at *;refine K0 ?_;refine AC [] (j8 @Bc @Ax @e2 @Dq @e3 @Fb @f2 (j8 @Gt @f3 @Gs @g2 @Eg @i7 @i8 (j8 @Jd @Iz @m2 @Tf @m3 @Ta @Ab (j6 @k1 @k2 @k3 @k4 @k5 @JZ)))) Am
  ·rintro⟨b',Au,Kr⟩ ⟨w1,w2,w3,w4,w5,w6,y2,y3⟩;simp only at w1 w2 w3 w4 w5 w6 y2 y3 ⊢;have Lh:¬lp=b':=fun e=>w5 e.symm;have Lj:¬b0=b':=fun e=>w6 e.symm;have Ql:=Ne.symm y2;have Qg:=Ne.symm y3;have w8:FX (init++a.parts2)<=1000000:=oO;have w9:FX (init++a.parts2)<FX (init++[a]):=oO;have Am:=fun w7=>ih (b',Au,Kr,init++a.parts2) ⟨w1,w2,w3,w4,w7,w8,w5,w6,y2,y3⟩ w9;simp only at Am;have w7:¬a.ty.kind=4->∃x∈init++a.parts2,¬x.plain:=by
    intro hk;obtain⟨x,hx,hxp⟩:=i5;rcases List.mem_append.1 hx with hx|hx;· exact⟨x,List.mem_append_left _ hx,hxp⟩
    ·rw[List.mem_singleton.1 hx]at hxp;obtain⟨y,hy,hyp⟩:=z4v a hk hxp;exact⟨y,List.mem_append_right _ hy,hyp⟩
   generalize hnn:(init++a.parts2).length=nn at *;refine BK ?_;first|refine AQ [] fun K hK=>?_|refine AL (by rw[hP];exact AZ) [] fun K hK=>?_
   refine QY (j8 @Bc @Ax @e2 @Dq @e3 @Fb @f2 (j8 @Gt @f3 @Gs @g2 @Eg @w5 @w6 (j7 @Lh @Lj @y2 @Ql @y3 @Qg @Nl))) ?_;repeat (refine⟨oO,?_⟩)
   refine Q7 (by simp[go_sem]) hP u7 (hY a) Ka (by simp[go_sem,Bc,Ax,e2,Dq,e3,Fb,f2,Gt,f3,Gs,g2,Eg,w5,w6,Lh,Lj,y2,Ql,y3,Qg,Nl]) rfl (AO (by simp[go_sem,Bc,Ax,e2,Dq,e3,Fb,f2,Gt,f3,Gs,g2,Eg,w5,w6,Lh,Lj,y2,Ql,y3,Qg]) (AO (by simp[go_sem,Bc,Ax,e2,Dq,e3,Fb,f2,Gt,f3,Gs,g2,Eg,w5,w6,Lh,Lj,y2,Ql,y3,Qg]) (by simp[BP]))) (by simp[Bc,Ax,e2,Dq,e3,Fb,f2,Gt,f3,Gs,g2,Eg,w5,w6,Lh,Lj,y2,Ql,y3,Qg]) (by simp[go_sem,Bc,Ax,e2,Dq,e3,Fb,f2,Gt,f3,Gs,g2,Eg,w5,w6,Lh,Lj,y2,Ql,y3,Qg]) (by rw[hn];exact uF rfl) [(.slot 0,.one (.v (.prim (.func (.yield lp) #[] #[])))),(.slot 1,.one (.v (BC b0))),(.slot 3,.one (.v (KK b' nn Au))),(.heap b0,.row [.v (A0 a0.ty.kind),.v (.sl (a0.ty.args.map Ty.cells))]),(.heap b',.row (AM Kr))] ?_ ?_ ?_
   ·intro m v h;simp only[List.mem_cons,List.not_mem_nil,or_false,uD]at h;rcases h with⟨rfl,rfl⟩|⟨rfl,rfl⟩|⟨rfl,rfl⟩|⟨rfl,rfl⟩|⟨rfl,rfl⟩ <;> simp[go_sem,Bc,Ax,e2,Dq,e3,Fb,f2,Gt,f3,Gs,g2,Eg,w5,w6,Lh,Lj,y2,Ql,y3,Qg]
   ·rintro _ _ _ ⟨rfl,-⟩;simp[Bc,Ax,e2,Dq,e3,Fb,f2,Gt,f3,Gs,g2,Eg,w5,w6,Lh,Lj,y2,Ql,y3,Qg]
   ·rintro bb Ae r' ⟨rfl,⟨hk,rfl,rfl⟩|⟨hk,rfl,rfl⟩⟩ -
    ·have Am:=Am (w7 hk);simp only[List.cons_append,List.nil_append];simp[go_sem,hP,u7,hn];refine F1 ?_;clear hK K;refine B6 ?_;refine K0 ?_;refine AC [] (j8 @Bc @Ax @e2 @Dq @e3 @Fb @f2 (j8 @Gt @f3 @Gs @g2 @Eg @w5 @w6 (j7 @Lh @Lj @y2 @Ql @y3 @Qg @JZ))) Am
    ·simp only[List.cons_append,List.nil_append];simp[go_sem,hP,u7,hn];refine F1 ?_;clear hK K;refine AE ?_;refine SO Ft (φ:=[(b0,a0.ty.cells),(c2,[AK false]),(c3,[A0 0])]) (q:=_) (r:=.tup []) (by rw[hP,hf,u9];exact Tryz.func138) (by rw[u9];simp[go_sem]) (AO ?_ (AO ?_ (AO ?_ (by simp[BP])))) ?_ ?_ ⟨rfl,rfl⟩ V4;all_goals simp[go_sem,Bc,Ax,e2,Dq,e3,Fb,f2,Gt,f3,Gs,g2,Eg,w5,w6,Lh,Lj,y2,Ql,y3,Qg,Gr]
theorem gI (a:T)(hp:¬a.plain)(ho:a.ok):cT gl 56 [a.ty.dv] [] (.tup [AK false,A0 0]) []:=by
 have hs:a.size<=64:=ho;have hc:=T.ty_count a;have h0:a.ty.checkN=0:=(Ty.checkN_iff _).2 (T.ok_ty ho);have wc:=E1 (gl:=gl) a.ty oO;rw[h0]at wc;have fa:=Ty.fold a.ty;have Gr:=Ty.cells_eq a.ty;refine A8 Tryz.func56 ?_;intro X hP u7 hf u9 hn hR u6 u5;refine A4 ?_;refine A3 @fa wc ?_;refine A4 ?_;refine BK ?_;first|refine AQ [] fun K hK=>?_|refine AL (by rw[hP];exact AZ) [] fun K hK=>?_
 refine KI ?_;repeat (refine⟨oO,?_⟩)
 refine P5 hP u7 (SH a) (by simp[go_sem]) rfl (by simp[go_sem]) sS (by rw[hn];exact uF rfl) ?_;rintro r ψ ⟨b0,rfl,rfl⟩ -;simp[go_sem];refine F1 ?_;clear hK K;refine BK ?_;refine EC 2 (by simp[go_sem];rfl) ?_;intro c2 Jn;simp[go_sem]at Jn ⊢;refine EC 3 (by simp[go_sem];rfl) ?_;intro c3 Qt;simp[go_sem,Jn]at Qt ⊢;have hd:(¬b0=c2)/\(¬b0=c3)/\(¬c2=c3):=by refine⟨?_,?_,?_⟩ <;> (intro e;subst e;simp_all)
 obtain⟨f2,f3,g2⟩:=hd;have Gt:=Ne.symm f2;have Gs:=Ne.symm f3;have Eg:=Ne.symm g2;refine O9 hR.2 (f:=138) (fi:=#[]) (ca:=#[.pointer (some ⟨b0,0,none⟩)]) (by simp[go_sem]) (by simp[FR]) (φ:=[(b0,a.ty.cells),(c2,[AK false]),(c3,[A0 0])]) ?_ ?_ (Y:=fun lp r D0 w0=>∀x:T,YC X.P X.gl D0 w0 lp r [x.ty.dv] [(c2,[AK false]),(c3,[A0 0])] fun b Ae r'=>Ae=[(c2,[AK false]),(c3,[A0 0])]/\((¬x.ty.kind=4/\b=true/\r' = r)\/(x.ty.kind=4/\b=false/\r' = NG r (some .ret)))) (R:=fun Ae r'=>Ae=[(b0,a.ty.cells),(c2,[AK false]),(c3,[A0 0])]/\r'.state = .done/\r'.pending=some .ret) (SL:=[(2,BC c2),(3,BC c3)]) ?_ ?_ ?_ ?_ ?_
 ·refine AO ?_ (AO ?_ (AO ?_ (by simp[BP])));all_goals simp[go_sem,f2,f3,g2,Gt,Gs,Eg,Gr]
 ·simp[f2,f3,g2]
 ·intro n x h;simp only[List.mem_cons,List.not_mem_nil,or_false,uD]at h;rcases h with⟨rfl,rfl⟩|⟨rfl,rfl⟩ <;> simp[go_sem]
 ·intro lp r h1 h2 h3 h4;have:=oR (gl:=gl) a hp oO b0 c2 c3 lp r (NG r (some .ret)) (by rw[h3];rfl) f2 f3 g2;rw[hP,u7];refine⟨this.1,fun D w vs a1 a2 a3 a4 a5 a6=>(this.2 D w vs a1 a2 a3 a4 a5 a6).mono ?_⟩;rintro e w' ⟨v1,D',Ae,r',rfl,Uw,rest⟩;refine⟨v1,D',Ae,r',rfl,?_,rest⟩;obtain⟨rfl,rfl⟩:=Uw;exact⟨rfl,rfl,rfl⟩
 ·intro lp r D0 w0 h1 h2 h3 h4 h5 h6 h7 h8 h9 x;rw[hP,u7];refine VG X.n h5 h9 h1 (by rw[h3];rfl) (by rw[h3,hn];decide) (by rw[h3];decide) (by rw[h3];simp) ?_;intro X' Uq Mh hf' Lx En Bw Ha Ox;rw[h3,h6,h7];rw[hn]at Lx;clear hP u7 hn;have hP:=Uq;have u7:=Mh;have hn:=Lx;have Gf:¬lp=c2/\¬lp=c3:=by simpa using Ha
  obtain⟨e2,e3⟩:=Gf;have Dq:=Ne.symm e2;have Fb:=Ne.symm e3;have fx:=Ty.fold x.ty;simp only[OK,h3,VF,Q6,D9,List.cons_append,List.nil_append,List.map_cons,List.map_nil];have J0:=j6 @e2 @Dq @e3 @Fb @g2 @Eg;refine AX J0 ?_;refine VE (r:=r) (l:=lp) (by simp[Ctx.rd,En]) (by simp[go_sem]) h1 ?_;simp[go_sem,e2,Dq,e3,Fb,g2,Eg];refine AX J0 ?_;by_cases hk:x.ty.kind=4
  ·refine BK ?_;refine BN rfl ?_ ?_;rotate_left;· intro h;exact absurd hk (by simpa using h)
   intro _;refine AX J0 ?_;refine PY En (φ:=[(c2,[AK false]),(c3,[A0 0])]) (AO ?_ (AO ?_ (by simp[BP]))) (by simp[g2]) ?_ (some .ret) ⟨_,rfl⟩ ?_;· simp[go_sem,e2,Dq,e3,Fb,g2,Eg]
   ·simp[go_sem,e2,Dq,e3,Fb,g2,Eg]
   ·simp[go_sem,e2,Dq,e3,Fb,g2,Eg]
   ·exact⟨rfl,.inr ⟨hk,rfl,rfl⟩⟩
  ·refine BK ?_;refine BN rfl ?_ ?_;· intro h;exact absurd (by simpa using h) hk
   intro _;refine BK ?_;refine PY En (φ:=[(c2,[AK false]),(c3,[A0 0])]) (AO ?_ (AO ?_ (by simp[BP]))) (by simp[g2]) ?_ none rfl ?_;· simp[go_sem,e2,Dq,e3,Fb,g2,Eg]
   ·simp[go_sem,e2,Dq,e3,Fb,g2,Eg]
   ·simp[go_sem,e2,Dq,e3,Fb,g2,Eg]
   ·refine⟨rfl,.inl ⟨hk,rfl,?_⟩⟩;cases r;simp only[NG]at h1 h2 ⊢;subst h1 h2;rfl
 ·rintro Ae r' ⟨-,h,-⟩;rw[h];simp
 ·rintro Ae r' ⟨rfl,-,h⟩ -;rw[h];simp[go_sem,f2,f3,g2,Gt,Gs,Eg];exact BD (j6 @f2 @f3 @g2 @Gt @Gs @Eg)
end
end Go.Proofs.YtoniciijokeidaaGreatDoor.Lift
