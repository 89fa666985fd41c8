import Derived.Test.YtoniciijokeidaaGreatDoorQn5
set_option maxHeartbeats 8000000
set_option maxRecDepth 100000
set_option linter.unusedSimpArgs false
set_option linter.unusedVariables false
set_option linter.unnecessarySimpa false
namespace Go.Proofs.YtoniciijokeidaaGreatDoor.Lift
open Go
section
variable {gl:AF}
theorem DG (a b:Ty):cT gl 34 [a.dv,b.dv] [] (Ty.mk 4 [a,b]).dv []:=by
 refine A8 Tryz.func34 ?_;intro X hP u7 hf u9 hn hR u6 u5;refine A4 ?_;refine EW tT (EH a) (EH b) ?_;exact B9
theorem XZ (t:Ty)(hc:t.count<=1073741824):cT gl 162 [t.dv] [] (.tup [(X2 t).1.dv,A0 (X2 t).2]) []:=by
 refine A8 Tryz.func162 ?_;intro X hP u7 hf u9 hn hR u6 u5;refine A4 ?_;refine A3 tT (DX t oO) ?_;by_cases h:t.checkN=0
 ·refine A7 @h ?_;exact AT (j2 @X2.eq_1 @h)
 ·refine A7 @h ?_;exact AT (j3 @X2.eq_1 @h @A9.eq_1)
theorem P8 (k:Int)(a b:Ty):(Ty.mk k [a,b]).count=1+(a.count+(b.count+0)):=rfl
theorem z9m (g:List Ty):List.take g.length (List.map Ty.cells g)=List.map Ty.cells g:=by rw[List.take_of_length_le];simp
theorem MF:(Ty.mk 1 []).dv = .agg [A0 1,.sl []]:=rfl
theorem OQ:(Ty.mk 2 []).dv = .agg [A0 2,.sl []]:=rfl
theorem z9n (t:Tm)(g:List Ty)(Xq:g.length+t.count<=2147483648)(ht:t.shape=true)(hg:∀x∈g,x.ok):cT gl 124 [.sl (g.map Ty.cells),t.dv] [] (.tup [(t.inferN g).1.dv,A0 (t.inferN g).2]) []:=by
 induction t using Tm.ind generalizing g with
 | h t ih=>
 obtain⟨ha,hi,hv,Be,hs⟩:=Tm.shape_node ht;refine A8 Tryz.func124 ?_;intro X hP u7 hf u9 hn hR u6 u5;have Jx:=K7 (u5 (.sl (g.map Ty.cells)) sS);simp at Jx;by_cases h1:t.kind=1
 ·by_cases h2:(g.length:Int)<=t.index
  ·refine A7 (j2 @h1 @h2) ?_;exact AT (j4 (Tm.inferN_eq t) @h1 @h2 @A9.eq_1)
  ·have Ag:g.length - 1 - t.index.toNat<g.length:=oO;have hx:=uB Ag;generalize Un:g[g.length - 1 - t.index.toNat]=x at hx;have Cp:g[(g.length - 1 - t.index:Int).toNat]? = some x:=by rw[<- hx];congr 1;omega
   refine A7 (j2 @h1 @h2) ?_;refine A3 @Cp (EH x) ?_;exact AT (j4 (Tm.inferN_eq t) @h1 @h2 @hx)
 by_cases Ay:t.kind=2
 ·rw[Ay]at ha
  obtain⟨b,hb⟩:∃b,t.args=[b]:=by
   match hh:t.args,ha with
   | [b],_=>exact⟨b,rfl⟩
  have Od:b∈t.args:=by rw[hb];simp
  rw[if_pos (.inl Ay)]at Be;have Hd:∀x∈g++[t.type],x.ok:=by
   intro x hx;rcases List.mem_append.1 hx with hx|hx;· exact hg x hx
   ·rw[List.mem_singleton.1 hx];exact Be
  have Gg:=Tm.inferN_ok b (g++[t.type]) (hs b Od) Hd;have Yp:t.count=1+(b.count+0):=by rw[Tm.count_eq,hb];rfl
  have Yc:=Tm.count_pos b;have Ks:g.length<=2147483647:=oO;refine A7 @Ay ?_;refine A3 (j5 @Ay @hb @z9m (Ty.cells_eq t.type) @Ty.length_cells) (ih b Od (g++[t.type]) (by simp;omega) (hs b Od) Hd) ?_;by_cases he:(b.inferN (g++[t.type])).2=0
  ·have Sf:=Be.2;have Cw:=(Gg he).2;refine A7 @he ?_;refine EW tT (DG t.type (b.inferN (g++[t.type])).1) (XZ (Ty.mk 4 [t.type,(b.inferN (g++[t.type])).1]) (by rw[P8];omega)) ?_;refine IL ?_;simp[go_sem,hP,u7,hn,Tm.inferN_eq t,Ay,hb,Tm.inferN.infers,he,CD] <;> (try omega);all_goals exact t_f
  ·refine A7 @he ?_;refine IL ?_;simp[go_sem,hP,u7,hn,Tm.inferN_eq t,Ay,hb,Tm.inferN.infers,he,A9] <;> (try omega);all_goals exact t_f
 have hlen:=Tm.fit_len (u5 t.dv sS);refine A7 (j2 @h1 @Ay) ?_;refine BK ?_;refine GH [(1008,0)] (by simp[go_sem]) (by simp[go_sem,Tm.inferN.infers] <;> omega) (by simp[go_sem]) (O8 (t.args) (fun done=>(Tm.inferN.infers done g).2=0) (fun done rest=>[sV 0 (.sl (g.map Ty.cells)),sV 69 (A0 done.length),sV 68 (A0 t.args.length),sV 67 (.sl (t.args.map Tm.cells)),(.slot 8,.one (.own 1008 ((Tm.inferN.infers done g).1.map Ty.cells))),(.tok 1008,.tk 2 (Tm.inferN.infers done g).1.length),sL 4 [.v (A0 0),.own 0 []],sP 4,sL 3 [.v (A0 t.kind),.v (A0 t.index),.v (A0 t.type.kind),.v (.sl (t.type.args.map Ty.cells)),.v (.sl (t.args.map Tm.cells))],sP 3]) (rfl) ?_ ?_)
 ·intro done x rest hL Aq hI Aa;have Ag:done.length<t.args.length:=by rw[hL];simp
  have Dd:=uE Aq;have An:=Tm.count_mem Dd;have Dg:=Tm.count_eq t;have Nb:=Tm.inferN_ok x g (hs x Dd) hg;refine A2 ?_;refine AE ?_;refine A7 @Aq ?_;refine A3 @Aq (ih x Dd g oO (hs x Dd) hg) ?_;by_cases he:(x.inferN g).2=0
  ·have Hs:=Tm.infers_snoc done x g hI he;have Fc:=(Tm.infers_all done g hI).1;refine CR (wr [(1008,86)]) (j3 @Hs @Fc (Ty.cells_eq (x.inferN g).1)) (j2 @he @Fc) (Aa (by rw[Hs]))
  ·have Fd:=Tm.infers_stop done x rest g hI he;rw[<- hL]at Fd;refine A7 @he ?_;exact AT (j6 (Tm.inferN_eq t) @h1 @Ay @Fd @he @A9.eq_1)
 ·intro hI;have hN:t.inferN g=CD t.kind t.type (Tm.inferN.infers t.args g).1:=by rw[Tm.inferN_eq t];simp[h1,Ay,hI]
  have Fc:=(Tm.infers_all t.args g hI).1;have Kz:∀a∈(Tm.inferN.infers t.args g).1,a.ok:=by
   intro a ha;obtain⟨i,hi,rfl⟩:=List.mem_iff_getElem.1 ha;obtain⟨x1,x2⟩:=(Tm.infers_all t.args g hI).2 i t.args[i] (uB oO);rw[uB hi]at x2;rw[Option.some.inj x2];exact Tm.inferN_ok _ g (hs _ (List.getElem_mem _)) hg x1
  obtain⟨ds,Fs⟩:∃ds,ds=(Tm.inferN.infers t.args g).1:=⟨_,rfl⟩;rw[<- Fs]at hN Fc Kz ⊢;rw[<- Fc]at ha;have h1l:t.kind=5\/t.kind=11\/t.kind=12->∃x,ds=[x]:=by
   intro hk;have:ds.length=1:=by rcases hk with hk|hk|hk <;> simp[hk,B5]at ha <;> omega
   exact List.length_eq_one_iff.1 this
  have Xw:t.kind=3\/t.kind=8\/t.kind=10->∃x y,ds=[x,y]:=by
   intro hk;have:ds.length=2:=by rcases hk with hk|hk|hk <;> simp[hk,B5]at ha <;> omega
   match ds,this with
   | [x,y],_=>exact⟨x,y,rfl⟩
  have h3l:t.kind=6\/t.kind=9->∃x y z,ds=[x,y,z]:=by
   intro hk;have:ds.length=3:=by rcases hk with hk|hk <;> simp[hk,B5]at ha <;> omega
   match ds,this with
   | [x,y,z],_=>exact⟨x,y,z,rfl⟩
  refine A2 ?_;refine B6 ?_;refine EW tT BM EI ?_;by_cases h3:t.kind=3
  ·obtain⟨x,y,rfl⟩:=Xw (.inl h3);by_cases hx:x.kind=4
   ·obtain⟨p,q,hp,op,oq,e0,e1⟩:=Ty.ok_args (Kz x sS) (.inr hx);refine A7 @h3 ?_;refine A3 (j3 @h3 @hx @hp) (BB p y) ?_;by_cases hs:p.same y=true
    ·refine A7 (j4 @h3 @hx @hp @hs) ?_;exact AT (j7 @hN @CD.eq_1 @h3 @hx @e0 @e1 @hs)
    ·refine A7 (j4 @h3 @hx @hp @hs) ?_;exact AT (j8 @hN @CD.eq_1 @h3 @hx @e0 @e1 @hs @A9.eq_1)
   ·refine A7 (j2 @h3 @hx) ?_;exact AT (j5 @hN @CD.eq_1 @h3 @hx @A9.eq_1)
  by_cases h4:t.kind=4
  ·refine A7 @h4 ?_;exact AT (j3 @hN @CD.eq_1 @h4)
  by_cases h5:t.kind=5
  ·obtain⟨x,rfl⟩:=h1l (.inl h5);refine A7 @h5 ?_;refine A3 (j3 @h5 @MF @OQ) (BB x (Ty.mk 1 [])) ?_;by_cases hs:x.same (Ty.mk 1 [])=true
   ·refine A7 (j2 @h5 @hs) ?_;exact AT (j4 @hN @CD.eq_1 @h5 @hs)
   ·refine A7 (j2 @h5 @hs) ?_;exact AT (j5 @hN @CD.eq_1 @h5 @hs @A9.eq_1)
  by_cases h6:t.kind=6
  ·obtain⟨x,y,z,rfl⟩:=h3l (.inl h6);rw[if_pos (by simp[h6])]at Be;by_cases Bg:x.same t.type=true
   ·by_cases By:y.same (Ty.mk 4 [Ty.mk 1 [],Ty.mk 4 [t.type,t.type]])=true
    ·refine A7 @h6 ?_;refine tD (j5 @h6 @Bg @By @MF @OQ) (BB x t.type) (DG t.type t.type) (DG (Ty.mk 1 []) (Ty.mk 4 [t.type,t.type])) (BB y (Ty.mk 4 [Ty.mk 1 [],Ty.mk 4 [t.type,t.type]])) (BB z (Ty.mk 1 [])) ?_;by_cases Fa:z.same (Ty.mk 1 [])=true
     ·refine A7 (j4 @h6 @Bg @By @Fa) ?_;refine A3 @h6 (EH t.type) ?_;exact AT (j6 @hN @CD.eq_1 @h6 @Bg @By @Fa)
     ·refine A7 (j4 @h6 @Bg @By @Fa) ?_;exact AT (j7 @hN @CD.eq_1 @h6 @Bg @By @Fa @A9.eq_1)
    ·refine A7 @h6 ?_;refine TI (j5 @h6 @Bg @By @MF @OQ) (BB x t.type) (DG t.type t.type) (DG (Ty.mk 1 []) (Ty.mk 4 [t.type,t.type])) (BB y (Ty.mk 4 [Ty.mk 1 [],Ty.mk 4 [t.type,t.type]])) ?_;refine A7 (j3 @h6 @Bg @By) ?_;exact AT (j6 @hN @CD.eq_1 @h6 @Bg @By @A9.eq_1)
   ·refine A7 @h6 ?_;refine A3 (j2 @h6 @Bg) (BB x t.type) ?_;refine A7 (j2 @h6 @Bg) ?_;exact AT (j5 @hN @CD.eq_1 @h6 @Bg @A9.eq_1)
  by_cases h7:t.kind=7
  ·refine A7 @h7 ?_;exact AT (j3 @hN @CD.eq_1 @h7)
  by_cases h8:t.kind=8
  ·obtain⟨x,y,rfl⟩:=Xw (.inr (.inl h8));by_cases Bg:x.same (Ty.mk 1 [])=true
   ·refine A7 @h8 ?_;refine EW (j4 @h8 @Bg @MF @OQ) (BB x (Ty.mk 1 [])) (BB y (Ty.mk 2 [])) ?_;by_cases By:y.same (Ty.mk 2 [])=true
    ·refine A7 (j3 @h8 @Bg @By) ?_;exact AT (j5 @hN @CD.eq_1 @h8 @Bg @By)
    ·refine A7 (j3 @h8 @Bg @By) ?_;exact AT (j6 @hN @CD.eq_1 @h8 @Bg @By @A9.eq_1)
   ·refine A7 @h8 ?_;refine A3 (j4 @h8 @Bg @MF @OQ) (BB x (Ty.mk 1 [])) ?_;refine A7 (j2 @h8 @Bg) ?_;exact AT (j5 @hN @CD.eq_1 @h8 @Bg @A9.eq_1)
  by_cases h9:t.kind=9
  ·obtain⟨x,y,z,rfl⟩:=h3l (.inr h9);rw[if_pos (by simp[h9])]at Be;by_cases Bg:x.same t.type=true
   ·by_cases By:y.same (Ty.mk 4 [Ty.mk 1 [],Ty.mk 4 [Ty.mk 2 [],Ty.mk 4 [t.type,t.type]]])=true
    ·refine A7 @h9 ?_;refine z35 (j5 @h9 @Bg @By @MF @OQ) (BB x t.type) (DG t.type t.type) (DG (Ty.mk 2 []) (Ty.mk 4 [t.type,t.type])) (DG (Ty.mk 1 []) (Ty.mk 4 [Ty.mk 2 [],Ty.mk 4 [t.type,t.type]])) (BB y (Ty.mk 4 [Ty.mk 1 [],Ty.mk 4 [Ty.mk 2 [],Ty.mk 4 [t.type,t.type]]])) (BB z (Ty.mk 2 [])) ?_;by_cases Fa:z.same (Ty.mk 2 [])=true
     ·refine A7 (j4 @h9 @Bg @By @Fa) ?_;refine A3 @h9 (EH t.type) ?_;exact AT (j6 @hN @CD.eq_1 @h9 @Bg @By @Fa)
     ·refine A7 (j4 @h9 @Bg @By @Fa) ?_;exact AT (j7 @hN @CD.eq_1 @h9 @Bg @By @Fa @A9.eq_1)
    ·refine A7 @h9 ?_;refine tD (j5 @h9 @Bg @By @MF @OQ) (BB x t.type) (DG t.type t.type) (DG (Ty.mk 2 []) (Ty.mk 4 [t.type,t.type])) (DG (Ty.mk 1 []) (Ty.mk 4 [Ty.mk 2 [],Ty.mk 4 [t.type,t.type]])) (BB y (Ty.mk 4 [Ty.mk 1 [],Ty.mk 4 [Ty.mk 2 [],Ty.mk 4 [t.type,t.type]]])) ?_;refine A7 (j3 @h9 @Bg @By) ?_;exact AT (j6 @hN @CD.eq_1 @h9 @Bg @By @A9.eq_1)
   ·refine A7 @h9 ?_;refine A3 (j2 @h9 @Bg) (BB x t.type) ?_;refine A7 (j2 @h9 @Bg) ?_;exact AT (j5 @hN @CD.eq_1 @h9 @Bg @A9.eq_1)
  by_cases Cc:t.kind=10
  ·obtain⟨x,y,rfl⟩:=Xw (.inr (.inr Cc));have An:=(Kz x sS).2;have Bp:=(Kz y sS).2;refine A7 @Cc ?_;refine EW @Cc (K6 x y) (XZ (Ty.mk 3 [x,y]) (by rw[P8];omega)) ?_;exact AT (j3 @hN @CD.eq_1 @Cc)
  by_cases Ck:t.kind=11
  ·obtain⟨x,rfl⟩:=h1l (.inr (.inl Ck));by_cases hx:x.kind=3
   ·obtain⟨p,q,hp,op,oq,e0,e1⟩:=Ty.ok_args (Kz x sS) (.inl hx);refine A7 (j3 @Ck @hx @hp) ?_;exact AT (j5 @hN @CD.eq_1 @Ck @hx @e0)
   ·refine A7 (j2 @Ck @hx) ?_;exact AT (j5 @hN @CD.eq_1 @Ck @hx @A9.eq_1)
  by_cases Cf:t.kind=12
  ·obtain⟨x,rfl⟩:=h1l (.inr (.inr Cf));by_cases hx:x.kind=3
   ·obtain⟨p,q,hp,op,oq,e0,e1⟩:=Ty.ok_args (Kz x sS) (.inl hx);refine A7 (j3 @Cf @hx @hp) ?_;exact AT (j5 @hN @CD.eq_1 @Cf @hx @e1)
   ·refine A7 (j2 @Cf @hx) ?_;exact AT (j5 @hN @CD.eq_1 @Cf @hx @A9.eq_1)
  refine A7 (j8 @h1 @Ay @h3 @h4 @h5 @h6 @h7 (j5 @h8 @h9 @Cc @Ck @Cf)) ?_;refine A3 @h1 IT ?_;exact AT (j8 @hN @CD.eq_1 @h1 @Ay @h3 @h4 @h5 (j7 @h6 @h7 @h8 @h9 @Cc @Ck @Cf))
def Tm.typedE (t:Tm)(g:List Ty):Ty × Int:=if t.checkN=0 then t.inferN g else (A9,t.checkN)
def Tm.typeE (t:Tm)(g:List Ty):Ty × Int:=if OM g=0 then t.typedE g else (A9,OM g)
theorem Tm.checkN_iff (t:Tm):t.checkN=0↔t.shape=true/\t.count<=4096:=by
 unfold Tm.checkN;split
 ·split;· rename_i h;simp;omega
  ·rename_i h;simp;constructor <;> first|assumption|omega
 ·rename_i h;simp[h]
theorem tG {l:List Ty}(h:HU l=0):∀x∈l,x.ok:=by
 induction l with
 | nil=>simp
 | cons a r ih=>
  simp only[HU]at h;split at h
  ·rename_i ha;intro x hx;rcases List.mem_cons.1 hx with rfl|hx;· exact (Ty.checkN_iff _).1 ha
   ·exact ih h x hx
  ·rename_i ha;exact absurd h ha
theorem aS {l:List Ty}(h:OM l=0):l.length<=16/\∀x∈l,x.ok:=by
 unfold OM at h;split at h;· cases h
 ·exact⟨oO,tG h⟩
theorem RZ (t:Tm)(g:List Ty)(u7:g.length<=1048576)(ht:t.tys)(hc:t.count<=1073741824)(hg:∀x∈g,x.ok):cT gl 96 [.sl (g.map Ty.cells),t.dv] [] (.tup [(t.typedE g).1.dv,A0 (t.typedE g).2]) []:=by
 refine A8 Tryz.func96 ?_;intro X hP u7 hf u9 hn hR u6 u5;refine A4 ?_;refine A3 tT (RY t ht oO) ?_;by_cases h:t.checkN=0
 ·refine A7 @h ?_;refine A3 tT (z9n t g oO ((Tm.checkN_iff t).1 h).1 hg) ?_;exact AT (j2 @Tm.typedE.eq_1 @h)
 ·refine A7 @h ?_;exact AT (j3 @Tm.typedE.eq_1 @h @A9.eq_1)
theorem H2 (t:Tm)(g:List Ty)(hg:∀x∈g,x.count<=2147483648)(ht:t.tys)(hc:t.count<=1073741824):cT gl 51 [.sl (g.map Ty.cells),t.dv] [] (.tup [(t.typeE g).1.dv,A0 (t.typeE g).2]) []:=by
 refine A8 Tryz.func51 ?_;intro X hP u7 hf u9 hn hR u6 u5;refine A4 ?_;refine A3 tT (X0 g hg) ?_;by_cases h:OM g=0
 ·have ha:=aS h;refine A7 @h ?_;refine A3 tT (RZ t g oO ht hc ha.2) ?_;exact AT (j2 @Tm.typeE.eq_1 @h)
 ·refine A7 @h ?_;exact AT (j3 @Tm.typeE.eq_1 @h @A9.eq_1)
def Tm.leastN:Tm->Int->Bool
 | .mk _ i _ a,m=>!decide (m<i)&&leasts a m
where
 leasts:List Tm->Int->Bool
  | [],_=>true
  | a::r,m=>a.leastN m&&leasts r m
theorem Tm.leastN_eq (t:Tm)(m:Int):t.leastN m=(!decide (m<t.index)&&leastN.leasts t.args m):=by cases t;rfl
theorem eO (a b:Val):cT gl 25 [a.dv,b.dv] [] (AK (a.same b)) []:=by
 induction a using Val.ind generalizing b with
 | h a ih=>
 refine A8 Tryz.func25 ?_;intro X hP u7 hf u9 hn hR u6 u5;have Cy:=(Val.fit_eq a).1 ((Val.dv_fit a).1 (u5 a.dv sS));have Ky:=(Val.fit_eq b).1 ((Val.dv_fit b).1 (u5 b.dv sS));have Og:=Cy.2.2.2.1;have Bc:=Ky.2.2.2.1;have hia:=Cy.2.2.1.1;have Mt:=Ky.2.2.1.1;simp only[HL]at Og Bc hia Mt;by_cases hk:a.kind=b.kind
 ·by_cases hi:a.num=b.num
  ·by_cases ht:a.list=b.list
   ·by_cases hl:a.args.length=b.args.length
    ·refine A7 (j2 @hk @hi) ?_;refine A3 (j4 @hk @hi @ht @hl) (OP a.list b.list hia Mt) ?_;refine A7 (j2 @ht @hl) ?_;refine BK ?_;refine AC [] (j4 @hk @hi @hl @ht) (FD (a.args.length) (fun i=>∀(j:Nat) (x y:Val),j<i->a.args[j]? = some x->b.args[j]? = some y->x.same y=true) (fun i=>[sV 38 (A0 i),sV 37 (A0 a.args.length),sP 3,sL 3 [.v (A0 b.kind),.v (A0 b.num),.v (.sl (AP b.list)),.v (.sl (b.args.map Val.cells))],sP 2,sL 2 [.v (A0 a.kind),.v (A0 a.num),.v (.sl (AP a.list)),.v (.sl (a.args.map Val.cells))]]) (by intro j x y h;omega) ?_ ?_)
     ·intro i Ag hI Aa;obtain⟨x,hx⟩:∃x,a.args[i]? = some x:=⟨_,uB Ag⟩;obtain⟨y,hy⟩:∃y,b.args[i]? = some y:=⟨_,uB oO⟩;refine A2 ?_;refine AE ?_;refine A7 (j2 @hx @hy) ?_;refine A3 (j2 @hx @hy) (ih x (uE hx) y) ?_;by_cases hs:x.same y=true
      ·refine CR (wr []) tT @hs (Aa ?_);intro j x' y' hj Cp Dm;by_cases Ng:j=i;· subst Ng;rw[hx]at Cp;rw[hy]at Dm;cases Cp;cases Dm;exact hs
       ·exact hI j x' y' oO Cp Dm
      ·refine A7 @hs ?_;refine IL ?_;simp[go_sem,hP,u7,hn] <;> (try omega);refine Bool.eq_false_iff.2 ?_;intro h;rw[Val.same_eq]at h;simp only[uH,Val.sames_iff]at h;exact hs (h.2.2 i x y hx hy)
     ·intro hI;refine A2 ?_;refine B6 ?_;refine A2 ?_;refine IL ?_;simp[go_sem,hP,u7,hn] <;> (try omega);rw[Val.same_eq];simp only[uH,Val.sames_iff];exact⟨⟨⟨by simp[hk],by simp[hi]⟩,by simp[ht]⟩,hl,fun i x y hx hy=>hI i x y (uA hx).1 hx hy⟩
    ·refine A7 (j2 @hk @hi) ?_;refine A3 (j4 @hk @hi @ht @hl) (OP a.list b.list hia Mt) ?_;refine A7 (j2 @ht @hl) ?_;refine IL ?_;simp[go_sem,hP,u7,hn] <;> (try omega);refine Bool.eq_false_iff.2 ?_;intro h;rw[Val.same_eq]at h;simp only[uH,Val.sames_iff]at h;exact hl h.2.1
   ·refine A7 (j2 @hk @hi) ?_;refine A3 (j3 @hk @hi @ht) (OP a.list b.list hia Mt) ?_;refine A7 @ht ?_;refine IL ?_;simp[go_sem,hP,u7,hn] <;> (try omega);simp[Val.same_eq,ht]
  ·refine A7 (j2 @hk @hi) ?_;refine IL ?_;simp[go_sem,hP,u7,hn] <;> (try omega);simp[Val.same_eq,hi]
 ·refine A7 @hk ?_;refine IL ?_;simp[go_sem,hP,u7,hn] <;> (try omega);simp[Val.same_eq,hk]
def Tm.argN (t:Tm)(i:Nat):Tm:=t.args.getD i AA
end
section
def JR (k:Int):Int:=if k=2 then 1 else 0
namespace Tm
def upN:Tm->Int->Int->Tm
 | .mk k i ty a,f,b=>.mk k (if k=1/\f<=i then i+b else i) ty (ups a (f+JR k) b)
where
 ups:List Tm->Int->Int->List Tm
  | [],_,_=>[]
  | x::r,f,b=>x.upN f b::ups r f b
theorem zg7 (l:List Tm)(f b:Int):upN.ups l f b=l.map fun x=>x.upN f b:=by
 induction l with
 | nil=>rfl
 | cons a r ih=>simp[upN.ups,ih]
theorem upN_eq (t:Tm)(f b:Int):t.upN f b = .mk t.kind (if t.kind=1/\f<=t.index then t.index+b else t.index) t.type (t.args.map fun x=>x.upN (f+JR t.kind) b):=by
 cases t;rw[upN,zg7];rfl
def timesN:Tm->Int->Nat
 | .mk k i _ a,p=>(if k=1/\i=p then 1 else 0)+timess a (p+JR k)
where
 timess:List Tm->Int->Nat
  | [],_=>0
  | x::r,p=>x.timesN p+timess r p
def idx:Tm->Int->Prop
 | .mk _ i _ a,m=>(0<=i/\i<=m)/\idxs a m
where
 idxs:List Tm->Int->Prop
  | [],_=>True
  | x::r,m=>x.idx m/\idxs r m
theorem z9o (l:List Tm)(m:Int):idx.idxs l m↔∀x∈l,x.idx m:=by
 induction l with
 | nil=>simp[idx.idxs]
 | cons a r ih=>simp[idx.idxs,ih]
theorem idx_eq (t:Tm)(m:Int):t.idx m↔(0<=t.index/\t.index<=m)/\∀x∈t.args,x.idx m:=by cases t;simp only[idx,z9o,index,args]
end Tm
end
section
variable {gl:AF}
theorem tH {X:Ctx}{k kk:List Item}{s:St}(S:St)(h1:W X kk S->W X k s)(h2:W X kk S):W X k s:=h1 h2
theorem z9p (k:Int):0<=JR k/\JR k<=1:=by unfold JR;split <;> omega
theorem MN (i:Int):cT gl 41 [A0 i] [] (Tm.mk 1 i (Ty.mk 0 []) []).dv []:=by
 refine A8 Tryz.func41 ?_;intro X hP u7 hf u9 hn hR u6 u5;refine A4 ?_;exact B9
def zmy (f a:Tm):Tm:=Tm.mk 3 0 (Ty.mk 0 []) [f,a]
theorem EX (k:Int)(s:Ty)(l:List Tm):cT gl 43 [A0 k,s.dv,.sl (l.map Tm.cells)] [] (Tm.mk k 0 s l).dv []:=by
 refine A8 Tryz.func43 ?_;intro X hP u7 hf u9 hn hR u6 u5;refine A4 ?_;refine A3 tT (CP k l) ?_;refine A4 ?_;refine A3 tT (EH s) ?_;refine A4 ?_;exact B9
def OA (b:Tm)(l:List Ty):Tm:=l.foldr (fun s b=>Tm.mk 2 0 s [b]) b
def KS (f:Tm)(l:List Tm):Tm:=l.foldl zmy f
theorem tI (f:Tm)(l:List Tm)(x:Tm):KS f (l++[x])=zmy (KS f l) x:=by simp[KS]
theorem z3b (f:Tm):KS f []=f:=rfl
theorem tJ (b:Tm)(l:List Ty)(j:Nat)(s:Ty)(h:l[j]? = some s):OA b (l.drop j)=Tm.mk 2 0 s [OA b (l.drop (j+1))]:=by
 obtain⟨hj,hs⟩:=uA h;rw[List.drop_eq_getElem_cons hj,hs];rfl
theorem S0 (i:Int):cT gl 160 [A0 i] [] (Tm.mk 1 i (Ty.mk 0 []) []).dv []:=by
 refine A8 Tryz.func160 ?_;intro X hP u7 hf u9 hn hR u6 u5;refine A4 ?_;exact B9
theorem mX (k:Int)(s:Ty)(a b c:Tm):cT gl 181 [A0 k,s.dv,a.dv,b.dv,c.dv] [] (Tm.mk k 0 s [a,b,c]).dv []:=by
 refine A8 Tryz.func181 ?_;intro X hP u7 hf u9 hn hR u6 u5;refine A4 ?_;exact B9
theorem Y0 (b:Tm)(l:List Ty):cT gl 180 [b.dv,.sl (l.map Ty.cells)] [] (OA b l).dv []:=by
 refine A8 Tryz.func180 ?_;intro X hP u7 hf u9 hn hR u6 u5;have hlen:=K7 (u5 (.sl (l.map Ty.cells)) sS);simp only[List.length_map]at hlen;have h0:OA b []=b:=rfl;refine A4 ?_;refine BK ?_;refine AC [] @h0 (CH (fun k:Nat=>k<=l.length) (fun k:Nat=>[sV 1 (.sl (l.map Ty.cells)),sV 5 (A0 ((k:Int) - 1)),sL 2 [.v (A0 (OA b (l.drop k)).kind),.v (A0 (OA b (l.drop k)).index),.v (A0 (OA b (l.drop k)).type.kind),.v (.sl ((OA b (l.drop k)).type.args.map Ty.cells)),.v (.sl ((OA b (l.drop k)).args.map Tm.cells))],sP 2,sL 4 [.v (A0 0),.v (A0 0),.v (A0 0),.own 0 [],.own 0 []],sP 4]) (fun k:Nat=>k) l.length (Nat.le_refl _) ?_);intro k hk Bh;cases k with
 | zero=>
  refine A4 ?_;exact B9
 | succ j=>
  have hj:l[j]? = some l[j]:=uB hk;generalize l[j]=s at hj;have hd:=tJ b l j s hj;have Lb:((j+1:Nat):Int) - 1=j:=oO;rw[Lb];refine CR (wr []) (j6 @hd @Tm.kind_mk @Tm.index_mk @Tm.type_mk @Tm.args_mk (Tm.cells_eq (OA b (l.drop (j+1))))) @hj (Bh j oO oO)
theorem fR (f:Tm)(l:List Tm):cT gl 46 [f.dv,.sl (l.map Tm.cells)] [] (KS f l).dv []:=by
 refine A8 Tryz.func46 ?_;intro X hP u7 hf u9 hn hR u6 u5;have hlen:=K7 (u5 (.sl (l.map Tm.cells)) sS);simp only[List.length_map]at hlen;refine A4 ?_;refine BK ?_;refine AC [] @z3b (FE (l) (fun done rest=>[sV 9 (A0 done.length),sV 8 (A0 l.length),sV 7 (.sl (l.map Tm.cells)),sL 2 [.v (A0 (KS f done).kind),.v (A0 (KS f done).index),.v (A0 (KS f done).type.kind),.v (.sl ((KS f done).type.args.map Ty.cells)),.v (.sl ((KS f done).args.map Tm.cells))],sP 2,sL 4 [.v (A0 0),.v (A0 0),.v (A0 0),.own 0 [],.own 0 []],sP 4]) ?_ ?_)
 ·intro done x rest hL Aq Aa;have Ag:done.length<l.length:=by rw[hL];simp
  refine A2 ?_;refine AE ?_;refine A7 @Aq ?_;refine A3 @Aq (CP 3 [KS f done,x]) ?_;refine CR (wr []) (j6 @tI @zmy.eq_1 @Tm.kind_mk @Tm.index_mk @Tm.type_mk @Tm.args_mk) tT Aa
 ·refine A2 ?_;refine B6 ?_;refine A4 ?_;exact B9
def vT (i:Int):Tm:=Tm.mk 1 i (Ty.mk 0 []) []
def nT (k:Int)(l:List Tm):Tm:=Tm.mk k 0 (Ty.mk 0 []) l
def z3c (b s o:Tm):Tm:=Tm.mk 6 0 (Ty.mk 1 []) [b,OA s [Ty.mk 1 [],Ty.mk 1 []],o]
def zg8 (b:Tm):Tm:=OA b [Ty.mk 1 [],Ty.mk 1 []]
def R2:Tm:=OA (z3c (nT 4 []) (vT 1) (vT 0)) [Ty.mk 1 []]
def EF:Tm:=zg8 (z3c (vT 1) (nT 5 [vT 0]) (vT 0))
def iT:Tm:=zg8 (z3c (vT 1) (KS R2 [vT 0]) (vT 0))
theorem iU (a b c:Tm):cT gl 159 [a.dv,b.dv,c.dv] [] (z3c a b c).dv []:=by
 refine A8 Tryz.func159 ?_;intro X hP u7 hf u9 hn hR u6 u5;refine A4 ?_;refine tD @MF X1 X1 X1 (Y0 b [Ty.mk 1 [],Ty.mk 1 []]) (mX 6 (Ty.mk 1 []) a (OA b [Ty.mk 1 [],Ty.mk 1 []]) c) ?_;exact AT @z3c.eq_1
theorem zmz (b:Tm):cT gl 158 [b.dv] [] (zg8 b).dv []:=by
 refine A8 Tryz.func158 ?_;intro X hP u7 hf u9 hn hR u6 u5;refine A4 ?_;refine OL @MF X1 X1 (Y0 b [Ty.mk 1 [],Ty.mk 1 []]) ?_;exact BD @zg8.eq_1
theorem zg9:cT gl 121 [] [] EF.dv []:=by
 refine A8 Tryz.func121 ?_;intro X hP u7 hf u9 hn hR u6 u5;refine A4 ?_;refine z35 (j2 @nT.eq_1 @vT.eq_1) (S0 1) (S0 0) (zqb 5 [vT 0]) (S0 0) (iU (vT 1) (nT 5 [vT 0]) (vT 0)) (zmz (z3c (vT 1) (nT 5 [vT 0]) (vT 0))) ?_;exact BD (j3 @EF.eq_1 @nT.eq_1 @vT.eq_1)
theorem iV (l:List Int)(p:Nat):(EN l p).1=Ty.mk 1 []\/(EN l p).1=Ty.mk 2 []\/(EN l p).1=Ty.mk 5 []\/(EN l p).1=Ty.mk 3 [Ty.mk 1 [],Ty.mk 2 []]\/(EN l p).1=Ty.mk 3 [Ty.mk 1 [],Ty.mk 1 []]:=by
 unfold EN;generalize AW l p 6=q;obtain⟨k,p'⟩:=q;simp only;by_cases h1:k=0\/k=1;· rw[if_pos h1];simp
 ·rw[if_neg h1];by_cases h2:k=2;· rw[if_pos h2];simp
  ·rw[if_neg h2];by_cases h3:k=3;· rw[if_pos h3];simp
   ·rw[if_neg h3];by_cases h4:k=4;· rw[if_pos h4];simp
    ·rw[if_neg h4];simp
theorem Y1:∀n:Nat,(IU n).count=n+1
 | 0=>rfl
 | n+1=>by rw[IU,Tm.count_eq];simp[Tm.args,Tm.count.counts,Y1 n];omega
end
section
theorem fS:∀n:Nat,(IU n).shape=true
 | 0=>rfl
 | n+1=>by
  rw[IU,Tm.shape_eq];simp[Tm.kind,Tm.index,Tm.type,Tm.args,Tm.shape.shapes,fS n,IM,C4,B5,Ty.zero,Ty.kind,Ty.args]
end
section
inductive T where
 | nat|list|unit
 | pair (a b:T)
 | fn (a b:T)
 deriving DecidableEq
namespace T
def ty:T->Ty
 | nat=>Ty.mk 1 []
 | list=>Ty.mk 2 []
 | unit=>Ty.mk 5 []
 | pair a b=>Ty.mk 3 [a.ty,b.ty]
 | fn a b=>Ty.mk 4 [a.ty,b.ty]
def V:T->Type
 | nat=>Nat
 | list=>List Nat
 | unit=>Unit
 | pair a b=>a.V × b.V
 | fn a b=>a.V->b.V
def size:T->Nat
 | nat=>1
 | list=>1
 | unit=>1
 | pair a b=>1+a.size+b.size
 | fn a b=>1+a.size+b.size
theorem ty_count (a:T):a.ty.count=a.size:=by
 induction a with
 | nat=>rfl
 | list=>rfl
 | unit=>rfl
 | pair a b Fq Cu=>show 1+(a.ty.count+(b.ty.count+0))=_;simp only[size];omega
 | fn a b Fq Cu=>show 1+(a.ty.count+(b.ty.count+0))=_;simp only[size];omega
theorem ty_shape (a:T):a.ty.shape=true:=by
 induction a with
 | nat=>rfl
 | list=>rfl
 | unit=>rfl
 | pair a b Fq Cu=>simp[ty,Ty.shape,Ty.shape.shapes,HD,Fq,Cu]
 | fn a b Fq Cu=>simp[ty,Ty.shape,Ty.shape.shapes,HD,Fq,Cu]
def ok (a:T):Prop:=a.size<=64
theorem ok_ty {a:T}(h:a.ok):a.ty.ok:=⟨a.ty_shape,by rw[ty_count];exact h⟩
theorem ty_ok {a:T}(h:a.ty.ok):a.ok:=by have:=h.2;rw[ty_count]at this;exact this
theorem of_shape (s:Ty)(h:s.shape=true):∃a:T,a.ty=s:=by
 induction s using Ty.ind with
 | h s ih=>
 cases s with
 | mk k ts=>
  have h1:=h;rw[Ty.shape_eq,uH,Ty.shapes_iff]at h1;obtain⟨h2,h3⟩:=h1;unfold HD at h2;simp[Ty.kind,Ty.args]at h2;rcases h2 with⟨h2,rfl⟩|⟨h2,h4⟩
  ·rcases of_decide_eq_true h2 with rfl|rfl|rfl;· exact⟨nat,rfl⟩
   ·exact⟨list,rfl⟩
   ·exact⟨unit,rfl⟩
  ·match ts,h4,ih,h3 with
   | [x,y],_,ih,h3=>
    obtain⟨a,rfl⟩:=ih x (by simp[Ty.args]) (h3 x (by simp[Ty.args]));obtain⟨b,rfl⟩:=ih y (by simp[Ty.args]) (h3 y (by simp[Ty.args]));rcases of_decide_eq_true h2 with rfl|rfl;· exact⟨pair a b,rfl⟩
    ·exact⟨fn a b,rfl⟩
theorem ty_inj:∀{a b:T},a.ty=b.ty->a=b:=by
 intro a
 induction a with
 | nat=>intro b h;cases b <;> simp[ty]at h <;> rfl
 | list=>intro b h;cases b <;> simp[ty]at h <;> rfl
 | unit=>intro b h;cases b <;> simp[ty]at h <;> rfl
 | pair x y Ga Pg=>intro b h;cases b <;> simp[ty]at h;rw[Ga h.1,Pg h.2]
 | fn x y Ga Pg=>intro b h;cases b <;> simp[ty]at h;rw[Ga h.1,Pg h.2]
end T
def C3:List T->Type
 | []=>Unit
 | a::Γ=>a.V × C3 Γ
inductive At:(Γ:List T)->Nat->(a:T)->(C3 Γ->a.V)->Prop
 | zero {a:T} {Γ:List T}:At (a::Γ) 0 a (fun e=>e.1)
 | succ {a b:T} {Γ:List T} {i:Nat} {p:C3 Γ->a.V} (h:At Γ i a p):At (b::Γ) (i+1) a (fun e=>p e.2)
theorem At.of:∀{Γ:List T} {i:Nat} {a:T},Γ[i]? = some a->∃p,At Γ i a p
 | [],_,_,h=>by simp at h
 | b::Γ,0,a,h=>by simp at h;subst h;exact⟨_,.zero⟩
 | b::Γ,i+1,a,h=>by
  obtain⟨p,hp⟩:=At.of (Γ:=Γ) (i:=i) (a:=a) (by simpa using h);exact⟨_,.succ hp⟩
theorem At.get {Γ:List T}{i:Nat}{a:T}{p:C3 Γ->a.V}(h:At Γ i a p):Γ[i]? = some a:=by
 induction h with
 | zero=>rfl
 | succ h ih=>simpa using ih
def FT {α:Type}(b:α)(f:Nat->α->α):Nat->α
 | 0=>b
 | n+1=>f n (FT b f n)
def FK {α:Type}(b:α)(f:Nat->List Nat->α->α):List Nat->α
 | []=>b
 | x::l=>f x l (FK b f l)
def AY (a:T)(b:Tm):Tm:=Tm.mk 2 0 a.ty [b]
inductive Dn:(Γ:List T)->Tm->(a:T)->(C3 Γ->a.V)->Prop
 | var {Γ:List T} {i:Nat} {a:T} {p:C3 Γ->a.V} (h:At Γ i a p):Dn Γ (vT i) a p
 | lam {Γ:List T} {a r:T} {b:Tm} {f:C3 (a::Γ)->r.V} (ha:a.ok) (h:Dn (a::Γ) b r f):Dn Γ (AY a b) (.fn a r) (fun e v=>f (v,e))
 | app {Γ:List T} {a b:T} {f x:Tm} {F:C3 Γ->(T.fn a b).V} {X:C3 Γ->a.V} (hf:Dn Γ f (.fn a b) F) (hx:Dn Γ x a X):Dn Γ (nT 3 [f,x]) b (fun e=>F e (X e))
 | zero {Γ:List T}:Dn Γ (nT 4 []) .nat (fun _=>(0:Nat))
 | succ {Γ:List T} {x:Tm} {X:C3 Γ->T.nat.V} (hx:Dn Γ x .nat X):Dn Γ (nT 5 [x]) .nat (fun e=>Nat.succ (X e))
 | rc {Γ:List T} {a:T} {b f n:Tm} {B:C3 Γ->a.V} {F:C3 Γ->(T.fn .nat (.fn a a)).V} {N:C3 Γ->T.nat.V} (ha:a.ok) (hb:Dn Γ b a B) (hf:Dn Γ f (.fn .nat (.fn a a)) F) (hn:Dn Γ n .nat N) :
   Dn Γ (Tm.mk 6 0 a.ty [b,f,n]) a (fun e=>FT (B e) (F e) (N e))
 | nil {Γ:List T}:Dn Γ (nT 7 []) .list (fun _=>([]:List Nat))
 | cons {Γ:List T} {x l:Tm} {X:C3 Γ->T.nat.V} {L:C3 Γ->T.list.V} (hx:Dn Γ x .nat X) (hl:Dn Γ l .list L):Dn Γ (nT 8 [x,l]) .list (fun e=>List.cons (X e) (L e))
 | fold {Γ:List T} {a:T} {b f n:Tm} {B:C3 Γ->a.V} {F:C3 Γ->(T.fn .nat (.fn .list (.fn a a))).V} {N:C3 Γ->T.list.V} (ha:a.ok) (hb:Dn Γ b a B) (hf:Dn Γ f (.fn .nat (.fn .list (.fn a a))) F) (hn:Dn Γ n .list N) :
   Dn Γ (Tm.mk 9 0 a.ty [b,f,n]) a (fun e=>FK (B e) (F e) (N e))
 | pair {Γ:List T} {a b:T} {x y:Tm} {X:C3 Γ->a.V} {Y:C3 Γ->b.V} (hx:Dn Γ x a X) (hy:Dn Γ y b Y):Dn Γ (nT 10 [x,y]) (.pair a b) (fun e=>Prod.mk (X e) (Y e))
 | fst {Γ:List T} {a b:T} {x:Tm} {X:C3 Γ->(T.pair a b).V} (hx:Dn Γ x (.pair a b) X):Dn Γ (nT 11 [x]) a (fun e=>Prod.fst (X e))
 | snd {Γ:List T} {a b:T} {x:Tm} {X:C3 Γ->(T.pair a b).V} (hx:Dn Γ x (.pair a b) X):Dn Γ (nT 12 [x]) b (fun e=>Prod.snd (X e))
 | unit {Γ:List T}:Dn Γ (nT 13 []) .unit (fun _=>())
theorem aT (t:Tm){k i:Int}{y:Ty}{a:List Tm}(h1:t.kind=k)(h2:t.index=i)(h3:t.type=y)(h4:t.args=a):t=Tm.mk k i y a:=by
 subst h1 h2 h3 h4;exact (Tm.eta t).symm
theorem yB {y:Ty}(h:y.zero=true):y=Ty.mk 0 []:=by
 unfold Ty.zero at h;rw[uH]at h;have h1:=of_decide_eq_true h.1;have h2:=List.eq_nil_of_length_eq_zero (of_decide_eq_true h.2);rw[<- Ty.eta y,h1,h2]
theorem Y2 {l:List Ty}{x:Ty}(h:l[0]? = some x):l.getD 0 A9=x:=by rw[List.getD_eq_getElem?_getD,h];rfl
theorem mZ {l:List Ty}{x:Ty}(h:l[1]? = some x):l.getD 1 A9=x:=by rw[List.getD_eq_getElem?_getD,h];rfl
theorem ziy {l:List Ty}{x:Ty}(h:l[2]? = some x):l.getD 2 A9=x:=by rw[List.getD_eq_getElem?_getD,h];rfl
theorem Y3 (t:Tm):∀(g:List T),t.shape=true->(t.inferN (g.map T.ty)).2=0->∃(a:T) (F:C3 g.reverse->a.V),(t.inferN (g.map T.ty)).1=a.ty/\Dn g.reverse t a F:=by
 induction t using Tm.ind with
 | h t ih=>
 intro g hs h;obtain⟨hlen,hi,hv,Be,Co⟩:=Tm.shape_node hs;rw[Tm.inferN_eq]at h ⊢;by_cases h1:t.kind=1
 ·rw[if_pos h1]at h ⊢;by_cases h2:((g.map T.ty).length:Int)<=t.index;· rw[if_pos h2]at h;cases h
  rw[if_neg h2];have hl:t.index.toNat<g.length:=by simp at h2;omega
  rw[if_neg oO]at Be;have ha:t.args=[]:=by rw[h1]at hlen;simp[B5]at hlen;exact hlen
  have ht:t=vT (t.index.toNat:Int):=aT t h1 oO (yB Be) ha;obtain⟨a,hga⟩:∃a,g[g.length - 1 - t.index.toNat]? = some a:=⟨_,uB oO⟩;have hrev:g.reverse[t.index.toNat]? = some a:=by rw[List.getElem?_reverse hl,hga]
  obtain⟨p,hp⟩:=At.of hrev;refine⟨a,p,?_,by rw[ht];exact .var hp⟩;simp only[List.length_map,List.getD_eq_getElem?_getD,List.getElem?_map,hga,Option.map_some,Option.getD_some]
 rw[if_neg h1]at h ⊢;have Xf:t.index=0:=by rcases hv with hv|hv;exact absurd hv h1;exact hv
 by_cases h2:t.kind=2
 ·rw[if_pos h2]at h ⊢;rw[if_pos (.inl h2)]at Be;obtain⟨a,Nf⟩:=T.of_shape t.type Be.1
  obtain⟨b,hb⟩:∃b,t.args=[b]:=by
   rw[h2]at hlen;simp[B5]at hlen;exact List.length_eq_one_iff.1 oO
  have Pt:g.map T.ty++[t.type]=(g++[a]).map T.ty:=by simp[Nf]
  rw[Pt,hb]at h ⊢;simp only[Tm.inferN.infers]at h ⊢;by_cases Da:(b.inferN ((g++[a]).map T.ty)).2=0
  ·obtain⟨r,F,e1,e2⟩:=ih b (by rw[hb];simp) (g++[a]) (Co b (by rw[hb];simp)) Da;simp only[Da,if_true]at h ⊢;have Kh:(g++[a]).reverse=a::g.reverse:=sS;have ht:t=AY a b:=aT t h2 Xf Nf.symm hb;have Ej:(CD t.kind t.type [(b.inferN ((g++[a]).map T.ty)).1])=X2 (Ty.mk 4 [a.ty,r.ty]):=by
    unfold CD;rw[if_pos h2,e1,Nf];rfl
   rw[Ej]at h ⊢;obtain⟨o1,o2⟩:=X3 _ h;have hao:a.ok:=T.ty_ok (by rw[Nf];exact Be)
   revert F e2
   rw[Kh];intro F e2;refine⟨.fn a r,_,by rw[o2];rfl,by rw[ht];exact .lam hao e2⟩
  ·simp only[Da,if_false]at h
 ·rw[if_neg h2]at h ⊢;by_cases Mn:(Tm.inferN.infers t.args (g.map T.ty)).2=0;rotate_left;· rw[if_neg Mn]at h;exact absurd h Mn
  rw[if_pos Mn]at h ⊢;obtain⟨hl,hx⟩:=Tm.infers_all _ _ Mn;have get:∀(i:Nat) (x:Tm),t.args[i]? = some x->∃(a:T) (F:C3 g.reverse->a.V),(Tm.inferN.infers t.args (g.map T.ty)).1[i]? = some a.ty/\Dn g.reverse x a F:=by
   intro i x Nb;obtain⟨x1,x2⟩:=hx i x Nb;have hm:=uE Nb;obtain⟨a,F,e1,e2⟩:=ih x hm g (Co x hm) x1;exact⟨a,F,by rw[x2,e1],e2⟩
  generalize (Tm.inferN.infers t.args (g.map T.ty)).1=l at h get ⊢;have zt:¬(t.kind=2\/t.kind=6\/t.kind=9)->t.type=Ty.mk 0 []:=fun hk=>by rw[if_neg hk]at Be;exact yB Be
  have node:∀(k:Int) (a:List Tm),¬(k=2\/k=6\/k=9)->t.kind=k->t.args=a->t=nT k a:=fun k a hk e1 e2=>aT t e1 Xf (zt (by rw[e1];exact hk)) e2;have Pw:B5 t.kind=1->∃x,t.args=[x]:=fun ha=>List.length_eq_one_iff.1 oO;have Pe:B5 t.kind=2->∃x y,t.args=[x,y]:=by
   intro ha;have:t.args.length=2:=oO
   match hq:t.args,this with
   | [x,y],_=>exact⟨x,y,rfl⟩
  have Tc:B5 t.kind=3->∃x y z,t.args=[x,y,z]:=by
   intro ha;have:t.args.length=3:=oO
   match hq:t.args,this with
   | [x,y,z],_=>exact⟨x,y,z,rfl⟩
  unfold CD at h ⊢;rw[if_neg h2]at h ⊢;by_cases h3:t.kind=3
  ·rw[if_pos h3]at h ⊢;obtain⟨f,x,ha⟩:=Pe (by rw[h3];rfl);obtain⟨p,F,e1,d1⟩:=get 0 f (by rw[ha];rfl);obtain⟨q,X,e2,d2⟩:=get 1 x (by rw[ha];rfl);rw[Y2 e1,mZ e2]at h ⊢;by_cases hc:p.ty.kind=4/\(p.ty.arg 0).same q.ty=true
   ·rw[if_pos hc];cases p with
    | fn a b=>
     have hq:a=q:=T.ty_inj ((Ty.same_iff _ _).1 hc.2);subst hq;exact⟨b,_,rfl,by rw[node 3 [f,x] dD h3 ha];exact .app d1 d2⟩
    | nat=>exact absurd hc.1 dD
    | list=>exact absurd hc.1 dD
    | unit=>exact absurd hc.1 dD
    | pair a b=>exact absurd hc.1 (by simp[T.ty,Ty.kind])
   ·rw[if_neg hc]at h;cases h
  rw[if_neg h3]at h ⊢;by_cases h4:t.kind=4
  ·rw[if_pos h4];have ha:t.args=[]:=by rw[h4]at hlen;simp[B5]at hlen;exact hlen
   exact⟨.nat,_,rfl,by rw[node 4 [] dD h4 ha];exact .zero⟩
  rw[if_neg h4]at h ⊢;by_cases h5:t.kind=5
  ·rw[if_pos h5]at h ⊢;obtain⟨x,ha⟩:=Pw (by rw[h5];rfl);obtain⟨p,X,e1,d1⟩:=get 0 x (by rw[ha];rfl);rw[Y2 e1]at h ⊢;by_cases hc:p.ty.same (Ty.mk 1 [])=true
   ·rw[if_pos hc];have hp:p = .nat:=T.ty_inj ((Ty.same_iff _ _).1 hc);subst hp;exact⟨.nat,_,rfl,by rw[node 5 [x] dD h5 ha];exact .succ d1⟩
   ·rw[if_neg hc]at h;cases h
  rw[if_neg h5]at h ⊢;by_cases h6:t.kind=6
  ·rw[if_pos h6]at h ⊢;rw[if_pos (by simp[h6])]at Be;obtain⟨a,Nf⟩:=T.of_shape t.type Be.1;obtain⟨x,y,z,ha⟩:=Tc (by rw[h6];rfl);obtain⟨p,X,e1,d1⟩:=get 0 x (by rw[ha];rfl);obtain⟨q,Y,e2,d2⟩:=get 1 y (by rw[ha];rfl);obtain⟨r,Z,e3,d3⟩:=get 2 z (by rw[ha];rfl);rw[Y2 e1,mZ e2,ziy e3]at h ⊢;split at h
   ·rename_i hc;rw[if_pos hc];obtain⟨c1,c2,c3⟩:=hc;rw[<- Nf]at c1 c2;have hp:p=a:=T.ty_inj ((Ty.same_iff _ _).1 c1);have hq:q = .fn .nat (.fn a a):=T.ty_inj ((Ty.same_iff _ _).1 c2);have hr:r = .nat:=T.ty_inj ((Ty.same_iff _ _).1 c3);subst hp hq hr;have ht:t=Tm.mk 6 0 p.ty [x,y,z]:=aT t h6 Xf Nf.symm ha;exact⟨p,_,Nf.symm,by rw[ht];exact .rc (T.ty_ok (by rw[Nf];exact Be)) d1 d2 d3⟩
   ·cases h
  rw[if_neg h6]at h ⊢;by_cases h7:t.kind=7
  ·rw[if_pos h7];have ha:t.args=[]:=by rw[h7]at hlen;simp[B5]at hlen;exact hlen
   exact⟨.list,_,rfl,by rw[node 7 [] dD h7 ha];exact .nil⟩
  rw[if_neg h7]at h ⊢;by_cases h8:t.kind=8
  ·rw[if_pos h8]at h ⊢;obtain⟨x,y,ha⟩:=Pe (by rw[h8];rfl);obtain⟨p,X,e1,d1⟩:=get 0 x (by rw[ha];rfl);obtain⟨q,Y,e2,d2⟩:=get 1 y (by rw[ha];rfl);rw[Y2 e1,mZ e2]at h ⊢;split at h
   ·rename_i hc;rw[if_pos hc];have hp:p = .nat:=T.ty_inj ((Ty.same_iff _ _).1 hc.1);have hq:q = .list:=T.ty_inj ((Ty.same_iff _ _).1 hc.2);subst hp hq;exact⟨.list,_,rfl,by rw[node 8 [x,y] dD h8 ha];exact .cons d1 d2⟩
   ·cases h
  rw[if_neg h8]at h ⊢;by_cases h9:t.kind=9
  ·rw[if_pos h9]at h ⊢;rw[if_pos (by simp[h9])]at Be;obtain⟨a,Nf⟩:=T.of_shape t.type Be.1;obtain⟨x,y,z,ha⟩:=Tc (by rw[h9];rfl);obtain⟨p,X,e1,d1⟩:=get 0 x (by rw[ha];rfl);obtain⟨q,Y,e2,d2⟩:=get 1 y (by rw[ha];rfl);obtain⟨r,Z,e3,d3⟩:=get 2 z (by rw[ha];rfl);rw[Y2 e1,mZ e2,ziy e3]at h ⊢;split at h
   ·rename_i hc;rw[if_pos hc];obtain⟨c1,c2,c3⟩:=hc;rw[<- Nf]at c1 c2;have hp:p=a:=T.ty_inj ((Ty.same_iff _ _).1 c1);have hq:q = .fn .nat (.fn .list (.fn a a)):=T.ty_inj ((Ty.same_iff _ _).1 c2);have hr:r = .list:=T.ty_inj ((Ty.same_iff _ _).1 c3);subst hp hq hr;have ht:t=Tm.mk 9 0 p.ty [x,y,z]:=aT t h9 Xf Nf.symm ha;exact⟨p,_,Nf.symm,by rw[ht];exact .fold (T.ty_ok (by rw[Nf];exact Be)) d1 d2 d3⟩
   ·cases h
  rw[if_neg h9]at h ⊢;by_cases Cc:t.kind=10
  ·rw[if_pos Cc]at h ⊢;obtain⟨x,y,ha⟩:=Pe (by rw[Cc];rfl);obtain⟨p,X,e1,d1⟩:=get 0 x (by rw[ha];rfl);obtain⟨q,Y,e2,d2⟩:=get 1 y (by rw[ha];rfl);rw[Y2 e1,mZ e2]at h ⊢;obtain⟨o1,o2⟩:=X3 _ h;exact⟨.pair p q,_,by rw[o2];rfl,by rw[node 10 [x,y] dD Cc ha];exact .pair d1 d2⟩
  rw[if_neg Cc]at h ⊢;by_cases Ck:t.kind=11
  ·rw[if_pos Ck]at h ⊢;obtain⟨x,ha⟩:=Pw (by rw[Ck];rfl);obtain⟨p,X,e1,d1⟩:=get 0 x (by rw[ha];rfl);rw[Y2 e1]at h ⊢;split at h
   ·rename_i hc;rw[if_pos hc];cases p with
    | pair a b=>exact⟨a,_,rfl,by rw[node 11 [x] dD Ck ha];exact .fst d1⟩
    | nat=>exact absurd hc dD
    | list=>exact absurd hc dD
    | unit=>exact absurd hc dD
    | fn a b=>exact absurd hc (by simp[T.ty,Ty.kind])
   ·cases h
  rw[if_neg Ck]at h ⊢;by_cases Cf:t.kind=12
  ·rw[if_pos Cf]at h ⊢;obtain⟨x,ha⟩:=Pw (by rw[Cf];rfl);obtain⟨p,X,e1,d1⟩:=get 0 x (by rw[ha];rfl);rw[Y2 e1]at h ⊢;split at h
   ·rename_i hc;rw[if_pos hc];cases p with
    | pair a b=>exact⟨b,_,rfl,by rw[node 12 [x] dD Cf ha];exact .snd d1⟩
    | nat=>exact absurd hc dD
    | list=>exact absurd hc dD
    | unit=>exact absurd hc dD
    | fn a b=>exact absurd hc (by simp[T.ty,Ty.kind])
   ·cases h
  rw[if_neg Cf];have Jv:t.kind=13:=by
   have:0<=B5 t.kind:=oO;unfold B5 at this;split at this;· omega
   split at this;· omega
   split at this;· omega
   split at this;· omega
   ·omega
  have ha:t.args=[]:=by rw[Jv]at hlen;simp[B5]at hlen;exact hlen
  exact⟨.unit,_,rfl,by rw[node 13 [] dD Jv ha];exact .unit⟩
end
section
def C3.drop {Γ:List T}:(Ξ:List T)->C3 (Ξ++Γ)->C3 Γ
 | [],e=>e
 | _::Ξ,e=>C3.drop Ξ e.2
def C3.wk {Γ:List T}:(Δ Ξ:List T)->C3 (Δ++(Ξ++Γ))->C3 (Δ++Γ)
 | [],Ξ,e=>C3.drop Ξ e
 | _::Δ,Ξ,e=>(e.1,C3.wk Δ Ξ e.2)
theorem At.drop {Γ:List T}{i:Nat}{a:T}{p:C3 Γ->a.V}(h:At Γ i a p):∀Ξ:List T,At (Ξ++Γ) (i+Ξ.length) a (fun e=>p (C3.drop Ξ e))
 | []=>h
 | _::Ξ=>.succ (At.drop h Ξ)
theorem At.wk {Γ Ξ:List T}{a:T}:∀(Δ:List T) {i:Nat} {p:C3 (Δ++Γ)->a.V},At (Δ++Γ) i a p->At (Δ++(Ξ++Γ)) (if i<Δ.length then i else i+Ξ.length) a (fun e=>p (C3.wk Δ Ξ e))
 | [],i,p,h=>by rw[if_neg sS];exact At.drop h Ξ
 | b::Δ,i,p,h=>by
  cases h with
  | zero=>rw[if_pos sS];exact At.zero
  | succ h=>
   rename_i j q;have:=At.succ (b:=b) (At.wk (Ξ:=Ξ) Δ h);have e:(if j+1<(b::Δ).length then j+1 else j+1+Ξ.length)=(if j<Δ.length then j else j+Ξ.length)+1:=by
    simp only[List.length_cons];split <;> split <;> omega
   rw[e];exact this
theorem GL {k:Int}(hk:k≠1/\k≠2)(i:Int)(y:Ty)(a:List Tm)(f b:Int):(Tm.mk k i y a).upN f b=Tm.mk k i y (a.map fun x=>x.upN f b):=by
 rw[Tm.upN_eq];simp[Tm.kind,Tm.index,Tm.type,Tm.args,hk.1,hk.2,JR]
theorem zn0 (a:T)(t:Tm)(f b:Int):(AY a t).upN f b=AY a (t.upN (f+1) b):=by
 rw[AY,Tm.upN_eq];simp[Tm.kind,Tm.index,Tm.type,Tm.args,JR,AY]
theorem tK (i:Int)(f b:Int):(vT i).upN f b=vT (if f<=i then i+b else i):=by
 rw[vT,Tm.upN_eq];simp[Tm.kind,Tm.index,Tm.type,Tm.args,vT]
theorem zga (t:Tm)(f:Int):t.upN f 0=t:=by
 induction t using Tm.ind generalizing f with
 | h t ih=>
 rw[Tm.upN_eq];have h1:(if t.kind=1/\f<=t.index then t.index+0 else t.index)=t.index:=by split <;> omega
 have h2:(t.args.map fun x=>x.upN (f+JR t.kind) 0)=t.args:=by
  conv=>rhs;rw[<- List.map_id t.args]
  exact List.map_congr_left fun x hx=>ih x hx _
 rw[h1,h2];exact Tm.eta t
theorem zqc (t:Tm)(f b c:Int)(hb:0<=b):(t.upN f b).upN f c=t.upN f (b+c):=by
 induction t using Tm.ind generalizing f with
 | h t ih=>
 rw[Tm.upN_eq t f b,Tm.upN_eq,Tm.upN_eq t f (b+c)];rw[Tm.kind_mk,Tm.index_mk,Tm.type_mk,Tm.args_mk,List.map_map];have e1:(if t.kind=1/\f<=(if t.kind=1/\f<=t.index then t.index+b else t.index) then (if t.kind=1/\f<=t.index then t.index+b else t.index)+c else (if t.kind=1/\f<=t.index then t.index+b else t.index))=(if t.kind=1/\f<=t.index then t.index+(b+c) else t.index):=by
  by_cases h1:t.kind=1/\f<=t.index;· rw[if_pos h1,if_pos ⟨h1.1,oO⟩,if_pos h1];omega
  ·rw[if_neg h1,if_neg h1,if_neg h1]
 rw[e1]
 congr 1
 exact List.map_congr_left fun x hx=>ih x hx _
theorem zqd {Γ Ξ:List T}{Θ:List T}{t:Tm}{a:T}{F:C3 Θ->a.V}(h:Dn Θ t a F):∀(Δ:List T) (Fw:Θ=Δ++Γ),Dn (Δ++(Ξ++Γ)) (t.upN Δ.length Ξ.length) a (fun e=>F (cast (congrArg C3 Fw.symm) (C3.wk Δ Ξ e))):=by
 induction h with
 | var h=>
  intro Δ Fw;subst Fw;rename_i i a p;have:=Dn.var (At.wk (Ξ:=Ξ) Δ h);rw[tK];have e:(if (Δ.length:Int)<=(i:Nat) then ((i:Nat):Int)+Ξ.length else (i:Nat))=((if i<Δ.length then i else i+Ξ.length:Nat):Int):=by
   split <;> split <;> omega
  rw[e];exact this
 | lam ha h ih=>
  intro Δ Fw;subst Fw;rw[zn0];have:=ih (_::Δ) rfl;simp only[List.length_cons,Int.natCast_add,Int.cast_ofNat_Int]at this;exact .lam ha this
 | app hf hx Ie Ga=>intro Δ Fw;subst Fw;rw[nT,GL dD];exact .app (Ie Δ rfl) (Ga Δ rfl)
 | zero=>intro Δ Fw;subst Fw;rw[nT,GL dD];exact .zero
 | succ hx ih=>intro Δ Fw;subst Fw;rw[nT,GL dD];exact .succ (ih Δ rfl)
 | rc ha hb hf hn Cu Ie Dj=>intro Δ Fw;subst Fw;rw[GL dD];exact .rc ha (Cu Δ rfl) (Ie Δ rfl) (Dj Δ rfl)
 | nil=>intro Δ Fw;subst Fw;rw[nT,GL dD];exact .nil
 | cons hx hl Ga Uo=>intro Δ Fw;subst Fw;rw[nT,GL dD];exact .cons (Ga Δ rfl) (Uo Δ rfl)
 | fold ha hb hf hn Cu Ie Dj=>intro Δ Fw;subst Fw;rw[GL dD];exact .fold ha (Cu Δ rfl) (Ie Δ rfl) (Dj Δ rfl)
 | pair hx hy Ga Pg=>intro Δ Fw;subst Fw;rw[nT,GL dD];exact .pair (Ga Δ rfl) (Pg Δ rfl)
 | fst hx ih=>intro Δ Fw;subst Fw;rw[nT,GL dD];exact .fst (ih Δ rfl)
 | snd hx ih=>intro Δ Fw;subst Fw;rw[nT,GL dD];exact .snd (ih Δ rfl)
 | unit=>intro Δ Fw;subst Fw;rw[nT,GL dD];exact .unit
theorem aU {Γ:List T}{t:Tm}{a:T}{F:C3 Γ->a.V}(h:Dn Γ t a F)(Ξ:List T):Dn (Ξ++Γ) (t.upN 0 Ξ.length) a (fun e=>F (C3.drop Ξ e)):=zqd (Ξ:=Ξ) h [] rfl
theorem Dn.eq {Γ:List T}{t:Tm}{a:T}{F G:C3 Γ->a.V}(h:Dn Γ t a F)(e:∀ρ,F ρ=G ρ):Dn Γ t a G:=by
 have:F=G:=funext e;rw[<- this];exact h
def T.tk:T->T
 | .nat=>.nat
 | .list=>.list
 | .unit=>.unit
 | .pair a b=>.pair a.tk b.tk
 | .fn a b=>.fn a.tk (.pair .nat b.tk)
def T.wt (a:T):T:=.pair .nat a.tk
inductive WV where
 | num (n:Nat)
 | list (l:List Nat)
 | pair (a b:WV)
 | fn (b:Tm) (e:List WV)
 | unit
abbrev iW:=Tm->List WV->Option (WV × Nat)
def S4 (ev:iW):List Tm->List WV->Option (List WV × Nat)
 | [],_=>some ([],0)
 | x::r,e=>match ev x e with
  | none=>none
  | some (v,k)=>match S4 ev r e with
   | none=>none
   | some (l,m)=>some (v::l,k+m)
def LO (ev:iW):WV->WV->Option (WV × Nat)
 | .fn b e,x=>ev b (x::e)
 | _,_=>none
def UC (ev:iW)(f:WV):Nat->Nat->WV->Option (WV × Nat)
 | 0,_,r=>some (r,0)
 | n+1,k,r=>match LO ev f (.num k) with
  | none=>none
  | some (g,c1)=>match LO ev g r with
   | none=>none
   | some (r',c2)=>match UC ev f n (k+1) r' with
    | none=>none
    | some (w,c3)=>some (w,1+c1+c2+c3)
def TP (ev:iW)(f r:WV):List Nat->Option (WV × Nat)
 | []=>some (r,0)
 | x::l=>match TP ev f r l with
  | none=>none
  | some (r',c0)=>match LO ev f (.num x) with
   | none=>none
   | some (g,c1)=>match LO ev g (.list l) with
    | none=>none
    | some (h,c2)=>match LO ev h r' with
     | none=>none
     | some (w,c3)=>some (w,c0+1+c1+c2+c3)
def IW (ev:iW)(k:Int)(l:List WV):Option (WV × Nat):=
 if k=3 then match l with
  | [f,x]=>(LO ev f x).map fun r=>(r.1,1+r.2)
  | _=>none
 else if k=4 then match l with
  | []=>some (.num 0,0)
  | _=>none
 else if k=5 then match l with
  | [.num n]=>some (.num (n+1),0)
  | _=>none
 else if k=6 then match l with
  | [b,f,.num n]=>UC ev f n 0 b
  | _=>none
 else if k=7 then match l with
  | []=>some (.list [],0)
  | _=>none
 else if k=8 then match l with
  | [.num n,.list m]=>some (.list (n::m),0)
  | _=>none
 else if k=9 then match l with
  | [b,f,.list m]=>TP ev f b m
  | _=>none
 else if k=10 then match l with
  | [x,y]=>some (.pair x y,0)
  | _=>none
 else if k=11 then match l with
  | [.pair x _]=>some (x,0)
  | _=>none
 else if k=12 then match l with
  | [.pair _ y]=>some (y,0)
  | _=>none
 else if k=13 then match l with
  | []=>some (.unit,0)
  | _=>none
 else none
def OR:Nat->iW
 | 0,_,_=>none
 | d+1,t,e=>
  if t.kind=2 then match t.args with
   | [b]=>some (.fn b e,0)
   | _=>none
  else if t.kind=1 then (e[t.index.toNat]?).map fun v=>(v,0)
  else match S4 (OR d) t.args e with
   | none=>none
   | some (l,c)=>(IW (OR d) t.kind l).map fun r=>(r.1,c+r.2)
def LeK (ev Fz:iW):Prop:=∀t e r,ev t e=some r->Fz t e=some r
theorem NI {ev Fz:iW}(h:LeK ev Fz){f x:WV}{r:WV × Nat}(hr:LO ev f x=some r):LO Fz f x=some r:=by
 cases f with
 | fn b e=>exact h _ _ _ hr
 | _=>cases hr
theorem ZA {ev Fz:iW}(h:LeK ev Fz):∀(l:List Tm) (e:List WV) {r:List WV × Nat},S4 ev l e=some r->S4 Fz l e=some r
 | [],_,_,hr=>hr
 | x::l,e,r,hr=>by
  simp only[S4]at hr ⊢;split at hr;· cases hr
  rename_i v k h1;rw[h _ _ _ h1];simp only;split at hr;· cases hr
  rename_i m c h2;rw[ZA h l e h2];exact hr
theorem iX {ev Fz:iW}(h:LeK ev Fz){f:WV}:∀(n k:Nat) (b:WV) {r:WV × Nat},UC ev f n k b=some r->UC Fz f n k b=some r
 | 0,_,_,_,hr=>hr
 | n+1,k,b,r,hr=>by
  simp only[UC]at hr ⊢;split at hr;· cases hr
  rename_i g c1 h1;rw[NI h h1];simp only;split at hr;· cases hr
  rename_i r' c2 h2;rw[NI h h2];simp only;split at hr;· cases hr
  rename_i w c3 h3;rw[iX h n (k+1) r' h3];exact hr
theorem aV {ev Fz:iW}(h:LeK ev Fz){f b:WV}:∀(l:List Nat) {r:WV × Nat},TP ev f b l=some r->TP Fz f b l=some r
 | [],_,hr=>hr
 | x::l,r,hr=>by
  simp only[TP]at hr ⊢;split at hr;· cases hr
  rename_i r' c0 h0;rw[aV h l h0];simp only;split at hr;· cases hr
  rename_i g c1 h1;rw[NI h h1];simp only;split at hr;· cases hr
  rename_i h' c2 h2;rw[NI h h2];simp only;split at hr;· cases hr
  rename_i w c3 h3;rw[NI h h3];exact hr
theorem n4 {ev Fz:iW}(h:LeK ev Fz){k:Int}{l:List WV}{r:WV × Nat}(hr:IW ev k l=some r):IW Fz k l=some r:=by
 unfold IW at hr ⊢;split
 ·rename_i h3;rw[if_pos h3]at hr;split at hr
  ·rename_i f x;cases hq:LO ev f x with
   | none=>rw[hq]at hr;cases hr
   | some q=>rw[NI h hq];rw[hq]at hr;exact hr
  ·cases hr
 rename_i h3;rw[if_neg h3]at hr;split;· rename_i h4;rw[if_pos h4]at hr;exact hr
 rename_i h4;rw[if_neg h4]at hr;split;· rename_i h5;rw[if_pos h5]at hr;exact hr
 rename_i h5;rw[if_neg h5]at hr;split
 ·rename_i h6;rw[if_pos h6]at hr;split at hr;· exact iX h _ _ _ hr
  ·cases hr
 rename_i h6;rw[if_neg h6]at hr;split;· rename_i h7;rw[if_pos h7]at hr;exact hr
 rename_i h7;rw[if_neg h7]at hr;split;· rename_i h8;rw[if_pos h8]at hr;exact hr
 rename_i h8;rw[if_neg h8]at hr;split
 ·rename_i h9;rw[if_pos h9]at hr;split at hr;· exact aV h _ hr
  ·cases hr
 rename_i h9;rw[if_neg h9]at hr;exact hr
theorem n6:∀d,LeK (OR d) (OR (d+1))
 | 0=>fun t e r h=>by cases h
 | d+1=>fun t e r h=>by
  have ih:=n6 d;rw[OR]at h ⊢;split;· rename_i h2;rw[if_pos h2]at h;exact h
  rename_i h2;rw[if_neg h2]at h;split;· rename_i h1;rw[if_pos h1]at h;exact h
  rename_i h1;rw[if_neg h1]at h;split at h;· cases h
  rename_i l c hl;rw[ZA ih _ _ hl];simp only;cases hq:IW (OR d) t.kind l with
  | none=>rw[hq]at h;cases h
  | some q=>rw[n4 ih hq];rw[hq]at h;exact h
theorem Q8 {d d':Nat}(h:d<=d'):LeK (OR d) (OR d'):=by
 induction h with
 | refl=>exact fun _ _ _ h=>h
 | step _ ih=>exact fun t e r hr=>n6 _ _ _ _ (ih t e r hr)
def Rk:(a:T)->WV->a.tk.V->Prop
 | .nat,v,n=>v = .num n
 | .list,v,l=>v = .list l
 | .unit,v,_=>v = .unit
 | .pair a b,v,p=>∃x y,v = .pair x y/\Rk a x (Prod.fst p)/\Rk b y (Prod.snd p)
 | .fn a b,v,f=>∀x (X:a.tk.V),Rk a x X->∃d w k,LO (OR d) v x=some (w,k)/\Rk b w (Prod.snd (f X))/\k=Prod.fst (f X)
def RkE:(Γ:List T)->List WV->C3 (Γ.map T.tk)->Prop
 | [],_,_=>True
 | a::Γ,e,ρ=>∃v e',e=v::e'/\Rk a v (Prod.fst ρ)/\RkE Γ e' (Prod.snd ρ)
def KJ (Γ:List T)(t:Tm)(a:T)(G:C3 (Γ.map T.tk)->a.wt.V):Prop:=∀e ρ,RkE Γ e ρ->∃d v k,OR d t e=some (v,k)/\Rk a v (Prod.snd (G ρ))/\k=Prod.fst (G ρ)
def Rq:(a:T)->a.V->a.tk.V->Prop
 | .nat,m,n=>m=n
 | .list,l,m=>l=m
 | .unit,_,_=>True
 | .pair a b,p,q=>Rq a (Prod.fst p) (Prod.fst q)/\Rq b (Prod.snd p) (Prod.snd q)
 | .fn a b,f,g=>∀x X,Rq a x X->Rq b (f x) (Prod.snd (g X))
def RqE:(Γ:List T)->C3 Γ->C3 (Γ.map T.tk)->Prop
 | [],_,_=>True
 | a::Γ,e,ρ=>Rq a (Prod.fst e) (Prod.fst ρ)/\RqE Γ (Prod.snd e) (Prod.snd ρ)
def iY (Γ:List T)(a:T)(F:C3 Γ->a.V)(G:C3 (Γ.map T.tk)->a.wt.V):Prop:=∀e ρ,RqE Γ e ρ->Rq a (F e) (Prod.snd (G ρ))
theorem zqe {Γ:List T}{i:Nat}{a:T}{p:C3 Γ->a.V}(h:At Γ i a p):∃q:C3 (Γ.map T.tk)->a.tk.V,At (Γ.map T.tk) i a.tk q/\(∀e ρ,RkE Γ e ρ->∃v,e[i]? = some v/\Rk a v (q ρ))/\∀e ρ,RqE Γ e ρ->Rq a (p e) (q ρ):=by
 induction h with
 | zero=>exact⟨_,.zero,(by rintro e ρ ⟨v,e',rfl,h1,-⟩;exact⟨v,rfl,h1⟩),fun e ρ h=>h.1⟩
 | succ h ih=>
  obtain⟨q,h1,h2,h3⟩:=ih;refine⟨_,.succ h1,?_,fun e ρ h=>h3 _ _ h.2⟩;rintro e ρ ⟨v,e',rfl,-,h5⟩;obtain⟨w,h6,h7⟩:=h2 e' _ h5;exact⟨w,by simpa using h6,h7⟩
end
section
theorem z9q {d:Nat}{k i:Int}{y:Ty}{l:List Tm}{e L:List WV}{c:Nat}{r:WV × Nat}(hk:k≠1/\k≠2)(h1:S4 (OR d) l e=some (L,c))(h2:IW (OR d) k L=some r) :
  OR (d+1) (Tm.mk k i y l) e=some (r.1,c+r.2):=by
 rw[OR,if_neg (show ¬(Tm.mk k i y l).kind=2 from hk.2),if_neg (show ¬(Tm.mk k i y l).kind=1 from hk.1)];show (match S4 (OR d) l e with|none=>none|some (l,c)=>(IW (OR d) k l).map fun (r:WV × Nat)=>(r.1,c+r.2))=_;rw[h1];show (IW (OR d) k L).map _=_;rw[h2];rfl
theorem MO {d1 d2:Nat}{k i:Int}{y:Ty}{l:List Tm}{e L:List WV}{c:Nat}{r:WV × Nat}(hk:k≠1/\k≠2)(h1:S4 (OR d1) l e=some (L,c))(h2:IW (OR d2) k L=some r) :
  ∃d,OR d (Tm.mk k i y l) e=some (r.1,c+r.2):=
 ⟨_,z9q hk (ZA (Q8 (Nat.le_max_left d1 d2)) _ _ h1) (n4 (Q8 (Nat.le_max_right d1 d2)) h2)⟩
theorem ak1 {d:Nat}{x:Tm}{e:List WV}{v:WV}{k:Nat}(h:OR d x e=some (v,k)):S4 (OR d) [x] e=some ([v],k):=by
 simp only[S4,h,Nat.add_zero]
theorem ak2 {d1 d2:Nat}{x y:Tm}{e:List WV}{v w:WV}{k m:Nat}(h1:OR d1 x e=some (v,k))(h2:OR d2 y e=some (w,m)):∃d,S4 (OR d) [x,y] e=some ([v,w],k+m):=by
 refine⟨max d1 d2,?_⟩;have h1':=Q8 (Nat.le_max_left d1 d2) _ _ _ h1;have Wl:=Q8 (Nat.le_max_right d1 d2) _ _ _ h2;simp only[S4,h1',Wl,Nat.add_zero]
theorem ak3 {d1 d2 d3:Nat}{x y z:Tm}{e:List WV}{v w u:WV}{k m n:Nat}(h1:OR d1 x e=some (v,k))(h2:OR d2 y e=some (w,m))(h3:OR d3 z e=some (u,n)):∃d,S4 (OR d) [x,y,z] e=some ([v,w,u],k+(m+n)):=by
 obtain⟨d,h⟩:=ak2 h2 h3;refine⟨max d1 d,?_⟩;have h1':=Q8 (Nat.le_max_left d1 d) _ _ _ h1;have h':=ZA (Q8 (Nat.le_max_right d1 d)) _ _ h;rw[S4,h1'];simp only[h']
theorem S5 {d d':Nat}(h:d<=d'){f x:WV}{r:WV × Nat}(hr:LO (OR d) f x=some r):LO (OR d') f x=some r:=NI (Q8 h) hr
abbrev WT (a:T):Type:=Nat × a.tk.V
def ziz {a:T}(x:a.tk.V):WT a:=(0,x)
def zqf {a b:T}(f:WT (.fn a b))(x:WT a):WT b:=(Nat.succ (Nat.add (Nat.add f.1 x.1) (Prod.fst (f.2 x.2))),Prod.snd (f.2 x.2))
def zj0 (x:WT .nat):WT .nat:=(x.1,Nat.succ x.2)
def zj1 (x:WT .nat)(l:WT .list):WT .list:=(Nat.add x.1 l.1,List.cons x.2 l.2)
def zj2 {a b:T}(x:WT a)(y:WT b):WT (.pair a b):=(Nat.add x.1 y.1,(x.2,y.2))
def zqg {a b:T}(x:WT (.pair a b)):WT a:=(x.1,Prod.fst x.2)
def zqh {a b:T}(x:WT (.pair a b)):WT b:=(x.1,Prod.snd x.2)
def TQ {a:T}(f:(T.fn .nat (.fn a a)).tk.V)(k:Nat)(c:WT a):WT a:=
 (Nat.succ (Nat.add (Nat.add c.1 (Prod.fst (f k))) (Prod.fst (Prod.snd (f k) c.2))),Prod.snd (Prod.snd (f k) c.2))
def zn2 {a:T}(p:WT a)(q:WT (.fn .nat (.fn a a)))(r:WT .nat):WT a:=
 (Nat.add (Nat.add (Nat.add p.1 q.1) r.1) (FT (α:=WT a) (0,p.2) (TQ q.2) r.2).1,(FT (α:=WT a) (0,p.2) (TQ q.2) r.2).2)
def OS {a:T}(f:(T.fn .nat (.fn .list (.fn a a))).tk.V)(x:Nat)(l:List Nat)(c:WT a):WT a:=
 (Nat.succ (Nat.add (Nat.add (Nat.add c.1 (Prod.fst (f x))) (Prod.fst (Prod.snd (f x) l))) (Prod.fst (Prod.snd (Prod.snd (f x) l) c.2))),Prod.snd (Prod.snd (Prod.snd (f x) l) c.2))
def z9r {a:T}(p:WT a)(q:WT (.fn .nat (.fn .list (.fn a a))))(r:WT .list):WT a:=
 (Nat.add (Nat.add (Nat.add p.1 q.1) r.1) (FK (α:=WT a) (0,p.2) (OS q.2) r.2).1,(FK (α:=WT a) (0,p.2) (OS q.2) r.2).2)
variable {Γ:List T}{a b:T}
theorem z9s {r:T}{t:Tm}{G:C3 ((a::Γ).map T.tk)->r.wt.V}(h:KJ (a::Γ) t r G):KJ Γ (AY a t) (.fn a r) (fun ρ=>ziz (a:=.fn a r) fun v=>G (v,ρ)):=by
 intro e ρ he;refine⟨1,.fn t e,0,rfl,?_,rfl⟩;intro x X hx;obtain⟨d,v,k,h1,h2,h3⟩:=h (x::e) (X,ρ) ⟨x,e,rfl,hx,he⟩;exact⟨d,v,k,h1,h2,h3⟩
theorem X4 {k:Int}{x:a.tk.V}{v:WV}(hk:k≠1/\k≠2)(hv:∀ev,IW ev k []=some (v,0))(hx:Rk a v x):KJ Γ (nT k []) a (fun _=>ziz x):=by
 intro e ρ he;obtain⟨d,h⟩:=MO (d1:=0) (d2:=0) (k:=k) (i:=0) (y:=Ty.mk 0 []) (l:=[]) (e:=e) hk rfl (hv _);exact⟨d,v,0,h,hx,rfl⟩
theorem z9t {f x:Tm}{F:C3 (Γ.map T.tk)->(T.fn a b).wt.V}{X:C3 (Γ.map T.tk)->a.wt.V}(hF:KJ Γ f (.fn a b) F)(hX:KJ Γ x a X):KJ Γ (nT 3 [f,x]) b (fun ρ=>zqf (F ρ) (X ρ)):=by
 intro e ρ he;obtain⟨d1,v1,c1,e1,r1,q1⟩:=hF e ρ he;obtain⟨d2,v2,c2,e2,r2,q2⟩:=hX e ρ he;obtain⟨d3,w,c3,e3,r3,q3⟩:=r1 v2 _ r2;obtain⟨d4,e4⟩:=ak2 e1 e2;have e5:IW (OR d3) 3 [v1,v2]=some (w,1+c3):=by unfold IW;simp[e3]
 obtain⟨d,h⟩:=MO (i:=0) (y:=Ty.mk 0 []) dD e4 e5;refine⟨d,w,_,h,r3,?_⟩;show c1+c2+(1+c3)=Nat.succ (Nat.add (Nat.add (Prod.fst (F ρ)) (Prod.fst (X ρ))) (Prod.fst (Prod.snd (F ρ) (Prod.snd (X ρ)))));rw[<- q1,<- q2,<- q3];simp only[Nat.succ_eq_add_one,Nat.add_eq];omega
theorem z3d {x:Tm}{X:C3 (Γ.map T.tk)->T.nat.wt.V}(hX:KJ Γ x .nat X):KJ Γ (nT 5 [x]) .nat (fun ρ=>zj0 (X ρ)):=by
 intro e ρ he;obtain⟨d1,v1,c1,e1,r1,q1⟩:=hX e ρ he;cases r1;have e5:IW (OR 0) 5 [.num (Prod.snd (X ρ))]=some (.num (Nat.succ (Prod.snd (X ρ))),0):=rfl;obtain⟨d,h⟩:=MO (i:=0) (y:=Ty.mk 0 []) dD (ak1 e1) e5;exact⟨d,_,_,h,rfl,q1⟩
theorem z3e {x l:Tm}{X:C3 (Γ.map T.tk)->T.nat.wt.V}{L:C3 (Γ.map T.tk)->T.list.wt.V}(hX:KJ Γ x .nat X)(hL:KJ Γ l .list L):KJ Γ (nT 8 [x,l]) .list (fun ρ=>zj1 (X ρ) (L ρ)):=by
 intro e ρ he;obtain⟨d1,v1,c1,e1,r1,q1⟩:=hX e ρ he;obtain⟨d2,v2,c2,e2,r2,q2⟩:=hL e ρ he;cases r1;cases r2;have e5:IW (OR 0) 8 [.num (Prod.snd (X ρ)),.list (Prod.snd (L ρ))]=some (.list (List.cons (Prod.snd (X ρ)) (Prod.snd (L ρ))),0):=rfl;obtain⟨d4,e4⟩:=ak2 e1 e2;obtain⟨d,h⟩:=MO (i:=0) (y:=Ty.mk 0 []) dD e4 e5;refine⟨d,_,_,h,rfl,?_⟩;rw[q1,q2];rfl
theorem z3f {x y:Tm}{X:C3 (Γ.map T.tk)->a.wt.V}{Y:C3 (Γ.map T.tk)->b.wt.V}(hX:KJ Γ x a X)(hY:KJ Γ y b Y):KJ Γ (nT 10 [x,y]) (.pair a b) (fun ρ=>zj2 (X ρ) (Y ρ)):=by
 intro e ρ he;obtain⟨d1,v1,c1,e1,r1,q1⟩:=hX e ρ he;obtain⟨d2,v2,c2,e2,r2,q2⟩:=hY e ρ he;have e5:IW (OR 0) 10 [v1,v2]=some (.pair v1 v2,0):=rfl;obtain⟨d4,e4⟩:=ak2 e1 e2;obtain⟨d,h⟩:=MO (i:=0) (y:=Ty.mk 0 []) dD e4 e5;refine⟨d,_,_,h,⟨v1,v2,rfl,r1,r2⟩,?_⟩;rw[q1,q2];rfl
theorem z9u {x:Tm}{X:C3 (Γ.map T.tk)->(T.pair a b).wt.V}(hX:KJ Γ x (.pair a b) X):KJ Γ (nT 11 [x]) a (fun ρ=>zqg (X ρ)):=by
 intro e ρ he;obtain⟨d1,v1,c1,e1,⟨v,w,rfl,r1,r2⟩,q1⟩:=hX e ρ he;have e5:IW (OR 0) 11 [.pair v w]=some (v,0):=rfl;obtain⟨d,h⟩:=MO (i:=0) (y:=Ty.mk 0 []) dD (ak1 e1) e5;exact⟨d,_,_,h,r1,q1⟩
theorem z9v {x:Tm}{X:C3 (Γ.map T.tk)->(T.pair a b).wt.V}(hX:KJ Γ x (.pair a b) X):KJ Γ (nT 12 [x]) b (fun ρ=>zqh (X ρ)):=by
 intro e ρ he;obtain⟨d1,v1,c1,e1,⟨v,w,rfl,r1,r2⟩,q1⟩:=hX e ρ he;have e5:IW (OR 0) 12 [.pair v w]=some (w,0):=rfl;obtain⟨d,h⟩:=MO (i:=0) (y:=Ty.mk 0 []) dD (ak1 e1) e5;exact⟨d,_,_,h,r2,q1⟩
theorem fT (ev:iW)(f:WV):∀(n k:Nat) (r r' g w:WV) (c c1 c2:Nat),UC ev f n k r=some (r',c)->LO ev f (.num (k+n))=some (g,c1)->LO ev g r' = some (w,c2)->UC ev f (n+1) k r=some (w,c+1+c1+c2)
 | 0,k,r,r',g,w,c,c1,c2,h,h1,h2=>by
  simp only[UC]at h;cases h;rw[Nat.add_zero]at h1;simp only[UC,h1,h2];first|rfl|(congr 2;omega)
 | n+1,k,r,r',g,w,c,c1,c2,h,h1,h2=>by
  rw[UC]at h ⊢;cases e0:LO ev f (.num k) with
  | none=>simp only[e0]at h;cases h
  | some q0=>
  obtain⟨g0,c0⟩:=q0;simp only[e0]at h ⊢;cases e1:LO ev g0 r with
  | none=>simp only[e1]at h;cases h
  | some q1=>
  obtain⟨r0,c0'⟩:=q1;simp only[e1]at h ⊢;cases e2:UC ev f n (k+1) r0 with
  | none=>simp only[e2]at h;cases h
  | some q2=>
  obtain⟨w0,c0''⟩:=q2;simp only[e2]at h;cases h;rw[show k+(n+1)=k+1+n from oO]at h1;rw[fT ev f n (k+1) r0 r' g w c0'' c1 c2 e2 h1 h2];simp only
  congr 2
  omega
theorem z9w {x f n:Tm}{P:C3 (Γ.map T.tk)->a.wt.V}{Q:C3 (Γ.map T.tk)->(T.fn .nat (.fn a a)).wt.V}{N:C3 (Γ.map T.tk)->T.nat.wt.V}(hP:KJ Γ x a P)(hQ:KJ Γ f (.fn .nat (.fn a a)) Q)(hN:KJ Γ n .nat N) :
  KJ Γ (Tm.mk 6 0 a.ty [x,f,n]) a (fun ρ=>zn2 (P ρ) (Q ρ) (N ρ)):=by
 intro e ρ he;obtain⟨d1,v1,c1,e1,r1,q1⟩:=hP e ρ he;obtain⟨d2,v2,c2,e2,r2,q2⟩:=hQ e ρ he;obtain⟨d3,v3,c3,e3,r3,q3⟩:=hN e ρ he;cases r3;have key:∀n:Nat,∃d w c,UC (OR d) v2 n 0 v1=some (w,c)/\Rk a w (FT (α:=WT a) (0,Prod.snd (P ρ)) (TQ (Prod.snd (Q ρ))) n).2/\c=(FT (α:=WT a) (0,Prod.snd (P ρ)) (TQ (Prod.snd (Q ρ))) n).1:=by
  intro n
  induction n with
  | zero=>exact⟨0,v1,0,rfl,r1,rfl⟩
  | succ n ih=>
   obtain⟨d,w,c,k1,k2,k3⟩:=ih;obtain⟨d',g,c',m1,m2,m3⟩:=r2 (.num n) n rfl;obtain⟨Sa,u,Ws,o1,o2,o3⟩:=m2 w _ k2;refine⟨max d (max d' Sa),u,_,fT _ _ n 0 v1 w g u c c' Ws (iX (Q8 oO) _ _ _ k1) (by rw[Nat.zero_add];exact S5 oO m1) (S5 oO o1),o2,?_⟩;show _=Nat.succ (Nat.add (Nat.add (FT (α:=WT a) (0,Prod.snd (P ρ)) (TQ (Prod.snd (Q ρ))) n).1 (Prod.fst (Prod.snd (Q ρ) n))) _);rw[<- k3,<- m3];show _=Nat.succ (Nat.add (Nat.add c c') (Prod.fst (Prod.snd (Prod.snd (Q ρ) n) (FT (α:=WT a) (0,Prod.snd (P ρ)) (TQ (Prod.snd (Q ρ))) n).2)));rw[<- o3];simp only[Nat.succ_eq_add_one,Nat.add_eq];omega
 obtain⟨d4,w,c,k1,k2,k3⟩:=key (Prod.snd (N ρ));obtain⟨d5,e5⟩:=ak3 e1 e2 e3;have e6:IW (OR d4) 6 [v1,v2,.num (Prod.snd (N ρ))]=some (w,c):=k1;obtain⟨d,h⟩:=MO (i:=0) (y:=a.ty) dD e5 e6;refine⟨d,w,_,h,k2,?_⟩;show c1+(c2+c3)+c=Nat.add (Nat.add (Nat.add (Prod.fst (P ρ)) (Prod.fst (Q ρ))) (Prod.fst (N ρ))) (FT (α:=WT a) (0,Prod.snd (P ρ)) (TQ (Prod.snd (Q ρ))) (Prod.snd (N ρ))).1;rw[<- k3,<- q1,<- q2,<- q3];simp only[Nat.add_eq];omega
theorem z3g {x f n:Tm}{P:C3 (Γ.map T.tk)->a.wt.V}{Q:C3 (Γ.map T.tk)->(T.fn .nat (.fn .list (.fn a a))).wt.V}{N:C3 (Γ.map T.tk)->T.list.wt.V}(hP:KJ Γ x a P)(hQ:KJ Γ f (.fn .nat (.fn .list (.fn a a))) Q)(hN:KJ Γ n .list N) :
  KJ Γ (Tm.mk 9 0 a.ty [x,f,n]) a (fun ρ=>z9r (P ρ) (Q ρ) (N ρ)):=by
 intro e ρ he;obtain⟨d1,v1,c1,e1,r1,q1⟩:=hP e ρ he;obtain⟨d2,v2,c2,e2,r2,q2⟩:=hQ e ρ he;obtain⟨d3,v3,c3,e3,r3,q3⟩:=hN e ρ he;cases r3;have key:∀l:List Nat,∃d w c,TP (OR d) v2 v1 l=some (w,c)/\Rk a w (FK (α:=WT a) (0,Prod.snd (P ρ)) (OS (Prod.snd (Q ρ))) l).2/\c=(FK (α:=WT a) (0,Prod.snd (P ρ)) (OS (Prod.snd (Q ρ))) l).1:=by
  intro l
  induction l with
  | nil=>exact⟨0,v1,0,rfl,r1,rfl⟩
  | cons y l ih=>
   obtain⟨d,w,c,k1,k2,k3⟩:=ih;obtain⟨d',g,c',m1,m2,m3⟩:=r2 (.num y) y rfl;obtain⟨Sa,g',Ws,o1,o2,o3⟩:=m2 (.list l) l rfl;obtain⟨Xh,u,c3',p1,p2,p3⟩:=o2 w _ k2;have s1:=aV (Q8 (show d<=max (max d d') (max Sa Xh) from oO)) _ k1;have s2:=S5 (show d'<=max (max d d') (max Sa Xh) from oO) m1;have s3:=S5 (show Sa<=max (max d d') (max Sa Xh) from oO) o1;have s4:=S5 (show Xh<=max (max d d') (max Sa Xh) from oO) p1;refine⟨max (max d d') (max Sa Xh),u,c+1+c'+Ws+c3',?_,p2,?_⟩;· simp only[TP,s1,s2,s3,s4]
   show _=Nat.succ (Nat.add (Nat.add (Nat.add (FK (α:=WT a) (0,Prod.snd (P ρ)) (OS (Prod.snd (Q ρ))) l).1 (Prod.fst (Prod.snd (Q ρ) y))) (Prod.fst (Prod.snd (Prod.snd (Q ρ) y) l))) _);rw[<- k3,<- m3,<- o3];show _=Nat.succ (Nat.add (Nat.add (Nat.add c c') Ws) (Prod.fst (Prod.snd (Prod.snd (Prod.snd (Q ρ) y) l) (FK (α:=WT a) (0,Prod.snd (P ρ)) (OS (Prod.snd (Q ρ))) l).2)));rw[<- p3];simp only[Nat.succ_eq_add_one,Nat.add_eq];omega
 obtain⟨d4,w,c,k1,k2,k3⟩:=key (Prod.snd (N ρ));obtain⟨d5,e5⟩:=ak3 e1 e2 e3;have e6:IW (OR d4) 9 [v1,v2,.list (Prod.snd (N ρ))]=some (w,c):=k1;obtain⟨d,h⟩:=MO (i:=0) (y:=a.ty) dD e5 e6;refine⟨d,w,_,h,k2,?_⟩;show c1+(c2+c3)+c=Nat.add (Nat.add (Nat.add (Prod.fst (P ρ)) (Prod.fst (Q ρ))) (Prod.fst (N ρ))) (FK (α:=WT a) (0,Prod.snd (P ρ)) (OS (Prod.snd (Q ρ))) (Prod.snd (N ρ))).1;rw[<- k3,<- q1,<- q2,<- q3];simp only[Nat.add_eq];omega
end
section
theorem F2:T.nat.ok:=by unfold T.ok;decide
theorem zgb (Γ:List T):Dn Γ R2 (.fn .nat .nat) (fun _ (n:Nat)=>Nat.pred n):=by
 have h:Dn Γ R2 (.fn .nat .nat) _:=.lam F2 (.rc (a:=.nat) F2 .zero (.lam F2 (.lam F2 (.var (.succ .zero)))) (.var .zero));refine h.eq fun ρ=>funext fun n=>?_;have key:∀n:Nat,FT (0:Nat) (fun k _=>k) n=Nat.pred n:=by intro n;cases n <;> rfl
 exact key n
theorem Q9 (Γ:List T):Dn Γ EF (.fn .nat (.fn .nat .nat)) (fun _ (m n:Nat)=>Nat.add m n):=by
 have h:Dn Γ EF (.fn .nat (.fn .nat .nat)) _:=.lam F2 (.lam F2 (.rc (a:=.nat) F2 (.var (.succ .zero)) (.lam F2 (.lam F2 (.succ (.var .zero)))) (.var .zero)));refine h.eq fun ρ=>funext fun m=>funext fun n=>?_;have key:∀n:Nat,FT (α:=Nat) m (fun _ r=>Nat.succ r) n=Nat.add m n:=by
  intro n
  induction n with
  | zero=>rfl
  | succ n ih=>simp only[FT,ih];rfl
 exact key n
theorem zn3 (Γ:List T):Dn Γ iT (.fn .nat (.fn .nat .nat)) (fun _ (m n:Nat)=>Nat.sub m n):=by
 have h:Dn Γ iT (.fn .nat (.fn .nat .nat)) _:=.lam F2 (.lam F2 (.rc (a:=.nat) F2 (.var (.succ .zero)) (.lam F2 (.lam F2 (.app (zgb _) (.var .zero)))) (.var .zero)));refine h.eq fun ρ=>funext fun m=>funext fun n=>?_;have key:∀n:Nat,FT (α:=Nat) m (fun _ r=>Nat.pred r) n=Nat.sub m n:=by
  intro n
  induction n with
  | zero=>rfl
  | succ n ih=>simp only[FT,ih];rfl
 exact key n
end
section
section
variable {X:Ctx}{s s0:St}{k:List Item}
def zj3 (T:List Nat)(m n:Nat):Bool:=(List.range n).all fun j=>decide (j<m)||(List.range j).all fun i=>(T.getD j 0).testBit i
theorem tL {T:List Nat}{m n:Nat}(h:zj3 T m n=true):∀j,m<=j->j<n->∀i,i<j->(T.getD j 0).testBit i=true:=by
 intro j hj hn i hi;have:=List.all_eq_true.1 h j (List.mem_range.2 hn);rw[Bool.or_eq_true]at this;rcases this with h1|h1;· exact absurd (of_decide_eq_true h1) oO
 ·exact List.all_eq_true.1 h1 i (List.mem_range.2 hi)
theorem iZ {ops:Array Oper}{m:Nat}{T:List Nat}(Cv:XV 0 ops.toList=true)(Kt:m5 T T ops.toList=true)(Iw:∀j,m<=j->j<ops.size->∀i,i<j->(T.getD j 0).testBit i=true){Q:Exit->Act->World->Prop} :
  ∀(k j fuel:Nat) (listed:Array Bool) (a:Act) (w:World),j+k=ops.size->m<=j->listed.size=ops.size->(∀i,i<ops.size->KQ listed i=decide (i<j))->k<=fuel->wpOpsIn X.F 0 X.P ops Q (List.range' j k) a w->wpAnyIn X.F 0 X.P .any ops Q fuel listed a w
 | 0,j,fuel,listed,a,w,hjk,hm,Bb,hL,hf,hw=>by
  have Ah:∀i,i<ops.size->KQ listed i=true:=fun i hi=>by rw[hL i hi];exact decide_eq_true oO
  have hr:∀i,¬i∈Region.ready .any ops listed:=by
   intro i hi;obtain⟨h1,o,h2,-⟩:=mem_ready.1 hi;have hj:i<ops.size:=(Array.getElem?_eq_some_iff.1 h2).1;rw[O7 oO,Ah i hj]at h1;cases h1
  have hQ:Q .normal a w:=hw;cases fuel with
  | zero=>
   refine⟨?_,hQ⟩;cases hq:Region.ready .any ops listed with
   | nil=>rfl
   | cons i r=>exact absurd (by rw[hq];simp) (hr i)
  | succ fuel=>exact⟨fun _=>hQ,fun i hi=>absurd hi (hr i)⟩
 | k+1,j,fuel,listed,a,w,hjk,hm,Bb,hL,hf,hw=>by
  obtain⟨fuel,rfl⟩:∃f,fuel=f+1:=⟨fuel - 1,oO⟩;have Nh:j<ops.size:=oO;have Ci:a9 ops (KQ listed):=by
   intro i o hi ho e he hb;have Ot:i<ops.size:=(Array.getElem?_eq_some_iff.1 ho).1;have Ag:=KX Cv i o (by simpa using ho) e he hb;rw[hL i Ot]at hi;have:=of_decide_eq_true hi;rw[hL e.on oO];exact decide_eq_true oO
  have hj:j∈Region.ready .any ops listed:=by
   rw[mem_ready];refine⟨by rw[O7 oO,hL j Nh];exact decide_eq_false oO,ops[j],uG Nh,fun e he hb=>?_⟩;have Ag:=KX Cv j ops[j] (by simp[Nh]) e he hb;show KQ listed e.on=true;rw[hL e.on oO];exact decide_eq_true oO
  refine⟨fun hr=>absurd hj (by rw[hr];simp),fun i hi=>?_⟩;obtain⟨h1,o,ho,Ah⟩:=mem_ready.1 hi;have Ot:i<ops.size:=(Array.getElem?_eq_some_iff.1 ho).1;rw[O7 oO,hL i Ot]at h1;have Ii:j<=i:=by have:=of_decide_eq_false h1;omega
  have Gj:∀e∈o.after,Region.binds .any e=true->KQ listed e.on=true:=Ah;have heq:i=j:=by
   rcases Nat.lt_or_ge j i with h|h
   ·have:=P2 Cv Kt Ci i o ho Gj (Iw i oO Ot j h);rw[hL j Nh]at this;exact absurd (of_decide_eq_true this) oO
   ·omega
  subst heq;rw[List.range'_succ,wpOpsIn_cons]at hw;refine wpOpIn_mono (fun a' w' h'=>?_) hw;refine iZ Cv Kt Iw k (i+1) fuel _ a' w' oO oO (by simpa using Bb) (fun x hx=>?_) oO h';rw[Q2 oO];show (x==i||KQ listed x)=_;rw[hL x hx];by_cases hxi:x=i;· subst hxi;simp
  ·have:(x==i)=false:=by simpa using hxi
   rw[this,Bool.false_or]
   congr 1
   exact propext ⟨fun h=>oO,fun h=>oO⟩
theorem z3h {ops ops':Array Oper}{m:Nat}{T0:List Nat}(hops:ops.toList.take m=ops'.toList)(hmn:m<=ops.size){evs:List Ev}{K:St->Prop}(Bf:z1y X ops' ops'.toList s0 evs)(hg:∀o∈ops'.toList,o.guard=none)(Oj:m6 ops'.toList s0 evs=true)
  (Jj:XV 0 ops.toList=true) (Pd:m5 T0 T0 ops.toList=true) (Iw:∀j,m<=j->j<ops.size->∀i,i<j->(T0.getD j 0).testBit i=true) (hK:VL X ops (ops.toList.drop m) (Q1 s0 evs) K) :
  ∀(fuel:Nat) (listed:Array Bool) (G:Gh) (a:Act) (w:World),listed.size=ops.size->a9 ops (KQ listed)->(∀j,m<=j->KQ listed j=false)->(left m listed).length+(ops.size - m)<=fuel->Rel X G (WK (KQ listed) 0 evs s0) a w ->
   wpAnyIn X.F 0 X.P .any ops (Nrm X K) fuel listed a w:=by
 simp only[m6,uH]at Oj;obtain⟨⟨⟨Cv,Kt⟩,Eh⟩,hp⟩:=Oj;generalize m0 ops'.toList []=T at *;have hsz':ops'.size=m:=by
  have:=congrArg List.length hops;simp at this;omega
 have hlen:evs.length=m:=by have:=RP Bf;simp at this;omega
 have Bq:∀i,i<m->ops'[i]? = ops[i]?:=by
  intro i hi;have h1:ops'.toList[i]? = ops.toList[i]?:=by rw[<- hops,List.getElem?_take_of_lt hi]
  simpa using h1
 intro fuel
 induction fuel with
 | zero=>
  intro listed G a w Bb Ci htl hle R;have hm0:m=ops.size:=oO;have Ah:∀j,j<m->KQ listed j=true:=by
   intro j hj;cases hq:KQ listed j with
   | true=>rfl
   | false=>
    have hm:j∈left m listed:=by simp[left,hj,hq]
    have:=List.length_pos_of_mem hm;omega
  refine iZ Jj Pd Iw 0 m 0 listed a w oO (Nat.le_refl _) Bb (fun i hi=>by rw[Ah i oO];exact (decide_eq_true oO).symm) (Nat.le_refl _) ?_
  have R':Rel X G (Q1 s0 evs) a w:=R.congr fun l=>by
   rw[<- iE 0];refine LM evs 0 _ _ rfl fun j ev hj Ba=>?_;have Lb:j<m:=by rw[<- hlen];exact (uA hj).1
   exact absurd (Ah j Lb).symm (by simpa using Ba)
  have:=hK m rfl G a w R';have hd:(ops.toList.drop m).length=0:=by simp;omega
  rw[hd]at this;exact this
 | succ fuel ih=>
  intro listed G a w Bb Ci htl hle R;by_cases Ah:∀j,j<m->KQ listed j=true
  ·have R':Rel X G (Q1 s0 evs) a w:=R.congr fun l=>by
    rw[<- iE 0];refine LM evs 0 _ _ rfl fun j ev hj Ba=>?_;have Lb:j<m:=by rw[<- hlen];exact (uA hj).1
    exact absurd (Ah j Lb).symm (by simpa using Ba)
   have hw:=hK m rfl G a w R';have hd:(ops.toList.drop m).length=ops.size - m:=sS;rw[hd]at hw;refine iZ Jj Pd Iw (ops.size - m) m (fuel+1) listed a w oO (Nat.le_refl _) Bb (fun i hi=>?_) oO hw;by_cases Sn:i<m;· rw[Ah i Sn];exact (decide_eq_true Sn).symm
   ·rw[htl i oO];exact (decide_eq_false Sn).symm
  have hex:∃j,j<m/\KQ listed j=false:=by
   by_cases h:∃j,j<m/\KQ listed j=false;· exact h
   ·exact absurd (fun j hj=>by
     cases hq:KQ listed j with
     | true=>rfl
     | false=>exact absurd ⟨j,hj,hq⟩ h) Ah
  have Me:Region.ready .any ops listed=[]->∀j,j<m->KQ listed j=true:=by
   intro hr j
   induction j using Nat.strongRecOn with
   | _ j ihj=>
    intro hj;cases hq:KQ listed j with
    | true=>rfl
    | false=>
     have Nh:j<ops.size:=oO;have:j∈Region.ready .any ops listed:=by
      rw[mem_ready];refine⟨by rw[O7 oO];exact hq,ops[j],uG Nh,fun e he hb=>?_⟩;have Ag:=KX Jj j ops[j] (by simp[Nh]) e he hb;exact ihj e.on oO oO
     rw[hr]at this;cases this
  refine⟨fun hr=>absurd (Me hr) Ah,fun i hi=>?_⟩;obtain⟨h1,o,ho,Ze⟩:=mem_ready.1 hi;have Ot:i<ops.size:=(Array.getElem?_eq_some_iff.1 ho).1;have Bz:i<listed.size:=oO;rw[O7 Bz]at h1;have Gj:∀e∈o.after,Region.binds .any e=true->KQ listed e.on=true:=Ze;have Sn:i<m:=by
   rcases Nat.lt_or_ge i m with h|h;· exact h
   ·exact absurd (fun j hj=>P2 Jj Pd Ci i o ho Gj (Iw i h Ot j oO)) Ah
  have Ut:a9 ops' (KQ listed):=by
   intro j o' hL Kk e he hb;have hj:j<m:=by have:=(Array.getElem?_eq_some_iff.1 Kk).1;omega
   exact Ci j o' hL (by rw[<- Bq j hj];exact Kk) e he hb
  have Kk:ops'[i]? = some o:=by rw[Bq i Sn];exact ho
  have Fr:i<evs.length:=oO;have Ik:evs[i]? = some evs[i]:=uB Fr;have Ec:=iF 0 Bf i o evs[i] (by simpa using Kk) Ik;have Ia:∀(j:Nat) (ev:Ev),evs[j]? = some ev->i<j->KQ listed j=true->KP evs[i] ev=true:=by
   intro j ev hj Ii hL;have hjm:j<m:=by rw[<- hlen];exact (uA hj).1
   have Nh:j<ops'.size:=oO;rcases (KY hp i j _ ev Ii Ik hj).2 with h|h
   ·have:=P2 Cv Kt Ut j ops'[j] (uG Nh) (fun e he hb=>Ut j _ hL (uG Nh) e he hb) (by simpa using h);rw[h1]at this;cases this
   ·exact h
  have Pj:∀(j:Nat) (ev:Ev),evs[j]? = some ev->j<i->KQ listed j=false->KP ev evs[i]=true:=by
   intro j ev hj Ii hL;rcases (KY hp j i ev _ Ii hj Ik).2 with h|h
   ·have:=P2 Cv Kt Ut i o Kk Gj (by simpa using h);rw[hL]at this;cases this
   ·exact h
  have Bn:rZ X ops' o (WK (KQ listed) 0 evs s0) (apply (WK (KQ listed) 0 evs s0) evs[i].e):=by
   refine Ec _ (fun l v hl=>?_) (fun d hd=>?_)
   ·obtain⟨Qq,hg⟩:=fI hl;rw[<- hg];refine LM evs 0 _ _ rfl fun j ev hj Ba hw=>?_;simp only[Nat.zero_add]at Ba;by_cases Ii:j<i
    ·cases hq:KQ listed j with
     | true=>rw[hq]at Ba;simp[Ii]at Ba
     | false=>
      have:=Pj j ev hj Ii hq;simp only[KP,uH,P1]at this;exact this.1.1.1 l hw Qq
    ·cases hq:KQ listed j with
     | false=>rw[hq]at Ba;simp[Ii]at Ba
     | true=>
      have Ru:j≠i:=fun e=>by rw[e,h1]at hq;cases hq
      have:=Ia j ev hj oO hq;simp only[KP,uH,P1]at this;exact this.1.1.2 l hw Qq
   ·refine WR evs 0 s0 (WU Eh i _ Ik d hd) fun j ev hj hL=>?_;simp only[Nat.zero_add]at hL;have Ru:j≠i:=fun e=>by rw[e,h1]at hL;cases hL
    by_cases Ii:j<i;· exact (KY hp j i ev _ Ii hj Ik).1 d hd
    ·have:=Ia j ev hj oO hL;simp only[KP,uH,V9]at this
     simpa using this.2 d hd
  have Aa:∀G' a' w',Rel X G' (apply (WK (KQ listed) 0 evs s0) evs[i].e) a' w'->wpAnyIn X.F 0 X.P .any ops (Nrm X K) fuel (listed.setIfInBounds i true) a' w':=by
   intro G' a' w' R';refine ih _ G' a' w' (by simpa using Bb) ?_ ?_ ?_ ?_
   ·rw[Q2 Bz];intro j o' hL hoj e he hb;simp only[Bool.or_eq_true,beq_iff_eq]at hL ⊢;rcases hL with rfl|hL
    ·rw[ho]at hoj;cases hoj;exact .inr (Gj e he hb)
    ·exact .inr (Ci j o' hL hoj e he hb)
   ·intro j hj;rw[Q2 Bz];show (j==i||KQ listed j)=false;rw[htl j hj,Bool.or_false]
    simp;omega
   ·have:=m7 (n:=m) Bz Sn h1;omega
   ·rw[Q2 Bz];refine R'.congr fun l=>iD h1 evs 0 s0 (Nat.zero_le _) Ik fun j ev hj Ag hL hw=>?_;simp only[Nat.zero_add]at Ag hL;have:=Ia j ev hj Ag hL;simp only[KP,uH,P1]at this;exact this.1.2 l hw
  have hgn:o.guard=none:=hg o (uE (i:=i) (by simpa using Kk));have:=Bn G a w R _ (Nrm X K) Aa;unfold wpOpIn;simp only[ho];have hw:∀y,Region.wanted o y=true:=fun y=>by simp[Region.wanted,hgn]
  simp only[hw,if_true]at this ⊢;exact this
def z9x (ops:List Oper)(m:Nat):Bool:=
 let T:=m0 ops []
 XV 0 ops&&m5 T T ops&&zj3 T m ops.length&&(ops.take m).all fun o=>o.guard.isNone
theorem j0 {id:Nat}{ops:Array Oper}{s:St}(hm:X.P.follows .mixedOrders=true)(m:Nat)(hmn:m<=ops.size)(Td:z9x ops.toList m=true)(Ad esc':List Nat)
  (h:∀K:St->Prop,(∀s',W X k s'->K s')->xW X Ad (ops.toList.take m).toArray s (fun s'=>vc X esc' ops (ops.toList.drop m) s' K) (ops.toList.take m) s []):W X (.code (.region id ops true)::k) s:=by
 intro G a w b cs hf hk hr R;simp only[z9x,uH,List.all_eq_true]at Td;obtain⟨⟨⟨t1,t2⟩,t3⟩,t4⟩:=Td;obtain⟨evs,h1,h2,h3⟩:=D8 (h (fun s'=>W X k s') (fun _ h=>h));have ht:(ops.toList.take m).toArray.toList=ops.toList.take m:=rfl;have h3':VL X ops (ops.toList.drop m) (Q1 s evs) (fun s'=>W X k s'):=DM h3
 have Ji:=z3h (ops':=(ops.toList.take m).toArray) (s0:=s) rfl hmn (by rw[ht];exact h1) (fun o ho=>by have:=t4 o (by simpa using ho);cases hq:o.guard with|none=>rfl|some _=>rw[hq]at this;cases this) (by simpa using h2) t1 t2 (tL (by simpa using t3)) h3' ops.size (Array.replicate ops.size false) G a { w with drawn:=w.drawn+1 } sS (fun j o hL=>by simp[KQ,Array.getElem?_replicate]at hL;split at hL <;> simp at hL) (fun j _=>by simp only[KQ,Array.getD_eq_getD_getElem?,Array.getElem?_replicate];split <;> rfl) (by
   have:(left m (Array.replicate ops.size false)).length<=m:=Nat.le_trans (List.length_filter_le _ _) sS
   omega) (by
   rw[RO _ _ _ (fun j _=>by simp only[KQ,Array.getD_eq_getD_getElem?,Array.getElem?_replicate];split <;> rfl)];exact R.drawn _)
 obtain⟨e',a',w',⟨rfl,G',s',hK,R'⟩,Pk⟩:=wpIn_region_any (F:=X.F) (n:=0) hm Ji b k cs hr tT (z5v _);obtain⟨Lk,fr,q1,q2⟩:=hK G' a' w' b cs hf hk hr R';exact⟨Lk,fr,q1,Steps.trans (StepsIn.steps Pk) q2⟩
abbrev KK (b n cap:Nat):DV:=.prim (.slice (some ⟨b,0,none⟩) n cap)
theorem zgc (A M D xs:List SV)(h:xs.length=M.length):put (A++(M++D)) A.length xs=A++(xs++D):=by
 apply List.ext_getElem?;intro i;rw[UX _ _ _ _ (by simp;omega)];split
 ·rename_i hi;rw[List.getElem?_append_right hi.1,List.getElem?_append_left oO]
 ·rename_i hi;by_cases h1:i<A.length;· rw[List.getElem?_append_left h1,List.getElem?_append_left h1]
  ·have h2:A.length+xs.length<=i:=oO;rw[List.getElem?_append_right oO,List.getElem?_append_right oO,List.getElem?_append_right oO,List.getElem?_append_right oO,h]
theorem H8 (l r:List (List DV)):AM (l++r)=AM l++AM r:=by simp[AM]
theorem F6 {E:Nat}{l:List (List DV)}(h:∀e∈l,e.length=E):(AM l).length=l.length * E:=by simp only[AM,List.length_map];exact LN h
theorem tM {E:Nat}{full zs:List (List DV)}{n:Nat}(Ek:∀e∈full,e.length=E)(Dk:∀e∈zs,e.length=E)(hle:n+zs.length<=full.length) :
  put (AM full) (n * E) (AM zs)=AM (full.take n++zs++full.drop (n+zs.length)):=by
 have h1:full=full.take n++((full.drop n).take zs.length++full.drop (n+zs.length)):=by
  have:=List.take_append_drop zs.length (full.drop n);rw[List.drop_drop]at this;rw[this,List.take_append_drop]
 have m1:∀e∈full.take n,e.length=E:=fun e he=>Ek e (List.mem_of_mem_take he);have m2:∀e∈(full.drop n).take zs.length,e.length=E:=fun e he=>Ek e (List.mem_of_mem_drop (List.mem_of_mem_take he));have e1:(AM (full.take n)).length=n * E:=by rw[F6 m1,List.length_take,Nat.min_eq_left oO]
 have e2:(AM zs).length=(AM ((full.drop n).take zs.length)).length:=by rw[F6 Dk,F6 m2,List.length_take,List.length_drop,Nat.min_eq_left oO]
 have h2:AM full=AM (full.take n)++(AM ((full.drop n).take zs.length)++AM (full.drop (n+zs.length))):=by rw[<- H8,<- H8,<- h1]
 rw[h2,<- e1,zgc _ _ _ _ e2,H8,H8,List.append_assoc]
theorem tN {G:Gh}{w:World}{E:Nat}{zs:List (List DV)}{g:Nat->Value}(hE:∀e∈zs,e.length=E)(h:V0 G.D w E zs g):H0 G w (AM zs) (WO g (zs.length * E)):=by
 have hl:=LN hE;refine⟨by rw[LK,F6 hE],fun i x v hx hv=>?_⟩;simp only[AM,List.getElem?_map]at hx;cases Jr:zs.flatten[i]? with
 | none=>rw[Jr]at hx;cases hx
 | some dd=>
  rw[Jr]at hx;cases hx;obtain⟨i1,j1,e1,k1,k2,rfl⟩:=RX hE Jr;have hj:j1<E:=by rw[<- hE e1 (uE k1)];exact (uA k2).1
  have hi:i1<zs.length:=(uA k1).1;rw[O3 _ _ _ (N9 hi hj)]at hv;cases hv;exact h i1 j1 e1 dd k1 k2
theorem eP {zs:List (List DV)}(h:∀e∈zs,∀c∈e,DV.isCell c=true):EV (AM zs)=true:=by
 rw[PU];intro x hx;simp only[AM,List.mem_map,List.mem_flatten]at hx;obtain⟨d,⟨e,he,hd⟩,rfl⟩:=hx;exact h e he d hd
theorem VM {o:Oper}{x y:Operand}{T T2:TypeId}(ho:o.op = .call { callee:=.builtin .append,args:=#[x,y],argTypes:=#[T,T2] }){d:Nat}(hd:o.dst=some d)(hn:d<X.n)
  {E B:Nat} (he:DW X.P T=some (E,B)) (h2:(DB X.P T2).isSome=true) {b n cap:Nat} {full zs:List (List DV)} (hx:D4 X (get s) x=some (.v (KK b n cap))) (hy:(D4 X (get s) y).bind LJ=some zs)
  (Ak:get s (.heap b)=some (.row (AM full))) (Ew:full.length=cap) (hle:n+zs.length<=cap) (Ek:∀e∈full,e.length=E) (Dk:∀e∈zs,e.length=E) :
  EU X s o (CV (CV s (.heap b) (.row (AM (full.take n++zs++full.drop (n+zs.length))))) (.slot d) (.one (.v (KK b (n+zs.length) cap)))):=by
 intro G a w R next Q hK
 have hv:=(BT (AD R hx)).1;obtain⟨q,hq,Ju⟩:=Option.bind_eq_some_iff.1 hy;obtain⟨yb,Up,Yz,Mu,-⟩:=HQ Ju (AD R hq);obtain⟨c2,g,g1,g2,g3⟩:=V1 Mu Dk;have Nt:n * E+(AM zs).length<=(AM full).length:=by
  rw[F6 Ek,F6 Dk,<- Nat.add_mul,Ew];exact Nat.mul_le_mul_right _ hle
 obtain⟨w',h1,Wl⟩:=R.storeRow Ak rfl (b:=b) rfl (tN Dk g1) (eP c2) Nt;have Bf:=JA (P:=X.P) (t:=T) (ty:=o.type) (t2:=T2) (w:=w) he h2 (base:=some ⟨b,0,none⟩) (len:=n) (cap:=cap) (NA (P:=X.P) Mu w) (EL (P:=X.P) g3) hle (w':=w') (by simp only[F0,Nat.zero_add];exact h1);rw[<- hv]at Bf;refine PT (by intro c e;rw[ho]at e;cases e) ?_;have Dr:(execOp a.eval o).run X.P w = .ok (.value (.slice (some ⟨b,0,none⟩) (n+zs.length) cap)) w':=by
  simp[execOp,ho,resolve,invoke,builtin,Bf]
 rw[Dr,E8,hd];rw[tM Ek Dk oO]at Wl;exact hK G _ w' (Wl.setSlot (Trans.refl X G a w' R.nil) rfl rfl (fun _ h=>h) hn (.prim _ tT))
theorem Rel.newArr {G:Gh}{a:Act}{w:World}(R:Rel X G s a w){d:Nat}(hn:d<X.n){w1:World}(hw1:w1.heap=w.heap){c:Array Value}{e:TypeId}{E:Nat}{full:List (List DV)}{n cap:Nat}
  (T':Trans X G a w G (a.put (some d) (.slice (some ⟨w.heap.size,0,none⟩) n cap)) (w1.alloc (.cells c e)) (fun _=>False))
  (hE:∀e∈full,e.length=E) (Aj:∀e∈full,∀c∈e,DV.isCell c=true) (hc:full.length * E<=c.size) (Bq:∀(i j:Nat) (e:List DV) (dd:DV),full[i]? = some e->e[j]? = some dd->∃v,c[i * E+j]? = some v/\RV G.D w dd v) :
  Rel X G (CV (CV s (.slot d) (.one (.v (KK w.heap.size n cap)))) (.heap w.heap.size) (.row (AM full))) (a.put (some d) (.slice (some ⟨w.heap.size,0,none⟩) n cap)) (w1.alloc (.cells c e)):=by
 have hp:=IR a (some d) (.slice (some ⟨w.heap.size,0,none⟩) n cap);refine R.step T' (fun l u=>(l = .slot d/\u = .one (.v (KK w.heap.size n cap)))\/(l = .heap w.heap.size/\u = .row (AM full))) (fun l u h=>?_) (fun l u h=>?_) (fun l u l' u' b h h' hb Ab=>?_)
 ·rw[C1,C1]at h;by_cases h1:Loc.heap w.heap.size=l;· rw[if_pos h1]at h;cases h;exact .inl (.inr ⟨h1.symm,rfl⟩)
  ·rw[if_neg h1]at h;by_cases h3:Loc.slot d=l;· rw[if_pos h3]at h;cases h;exact .inl (.inl ⟨h3.symm,rfl⟩)
   ·rw[if_neg h3]at h;exact .inr ⟨h,fun n hn=>KW _ _ _ _ (fun e=>h3 (by rw[hn,e])),fun b hb hBb=>hBb.elim,fun _ _=>rfl,fun _ _=>rfl⟩
 ·rcases h with⟨rfl,rfl⟩|⟨rfl,rfl⟩
  ·refine⟨?_,fun b hb=>by cases hb⟩;show LX G _ (.v _) _;rw[I9 _ _ _ (by rw[R.size];exact hn)];exact .prim _ tT
  ·refine⟨⟨c,e,?_,?_,fun i x hx=>?_⟩,fun b hb=>?_⟩
   ·have:=OX w1 (.cells c e);rw[hw1]at this;exact this
   ·rw[F6 hE];exact hc
   ·simp only[AM,List.getElem?_map]at hx;cases Jr:full.flatten[i]? with
    | none=>rw[Jr]at hx;cases hx
    | some dd=>
     rw[Jr]at hx;cases hx;obtain⟨i1,j1,e1,k1,k2,rfl⟩:=RX hE Jr;obtain⟨v,hv,hr⟩:=Bq i1 j1 e1 dd k1 k2;exact⟨Aj e1 (uE k1) dd (uE k2),v,hv,hr.mono T'.grow⟩
   ·cases hb;exact⟨.inl (Nat.le_refl _),.inl R.ext.size,fun _ o hD=>absurd (R.wf.lt hD) (Nat.lt_irrefl _)⟩
 ·rcases h with⟨rfl,rfl⟩|⟨rfl,rfl⟩;· cases hb
  ·rcases h' with⟨rfl,rfl⟩|⟨rfl,rfl⟩;· cases Ab
   ·rfl
theorem SR {G:Gh}{a:Act}{w:World}(R:Rel X G s a w):newB w.heap.size s:=VC fun v hv=>by
 have hh:=R.holds _ _ hv;cases v with
 | row cs=>exact absurd (JE hh rfl) (Nat.lt_irrefl _)
 | ob r=>exact absurd (JE hh rfl) (Nat.lt_irrefl _)
 | mp l=>exact absurd (JE hh rfl) (Nat.lt_irrefl _)
 | one x=>exact hh.elim
 | tk E n=>exact hh.elim
def S6 (P:Program)(T:TypeId):Option (List DV):=
 match P.underlying T with
 | some (.slice e)=>(DK P e).bind GZ
 | _=>none
theorem Y4 {E i j:Nat}(hj:j<E):(i * E+j) % E=j:=by
 rw[Nat.mul_comm,Nat.mul_add_mod];exact Nat.mod_eq_of_lt hj
theorem R4 {P:Program}{w:World}{t ty t2 E B:Nat}(he:DW P t=some (E,B))(hB:0<B/\B<=1024)(h2:(DB P t2).isSome=true){base:Option Addr}{len cap:Nat}{x:Value}{n:Nat}{old new:Array Value}
  (hx:∀w',w'.heap=w.heap->(Builtin.lenOf x).run P w' = .ok n w') (hn:∀w',w'.heap=w.heap->(Builtin.firstCells E n x).run P w' = .ok new w') (ho:∀w',w'.heap=w.heap->(Builtin.firstCells E len (.slice base len cap)).run P w' = .ok old w')
  (hle:¬len+n<=cap) (Al:len+n<=HL) (h1:old.size=len * E) (h3:new.size=n * E) {zd:List DV} (hz:S6 P t=some zd) :
  zd.length=E/\∃c e nc,(Builtin.append_ #[t,t2] ty #[.slice base len cap,x]).run P w = .ok (.slice (some ⟨w.heap.size,0,none⟩) (len+n) nc) (w.drew.alloc (.cells c e))/\len+n<=nc/\c.size=nc * E/\(∀k,k<len * E->c[k]? = old[k]?)/\(∀k,k<n * E->c[len * E+k]? = new[k]?) /\
   ∀(G:Gh) (w':World),G.τ 0=(none,0)->∀(i j:Nat) (dd:DV),i<nc - (len+n)->zd[j]? = some dd->∃v,c[(len+n+i) * E+j]? = some v/\RV G.D w' dd v:=by
 obtain⟨e,i,z,hu,hi,Qn,Lr,Nj,Mt⟩:=MU he;obtain⟨E2,Dk⟩:=Option.isSome_iff_exists.1 h2;obtain⟨e2,i2,Wy,-,-⟩:=IQ Dk;have hzz:∃cs,XL z.cells.toList=some cs/\GZ cs=some zd:=by
  simp only[S6,hu,DK,hi,Qn]at hz;exact Option.bind_eq_some_iff.1 hz
 obtain⟨zcs,Oh,Hb⟩:=hzz;have Gk:zd.length=E:=by
  have h0:H0 { D:=fun _ _=>False,ν:=fun _=>0,τ:=fun _=>(none,0) } w zcs z.cells.toList.toArray:=JN rfl Oh;have:=(RG h0 Hb).1;rw[<- this]
  simpa using Lr
 refine⟨Gk,?_⟩;unfold HL at Al;have Bj:¬(Builtin.nextslicecap (len+n) cap * B > 2 ^ 48):=by
  have:=QW (need:=len+n) (cap:=cap) oO;have:Builtin.nextslicecap (len+n) cap * B<=(2 * (len+n)+600) * 1024:=Nat.mul_le_mul this hB.2;omega
 let q:Question:=.appendCap (len+n) cap e
 let nc:=q.cut (w.tape w.drawn q)
 have Ic:len+n<=nc:=by show len+n<=_;simp[nc,q,Question.cut]
 have Ln:(Builtin.zeroCells z.cells (nc - (len+n))).size=(nc - (len+n)) * E:=by simp[Builtin.zeroCells,Lr]
 refine⟨old++new++Builtin.zeroCells z.cells (nc - (len+n)),e,nc,?_,Ic,?_,fun k hk=>?_,fun k hk=>?_,fun G w' hG i j dd Gg hj=>?_⟩
 ·unfold Builtin.append_;have Eu:¬(2 ^ 48<Builtin.nextslicecap (len+n) cap * B):=Bj;simp[run_underlying hu,run_underlying Wy,sizeOf,typeInfo,hi,Nj,hx w rfl,hle,Mt,Eu,Question.forced,ho (w.drew) rfl,hn (w.drew) rfl,zeroValue,Qn,newRow,nc,q];intro h;omega
 ·simp[h1,h3,Builtin.zeroCells,Lr];rw[<- Nat.add_mul,<- Nat.add_mul]
  congr 1;omega
 ·rw[Array.getElem?_append_left (by simp[h1,h3];omega),Array.getElem?_append_left oO]
 ·rw[Array.getElem?_append_left (by simp[h1,h3];omega),Array.getElem?_append_right oO,h1]
  congr 1;omega
 ·have No:j<E:=by rw[<- Gk];exact (uA hj).1
  have Ag:i * E+j<(nc - (len+n)) * E:=N9 Gg No;have Ak:H0 G w' zcs z.cells.toList.toArray:=JN hG Oh;have hr:=(RG Ak Hb).2 j dd;simp only[Array.toArray_toList]at hr;have hjz:j<z.cells.size:=oO;refine⟨z.cells[j],?_,hr _ hj (uG hjz)⟩;have Bb:(old++new).size=(len+n) * E:=by simp[h1,h3,Nat.add_mul]
  have e1:(len+n+i) * E+j=(old++new).size+(i * E+j):=by rw[Bb,Nat.add_mul (len+n) i E];omega
  rw[e1,Array.getElem?_append_right (Nat.le_add_right _ _),Nat.add_sub_cancel_left];have By:i * E+j<(nc - (len+n)) * z.cells.size:=by rw[Lr];exact Ag
  simp only[Builtin.zeroCells];rw[Array.getElem?_map,Array.getElem?_range,if_pos By];simp only[Option.map_some,Lr,Y4 No];rw[getElem!_pos z.cells j hjz]
theorem L0 {E:Nat}:∀{ys:List (List DV)},(∀e∈ys,e.length=E)->∀{i j:Nat} {e:List DV} {d:DV},ys[i]? = some e->e[j]? = some d->ys.flatten[i * E+j]? = some d
 | [],_,i,j,e,d,h,_=>by simp at h
 | y::r,hE,0,j,e,d,h,hd=>by
  simp at h;subst h;rw[List.flatten_cons,Nat.zero_mul,Nat.zero_add,List.getElem?_append_left (uA hd).1];exact hd
 | y::r,hE,i+1,j,e,d,h,hd=>by
  have hy:=hE y sS;have ih:=L0 (ys:=r) (fun e he=>hE e (List.mem_cons_of_mem _ he)) (by simpa using h) hd;rw[List.flatten_cons,List.getElem?_append_right (by rw[hy,Nat.add_mul];omega),hy];rw[show (i+1) * E+j - E=i * E+j from by rw[Nat.add_mul];omega];exact ih
theorem j9 {o:Oper}{x y:Operand}{T T2:TypeId}(ho:o.op = .call { callee:=.builtin .append,args:=#[x,y],argTypes:=#[T,T2] }){d:Nat}(hd:o.dst=some d)(hn:d<X.n)
  {E B:Nat} (he:DW X.P T=some (E,B)) (hB:0<B/\B<=1024) (h2:(DB X.P T2).isSome=true) {b n cap:Nat} {full zs:List (List DV)} {zd:List DV} (hx:D4 X (get s) x=some (.v (KK b n cap))) (hy:(D4 X (get s) y).bind LJ=some zs)
  (Ak:get s (.heap b)=some (.row (AM full))) (Ew:full.length=cap) (Ic:n<=cap) (hnf:cap<n+zs.length) (Al:n+zs.length<=HL) (Ek:∀e∈full,e.length=E) (Dk:∀e∈zs,e.length=E) (hz:S6 X.P T=some zd) (Ln:HE zd=true)
  {G:Gh} {a:Act} {w:World} (R:Rel X G s a w) (next:Act->World->Prop) (Q:Exit->Act->World->Prop)
  (hK:∀b' Au,n+zs.length<=Au->newB b' s->X.w0.heap.size<=b'->∀G' a' w',Rel X G' (CV (CV s (.slot d) (.one (.v (KK b' (n+zs.length) Au)))) (.heap b') (.row (AM (full.take n++zs++List.replicate (Au - (n+zs.length)) zd)))) a' w'->next a' w') :
  o.wpIn X.F 0 X.P a w next Q:=by
 have hv:=(BT (AD R hx)).1;obtain⟨q,hq,Ju⟩:=Option.bind_eq_some_iff.1 hy;obtain⟨yb,Up,Yz,Mu,-⟩:=HQ Ju (AD R hq);obtain⟨c2,g,g1,g2,g3⟩:=V1 Mu Dk;obtain⟨c0,e0,k1,k2,k3⟩:KM G w b (AM full):=R.holds _ _ Ak;rw[F6 Ek]at k2;have hnE:n * E<=full.length * E:=Nat.mul_le_mul_right _ oO
 have Pr:∀w':World,w'.heap=w.heap->(Builtin.firstCells E zs.length (a.eval y)).run X.P w' = .ok (WO g (zs.length * E)) w':=fun w' hw=>by
  refine EL (D:=G.D) ?_;rcases g3 with h|⟨b,o',cap,h,hc⟩;· exact .inl h
  ·exact .inr ⟨b,o',cap,h,fun k hk=>by rw[IA hw];exact hc k hk⟩
 have Kz:∀w':World,w'.heap=w.heap->(Builtin.firstCells E n (.slice (some ⟨b,0,none⟩) n cap)).run X.P w' = .ok (WO (fun k=>(c0[k]?).getD undef) (n * E)) w':=fun w' hw=>by
  simp only[Builtin.firstCells];refine M0 b 0 (n * E) _ (fun k hk=>?_);have Ag:k<c0.size:=oO;rw[IA hw,Nat.zero_add];simp[World.cell?,k1,Ag]
 obtain⟨Gk,c,e,nc,r1,r2,r3,r4,r5,r6⟩:=R4 (P:=X.P) (t:=T) (ty:=o.type) (t2:=T2) (w:=w) he hB h2 (base:=some ⟨b,0,none⟩) (len:=n) (cap:=cap) (fun w' _=>NA (P:=X.P) Mu w') Pr Kz oO Al (LK _ _) (LK _ _) hz;rw[<- hv]at r1;have Dr:(execOp a.eval o).run X.P w = .ok (.value (.slice (some ⟨w.heap.size,0,none⟩) (n+zs.length) nc)) (w.drew.alloc (.cells c e)):=by
  simp[execOp,ho,resolve,invoke,builtin,r1]
 refine PT (by intro c e;rw[ho]at e;cases e) ?_;rw[Dr,E8,hd];have hp:=IR a (some d) (.slice (some ⟨w.heap.size,0,none⟩) (n+zs.length) nc);have T':Trans X G a w G (a.put (some d) (.slice (some ⟨w.heap.size,0,none⟩) (n+zs.length) nc)) (w.drew.alloc (.cells c e)) (fun _=>False):=by
  refine⟨hp.1,fun h=>(h.heap fun b hb=>DL w.drew _ b hb).put hp.2,rfl,rfl,rfl,sS,fun b hb _=>DL w.drew _ b hb,fun _ h=>h.elim,fun b k hD=>⟨hD,World.cell?_alloc_lt w.drew _ _ (R.wf.lt hD)⟩,fun b k hD Ma=>absurd hD Ma,R.nil⟩
 refine hK w.heap.size nc r2 (SR R) R.ext.size G _ _ (R.newArr hn (w1:=w.drew) rfl T' (E:=E) ?_ ?_ ?_ ?_)
 ·intro e he;rcases List.mem_append.1 he with he|he
  ·rcases List.mem_append.1 he with he|he;· exact Ek e (List.mem_of_mem_take he)
   ·exact Dk e he
  ·rw[(List.mem_replicate.1 he).2];exact Gk
 ·intro e he d hd;rcases List.mem_append.1 he with he|he
  ·rcases List.mem_append.1 he with he|he
   ·have he:=List.mem_of_mem_take he;obtain⟨i,hi⟩:=List.mem_iff_getElem?.1 he;obtain⟨j,hj⟩:=List.mem_iff_getElem?.1 hd;exact (k3 (i * E+j) (.v d) (by simp only[AM,List.getElem?_map,L0 Ek hi hj,Option.map_some])).1
   ·exact c2 e he d hd
  ·rw[(List.mem_replicate.1 he).2]at hd;exact (MT zd).1 Ln d hd
 ·rw[r3];simp only[List.length_append,List.length_take,List.length_replicate];exact Nat.mul_le_mul_right _ oO
 ·intro i j e dd hi hj;have Fu:(full.take n).length=n:=by rw[List.length_take,Nat.min_eq_left oO]
  rw[List.append_assoc]at hi;rcases Nat.lt_or_ge i n with h|h
  ·rw[List.getElem?_append_left oO,List.getElem?_take_of_lt h]at hi;have No:j<E:=by rw[<- Ek e (uE hi)];exact (uA hj).1
   have Ag:=N9 h No;obtain⟨-,v,q1,q2⟩:=k3 (i * E+j) (.v dd) (by simp only[AM,List.getElem?_map,L0 Ek hi hj,Option.map_some]);refine⟨v,?_,q2⟩;rw[r4 _ Ag,O3 _ _ _ Ag,q1];rfl
  ·rw[List.getElem?_append_right oO,Fu]at hi;rcases Nat.lt_or_ge (i - n) zs.length with h' | h'
   ·rw[List.getElem?_append_left h']at hi;have No:j<E:=by rw[<- Dk e (uE hi)];exact (uA hj).1
    have Ag:=N9 h' No;refine⟨_,?_,g1 _ _ _ _ hi hj⟩;have e1:i * E+j=n * E+((i - n) * E+j):=by rw[<- Nat.add_assoc,<- Nat.add_mul];congr 2;omega
    rw[e1,r5 _ Ag,O3 _ _ _ Ag]
   ·rw[List.getElem?_append_right h']at hi
    obtain⟨Lt,Jt⟩:e=zd/\i - n - zs.length<nc - (n+zs.length):=by
     have hm:=uE hi;have Ag:=(uA hi).1;simp only[List.length_replicate]at Ag;exact⟨(List.mem_replicate.1 hm).2,Ag⟩
    subst Lt;obtain⟨v,q1,q2⟩:=r6 G w R.nil (i - n - zs.length) j dd Jt hj;refine⟨v,?_,q2⟩;rw[show n+zs.length+(i - n - zs.length)=i from oO]at q1;exact q1
theorem Y5 {Ad:List Nat}{ops:Array Oper}{l:List Oper}{K:St->Prop}{d:Tmp}{x y:Operand}{T T2 ty:TypeId}{pos:String}{af:Array Edge}{q:Option (Prop × St)}
  {E B b n cap:Nat} {full zs:List (List DV)} {zd:List DV} (hx:D4 X (get s) x=some (.v (KK b n cap))) (hy:(D4 X (get s) y).bind LJ=some zs) (Ak:get s (.heap b)=some (.row (AM full)))
  (he:DW X.P T=some (E,B)) (hz:S6 X.P T=some zd) (Ln:HE zd=true) (hB:0<B/\B<=1024) (h2:(DB X.P T2).isSome=true) (hn:d<X.n)
  (Ew:full.length=cap) (Ic:n<=cap) (Al:n+zs.length<=HL) (Ek:∀e∈full,e.length=E) (Dk:∀e∈zs,e.length=E) (hq:q=none)
  (h1:n+zs.length<=cap->vc X Ad ops l (CV (CV s (.heap b) (.row (AM (full.take n++zs++full.drop (n+zs.length))))) (.slot d) (.one (.v (KK b (n+zs.length) cap)))) K)
  (h3:cap<n+zs.length->∀b' Au,n+zs.length<=Au->newB b' s->X.w0.heap.size<=b'->vc X Ad ops l (CV (CV s (.slot d) (.one (.v (KK b' (n+zs.length) Au)))) (.heap b') (.row (AM (full.take n++zs++List.replicate (Au - (n+zs.length)) zd)))) K) :
  eD X Ad ops l K ⟨some d,.call { callee:=.builtin .append,args:=#[x,y],argTypes:=#[T,T2] },ty,pos,af,none⟩ s q:=by
 subst hq;rcases Nat.lt_or_ge cap (n+zs.length) with h|h
 ·intro m hm G a w R0;obtain⟨p1,p3⟩:=FH hm;simp only[List.length_cons,List.range'_succ,wpOpsIn,p1,Region.wanted,if_true];refine j9 (o:=⟨some d,.call { callee:=.builtin .append,args:=#[x,y],argTypes:=#[T,T2] },ty,pos,af,none⟩) rfl rfl hn he hB h2 hx hy Ak Ew Ic h Al Ek Dk hz Ln R0 _ _ fun b' Au hc hb hw G' a' w' R'=>?_;exact DM (h3 h b' Au hc hb hw) (m+1) p3 G' a' w' R'
 ·exact V6 rfl (VM (o:=⟨some d,.call { callee:=.builtin .append,args:=#[x,y],argTypes:=#[T,T2] },ty,pos,af,none⟩) rfl rfl hn he h2 hx hy Ak Ew h Ek Dk) (DM (h1 h))
theorem z3i {o:Oper}{t len E B:Nat}{parts:Array (Nat × Operand)}(ho:o.op = .buildSlice t len parts){d:Nat}(hd:o.dst=some d)(hn:d<X.n)(he:DW X.P t=some (E,B)){els:List (List DV)}
  (h:Jj1 X (get s) E 0 parts.toList=some els) (hlen:els.length=len) (hb:len * E<=16777216)
  {G:Gh} {a:Act} {w:World} (R:Rel X G s a w) (next:Act->World->Prop) (Q:Exit->Act->World->Prop)
  (hK:∀b,newB b s->X.w0.heap.size<=b->∀G' a' w',Rel X G' (CV (CV s (.slot d) (.one (.v (KK b len len)))) (.heap b) (.row (AM els))) a' w'->next a' w') :
  o.wpIn X.F 0 X.P a w next Q:=by
 obtain⟨e,i,z,hu,hi,hz,Lr,Nj,Mt⟩:=MU he;subst hlen;have Oq:((Array.range (els.length * E)).map fun k=>(if els.length * E=0 then #[] else z.cells)[k % (if els.length * E=0 then #[] else z.cells).size]!).size=els.length * E:=sS;obtain⟨q1,q2,q3,c',f1,f2,f3,f4⟩:=PV R E parts.toList 0 els ((Array.range (els.length * E)).map fun k=>(if els.length * E=0 then #[] else z.cells)[k % (if els.length * E=0 then #[] else z.cells).size]!) h (by rw[Oq,Nat.zero_add];exact Nat.le_refl _);rw[Oq]at f2;have Bf:(Instr.buildSlice t els.length (parts.map fun (i,x)=>(i,a.eval x))).run X.P w = .ok (.slice (some ⟨w.heap.size,0,none⟩) els.length els.length) (w.alloc (.cells c' e)):=by
  have Ba:¬(els.length * E > 2 ^ 24):=oO;have hf:Instr.fill (fun k=>some (k * E,E)) ((Array.range (els.length * E)).map fun k=>(if els.length * E=0 then #[] else z.cells)[k % (if els.length * E=0 then #[] else z.cells).size]!) ((parts.map fun (q:Nat × Operand)=>(q.1,a.eval q.2)).toList)=some c':=by
   rw[Array.toList_map];exact f1
  unfold Instr.buildSlice;simp only[run_underlying hu,sizeOf,typeInfo,hi,Nj,Sem.run_bind,Sem.run_pure,run_program,Result.andThen_ok,Ba,if_false];by_cases h0:els.length * E=0
  ·simp only[if_pos h0]at hf ⊢;simp only[Sem.run_bind,Sem.run_pure,Result.andThen_ok,hf,newRow,run_newObj];rfl
  ·simp only[if_neg h0]at hf ⊢;simp only[zeroValue,typeInfo,run_program,hi,hz,Sem.run_bind,Sem.run_pure,Result.andThen_ok,hf,newRow,run_newObj];rfl
 refine PT (by intro c e;rw[ho]at e;cases e) ?_;have Dr:(execOp a.eval o).run X.P w = .ok (.value (.slice (some ⟨w.heap.size,0,none⟩) els.length els.length)) (w.alloc (.cells c' e)):=by
  simp only[execOp,ho,Sem.run_bind,Bf,Result.andThen_ok,Sem.run_pure]
 rw[Dr,E8,hd];have hp:=IR a (some d) (.slice (some ⟨w.heap.size,0,none⟩) els.length els.length);have T':Trans X G a w G (a.put (some d) (.slice (some ⟨w.heap.size,0,none⟩) els.length els.length)) (w.alloc (.cells c' e)) (fun _=>False):=by
  refine⟨hp.1,fun h=>(h.heap fun b hb=>DL w _ b hb).put hp.2,rfl,rfl,rfl,sS,fun b hb _=>DL w _ b hb,fun _ h=>h.elim,fun b k hD=>⟨hD,World.cell?_alloc_lt w _ _ (R.wf.lt hD)⟩,fun b k hD Ma=>absurd hD Ma,R.nil⟩
 refine hK w.heap.size (SR R) R.ext.size G _ _ (R.newArr hn (w1:=w) rfl T' (E:=E) q1 q2 (by rw[f2];exact Nat.le_refl _) fun i j e dd hi hj=>?_);obtain⟨v,hv,hr⟩:=f4 i j e dd hi hj;rw[Nat.zero_add]at hv;exact⟨v,hv,hr⟩
theorem n7 {Ad:List Nat}{ops:Array Oper}{l:List Oper}{K:St->Prop}{d:Tmp}{t len:Nat}{parts:Array (Nat × Operand)}{ty:TypeId}{pos:String}{af:Array Edge}{q:Option (Prop × St)}{E B:Nat}{els:List (List DV)}
  (he:DW X.P t=some (E,B)) (h:Jj1 X (get s) E 0 parts.toList=some els) (hc:els.length=len/\len * E<=16777216) (hn:d<X.n) (hq:q=none)
  (k:∀b,newB b s->X.w0.heap.size<=b->vc X Ad ops l (CV (CV s (.slot d) (.one (.v (KK b len len)))) (.heap b) (.row (AM els))) K) :
  eD X Ad ops l K ⟨some d,.buildSlice t len parts,ty,pos,af,none⟩ s q:=by
 subst hq;intro m hm G a w R0;obtain⟨p1,p3⟩:=FH hm;simp only[List.length_cons,List.range'_succ,wpOpsIn,p1,Region.wanted,if_true];refine z3i (o:=⟨some d,.buildSlice t len parts,ty,pos,af,none⟩) rfl rfl hn he h hc.1 hc.2 R0 _ _ fun b hb hw G' a' w' R'=>?_;exact DM (k b hb hw) (m+1) p3 G' a' w' R'
end
end
section
variable {gl:AF}
theorem L1 (b:Nat)(ys:List (List DV))(k:IntKind)(n:Int):G0 b ys (.v (.prim (.int k n))) = .v (.prim (.int k n)):=rfl
theorem L2 (b:Nat)(ys:List (List DV))(n:Int):G0 b ys (.v (A0 n)) = .v (A0 n):=rfl
theorem L3 (b:Nat)(ys:List (List DV))(n:Bool):G0 b ys (.v (.prim (.bool n))) = .v (.prim (.bool n)):=rfl
theorem JS (b:Nat)(ys:List (List DV))(n:Bool):G0 b ys (.v (AK n)) = .v (AK n):=rfl
theorem P9 (b:Nat)(ys els:List (List DV)):G0 b ys (.v (.sl els)) = .v (.sl els):=rfl
theorem MW (b:Nat)(ys:List (List DV))(cs:List DV):G0 b ys (.v (.agg cs)) = .v (.agg cs):=rfl
theorem MX (b:Nat)(ys:List (List DV))(cs:List DV):G0 b ys (.v (.tup cs)) = .v (.tup cs):=rfl
theorem PA (b:Nat)(ys:List (List DV))(t:Tm):G0 b ys (.v t.dv) = .v t.dv:=rfl
theorem MY (b:Nat)(ys:List (List DV))(k o:Nat):G0 b ys (.loc k o) = .loc k o:=rfl
theorem PB (b:Nat)(ys els:List (List DV))(k o:Nat):G0 b ys (.dp els k o) = .dp els k o:=rfl
theorem MZ (b:Nat)(ys els:List (List DV))(k:Nat):G0 b ys (.own k els) = .own k els:=rfl
theorem N0 (b:Nat)(ys:List (List DV))(p:Option Addr):G0 b ys (.v (.prim (.pointer p))) = .v (.prim (.pointer p)):=rfl
theorem PC {b:Nat}{ys:List (List DV)}{n cap:Nat}(h1:n=ys.length)(h2:n<=cap):G0 b ys (.v (.prim (.slice (some ⟨b,0,none⟩) n cap))) = .v (.sl ys):=by
 show (if b=b/\n=ys.length/\n<=cap then _ else _)=_;rw[if_pos ⟨rfl,h1,h2⟩]
theorem Tm.idx_of (t:Tm)(m:Int)(h:t.shape=true)(hm:t.leastN m=true):t.idx m:=by
 induction t using Tm.ind with
 | h t ih=>
 have hs:=Tm.shape_node h;rw[leastN_eq,uH]at hm;have key:∀l:List Tm,leastN.leasts l m=true->∀a∈l,a.leastN m=true:=by
  intro l
  induction l with
  | nil=>simp
  | cons a r Fy=>
   intro hl x hx;simp only[leastN.leasts,uH]at hl;rcases List.mem_cons.1 hx with rfl|hx;· exact hl.1
   ·exact Fy hl.2 x hx
 rw[idx_eq];refine⟨⟨hs.2.1,?_⟩,fun a ha=>ih a ha (hs.2.2.2.2 a ha) (key _ hm.2 a ha)⟩;have:=hm.1;simp at this;exact this
end
section
def T.plain:T->Prop
 | .nat=>True
 | .list=>True
 | .unit=>True
 | .pair a b=>a.plain/\b.plain
 | .fn _ _=>False
def C5:(a:T)->a.V->Val
 | .nat,n=>Val.mk 1 (Int.ofNat n) [] []
 | .list,l=>Val.mk 2 0 (List.map Int.ofNat l) []
 | .unit,_=>Val.mk 4 0 [] []
 | .pair a b,p=>Val.mk 3 0 [] [C5 a p.1,C5 b p.2]
 | .fn _ _,_=>Val.mk 4 0 [] []
end
end Go.Proofs.YtoniciijokeidaaGreatDoor.Lift
