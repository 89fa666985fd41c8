import Derived.Test.YtkfiobkjflmchaaGreatDoorQn5
set_option maxHeartbeats 8000000
set_option maxRecDepth 100000
set_option linter.unusedSimpArgs false
set_option linter.unusedVariables false
set_option linter.unnecessarySimpa false
namespace Go.Proofs.YtkfiobkjflmchaaGreatDoor.Lift
open Go
section
variable {gl:AB}
theorem DJ (a b:Ty):cT gl 171 [a.dv,b.dv] [] (Ty.mk 4 [a,b]).dv []:=by
 refine A6 Tryz.func171 ?_;intro X hP u6 hf u8 hn hR u5 u4;refine A2 ?_;refine BL tT (DF a) (DF b) ?_;exact BI
theorem YW (t:Ty)(hc:t.count<=1073741824):cT gl 238 [t.dv] [] (.tup [(XQ t).1.dv,A0 (XQ t).2]) []:=by
 refine A6 Tryz.func238 ?_;intro X hP u6 hf u8 hn hR u5 u4;refine A2 ?_;refine A3 tT (EJ t oO) ?_;by_cases h:t.checkN=0
 ·refine A7 @h ?_;exact AT (j2 @XQ.eq_1 @h)
 ·refine A7 @h ?_;exact AT (j3 @XQ.eq_1 @h @AE.eq_1)
theorem PB (k:Int)(a b:Ty):(Ty.mk k [a,b]).count=1+(a.count+(b.count+0)):=rfl
theorem IX (g:List Ty):List.take g.length (List.map Ty.cells g)=List.map Ty.cells g:=by rw[List.take_of_length_le];simp
theorem LT:(Ty.mk 1 []).dv = .agg [A0 1,.sl []]:=rfl
theorem OY:(Ty.mk 2 []).dv = .agg [A0 2,.sl []]:=rfl
theorem z9j (t:Tm)(g:List Ty)(hgt:g.length+t.count<=2147483648)(ht:t.shape=true)(hg:∀x∈g,x.ok):cT gl 197 [.sl (g.map Ty.cells),t.dv] [] (.tup [(t.inferN g).1.dv,A0 (t.inferN g).2]) []:=by
 induction t using Tm.ind generalizing g with
 | h t ih=>
 obtain⟨ha,hi,hv,Al,hs⟩:=Tm.shape_node ht;refine A6 Tryz.func197 ?_;intro X hP u6 hf u8 hn hR u5 u4;have Iq:=IM (u4 (.sl (g.map Ty.cells)) sS);simp at Iq;by_cases h1:t.kind=1
 ·by_cases h2:(g.length:Int)<=t.index
  ·refine A7 (j2 @h1 @h2) ?_;exact AT (j4 (Tm.inferN_eq t) @h1 @h2 @AE.eq_1)
  ·have Ac:g.length - 1 - t.index.toNat<g.length:=oO;have hx:=uB Ac;generalize Uk:g[g.length - 1 - t.index.toNat]=x at hx;have Cp:g[(g.length - 1 - t.index:Int).toNat]? = some x:=by rw[<- hx];congr 1;omega
   refine A7 (j2 @h1 @h2) ?_;refine A3 @Cp (DF x) ?_;exact AT (j4 (Tm.inferN_eq t) @h1 @h2 @hx)
 by_cases Ax:t.kind=2
 ·rw[Ax]at ha
  obtain⟨b,hb⟩:∃b,t.args=[b]:=by
   match hh:t.args,ha with
   | [b],_=>exact⟨b,rfl⟩
  have Ma:b∈t.args:=by rw[hb];simp
  rw[if_pos (.inl Ax)]at Al;have Fs:∀x∈g++[t.type],x.ok:=by
   intro x hx;rcases List.mem_append.1 hx with hx|hx;· exact hg x hx
   ·rw[List.mem_singleton.1 hx];exact Al
  have Cz:=Tm.inferN_ok b (g++[t.type]) (hs b Ma) Fs;have Yv:t.count=1+(b.count+0):=by rw[Tm.count_eq,hb];rfl
  have Xk:=Tm.count_pos b;have Hq:g.length<=2147483647:=oO;refine A7 @Ax ?_;refine A3 (j5 @Ax @hb @IX (Ty.cells_eq t.type) @Ty.length_cells) (ih b Ma (g++[t.type]) (by simp;omega) (hs b Ma) Fs) ?_;by_cases he:(b.inferN (g++[t.type])).2=0
  ·have Mz:=Al.2;have Ir:=(Cz he).2;refine A7 @he ?_;refine BL tT (DJ t.type (b.inferN (g++[t.type])).1) (YW (Ty.mk 4 [t.type,(b.inferN (g++[t.type])).1]) (by rw[PB];omega)) ?_;refine EO ?_;simp[go_sem,hP,u6,hn,Tm.inferN_eq t,Ax,hb,Tm.inferN.infers,he,CA] <;> (try omega);all_goals exact RH
  ·refine A7 @he ?_;refine EO ?_;simp[go_sem,hP,u6,hn,Tm.inferN_eq t,Ax,hb,Tm.inferN.infers,he,AE] <;> (try omega);all_goals exact RH
 have hlen:=Tm.fit_len (u4 t.dv sS);refine A7 (j2 @h1 @Ax) ?_;refine BR ?_;refine CR [(1008,0)] (by simp[go_sem]) (by simp[go_sem,Tm.inferN.infers] <;> omega) (by simp[go_sem]) (DC (t.args) (fun done=>(Tm.inferN.infers done g).2=0) (fun done rest=>[sV 0 (.sl (g.map Ty.cells)),sV 69 (A0 done.length),sV 68 (A0 t.args.length),sV 67 (.sl (t.args.map Tm.cells)),(.slot 8,.one (.own 1008 ((Tm.inferN.infers done g).1.map Ty.cells))),(.tok 1008,.tk 2 (Tm.inferN.infers done g).1.length),sL 4 [.v (A0 0),.own 0 []],sP 4,sL 3 [.v (A0 t.kind),.v (A0 t.index),.v (A0 t.type.kind),.v (.sl (t.type.args.map Ty.cells)),.v (.sl (t.args.map Tm.cells))],sP 3]) (rfl) ?_ ?_)
 ·intro done x rest hL Ad hI u7;have Ac:done.length<t.args.length:=by rw[hL];simp
  have Aj:=uE Ad;have Br:=Tm.count_mem Aj;have Ap:=Tm.count_eq t;have Cy:=Tm.inferN_ok x g (hs x Aj) hg;refine A5 ?_;refine AQ ?_;refine A7 @Ad ?_;refine A3 @Ad (ih x Aj g oO (hs x Aj) hg) ?_;by_cases he:(x.inferN g).2=0
  ·have Nl:=Tm.infers_snoc done x g hI he;have Dy:=(Tm.infers_all done g hI).1;refine CG (wr [(1008,86)]) (j3 @Nl @Dy (Ty.cells_eq (x.inferN g).1)) (j2 @he @Dy) (u7 (by rw[Nl]))
  ·have Jq:=Tm.infers_stop done x rest g hI he;rw[<- hL]at Jq;refine A7 @he ?_;exact AT (j6 (Tm.inferN_eq t) @h1 @Ax @Jq @he @AE.eq_1)
 ·intro hI;have hN:t.inferN g=CA t.kind t.type (Tm.inferN.infers t.args g).1:=by rw[Tm.inferN_eq t];simp[h1,Ax,hI]
  have Dy:=(Tm.infers_all t.args g hI).1;have Km:∀a∈(Tm.inferN.infers t.args g).1,a.ok:=by
   intro a ha;obtain⟨i,hi,rfl⟩:=List.mem_iff_getElem.1 ha;obtain⟨x1,x2⟩:=(Tm.infers_all t.args g hI).2 i t.args[i] (uB oO);rw[uB hi]at x2;rw[Option.some.inj x2];exact Tm.inferN_ok _ g (hs _ (List.getElem_mem _)) hg x1
  obtain⟨ds,Dv⟩:∃ds,ds=(Tm.inferN.infers t.args g).1:=⟨_,rfl⟩;rw[<- Dv]at hN Dy Km ⊢;rw[<- Dy]at ha;have h1l:t.kind=5\/t.kind=11\/t.kind=12->∃x,ds=[x]:=by
   intro hk;have:ds.length=1:=by rcases hk with hk|hk|hk <;> simp[hk,AO]at ha <;> omega
   exact List.length_eq_one_iff.1 this
  have Vb:t.kind=3\/t.kind=8\/t.kind=10->∃x y,ds=[x,y]:=by
   intro hk;have:ds.length=2:=by rcases hk with hk|hk|hk <;> simp[hk,AO]at ha <;> omega
   match ds,this with
   | [x,y],_=>exact⟨x,y,rfl⟩
  have h3l:t.kind=6\/t.kind=9->∃x y z,ds=[x,y,z]:=by
   intro hk;have:ds.length=3:=by rcases hk with hk|hk <;> simp[hk,AO]at ha <;> omega
   match ds,this with
   | [x,y,z],_=>exact⟨x,y,z,rfl⟩
  refine A5 ?_;refine B9 ?_;refine BL tT BE FF ?_;by_cases h3:t.kind=3
  ·obtain⟨x,y,rfl⟩:=Vb (.inl h3);by_cases hx:x.kind=4
   ·obtain⟨p,q,hp,op,oq,e0,e1⟩:=Ty.ok_args (Km x sS) (.inr hx);refine A7 @h3 ?_;refine A3 (j3 @h3 @hx @hp) (AV p y) ?_;by_cases hs:p.same y=true
    ·refine A7 (j4 @h3 @hx @hp @hs) ?_;exact AT (j7 @hN @CA.eq_1 @h3 @hx @e0 @e1 @hs)
    ·refine A7 (j4 @h3 @hx @hp @hs) ?_;exact AT (j8 @hN @CA.eq_1 @h3 @hx @e0 @e1 @hs @AE.eq_1)
   ·refine A7 (j2 @h3 @hx) ?_;exact AT (j5 @hN @CA.eq_1 @h3 @hx @AE.eq_1)
  by_cases h4:t.kind=4
  ·refine A7 @h4 ?_;exact AT (j3 @hN @CA.eq_1 @h4)
  by_cases h5:t.kind=5
  ·obtain⟨x,rfl⟩:=h1l (.inl h5);refine A7 @h5 ?_;refine A3 (j3 @h5 @LT @OY) (AV x (Ty.mk 1 [])) ?_;by_cases hs:x.same (Ty.mk 1 [])=true
   ·refine A7 (j2 @h5 @hs) ?_;exact AT (j4 @hN @CA.eq_1 @h5 @hs)
   ·refine A7 (j2 @h5 @hs) ?_;exact AT (j5 @hN @CA.eq_1 @h5 @hs @AE.eq_1)
  by_cases h6:t.kind=6
  ·obtain⟨x,y,z,rfl⟩:=h3l (.inl h6);rw[if_pos (by simp[h6])]at Al;by_cases Bv:x.same t.type=true
   ·by_cases Cl:y.same (Ty.mk 4 [Ty.mk 1 [],Ty.mk 4 [t.type,t.type]])=true
    ·refine A7 @h6 ?_;refine WA (j5 @h6 @Bv @Cl @LT @OY) (AV x t.type) (DJ t.type t.type) (DJ (Ty.mk 1 []) (Ty.mk 4 [t.type,t.type])) (AV y (Ty.mk 4 [Ty.mk 1 [],Ty.mk 4 [t.type,t.type]])) (AV z (Ty.mk 1 [])) ?_;by_cases Fu:z.same (Ty.mk 1 [])=true
     ·refine A7 (j4 @h6 @Bv @Cl @Fu) ?_;refine A3 @h6 (DF t.type) ?_;exact AT (j6 @hN @CA.eq_1 @h6 @Bv @Cl @Fu)
     ·refine A7 (j4 @h6 @Bv @Cl @Fu) ?_;exact AT (j7 @hN @CA.eq_1 @h6 @Bv @Cl @Fu @AE.eq_1)
    ·refine A7 @h6 ?_;refine IS (j5 @h6 @Bv @Cl @LT @OY) (AV x t.type) (DJ t.type t.type) (DJ (Ty.mk 1 []) (Ty.mk 4 [t.type,t.type])) (AV y (Ty.mk 4 [Ty.mk 1 [],Ty.mk 4 [t.type,t.type]])) ?_;refine A7 (j3 @h6 @Bv @Cl) ?_;exact AT (j6 @hN @CA.eq_1 @h6 @Bv @Cl @AE.eq_1)
   ·refine A7 @h6 ?_;refine A3 (j2 @h6 @Bv) (AV x t.type) ?_;refine A7 (j2 @h6 @Bv) ?_;exact AT (j5 @hN @CA.eq_1 @h6 @Bv @AE.eq_1)
  by_cases h7:t.kind=7
  ·refine A7 @h7 ?_;exact AT (j3 @hN @CA.eq_1 @h7)
  by_cases h8:t.kind=8
  ·obtain⟨x,y,rfl⟩:=Vb (.inr (.inl h8));by_cases Bv:x.same (Ty.mk 1 [])=true
   ·refine A7 @h8 ?_;refine BL (j4 @h8 @Bv @LT @OY) (AV x (Ty.mk 1 [])) (AV y (Ty.mk 2 [])) ?_;by_cases Cl:y.same (Ty.mk 2 [])=true
    ·refine A7 (j3 @h8 @Bv @Cl) ?_;exact AT (j5 @hN @CA.eq_1 @h8 @Bv @Cl)
    ·refine A7 (j3 @h8 @Bv @Cl) ?_;exact AT (j6 @hN @CA.eq_1 @h8 @Bv @Cl @AE.eq_1)
   ·refine A7 @h8 ?_;refine A3 (j4 @h8 @Bv @LT @OY) (AV x (Ty.mk 1 [])) ?_;refine A7 (j2 @h8 @Bv) ?_;exact AT (j5 @hN @CA.eq_1 @h8 @Bv @AE.eq_1)
  by_cases h9:t.kind=9
  ·obtain⟨x,y,z,rfl⟩:=h3l (.inr h9);rw[if_pos (by simp[h9])]at Al;by_cases Bv:x.same t.type=true
   ·by_cases Cl:y.same (Ty.mk 4 [Ty.mk 1 [],Ty.mk 4 [Ty.mk 2 [],Ty.mk 4 [t.type,t.type]]])=true
    ·refine A7 @h9 ?_;refine XO (j5 @h9 @Bv @Cl @LT @OY) (AV x t.type) (DJ t.type t.type) (DJ (Ty.mk 2 []) (Ty.mk 4 [t.type,t.type])) (DJ (Ty.mk 1 []) (Ty.mk 4 [Ty.mk 2 [],Ty.mk 4 [t.type,t.type]])) (AV y (Ty.mk 4 [Ty.mk 1 [],Ty.mk 4 [Ty.mk 2 [],Ty.mk 4 [t.type,t.type]]])) (AV z (Ty.mk 2 [])) ?_;by_cases Fu:z.same (Ty.mk 2 [])=true
     ·refine A7 (j4 @h9 @Bv @Cl @Fu) ?_;refine A3 @h9 (DF t.type) ?_;exact AT (j6 @hN @CA.eq_1 @h9 @Bv @Cl @Fu)
     ·refine A7 (j4 @h9 @Bv @Cl @Fu) ?_;exact AT (j7 @hN @CA.eq_1 @h9 @Bv @Cl @Fu @AE.eq_1)
    ·refine A7 @h9 ?_;refine WA (j5 @h9 @Bv @Cl @LT @OY) (AV x t.type) (DJ t.type t.type) (DJ (Ty.mk 2 []) (Ty.mk 4 [t.type,t.type])) (DJ (Ty.mk 1 []) (Ty.mk 4 [Ty.mk 2 [],Ty.mk 4 [t.type,t.type]])) (AV y (Ty.mk 4 [Ty.mk 1 [],Ty.mk 4 [Ty.mk 2 [],Ty.mk 4 [t.type,t.type]]])) ?_;refine A7 (j3 @h9 @Bv @Cl) ?_;exact AT (j6 @hN @CA.eq_1 @h9 @Bv @Cl @AE.eq_1)
   ·refine A7 @h9 ?_;refine A3 (j2 @h9 @Bv) (AV x t.type) ?_;refine A7 (j2 @h9 @Bv) ?_;exact AT (j5 @hN @CA.eq_1 @h9 @Bv @AE.eq_1)
  by_cases Dq:t.kind=10
  ·obtain⟨x,y,rfl⟩:=Vb (.inr (.inr Dq));have Br:=(Km x sS).2;have Dh:=(Km y sS).2;refine A7 @Dq ?_;refine BL @Dq (WC x y) (YW (Ty.mk 3 [x,y]) (by rw[PB];omega)) ?_;exact AT (j3 @hN @CA.eq_1 @Dq)
  by_cases Bq:t.kind=11
  ·obtain⟨x,rfl⟩:=h1l (.inr (.inl Bq));by_cases hx:x.kind=3
   ·obtain⟨p,q,hp,op,oq,e0,e1⟩:=Ty.ok_args (Km x sS) (.inl hx);refine A7 (j3 @Bq @hx @hp) ?_;exact AT (j5 @hN @CA.eq_1 @Bq @hx @e0)
   ·refine A7 (j2 @Bq @hx) ?_;exact AT (j5 @hN @CA.eq_1 @Bq @hx @AE.eq_1)
  by_cases Ch:t.kind=12
  ·obtain⟨x,rfl⟩:=h1l (.inr (.inr Ch));by_cases hx:x.kind=3
   ·obtain⟨p,q,hp,op,oq,e0,e1⟩:=Ty.ok_args (Km x sS) (.inl hx);refine A7 (j3 @Ch @hx @hp) ?_;exact AT (j5 @hN @CA.eq_1 @Ch @hx @e1)
   ·refine A7 (j2 @Ch @hx) ?_;exact AT (j5 @hN @CA.eq_1 @Ch @hx @AE.eq_1)
  refine A7 (j8 @h1 @Ax @h3 @h4 @h5 @h6 @h7 (j5 @h8 @h9 @Dq @Bq @Ch)) ?_;refine A3 @h1 OX ?_;exact AT (j8 @hN @CA.eq_1 @h1 @Ax @h3 @h4 @h5 (j7 @h6 @h7 @h8 @h9 @Dq @Bq @Ch))
def Tm.typedE (t:Tm)(g:List Ty):Ty × Int:=if t.checkN=0 then t.inferN g else (AE,t.checkN)
def Tm.typeE (t:Tm)(g:List Ty):Ty × Int:=if MP g=0 then t.typedE g else (AE,MP g)
theorem Tm.checkN_iff (t:Tm):t.checkN=0↔t.shape=true/\t.count<=4096:=by
 unfold Tm.checkN;split
 ·split;· rename_i h;simp;omega
  ·rename_i h;simp;constructor <;> first|assumption|omega
 ·rename_i h;simp[h]
theorem wN {l:List Ty}(h:HD l=0):∀x∈l,x.ok:=by
 induction l with
 | nil=>simp
 | cons a r ih=>
  simp only[HD]at h;split at h
  ·rename_i ha;intro x hx;rcases List.mem_cons.1 hx with rfl|hx;· exact (Ty.checkN_iff _).1 ha
   ·exact ih h x hx
  ·rename_i ha;exact absurd h ha
theorem oJ {l:List Ty}(h:MP l=0):l.length<=16/\∀x∈l,x.ok:=by
 unfold MP at h;split at h;· cases h
 ·exact⟨oO,wN h⟩
theorem S7 (t:Tm)(g:List Ty)(u6:g.length<=1048576)(ht:t.tys)(hc:t.count<=1073741824)(hg:∀x∈g,x.ok):cT gl 133 [.sl (g.map Ty.cells),t.dv] [] (.tup [(t.typedE g).1.dv,A0 (t.typedE g).2]) []:=by
 refine A6 Tryz.func133 ?_;intro X hP u6 hf u8 hn hR u5 u4;refine A2 ?_;refine A3 tT (G9 t ht oO) ?_;by_cases h:t.checkN=0
 ·refine A7 @h ?_;refine A3 tT (z9j t g oO ((Tm.checkN_iff t).1 h).1 hg) ?_;exact AT (j2 @Tm.typedE.eq_1 @h)
 ·refine A7 @h ?_;exact AT (j3 @Tm.typedE.eq_1 @h @AE.eq_1)
theorem M7 (t:Tm)(g:List Ty)(hg:∀x∈g,x.count<=2147483648)(ht:t.tys)(hc:t.count<=1073741824):cT gl 86 [.sl (g.map Ty.cells),t.dv] [] (.tup [(t.typeE g).1.dv,A0 (t.typeE g).2]) []:=by
 refine A6 Tryz.func86 ?_;intro X hP u6 hf u8 hn hR u5 u4;refine A2 ?_;refine A3 tT (KX g hg) ?_;by_cases h:MP g=0
 ·have ha:=oJ h;refine A7 @h ?_;refine A3 tT (S7 t g oO ht hc ha.2) ?_;exact AT (j2 @Tm.typeE.eq_1 @h)
 ·refine A7 @h ?_;exact AT (j3 @Tm.typeE.eq_1 @h @AE.eq_1)
def Tm.leastN:Tm->Int->Bool
 | .mk _ i _ a,m=>!decide (m<i)&&leasts a m
where
 leasts:List Tm->Int->Bool
  | [],_=>true
  | a::r,m=>a.leastN m&&leasts r m
theorem Tm.leastN_eq (t:Tm)(m:Int):t.leastN m=(!decide (m<t.index)&&leastN.leasts t.args m):=by cases t;rfl
theorem Tm.leasts_append (l r:List Tm)(m:Int):leastN.leasts (l++r) m=(leastN.leasts l m&&leastN.leasts r m):=by
 induction l with
 | nil=>simp[leastN.leasts]
 | cons a r ih=>simp[leastN.leasts,ih,Bool.and_assoc]
theorem cG (t:Tm)(m:Int):cT gl 258 [t.dv,A0 m] [] (AR (t.leastN m)) []:=by
 induction t using Tm.ind with
 | h t ih=>
 refine A6 Tryz.func258 ?_;intro X hP u6 hf u8 hn hR u5 u4;have hlen:=Tm.fit_len (u4 t.dv sS);by_cases h:m<t.index
 ·refine A7 @h ?_;exact AC (j2 (Tm.leastN_eq t) @h)
 ·refine A7 @h ?_;refine BR ?_;refine AA [] tT (DC (t.args) (fun done=>Tm.leastN.leasts done m=true) (fun done rest=>[sV 1 (A0 m),sV 14 (A0 done.length),sV 13 (A0 t.args.length),sV 12 (.sl (t.args.map Tm.cells))]) (rfl) ?_ ?_)
  ·intro done x rest hL Ad hI u7;have Ac:done.length<t.args.length:=by rw[hL];simp
   have Aj:=uE Ad;refine A5 ?_;refine AQ ?_;refine A7 @Ad ?_;refine A3 @Ad (ih x Aj) ?_;by_cases hx:x.leastN m=true;· refine CG (wr []) tT @hx (u7 (by rw[Tm.leasts_append,hI];simp[Tm.leastN.leasts,hx]))
   ·refine A7 @hx ?_;refine EO ?_;simp[go_sem,hP,u6,hn,Tm.leastN_eq t,h] <;> (try omega);rw[hL,Tm.leasts_append];simp[Tm.leastN.leasts,hx]
  ·intro hI;refine A5 ?_;refine B9 ?_;refine A2 ?_;exact AC (j3 (Tm.leastN_eq t) @h @hI)
def Tm.argN (t:Tm)(i:Nat):Tm:=t.args.getD i AI
def Tm.rootN (t:Tm):Bool:=
 if t.kind=3 then decide ((t.argN 0).kind=2)
 else if t.kind=6 then decide ((t.argN 2).kind=4)||decide ((t.argN 2).kind=5)
 else if t.kind=9 then decide ((t.argN 2).kind=7)||decide ((t.argN 2).kind=8)
 else if t.kind=11 then decide ((t.argN 0).kind=10)
 else if t.kind=12 then decide ((t.argN 0).kind=10)
 else false
theorem Tm.parts1 {t:Tm}(h:t.shape=true)(hk:AO t.kind=1):∃x,t.args=[x]:=by
 have:=(Tm.shape_node h).1;rw[hk]at this
 match ha:t.args,this with
 | [x],_=>exact⟨x,rfl⟩
theorem Tm.parts2 {t:Tm}(h:t.shape=true)(hk:AO t.kind=2):∃x y,t.args=[x,y]:=by
 have:=(Tm.shape_node h).1;rw[hk]at this
 match ha:t.args,this with
 | [x,y],_=>exact⟨x,y,rfl⟩
theorem Tm.parts3 {t:Tm}(h:t.shape=true)(hk:AO t.kind=3):∃x y z,t.args=[x,y,z]:=by
 have:=(Tm.shape_node h).1;rw[hk]at this
 match ha:t.args,this with
 | [x,y,z],_=>exact⟨x,y,z,rfl⟩
theorem zet (t:Tm)(ht:t.shape=true):cT gl 271 [t.dv] [] (AR t.rootN) []:=by
 refine A6 Tryz.func271 ?_;intro X hP u6 hf u8 hn hR u5 u4;by_cases h3:t.kind=3
 ·obtain⟨x,y,hx⟩:=Tm.parts2 ht (by rw[h3];rfl);refine A7 (j2 @h3 @hx) ?_;exact AC (j4 @Tm.rootN.eq_1 @h3 @Tm.argN.eq_1 @hx)
 by_cases h6:t.kind=6
 ·obtain⟨x,y,z,hx⟩:=Tm.parts3 ht (by rw[h6];rfl);by_cases hz:z.kind=4
  ·refine A7 (j3 @h6 @hx @hz) ?_;exact AC (j5 @Tm.rootN.eq_1 @h6 @Tm.argN.eq_1 @hx @hz)
  ·refine A7 (j3 @h6 @hx @hz) ?_;exact AC (j5 @Tm.rootN.eq_1 @h6 @Tm.argN.eq_1 @hx @hz)
 by_cases h9:t.kind=9
 ·obtain⟨x,y,z,hx⟩:=Tm.parts3 ht (by rw[h9];rfl);by_cases hz:z.kind=7
  ·refine A7 (j3 @h9 @hx @hz) ?_;exact AC (j5 @Tm.rootN.eq_1 @h9 @Tm.argN.eq_1 @hx @hz)
  ·refine A7 (j3 @h9 @hx @hz) ?_;exact AC (j5 @Tm.rootN.eq_1 @h9 @Tm.argN.eq_1 @hx @hz)
 by_cases Bq:t.kind=11
 ·obtain⟨x,hx⟩:=Tm.parts1 ht (by rw[Bq];rfl);refine A7 (j2 @Bq @hx) ?_;exact AC (j4 @Tm.rootN.eq_1 @Bq @Tm.argN.eq_1 @hx)
 by_cases Ch:t.kind=12
 ·obtain⟨x,hx⟩:=Tm.parts1 ht (by rw[Ch];rfl);refine A7 (j2 @Ch @hx) ?_;exact AC (j4 @Tm.rootN.eq_1 @Ch @Tm.argN.eq_1 @hx)
 refine A7 (j5 @h3 @h6 @h9 @Bq @Ch) ?_;exact AC (j6 @Tm.rootN.eq_1 @h3 @h6 @h9 @Bq @Ch)
end
section
def AX (k:Int):Int:=if k=2 then 1 else 0
namespace Tm
def upN:Tm->Int->Int->Tm
 | .mk k i ty a,f,b=>.mk k (if k=1/\f<=i then i+b else i) ty (ups a (f+AX k) b)
where
 ups:List Tm->Int->Int->List Tm
  | [],_,_=>[]
  | x::r,f,b=>x.upN f b::ups r f b
theorem ups_map (l:List Tm)(f b:Int):upN.ups l f b=l.map fun x=>x.upN f b:=by
 induction l with
 | nil=>rfl
 | cons a r ih=>simp[upN.ups,ih]
theorem upN_eq (t:Tm)(f b:Int):t.upN f b = .mk t.kind (if t.kind=1/\f<=t.index then t.index+b else t.index) t.type (t.args.map fun x=>x.upN (f+AX t.kind) b):=by
 cases t;rw[upN,ups_map];rfl
def timesN:Tm->Int->Nat
 | .mk k i _ a,p=>(if k=1/\i=p then 1 else 0)+timess a (p+AX k)
where
 timess:List Tm->Int->Nat
  | [],_=>0
  | x::r,p=>x.timesN p+timess r p
theorem timesN_eq (t:Tm)(p:Int):t.timesN p=(if t.kind=1/\t.index=p then 1 else 0)+timesN.timess t.args (p+AX t.kind):=by cases t;rfl
theorem timess_append (l m:List Tm)(p:Int):timesN.timess (l++m) p=timesN.timess l p+timesN.timess m p:=by
 induction l with
 | nil=>simp[timesN.timess]
 | cons a r ih=>simp[timesN.timess,ih];omega
theorem timesN_le (t:Tm)(p:Int):t.timesN p<=t.count:=by
 induction t using Tm.ind generalizing p with
 | h t ih=>
 have key:∀l:List Tm,(∀a∈l,a∈t.args)->timesN.timess l (p+AX t.kind)<=count.counts l:=by
  intro l
  induction l with
  | nil=>intro _;exact Nat.le_refl _
  | cons a r Dk=>
   intro h;have h1:=ih a (h a sS) (p+AX t.kind);have h2:=Dk fun b hb=>h b (by simp[hb]);simp only[timesN.timess,count.counts];omega
 have:=key t.args fun _ h=>h;rw[timesN_eq,count_eq];split <;> omega
theorem timess_le (l:List Tm)(p:Int):timesN.timess l p<=count.counts l:=by
 induction l with
 | nil=>exact Nat.le_refl _
 | cons a r ih=>have:=timesN_le a p;simp only[timesN.timess,count.counts];omega
def inN:Tm->Int->Int->Tm->Tm
 | .mk k i ty a,p,d,s=>
  if k=1 then if i=p+d then s.upN 0 (p+d) else if p+d<i then .mk 1 (i - 1) (Ty.mk 0 []) [] else .mk k i ty a
  else .mk k i ty (ins a p (d+AX k) s)
where
 ins:List Tm->Int->Int->Tm->List Tm
  | [],_,_,_=>[]
  | x::r,p,d,s=>x.inN p d s::ins r p d s
theorem ins_map (l:List Tm)(p d:Int)(s:Tm):inN.ins l p d s=l.map fun x=>x.inN p d s:=by
 induction l with
 | nil=>rfl
 | cons a r ih=>simp[inN.ins,ih]
theorem inN_eq (t:Tm)(p d:Int)(s:Tm):t.inN p d s =
  if t.kind=1 then if t.index=p+d then s.upN 0 (p+d) else if p+d<t.index then .mk 1 (t.index - 1) (Ty.mk 0 []) [] else t
  else .mk t.kind t.index t.type (t.args.map fun x=>x.inN p (d+AX t.kind) s):=by
 cases t;rw[inN,ins_map];rfl
def idx:Tm->Int->Prop
 | .mk _ i _ a,m=>(0<=i/\i<=m)/\idxs a m
where
 idxs:List Tm->Int->Prop
  | [],_=>True
  | x::r,m=>x.idx m/\idxs r m
theorem z9k (l:List Tm)(m:Int):idx.idxs l m↔∀x∈l,x.idx m:=by
 induction l with
 | nil=>simp[idx.idxs]
 | cons a r ih=>simp[idx.idxs,ih]
theorem idx_eq (t:Tm)(m:Int):t.idx m↔(0<=t.index/\t.index<=m)/\∀x∈t.args,x.idx m:=by cases t;simp only[idx,z9k,index,args]
theorem idx_mono {t:Tm}{m n:Int}(h:m<=n)(hi:t.idx m):t.idx n:=by
 induction t using Tm.ind with
 | h t ih=>
 rw[idx_eq]at hi ⊢;exact⟨⟨hi.1.1,oO⟩,fun x hx=>ih x hx (hi.2 x hx)⟩
end Tm
end
section
variable {gl:AB}
theorem Q8 {X:Ctx}{k kk:List Item}{s:St}(S:St)(h1:W X kk S->W X k s)(h2:W X kk S):W X k s:=h1 h2
theorem S8 (t:Tm):cT gl 166 [t.dv] [] (A0 (AX t.kind)) []:=by
 refine A6 Tryz.func166 ?_;intro X hP u6 hf u8 hn hR u5 u4;by_cases h:t.kind=2
 ·refine A7 @h ?_;exact AC (j2 @AX.eq_1 @h)
 ·refine A7 @h ?_;exact AC (j2 @AX.eq_1 @h)
theorem K9 (k:Int):0<=AX k/\AX k<=1:=by unfold AX;split <;> omega
theorem oK (t:Tm)(p:Int)(hc:t.count<=1073741824)(Lm:0<=p)(hp:p+t.count<=2147483648):cT gl 274 [t.dv,A0 p] [] (A0 (t.timesN p)) []:=by
 induction t using Tm.ind generalizing p with
 | h t ih=>
 have Ap:=Tm.count_eq t;have Ji:=K9 t.kind;refine A6 Tryz.func274 ?_;intro X hP u6 hf u8 hn hR u5 u4;have hlen:=Tm.fit_len (u4 t.dv sS);refine A2 ?_;apply Q8 [sV 5 (A0 (if t.kind=1/\t.index=p then 1 else 0)),sV 1 (A0 p),sL 2 [.v (A0 t.kind),.v (A0 t.index),.v (A0 t.type.kind),.v (.sl (t.type.args.map Ty.cells)),.v (.sl (t.args.map Tm.cells))],sP 2,sV 22 (A0 0),sV 21 (A0 t.args.length),sV 20 (.sl (t.args.map Tm.cells))]
 ·intro Aa;by_cases h1:t.kind=1
  ·by_cases h2:t.index=p
   ·refine A7 (j2 @h1 @h2) ?_;refine GX ?_;refine AA [] (j2 @h1 @h2) Aa
   ·refine A7 (j2 @h1 @h2) ?_;refine GX ?_;refine AA [] (j2 @h1 @h2) Aa
  ·refine A7 @h1 ?_;refine GX ?_;refine AA [] @h1 Aa
 ·refine BR ?_;refine CR [] (by simp[go_sem]) (by simp[go_sem,Tm.timesN.timess] <;> omega) (by simp[go_sem]) (CD (t.args) (fun done rest=>[sV 5 (A0 ((if t.kind=1/\t.index=p then 1 else 0)+(Tm.timesN.timess done (p+AX t.kind):Nat))),sV 1 (A0 p),sV 22 (A0 done.length),sV 21 (A0 t.args.length),sV 20 (.sl (t.args.map Tm.cells)),sL 2 [.v (A0 t.kind),.v (A0 t.index),.v (A0 t.type.kind),.v (.sl (t.type.args.map Ty.cells)),.v (.sl (t.args.map Tm.cells))],sP 2]) ?_ ?_)
  ·intro done x rest hL Ad u7;have Ac:done.length<t.args.length:=by rw[hL];simp
   have Aj:=uE Ad;have Bp:Tm.count.counts t.args=Tm.count.counts done+(x.count+Tm.count.counts rest):=by rw[hL,Tm.counts_append];rfl
   have h1:=Tm.timess_le done (p+AX t.kind);have h2:=Tm.timesN_le x (p+AX t.kind);have h3:(if t.kind=1/\t.index=p then (1:Int) else 0)<=1/\0<=(if t.kind=1/\t.index=p then (1:Int) else 0):=by split <;> omega
   generalize (if t.kind=1/\t.index=p then (1:Int) else 0)=z at *;refine A5 ?_;refine AQ ?_;refine A7 @Ad ?_;refine BL @Ad (S8 t) (ih x Aj (p+AX t.kind) oO oO oO) ?_;repeat (first|(refine CR [] (by simp[go_sem]) (by simp[go_sem,Tm.timess_append,Tm.timesN.timess] <;> omega) (by simp[go_sem]) u7)|refine DA ?_|refine BX ?_|refine C4 ?_|refine AN ?_|refine B7 ?_|refine CC rfl ?_|((first|refine B4 [] fun K hK=>?_|refine AU (by rw[hP];exact BK) [] fun K hK=>?_);simp[go_sem,hP,u6,hn];(repeat (refine⟨oO,?_⟩));(first|refine hK _ ?_|refine⟨by rfl,hK _ ?_⟩);clear hK K)|refine BN rfl (fun _=>?_) (fun hq=>False.elim (by first|(simp;done)|(simp;omega)|(simp at hq;done)|(simp at hq;omega)))|refine BN rfl (fun hq=>False.elim (by first|(simp;done)|(simp;omega)|(simp at hq;done)|(simp at hq;omega))) (fun _=>?_))
  ·refine A5 ?_;refine B9 ?_;refine A2 ?_;refine EO ?_;simp[go_sem,hP,u6,hn,Tm.timesN_eq t] <;> (try omega);split <;> simp
theorem z9l (t:Tm)(f b:Int)(hi:t.idx 1099511627776)(Gx:-1099511627776<=b)(Et:b<=1099511627776)(Bz:0<=f)(Hm:f+t.count<=1099511627776):cT gl 115 [t.dv,A0 f,A0 b] [] (t.upN f b).dv []:=by
 induction t using Tm.ind generalizing f with
 | h t ih=>
 have Ap:=Tm.count_eq t;have Ji:=K9 t.kind;have Cy:=(Tm.idx_eq t _).1 hi;refine A6 Tryz.func115 ?_;intro X hP u6 hf u8 hn hR u5 u4;have hlen:=Tm.fit_len (u4 t.dv sS);refine A2 ?_;apply Q8 [sL 7 [.v (A0 t.kind),.v (A0 (if t.kind=1/\f<=t.index then t.index+b else t.index)),.v (A0 t.type.kind),.v (.sl (t.type.args.map Ty.cells)),.own 0 []],sP 7,sV 1 (A0 f),sV 2 (A0 b),sL 3 [.v (A0 t.kind),.v (A0 t.index),.v (A0 t.type.kind),.v (.sl (t.type.args.map Ty.cells)),.v (.sl (t.args.map Tm.cells))],sP 3,sL 6 [.v (A0 0),.v (A0 0),.v (A0 0),.own 0 [],.own 0 []],sP 6,sV 34 (A0 0),sV 33 (A0 t.args.length),sV 32 (.sl (t.args.map Tm.cells))]
 ·intro Aa;by_cases h1:t.kind=1
  ·by_cases h2:f<=t.index
   ·have Vg:¬t.index<f:=oO;refine A7 (j2 @h1 @h2) ?_;refine GX ?_;refine AA [] (j2 @h1 @h2) Aa
   ·refine A7 (j2 @h1 @h2) ?_;refine GX ?_;refine AA [] (j2 @h1 @h2) Aa
  ·refine A7 @h1 ?_;refine GX ?_;refine AA [] @h1 Aa
 ·refine BR ?_;refine AA [(1007,0)] tT (CD (t.args) (fun done rest=>[sL 7 [.v (A0 t.kind),.v (A0 (if t.kind=1/\f<=t.index then t.index+b else t.index)),.v (A0 t.type.kind),.v (.sl (t.type.args.map Ty.cells)),.own 1007 (done.map fun x=>(x.upN (f+AX t.kind) b).cells)],sP 7,(.tok 1007,.tk 5 done.length),sV 1 (A0 f),sV 2 (A0 b),sL 3 [.v (A0 t.kind),.v (A0 t.index),.v (A0 t.type.kind),.v (.sl (t.type.args.map Ty.cells)),.v (.sl (t.args.map Tm.cells))],sP 3,sL 6 [.v (A0 0),.v (A0 0),.v (A0 0),.own 0 [],.own 0 []],sP 6,sV 34 (A0 done.length),sV 33 (A0 t.args.length),sV 32 (.sl (t.args.map Tm.cells))]) ?_ ?_)
  ·intro done x rest hL Ad u7;have Ac:done.length<t.args.length:=by rw[hL];simp
   have Aj:=uE Ad;have Bp:=Tm.count_mem Aj;refine A5 ?_;refine AQ ?_;refine A7 @Ad ?_;refine BL @Ad (S8 t) (ih x Aj (f+AX t.kind) (Cy.2 x Aj) oO oO) ?_;refine CG (wr [(1007,48)]) (Tm.cells_eq (x.upN (f+AX t.kind) b)) tT u7
  ·refine A5 ?_;refine B9 ?_;refine A2 ?_;refine EO ?_;simp[go_sem,hP,u6,hn] <;> (try omega);rw[Tm.upN_eq t];simp[Tm.dv,Tm.cells_eq,Tm.kind_mk,Tm.index_mk,Tm.type_mk,Tm.args_mk]
theorem FX (i:Int):cT gl 43 [A0 i] [] (Tm.mk 1 i (Ty.mk 0 []) []).dv []:=by
 refine A6 Tryz.func43 ?_;intro X hP u6 hf u8 hn hR u5 u4;refine A2 ?_;exact BI
theorem zgg (t:Tm)(p d:Int)(s:Tm)(hi:t.idx 1099511627776)(hs:s.idx 1099511627776)(hp:0<=p)(hd:0<=d)(hpd:p+d+t.count+s.count<=1099511627776):cT gl 275 [t.dv,A0 p,A0 d,s.dv] [] (t.inN p d s).dv []:=by
 induction t using Tm.ind generalizing d with
 | h t ih=>
 have Ap:=Tm.count_eq t;have Ji:=K9 t.kind;have Cy:=(Tm.idx_eq t _).1 hi;refine A6 Tryz.func275 ?_;intro X hP u6 hf u8 hn hR u5 u4;have hlen:=Tm.fit_len (u4 t.dv sS);by_cases h1:t.kind=1
 ·by_cases h2:t.index=p+d
  ·refine A7 (j2 @h1 @h2) ?_;refine A3 @h1 (z9l s 0 (p+d) hs oO oO oO oO) ?_;exact AT (j3 (Tm.inN_eq t) @h1 @h2)
  ·by_cases h3:p+d<t.index
   ·refine A7 (j3 @h1 @h2 @h3) ?_;refine A3 @h1 (FX (t.index - 1)) ?_;exact AT (j4 (Tm.inN_eq t) @h1 @h2 @h3)
   ·refine A7 (j3 @h1 @h2 @h3) ?_;refine EO ?_;simp[go_sem,hP,u6,hn,Tm.inN_eq t,h1,h2,h3] <;> (try omega);all_goals simp[Tm.dv,Tm.cells_eq,Tm.kind_mk,Tm.index_mk,Tm.type_mk,Tm.args_mk]
    all_goals exact h1.symm
 ·refine A7 @h1 ?_;refine BR ?_;refine AA [(1009,0)] tT (CD (t.args) (fun done rest=>[sL 9 [.v (A0 t.kind),.v (A0 t.index),.v (A0 t.type.kind),.v (.sl (t.type.args.map Ty.cells)),.own 1009 (done.map fun x=>(x.inN p (d+AX t.kind) s).cells)],sP 9,(.tok 1009,.tk 5 done.length),sV 1 (A0 p),sV 2 (A0 d),sL 4 [.v (A0 t.kind),.v (A0 t.index),.v (A0 t.type.kind),.v (.sl (t.type.args.map Ty.cells)),.v (.sl (t.args.map Tm.cells))],sP 4,sL 7 [.v (A0 s.kind),.v (A0 s.index),.v (A0 s.type.kind),.v (.sl (s.type.args.map Ty.cells)),.v (.sl (s.args.map Tm.cells))],sP 7,sL 8 [.v (A0 0),.v (A0 0),.v (A0 0),.own 0 [],.own 0 []],sP 8,sV 47 (A0 done.length),sV 46 (A0 t.args.length),sV 45 (.sl (t.args.map Tm.cells))]) ?_ ?_)
  ·intro done x rest hL Ad u7;have Ac:done.length<t.args.length:=by rw[hL];simp
   have Aj:=uE Ad;have Bp:=Tm.count_mem Aj;refine A5 ?_;refine AQ ?_;refine A7 @Ad ?_;refine BL @Ad (S8 t) (ih x Aj (d+AX t.kind) (Cy.2 x Aj) oO oO) ?_;refine CG (wr [(1009,62)]) (Tm.cells_eq (x.inN p (d+AX t.kind) s)) tT u7
  ·refine A5 ?_;refine B9 ?_;refine A2 ?_;refine EO ?_;simp[go_sem,hP,u6,hn] <;> (try omega);rw[Tm.inN_eq t];simp[h1,Tm.dv,Tm.cells_eq,Tm.kind_mk,Tm.index_mk,Tm.type_mk,Tm.args_mk]
def Q9 (f a:Tm):Tm:=Tm.mk 3 0 (Ty.mk 0 []) [f,a]
def Tm.reducedN (t:Tm):Tm:=
 if t.kind=3 then ((t.argN 0).argN 0).inN 0 0 (t.argN 1)
 else if t.kind=6 then
  if (t.argN 2).kind=4 then t.argN 0
  else Q9 (Q9 (t.argN 1) ((t.argN 2).argN 0)) (Tm.mk 6 0 t.type [t.argN 0,t.argN 1,(t.argN 2).argN 0])
 else if t.kind=9 then
  if (t.argN 2).kind=7 then t.argN 0
  else Q9 (Q9 (Q9 (t.argN 1) ((t.argN 2).argN 0)) ((t.argN 2).argN 1)) (Tm.mk 9 0 t.type [t.argN 0,t.argN 1,(t.argN 2).argN 1])
 else if t.kind=11 then (t.argN 0).argN 0
 else (t.argN 0).argN 1
def Tm.growthN (t:Tm):Int:=
 if t.kind=3 then ((t.argN 0).argN 0).count+((t.argN 0).argN 0).timesN 0 * ((t.argN 1).count - 1:Int) - t.count
 else if t.kind=6 then
  if (t.argN 2).kind=4 then ((t.argN 0).count:Int) - t.count
  else 2+(t.argN 1).count+((t.argN 2).argN 0).count+t.count - 1 - t.count
 else if t.kind=9 then
  if (t.argN 2).kind=7 then ((t.argN 0).count:Int) - t.count
  else 3+(t.argN 1).count+((t.argN 2).argN 0).count+((t.argN 2).argN 1).count+t.count - 1 - ((t.argN 2).argN 0).count - t.count
 else if t.kind=11 then (((t.argN 0).argN 0).count:Int) - t.count
 else (((t.argN 0).argN 1).count:Int) - t.count
theorem E7 (k:Int)(s:Ty)(l:List Tm):cT gl 107 [A0 k,s.dv,.sl (l.map Tm.cells)] [] (Tm.mk k 0 s l).dv []:=by
 refine A6 Tryz.func107 ?_;intro X hP u6 hf u8 hn hR u5 u4;refine A2 ?_;refine A3 tT (BG k l) ?_;refine A2 ?_;refine A3 tT (DF s) ?_;refine A2 ?_;exact BI
theorem cH {t x y:Tm}(h:t.args=[x,y]):t.count=1+(x.count+(y.count+0)):=by rw[Tm.count_eq,h];rfl
theorem z9m {t x y z:Tm}(h:t.args=[x,y,z]):t.count=1+(x.count+(y.count+(z.count+0))):=by rw[Tm.count_eq,h];rfl
theorem cI {t x:Tm}(h:t.args=[x]):t.count=1+(x.count+0):=by rw[Tm.count_eq,h];rfl
theorem z40 (t:Tm)(ht:t.shape=true)(hr:t.rootN=true)(hc:t.count<=1048576):cT gl 272 [t.dv] [] (A0 t.growthN) []:=by
 have hs:=(Tm.shape_node ht).2.2.2.2;refine A6 Tryz.func272 ?_;intro X hP u6 hf u8 hn hR u5 u4;refine A2 ?_;refine A3 tT (BF t oO) ?_;by_cases h3:t.kind=3
 ·obtain⟨x,y,hx⟩:=Tm.parts2 ht (by rw[h3];rfl);have hk:x.kind=2:=by simpa [Tm.rootN,h3,Tm.argN,hx] using hr
  obtain⟨b,hb⟩:=Tm.parts1 (hs x (by rw[hx];simp)) (by rw[hk];rfl);have c1:=cH hx;have c2:=cI hb;have c3:=Tm.timesN_le b 0;have c4:=Tm.count_pos y;have c5:0<=(b.timesN 0:Int) * ((y.count:Int) - 1)/\(b.timesN 0:Int) * ((y.count:Int) - 1)<=1099511627776:=by
   have e:(b.timesN 0:Int) * ((y.count:Int) - 1)=((b.timesN 0 * (y.count - 1):Nat):Int):=by
    rw[Int.natCast_mul];congr 1;omega
   rw[e];have:=Nat.mul_le_mul (show b.timesN 0<=1048576 from oO) (show y.count - 1<=1048576 from oO);omega
  refine A7 (j3 @h3 @hx @hb) ?_;refine F9 tT (BF b oO) (oK b 0 oO oO oO) (BF y oO) ?_;exact AC (j5 @Tm.growthN.eq_1 @h3 @Tm.argN.eq_1 @hx @hb)
 by_cases h6:t.kind=6
 ·obtain⟨x,y,z,hx⟩:=Tm.parts3 ht (by rw[h6];rfl);have c1:=z9m hx;by_cases hz:z.kind=4
  ·refine A7 (j3 @h6 @hx @hz) ?_;refine A3 (j2 @h6 @hx) (BF x oO) ?_;exact AC (j5 @Tm.growthN.eq_1 @h6 @Tm.argN.eq_1 @hx @hz)
  ·have Vm:z.kind=5:=by
    have:z.kind=4\/z.kind=5:=by simpa [Tm.rootN,h6,Tm.argN,hx] using hr
    exact this.resolve_left hz
   obtain⟨n,Ik⟩:=Tm.parts1 (hs z (by rw[hx];simp)) (by rw[Vm];rfl);have c2:=cI Ik;refine A7 (j3 @h6 @hx @hz) ?_;refine BL (j3 @h6 @hx @Ik) (BF y oO) (BF n oO) ?_;exact AC (j6 @Tm.growthN.eq_1 @h6 @Tm.argN.eq_1 @hx @hz @Ik)
 by_cases h9:t.kind=9
 ·obtain⟨x,y,z,hx⟩:=Tm.parts3 ht (by rw[h9];rfl);have c1:=z9m hx;by_cases hz:z.kind=7
  ·refine A7 (j3 @h9 @hx @hz) ?_;refine A3 (j2 @h9 @hx) (BF x oO) ?_;exact AC (j5 @Tm.growthN.eq_1 @h9 @Tm.argN.eq_1 @hx @hz)
  ·have Vm:z.kind=8:=by
    have:z.kind=7\/z.kind=8:=by simpa [Tm.rootN,h9,Tm.argN,hx] using hr
    exact this.resolve_left hz
   obtain⟨n,r,Ik⟩:=Tm.parts2 (hs z (by rw[hx];simp)) (by rw[Vm];rfl);have c2:=cH Ik;refine A7 (j4 @h9 @hx @hz @Ik) ?_;refine IS (j3 @h9 @hx @Ik) (BF y oO) (BF n oO) (BF r oO) (BF n oO) ?_;exact AC (j6 @Tm.growthN.eq_1 @h9 @Tm.argN.eq_1 @hx @hz @Ik)
 by_cases Bq:t.kind=11
 ·obtain⟨x,hx⟩:=Tm.parts1 ht (by rw[Bq];rfl);have hk:x.kind=10:=by simpa [Tm.rootN,Bq,Tm.argN,hx] using hr
  obtain⟨p,q,hp⟩:=Tm.parts2 (hs x (by rw[hx];simp)) (by rw[hk];rfl);have c1:=cI hx;have c2:=cH hp;refine A7 (j3 @Bq @hx @hp) ?_;refine A3 (j3 @Bq @hx @hp) (BF p oO) ?_;exact AC (j5 @Tm.growthN.eq_1 @Bq @Tm.argN.eq_1 @hx @hp)
 have Ch:t.kind=12:=by
  by_cases h:t.kind=12;· exact h
  ·simp[Tm.rootN,h3,h6,h9,Bq,h]at hr
 obtain⟨x,hx⟩:=Tm.parts1 ht (by rw[Ch];rfl);have hk:x.kind=10:=by simpa [Tm.rootN,Ch,Tm.argN,hx] using hr
 obtain⟨p,q,hp⟩:=Tm.parts2 (hs x (by rw[hx];simp)) (by rw[hk];rfl);have c1:=cI hx;have c2:=cH hp;refine A7 (j3 @Ch @hx @hp) ?_;refine A3 (j3 @Ch @hx @hp) (BF q oO) ?_;exact AC (j5 @Tm.growthN.eq_1 @Ch @Tm.argN.eq_1 @hx @hp)
theorem wP (t:Tm)(ht:t.shape=true)(hr:t.rootN=true)(hi:t.idx 549755813888)(hc:t.count<=1048576):cT gl 273 [t.dv] [] t.reducedN.dv []:=by
 have hs:=(Tm.shape_node ht).2.2.2.2;have Iu:=((Tm.idx_eq t _).1 hi).2;refine A6 Tryz.func273 ?_;intro X hP u6 hf u8 hn hR u5 u4;by_cases h3:t.kind=3
 ·obtain⟨x,y,hx⟩:=Tm.parts2 ht (by rw[h3];rfl);have hk:x.kind=2:=by simpa [Tm.rootN,h3,Tm.argN,hx] using hr
  obtain⟨b,hb⟩:=Tm.parts1 (hs x (by rw[hx];simp)) (by rw[hk];rfl);have c1:=cH hx;have c2:=cI hb;have ib:b.idx 1099511627776:=Tm.idx_mono oO (((Tm.idx_eq x _).1 (Iu x (by rw[hx];simp))).2 b (by rw[hb];simp));have iy:y.idx 1099511627776:=Tm.idx_mono oO (Iu y (by rw[hx];simp));refine A7 (j3 @h3 @hx @hb) ?_;refine A3 (j3 @h3 @hx @hb) (zgg b 0 0 y ib iy oO oO oO) ?_;exact AT (j5 @Tm.reducedN.eq_1 @h3 @Tm.argN.eq_1 @hx @hb)
 by_cases h6:t.kind=6
 ·obtain⟨x,y,z,hx⟩:=Tm.parts3 ht (by rw[h6];rfl);by_cases hz:z.kind=4
  ·refine A7 (j3 @h6 @hx @hz) ?_;exact AT (j5 @Tm.reducedN.eq_1 @h6 @Tm.argN.eq_1 @hx @hz)
  ·have Vm:z.kind=5:=by
    have:z.kind=4\/z.kind=5:=by simpa [Tm.rootN,h6,Tm.argN,hx] using hr
    exact this.resolve_left hz
   obtain⟨n,Ik⟩:=Tm.parts1 (hs z (by rw[hx];simp)) (by rw[Vm];rfl);refine A7 (j4 @h6 @hx @hz @Ik) ?_;refine F9 (j3 @h6 @hx @Ik) (BG 3 [y,n]) (E7 6 t.type [x,y,n]) (BG 3 [Tm.mk 3 0 (Ty.mk 0 []) [y,n],Tm.mk 6 0 t.type [x,y,n]]) ?_;exact AT (j7 @Tm.reducedN.eq_1 @h6 @Tm.argN.eq_1 @hx @hz @Ik @Q9.eq_1)
 by_cases h9:t.kind=9
 ·obtain⟨x,y,z,hx⟩:=Tm.parts3 ht (by rw[h9];rfl);by_cases hz:z.kind=7
  ·refine A7 (j3 @h9 @hx @hz) ?_;exact AT (j5 @Tm.reducedN.eq_1 @h9 @Tm.argN.eq_1 @hx @hz)
  ·have Vm:z.kind=8:=by
    have:z.kind=7\/z.kind=8:=by simpa [Tm.rootN,h9,Tm.argN,hx] using hr
    exact this.resolve_left hz
   obtain⟨n,r,Ik⟩:=Tm.parts2 (hs z (by rw[hx];simp)) (by rw[Vm];rfl);refine A7 (j4 @h9 @hx @hz @Ik) ?_;refine IS (j3 @h9 @hx @Ik) (BG 3 [y,n]) (BG 3 [Tm.mk 3 0 (Ty.mk 0 []) [y,n],r]) (E7 9 t.type [x,y,r]) (BG 3 [Tm.mk 3 0 (Ty.mk 0 []) [Tm.mk 3 0 (Ty.mk 0 []) [y,n],r],Tm.mk 9 0 t.type [x,y,r]]) ?_;exact AT (j7 @Tm.reducedN.eq_1 @h9 @Tm.argN.eq_1 @hx @hz @Ik @Q9.eq_1)
 by_cases Bq:t.kind=11
 ·obtain⟨x,hx⟩:=Tm.parts1 ht (by rw[Bq];rfl);have hk:x.kind=10:=by simpa [Tm.rootN,Bq,Tm.argN,hx] using hr
  obtain⟨p,q,hp⟩:=Tm.parts2 (hs x (by rw[hx];simp)) (by rw[hk];rfl);refine A7 (j3 @Bq @hx @hp) ?_;exact AT (j5 @Tm.reducedN.eq_1 @Bq @Tm.argN.eq_1 @hx @hp)
 have Ch:t.kind=12:=by
  by_cases h:t.kind=12;· exact h
  ·simp[Tm.rootN,h3,h6,h9,Bq,h]at hr
 obtain⟨x,hx⟩:=Tm.parts1 ht (by rw[Ch];rfl);have hk:x.kind=10:=by simpa [Tm.rootN,Ch,Tm.argN,hx] using hr
 obtain⟨p,q,hp⟩:=Tm.parts2 (hs x (by rw[hx];simp)) (by rw[hk];rfl);refine A7 (j3 @Ch @hx @hp) ?_;exact AT (j5 @Tm.reducedN.eq_1 @Ch @Tm.argN.eq_1 @hx @hp)
def NJ (b:Tm)(l:List Ty):Tm:=l.foldr (fun s b=>Tm.mk 2 0 s [b]) b
def C5 (f:Tm)(l:List Tm):Tm:=l.foldl Q9 f
theorem cJ (f:Tm)(l:List Tm)(x:Tm):C5 f (l++[x])=Q9 (C5 f l) x:=by simp[C5]
theorem gF (f:Tm):C5 f []=f:=rfl
theorem wQ (b:Tm)(l:List Ty)(j:Nat)(s:Ty)(h:l[j]? = some s):NJ b (l.drop j)=Tm.mk 2 0 s [NJ b (l.drop (j+1))]:=by
 obtain⟨hj,hs⟩:=uA h;rw[List.drop_eq_getElem_cons hj,hs];rfl
theorem GN (i:Int):cT gl 261 [A0 i] [] (Tm.mk 1 i (Ty.mk 0 []) []).dv []:=by
 refine A6 Tryz.func261 ?_;intro X hP u6 hf u8 hn hR u5 u4;refine A2 ?_;exact BI
theorem oL (k:Int)(s:Ty)(a b c:Tm):cT gl 270 [A0 k,s.dv,a.dv,b.dv,c.dv] [] (Tm.mk k 0 s [a,b,c]).dv []:=by
 refine A6 Tryz.func270 ?_;intro X hP u6 hf u8 hn hR u5 u4;refine A2 ?_;exact BI
theorem S9 (b:Tm)(l:List Ty):cT gl 269 [b.dv,.sl (l.map Ty.cells)] [] (NJ b l).dv []:=by
 refine A6 Tryz.func269 ?_;intro X hP u6 hf u8 hn hR u5 u4;have hlen:=IM (u4 (.sl (l.map Ty.cells)) sS);simp only[List.length_map]at hlen;have h0:NJ b []=b:=rfl;refine A2 ?_;refine BR ?_;refine AA [] @h0 (E6 (fun k:Nat=>k<=l.length) (fun k:Nat=>[sV 1 (.sl (l.map Ty.cells)),sV 5 (A0 ((k:Int) - 1)),sL 2 [.v (A0 (NJ b (l.drop k)).kind),.v (A0 (NJ b (l.drop k)).index),.v (A0 (NJ b (l.drop k)).type.kind),.v (.sl ((NJ b (l.drop k)).type.args.map Ty.cells)),.v (.sl ((NJ b (l.drop k)).args.map Tm.cells))],sP 2,sL 4 [.v (A0 0),.v (A0 0),.v (A0 0),.own 0 [],.own 0 []],sP 4]) (fun k:Nat=>k) l.length (Nat.le_refl _) ?_);intro k hk Cg;cases k with
 | zero=>
  refine A2 ?_;exact BI
 | succ j=>
  have hj:l[j]? = some l[j]:=uB hk;generalize l[j]=s at hj;have hd:=wQ b l j s hj;have Jd:((j+1:Nat):Int) - 1=j:=oO;rw[Jd];refine CG (wr []) (j6 @hd @Tm.kind_mk @Tm.index_mk @Tm.type_mk @Tm.args_mk (Tm.cells_eq (NJ b (l.drop (j+1))))) @hj (Cg j oO oO)
theorem oM (f:Tm)(l:List Tm):cT gl 263 [f.dv,.sl (l.map Tm.cells)] [] (C5 f l).dv []:=by
 refine A6 Tryz.func263 ?_;intro X hP u6 hf u8 hn hR u5 u4;have hlen:=IM (u4 (.sl (l.map Tm.cells)) sS);simp only[List.length_map]at hlen;refine A2 ?_;refine BR ?_;refine AA [] @gF (CD (l) (fun done rest=>[sV 9 (A0 done.length),sV 8 (A0 l.length),sV 7 (.sl (l.map Tm.cells)),sL 2 [.v (A0 (C5 f done).kind),.v (A0 (C5 f done).index),.v (A0 (C5 f done).type.kind),.v (.sl ((C5 f done).type.args.map Ty.cells)),.v (.sl ((C5 f done).args.map Tm.cells))],sP 2,sL 4 [.v (A0 0),.v (A0 0),.v (A0 0),.own 0 [],.own 0 []],sP 4]) ?_ ?_)
 ·intro done x rest hL Ad u7;have Ac:done.length<l.length:=by rw[hL];simp
  refine A5 ?_;refine AQ ?_;refine A7 @Ad ?_;refine A3 @Ad (z9f 3 [C5 f done,x]) ?_;refine CG (wr []) (j6 @cJ @Q9.eq_1 @Tm.kind_mk @Tm.index_mk @Tm.type_mk @Tm.args_mk) tT u7
 ·refine A5 ?_;refine B9 ?_;refine A2 ?_;exact BI
theorem KY (f:Tm)(l:List Tm):cT gl 67 [f.dv,.sl (l.map Tm.cells)] [] (C5 f l).dv []:=by
 refine A6 Tryz.func67 ?_;intro X hP u6 hf u8 hn hR u5 u4;have hlen:=IM (u4 (.sl (l.map Tm.cells)) sS);simp only[List.length_map]at hlen;refine A2 ?_;refine BR ?_;refine AA [] @gF (CD (l) (fun done rest=>[sV 9 (A0 done.length),sV 8 (A0 l.length),sV 7 (.sl (l.map Tm.cells)),sL 2 [.v (A0 (C5 f done).kind),.v (A0 (C5 f done).index),.v (A0 (C5 f done).type.kind),.v (.sl ((C5 f done).type.args.map Ty.cells)),.v (.sl ((C5 f done).args.map Tm.cells))],sP 2,sL 4 [.v (A0 0),.v (A0 0),.v (A0 0),.own 0 [],.own 0 []],sP 4]) ?_ ?_)
 ·intro done x rest hL Ad u7;have Ac:done.length<l.length:=by rw[hL];simp
  refine A5 ?_;refine AQ ?_;refine A7 @Ad ?_;refine A3 @Ad (BG 3 [C5 f done,x]) ?_;refine CG (wr []) (j6 @cJ @Q9.eq_1 @Tm.kind_mk @Tm.index_mk @Tm.type_mk @Tm.args_mk) tT u7
 ·refine A5 ?_;refine B9 ?_;refine A2 ?_;exact BI
def vT (i:Int):Tm:=Tm.mk 1 i (Ty.mk 0 []) []
def nT (k:Int)(l:List Tm):Tm:=Tm.mk k 0 (Ty.mk 0 []) l
def kF (b s o:Tm):Tm:=Tm.mk 6 0 (Ty.mk 1 []) [b,NJ s [Ty.mk 1 [],Ty.mk 1 []],o]
def z41 (b:Tm):Tm:=NJ b [Ty.mk 1 [],Ty.mk 1 []]
def DR:Tm:=NJ (kF (nT 4 []) (vT 1) (vT 0)) [Ty.mk 1 []]
def BY:Tm:=z41 (kF (vT 1) (nT 5 [vT 0]) (vT 0))
def FC:Tm:=z41 (kF (vT 1) (C5 DR [vT 0]) (vT 0))
def CH:Tm:=z41 (C5 BY [C5 FC [vT 1,vT 0],C5 FC [vT 0,vT 1]])
theorem QA (a b c:Tm):cT gl 260 [a.dv,b.dv,c.dv] [] (kF a b c).dv []:=by
 refine A6 Tryz.func260 ?_;intro X hP u6 hf u8 hn hR u5 u4;refine A2 ?_;refine WA @LT V1 V1 V1 (S9 b [Ty.mk 1 [],Ty.mk 1 []]) (oL 6 (Ty.mk 1 []) a (NJ b [Ty.mk 1 [],Ty.mk 1 []]) c) ?_;exact AT @kF.eq_1
theorem z9n (b:Tm):cT gl 259 [b.dv] [] (z41 b).dv []:=by
 refine A6 Tryz.func259 ?_;intro X hP u6 hf u8 hn hR u5 u4;refine A2 ?_;refine F9 @LT V1 V1 (S9 b [Ty.mk 1 [],Ty.mk 1 []]) ?_;exact AC @z41.eq_1
theorem zeu:cT gl 264 [] [] DR.dv []:=by
 refine A6 Tryz.func264 ?_;intro X hP u6 hf u8 hn hR u5 u4;refine A2 ?_;refine XO (j3 @LT @nT.eq_1 @vT.eq_1) (z9f 4 []) (GN 1) (GN 0) (QA (nT 4 []) (vT 1) (vT 0)) V1 (S9 (kF (nT 4 []) (vT 1) (vT 0)) [Ty.mk 1 []]) ?_;exact AC (j3 @DR.eq_1 @nT.eq_1 @vT.eq_1)
theorem zev:cT gl 249 [] [] BY.dv []:=by
 refine A6 Tryz.func249 ?_;intro X hP u6 hf u8 hn hR u5 u4;refine A2 ?_;refine XO (j2 @nT.eq_1 @vT.eq_1) (GN 1) (GN 0) (z9f 5 [vT 0]) (GN 0) (QA (vT 1) (nT 5 [vT 0]) (vT 0)) (z9n (kF (vT 1) (nT 5 [vT 0]) (vT 0))) ?_;exact AC (j3 @BY.eq_1 @nT.eq_1 @vT.eq_1)
theorem zjl:cT gl 250 [] [] FC.dv []:=by
 refine A6 Tryz.func250 ?_;intro X hP u6 hf u8 hn hR u5 u4;refine A2 ?_;refine cC (j2 @nT.eq_1 @vT.eq_1) (GN 1) zeu (GN 0) (oM DR [vT 0]) (GN 0) (QA (vT 1) (C5 DR [vT 0]) (vT 0)) (z9n (kF (vT 1) (C5 DR [vT 0]) (vT 0))) ?_;exact AC (j3 @FC.eq_1 @nT.eq_1 @vT.eq_1)
theorem OI:∀n:Nat,(CV n).count=n+1
 | 0=>rfl
 | n+1=>by rw[CV,Tm.count_eq];simp[Tm.args,Tm.count.counts,OI n];omega
end
section
theorem gG:∀n:Nat,(CV n).shape=true
 | 0=>rfl
 | n+1=>by
  rw[CV,Tm.shape_eq];simp[Tm.kind,Tm.index,Tm.type,Tm.args,Tm.shape.shapes,gG n,IN,C6,AO,Ty.zero,Ty.kind,Ty.args]
end
section
inductive T where
 | nat|list|unit
 | pair (a b:T)
 | fn (a b:T)
 deriving DecidableEq
namespace T
def ty:T->Ty
 | nat=>Ty.mk 1 []
 | list=>Ty.mk 2 []
 | unit=>Ty.mk 5 []
 | pair a b=>Ty.mk 3 [a.ty,b.ty]
 | fn a b=>Ty.mk 4 [a.ty,b.ty]
def V:T->Type
 | nat=>Nat
 | list=>List Nat
 | unit=>Unit
 | pair a b=>a.V × b.V
 | fn a b=>a.V->b.V
def size:T->Nat
 | nat=>1
 | list=>1
 | unit=>1
 | pair a b=>1+a.size+b.size
 | fn a b=>1+a.size+b.size
theorem ty_count (a:T):a.ty.count=a.size:=by
 induction a with
 | nat=>rfl
 | list=>rfl
 | unit=>rfl
 | pair a b Ly Ck=>show 1+(a.ty.count+(b.ty.count+0))=_;simp only[size];omega
 | fn a b Ly Ck=>show 1+(a.ty.count+(b.ty.count+0))=_;simp only[size];omega
theorem ty_shape (a:T):a.ty.shape=true:=by
 induction a with
 | nat=>rfl
 | list=>rfl
 | unit=>rfl
 | pair a b Ly Ck=>simp[ty,Ty.shape,Ty.shape.shapes,HC,Ly,Ck]
 | fn a b Ly Ck=>simp[ty,Ty.shape,Ty.shape.shapes,HC,Ly,Ck]
def ok (a:T):Prop:=a.size<=64
theorem ok_ty {a:T}(h:a.ok):a.ty.ok:=⟨a.ty_shape,by rw[ty_count];exact h⟩
theorem ty_ok {a:T}(h:a.ty.ok):a.ok:=by have:=h.2;rw[ty_count]at this;exact this
theorem of_shape (s:Ty)(h:s.shape=true):∃a:T,a.ty=s:=by
 induction s using Ty.ind with
 | h s ih=>
 cases s with
 | mk k ts=>
  have h1:=h;rw[Ty.shape_eq,uH,Ty.shapes_iff]at h1;obtain⟨h2,h3⟩:=h1;unfold HC at h2;simp[Ty.kind,Ty.args]at h2;rcases h2 with⟨h2,rfl⟩|⟨h2,h4⟩
  ·rcases of_decide_eq_true h2 with rfl|rfl|rfl;· exact⟨nat,rfl⟩
   ·exact⟨list,rfl⟩
   ·exact⟨unit,rfl⟩
  ·match ts,h4,ih,h3 with
   | [x,y],_,ih,h3=>
    obtain⟨a,rfl⟩:=ih x (by simp[Ty.args]) (h3 x (by simp[Ty.args]));obtain⟨b,rfl⟩:=ih y (by simp[Ty.args]) (h3 y (by simp[Ty.args]));rcases of_decide_eq_true h2 with rfl|rfl;· exact⟨pair a b,rfl⟩
    ·exact⟨fn a b,rfl⟩
theorem ty_inj:∀{a b:T},a.ty=b.ty->a=b:=by
 intro a
 induction a with
 | nat=>intro b h;cases b <;> simp[ty]at h <;> rfl
 | list=>intro b h;cases b <;> simp[ty]at h <;> rfl
 | unit=>intro b h;cases b <;> simp[ty]at h <;> rfl
 | pair x y Bx Ht=>intro b h;cases b <;> simp[ty]at h;rw[Bx h.1,Ht h.2]
 | fn x y Bx Ht=>intro b h;cases b <;> simp[ty]at h;rw[Bx h.1,Ht h.2]
def dflt:(a:T)->a.V
 | nat=>(0:Nat)
 | list=>([]:List Nat)
 | unit=>()
 | pair a b=>(a.dflt,b.dflt)
 | fn _ b=>fun _=>b.dflt
end T
def BH:List T->Type
 | []=>Unit
 | a::Γ=>a.V × BH Γ
inductive At:(Γ:List T)->Nat->(a:T)->(BH Γ->a.V)->Prop
 | zero {a:T} {Γ:List T}:At (a::Γ) 0 a (fun e=>e.1)
 | succ {a b:T} {Γ:List T} {i:Nat} {p:BH Γ->a.V} (h:At Γ i a p):At (b::Γ) (i+1) a (fun e=>p e.2)
theorem At.of:∀{Γ:List T} {i:Nat} {a:T},Γ[i]? = some a->∃p,At Γ i a p
 | [],_,_,h=>by simp at h
 | b::Γ,0,a,h=>by simp at h;subst h;exact⟨_,.zero⟩
 | b::Γ,i+1,a,h=>by
  obtain⟨p,hp⟩:=At.of (Γ:=Γ) (i:=i) (a:=a) (by simpa using h);exact⟨_,.succ hp⟩
theorem At.get {Γ:List T}{i:Nat}{a:T}{p:BH Γ->a.V}(h:At Γ i a p):Γ[i]? = some a:=by
 induction h with
 | zero=>rfl
 | succ h ih=>simpa using ih
def M8 {α:Type}(b:α)(f:Nat->α->α):Nat->α
 | 0=>b
 | n+1=>f n (M8 b f n)
def WH {α:Type}(b:α)(f:Nat->List Nat->α->α):List Nat->α
 | []=>b
 | x::l=>f x l (WH b f l)
def D3 (a:T)(b:Tm):Tm:=Tm.mk 2 0 a.ty [b]
inductive Dn:(Γ:List T)->Tm->(a:T)->(BH Γ->a.V)->Prop
 | var {Γ:List T} {i:Nat} {a:T} {p:BH Γ->a.V} (h:At Γ i a p):Dn Γ (vT i) a p
 | lam {Γ:List T} {a r:T} {b:Tm} {f:BH (a::Γ)->r.V} (ha:a.ok) (h:Dn (a::Γ) b r f):Dn Γ (D3 a b) (.fn a r) (fun e v=>f (v,e))
 | app {Γ:List T} {a b:T} {f x:Tm} {F:BH Γ->(T.fn a b).V} {X:BH Γ->a.V} (hf:Dn Γ f (.fn a b) F) (hx:Dn Γ x a X):Dn Γ (nT 3 [f,x]) b (fun e=>F e (X e))
 | zero {Γ:List T}:Dn Γ (nT 4 []) .nat (fun _=>(0:Nat))
 | succ {Γ:List T} {x:Tm} {X:BH Γ->T.nat.V} (hx:Dn Γ x .nat X):Dn Γ (nT 5 [x]) .nat (fun e=>Nat.succ (X e))
 | rc {Γ:List T} {a:T} {b f n:Tm} {B:BH Γ->a.V} {F:BH Γ->(T.fn .nat (.fn a a)).V} {N:BH Γ->T.nat.V} (ha:a.ok) (hb:Dn Γ b a B) (hf:Dn Γ f (.fn .nat (.fn a a)) F) (hn:Dn Γ n .nat N) :
   Dn Γ (Tm.mk 6 0 a.ty [b,f,n]) a (fun e=>M8 (B e) (F e) (N e))
 | nil {Γ:List T}:Dn Γ (nT 7 []) .list (fun _=>([]:List Nat))
 | cons {Γ:List T} {x l:Tm} {X:BH Γ->T.nat.V} {L:BH Γ->T.list.V} (hx:Dn Γ x .nat X) (hl:Dn Γ l .list L):Dn Γ (nT 8 [x,l]) .list (fun e=>List.cons (X e) (L e))
 | fold {Γ:List T} {a:T} {b f n:Tm} {B:BH Γ->a.V} {F:BH Γ->(T.fn .nat (.fn .list (.fn a a))).V} {N:BH Γ->T.list.V} (ha:a.ok) (hb:Dn Γ b a B) (hf:Dn Γ f (.fn .nat (.fn .list (.fn a a))) F) (hn:Dn Γ n .list N) :
   Dn Γ (Tm.mk 9 0 a.ty [b,f,n]) a (fun e=>WH (B e) (F e) (N e))
 | pair {Γ:List T} {a b:T} {x y:Tm} {X:BH Γ->a.V} {Y:BH Γ->b.V} (hx:Dn Γ x a X) (hy:Dn Γ y b Y):Dn Γ (nT 10 [x,y]) (.pair a b) (fun e=>Prod.mk (X e) (Y e))
 | fst {Γ:List T} {a b:T} {x:Tm} {X:BH Γ->(T.pair a b).V} (hx:Dn Γ x (.pair a b) X):Dn Γ (nT 11 [x]) a (fun e=>Prod.fst (X e))
 | snd {Γ:List T} {a b:T} {x:Tm} {X:BH Γ->(T.pair a b).V} (hx:Dn Γ x (.pair a b) X):Dn Γ (nT 12 [x]) b (fun e=>Prod.snd (X e))
 | unit {Γ:List T}:Dn Γ (nT 13 []) .unit (fun _=>())
theorem XS (t:Tm){k i:Int}{y:Ty}{a:List Tm}(h1:t.kind=k)(h2:t.index=i)(h3:t.type=y)(h4:t.args=a):t=Tm.mk k i y a:=by
 subst h1 h2 h3 h4;exact (Tm.eta t).symm
theorem kG {y:Ty}(h:y.zero=true):y=Ty.mk 0 []:=by
 unfold Ty.zero at h;rw[uH]at h;have h1:=of_decide_eq_true h.1;have h2:=List.eq_nil_of_length_eq_zero (of_decide_eq_true h.2);rw[<- Ty.eta y,h1,h2]
theorem YX {l:List Ty}{x:Ty}(h:l[0]? = some x):l.getD 0 AE=x:=by rw[List.getD_eq_getElem?_getD,h];rfl
theorem oN {l:List Ty}{x:Ty}(h:l[1]? = some x):l.getD 1 AE=x:=by rw[List.getD_eq_getElem?_getD,h];rfl
theorem zgh {l:List Ty}{x:Ty}(h:l[2]? = some x):l.getD 2 AE=x:=by rw[List.getD_eq_getElem?_getD,h];rfl
theorem oQ (t:Tm):∀(g:List T),t.shape=true->(t.inferN (g.map T.ty)).2=0->∃(a:T) (F:BH g.reverse->a.V),(t.inferN (g.map T.ty)).1=a.ty/\Dn g.reverse t a F:=by
 induction t using Tm.ind with
 | h t ih=>
 intro g hs h;obtain⟨hlen,hi,hv,Al,Dj⟩:=Tm.shape_node hs;rw[Tm.inferN_eq]at h ⊢;by_cases h1:t.kind=1
 ·rw[if_pos h1]at h ⊢;by_cases h2:((g.map T.ty).length:Int)<=t.index;· rw[if_pos h2]at h;cases h
  rw[if_neg h2];have hl:t.index.toNat<g.length:=by simp at h2;omega
  rw[if_neg oO]at Al;have ha:t.args=[]:=by rw[h1]at hlen;simp[AO]at hlen;exact hlen
  have ht:t=vT (t.index.toNat:Int):=XS t h1 oO (kG Al) ha;obtain⟨a,hga⟩:∃a,g[g.length - 1 - t.index.toNat]? = some a:=⟨_,uB oO⟩;have hrev:g.reverse[t.index.toNat]? = some a:=by rw[List.getElem?_reverse hl,hga]
  obtain⟨p,hp⟩:=At.of hrev;refine⟨a,p,?_,by rw[ht];exact .var hp⟩;simp only[List.length_map,List.getD_eq_getElem?_getD,List.getElem?_map,hga,Option.map_some,Option.getD_some]
 rw[if_neg h1]at h ⊢;have Om:t.index=0:=by rcases hv with hv|hv;exact absurd hv h1;exact hv
 by_cases h2:t.kind=2
 ·rw[if_pos h2]at h ⊢;rw[if_pos (.inl h2)]at Al;obtain⟨a,Lb⟩:=T.of_shape t.type Al.1
  obtain⟨b,hb⟩:∃b,t.args=[b]:=by
   rw[h2]at hlen;simp[AO]at hlen;exact List.length_eq_one_iff.1 oO
  have hctx:g.map T.ty++[t.type]=(g++[a]).map T.ty:=by simp[Lb]
  rw[hctx,hb]at h ⊢;simp only[Tm.inferN.infers]at h ⊢;by_cases Ey:(b.inferN ((g++[a]).map T.ty)).2=0
  ·obtain⟨r,F,e1,e2⟩:=ih b (by rw[hb];simp) (g++[a]) (Dj b (by rw[hb];simp)) Ey;simp only[Ey,if_true]at h ⊢;have Uu:(g++[a]).reverse=a::g.reverse:=sS;have ht:t=D3 a b:=XS t h2 Om Lb.symm hb;have Ee:(CA t.kind t.type [(b.inferN ((g++[a]).map T.ty)).1])=XQ (Ty.mk 4 [a.ty,r.ty]):=by
    unfold CA;rw[if_pos h2,e1,Lb];rfl
   rw[Ee]at h ⊢;obtain⟨o1,o2⟩:=XR _ h;have Po:a.ok:=T.ty_ok (by rw[Lb];exact Al)
   revert F e2
   rw[Uu];intro F e2;refine⟨.fn a r,_,by rw[o2];rfl,by rw[ht];exact .lam Po e2⟩
  ·simp only[Ey,if_false]at h
 ·rw[if_neg h2]at h ⊢;by_cases Ky:(Tm.inferN.infers t.args (g.map T.ty)).2=0;rotate_left;· rw[if_neg Ky]at h;exact absurd h Ky
  rw[if_pos Ky]at h ⊢;obtain⟨hl,hx⟩:=Tm.infers_all _ _ Ky;have get:∀(i:Nat) (x:Tm),t.args[i]? = some x->∃(a:T) (F:BH g.reverse->a.V),(Tm.inferN.infers t.args (g.map T.ty)).1[i]? = some a.ty/\Dn g.reverse x a F:=by
   intro i x Cy;obtain⟨x1,x2⟩:=hx i x Cy;have hm:=uE Cy;obtain⟨a,F,e1,e2⟩:=ih x hm g (Dj x hm) x1;exact⟨a,F,by rw[x2,e1],e2⟩
  generalize (Tm.inferN.infers t.args (g.map T.ty)).1=l at h get ⊢;have zt:¬(t.kind=2\/t.kind=6\/t.kind=9)->t.type=Ty.mk 0 []:=fun hk=>by rw[if_neg hk]at Al;exact kG Al
  have node:∀(k:Int) (a:List Tm),¬(k=2\/k=6\/k=9)->t.kind=k->t.args=a->t=nT k a:=fun k a hk e1 e2=>XS t e1 Om (zt (by rw[e1];exact hk)) e2;have Mt:AO t.kind=1->∃x,t.args=[x]:=fun ha=>List.length_eq_one_iff.1 oO;have No:AO t.kind=2->∃x y,t.args=[x,y]:=by
   intro ha;have:t.args.length=2:=oO
   match hq:t.args,this with
   | [x,y],_=>exact⟨x,y,rfl⟩
  have Sm:AO t.kind=3->∃x y z,t.args=[x,y,z]:=by
   intro ha;have:t.args.length=3:=oO
   match hq:t.args,this with
   | [x,y,z],_=>exact⟨x,y,z,rfl⟩
  unfold CA at h ⊢;rw[if_neg h2]at h ⊢;by_cases h3:t.kind=3
  ·rw[if_pos h3]at h ⊢;obtain⟨f,x,ha⟩:=No (by rw[h3];rfl);obtain⟨p,F,e1,d1⟩:=get 0 f (by rw[ha];rfl);obtain⟨q,X,e2,d2⟩:=get 1 x (by rw[ha];rfl);rw[YX e1,oN e2]at h ⊢;by_cases hc:p.ty.kind=4/\(p.ty.arg 0).same q.ty=true
   ·rw[if_pos hc];cases p with
    | fn a b=>
     have hq:a=q:=T.ty_inj ((Ty.same_iff _ _).1 hc.2);subst hq;exact⟨b,_,rfl,by rw[node 3 [f,x] dD h3 ha];exact .app d1 d2⟩
    | nat=>exact absurd hc.1 dD
    | list=>exact absurd hc.1 dD
    | unit=>exact absurd hc.1 dD
    | pair a b=>exact absurd hc.1 (by simp[T.ty,Ty.kind])
   ·rw[if_neg hc]at h;cases h
  rw[if_neg h3]at h ⊢;by_cases h4:t.kind=4
  ·rw[if_pos h4];have ha:t.args=[]:=by rw[h4]at hlen;simp[AO]at hlen;exact hlen
   exact⟨.nat,_,rfl,by rw[node 4 [] dD h4 ha];exact .zero⟩
  rw[if_neg h4]at h ⊢;by_cases h5:t.kind=5
  ·rw[if_pos h5]at h ⊢;obtain⟨x,ha⟩:=Mt (by rw[h5];rfl);obtain⟨p,X,e1,d1⟩:=get 0 x (by rw[ha];rfl);rw[YX e1]at h ⊢;by_cases hc:p.ty.same (Ty.mk 1 [])=true
   ·rw[if_pos hc];have hp:p = .nat:=T.ty_inj ((Ty.same_iff _ _).1 hc);subst hp;exact⟨.nat,_,rfl,by rw[node 5 [x] dD h5 ha];exact .succ d1⟩
   ·rw[if_neg hc]at h;cases h
  rw[if_neg h5]at h ⊢;by_cases h6:t.kind=6
  ·rw[if_pos h6]at h ⊢;rw[if_pos (by simp[h6])]at Al;obtain⟨a,Lb⟩:=T.of_shape t.type Al.1;obtain⟨x,y,z,ha⟩:=Sm (by rw[h6];rfl);obtain⟨p,X,e1,d1⟩:=get 0 x (by rw[ha];rfl);obtain⟨q,Y,e2,d2⟩:=get 1 y (by rw[ha];rfl);obtain⟨r,Z,e3,d3⟩:=get 2 z (by rw[ha];rfl);rw[YX e1,oN e2,zgh e3]at h ⊢;split at h
   ·rename_i hc;rw[if_pos hc];obtain⟨c1,c2,c3⟩:=hc;rw[<- Lb]at c1 c2;have hp:p=a:=T.ty_inj ((Ty.same_iff _ _).1 c1);have hq:q = .fn .nat (.fn a a):=T.ty_inj ((Ty.same_iff _ _).1 c2);have hr:r = .nat:=T.ty_inj ((Ty.same_iff _ _).1 c3);subst hp hq hr;have ht:t=Tm.mk 6 0 p.ty [x,y,z]:=XS t h6 Om Lb.symm ha;exact⟨p,_,Lb.symm,by rw[ht];exact .rc (T.ty_ok (by rw[Lb];exact Al)) d1 d2 d3⟩
   ·cases h
  rw[if_neg h6]at h ⊢;by_cases h7:t.kind=7
  ·rw[if_pos h7];have ha:t.args=[]:=by rw[h7]at hlen;simp[AO]at hlen;exact hlen
   exact⟨.list,_,rfl,by rw[node 7 [] dD h7 ha];exact .nil⟩
  rw[if_neg h7]at h ⊢;by_cases h8:t.kind=8
  ·rw[if_pos h8]at h ⊢;obtain⟨x,y,ha⟩:=No (by rw[h8];rfl);obtain⟨p,X,e1,d1⟩:=get 0 x (by rw[ha];rfl);obtain⟨q,Y,e2,d2⟩:=get 1 y (by rw[ha];rfl);rw[YX e1,oN e2]at h ⊢;split at h
   ·rename_i hc;rw[if_pos hc];have hp:p = .nat:=T.ty_inj ((Ty.same_iff _ _).1 hc.1);have hq:q = .list:=T.ty_inj ((Ty.same_iff _ _).1 hc.2);subst hp hq;exact⟨.list,_,rfl,by rw[node 8 [x,y] dD h8 ha];exact .cons d1 d2⟩
   ·cases h
  rw[if_neg h8]at h ⊢;by_cases h9:t.kind=9
  ·rw[if_pos h9]at h ⊢;rw[if_pos (by simp[h9])]at Al;obtain⟨a,Lb⟩:=T.of_shape t.type Al.1;obtain⟨x,y,z,ha⟩:=Sm (by rw[h9];rfl);obtain⟨p,X,e1,d1⟩:=get 0 x (by rw[ha];rfl);obtain⟨q,Y,e2,d2⟩:=get 1 y (by rw[ha];rfl);obtain⟨r,Z,e3,d3⟩:=get 2 z (by rw[ha];rfl);rw[YX e1,oN e2,zgh e3]at h ⊢;split at h
   ·rename_i hc;rw[if_pos hc];obtain⟨c1,c2,c3⟩:=hc;rw[<- Lb]at c1 c2;have hp:p=a:=T.ty_inj ((Ty.same_iff _ _).1 c1);have hq:q = .fn .nat (.fn .list (.fn a a)):=T.ty_inj ((Ty.same_iff _ _).1 c2);have hr:r = .list:=T.ty_inj ((Ty.same_iff _ _).1 c3);subst hp hq hr;have ht:t=Tm.mk 9 0 p.ty [x,y,z]:=XS t h9 Om Lb.symm ha;exact⟨p,_,Lb.symm,by rw[ht];exact .fold (T.ty_ok (by rw[Lb];exact Al)) d1 d2 d3⟩
   ·cases h
  rw[if_neg h9]at h ⊢;by_cases Dq:t.kind=10
  ·rw[if_pos Dq]at h ⊢;obtain⟨x,y,ha⟩:=No (by rw[Dq];rfl);obtain⟨p,X,e1,d1⟩:=get 0 x (by rw[ha];rfl);obtain⟨q,Y,e2,d2⟩:=get 1 y (by rw[ha];rfl);rw[YX e1,oN e2]at h ⊢;obtain⟨o1,o2⟩:=XR _ h;exact⟨.pair p q,_,by rw[o2];rfl,by rw[node 10 [x,y] dD Dq ha];exact .pair d1 d2⟩
  rw[if_neg Dq]at h ⊢;by_cases Bq:t.kind=11
  ·rw[if_pos Bq]at h ⊢;obtain⟨x,ha⟩:=Mt (by rw[Bq];rfl);obtain⟨p,X,e1,d1⟩:=get 0 x (by rw[ha];rfl);rw[YX e1]at h ⊢;split at h
   ·rename_i hc;rw[if_pos hc];cases p with
    | pair a b=>exact⟨a,_,rfl,by rw[node 11 [x] dD Bq ha];exact .fst d1⟩
    | nat=>exact absurd hc dD
    | list=>exact absurd hc dD
    | unit=>exact absurd hc dD
    | fn a b=>exact absurd hc (by simp[T.ty,Ty.kind])
   ·cases h
  rw[if_neg Bq]at h ⊢;by_cases Ch:t.kind=12
  ·rw[if_pos Ch]at h ⊢;obtain⟨x,ha⟩:=Mt (by rw[Ch];rfl);obtain⟨p,X,e1,d1⟩:=get 0 x (by rw[ha];rfl);rw[YX e1]at h ⊢;split at h
   ·rename_i hc;rw[if_pos hc];cases p with
    | pair a b=>exact⟨b,_,rfl,by rw[node 12 [x] dD Ch ha];exact .snd d1⟩
    | nat=>exact absurd hc dD
    | list=>exact absurd hc dD
    | unit=>exact absurd hc dD
    | fn a b=>exact absurd hc (by simp[T.ty,Ty.kind])
   ·cases h
  rw[if_neg Ch];have Qf:t.kind=13:=by
   have:0<=AO t.kind:=oO;unfold AO at this;split at this;· omega
   split at this;· omega
   split at this;· omega
   split at this;· omega
   ·omega
  have ha:t.args=[]:=by rw[Qf]at hlen;simp[AO]at hlen;exact hlen
  exact⟨.unit,_,rfl,by rw[node 13 [] dD Qf ha];exact .unit⟩
end
section
def BH.drop {Γ:List T}:(Ξ:List T)->BH (Ξ++Γ)->BH Γ
 | [],e=>e
 | _::Ξ,e=>BH.drop Ξ e.2
def BH.wk {Γ:List T}:(Δ Ξ:List T)->BH (Δ++(Ξ++Γ))->BH (Δ++Γ)
 | [],Ξ,e=>BH.drop Ξ e
 | _::Δ,Ξ,e=>(e.1,BH.wk Δ Ξ e.2)
def BH.ins {Γ:List T}{s:T}(X:BH Γ->s.V):(Δ:List T)->BH (Δ++Γ)->BH (Δ++s::Γ)
 | [],e=>(X e,e)
 | _::Δ,e=>(e.1,BH.ins X Δ e.2)
theorem At.drop {Γ:List T}{i:Nat}{a:T}{p:BH Γ->a.V}(h:At Γ i a p):∀Ξ:List T,At (Ξ++Γ) (i+Ξ.length) a (fun e=>p (BH.drop Ξ e))
 | []=>h
 | _::Ξ=>.succ (At.drop h Ξ)
theorem At.wk {Γ Ξ:List T}{a:T}:∀(Δ:List T) {i:Nat} {p:BH (Δ++Γ)->a.V},At (Δ++Γ) i a p->At (Δ++(Ξ++Γ)) (if i<Δ.length then i else i+Ξ.length) a (fun e=>p (BH.wk Δ Ξ e))
 | [],i,p,h=>by rw[if_neg sS];exact At.drop h Ξ
 | b::Δ,i,p,h=>by
  cases h with
  | zero=>rw[if_pos sS];exact At.zero
  | succ h=>
   rename_i j q;have:=At.succ (b:=b) (At.wk (Ξ:=Ξ) Δ h);have e:(if j+1<(b::Δ).length then j+1 else j+1+Ξ.length)=(if j<Δ.length then j else j+Ξ.length)+1:=by
    simp only[List.length_cons];split <;> split <;> omega
   rw[e];exact this
theorem GR {k:Int}(hk:k≠1/\k≠2)(i:Int)(y:Ty)(a:List Tm)(f b:Int):(Tm.mk k i y a).upN f b=Tm.mk k i y (a.map fun x=>x.upN f b):=by
 rw[Tm.upN_eq];simp[Tm.kind,Tm.index,Tm.type,Tm.args,hk.1,hk.2,AX]
theorem zjm (a:T)(t:Tm)(f b:Int):(D3 a t).upN f b=D3 a (t.upN (f+1) b):=by
 rw[D3,Tm.upN_eq];simp[Tm.kind,Tm.index,Tm.type,Tm.args,AX,D3]
theorem SA (i:Int)(f b:Int):(vT i).upN f b=vT (if f<=i then i+b else i):=by
 rw[vT,Tm.upN_eq];simp[Tm.kind,Tm.index,Tm.type,Tm.args,vT]
theorem kH (t:Tm)(f:Int):t.upN f 0=t:=by
 induction t using Tm.ind generalizing f with
 | h t ih=>
 rw[Tm.upN_eq];have h1:(if t.kind=1/\f<=t.index then t.index+0 else t.index)=t.index:=by split <;> omega
 have h2:(t.args.map fun x=>x.upN (f+AX t.kind) 0)=t.args:=by
  conv=>rhs;rw[<- List.map_id t.args]
  exact List.map_congr_left fun x hx=>ih x hx _
 rw[h1,h2];exact Tm.eta t
theorem zmm (t:Tm)(f b c:Int)(hb:0<=b):(t.upN f b).upN f c=t.upN f (b+c):=by
 induction t using Tm.ind generalizing f with
 | h t ih=>
 rw[Tm.upN_eq t f b,Tm.upN_eq,Tm.upN_eq t f (b+c)];rw[Tm.kind_mk,Tm.index_mk,Tm.type_mk,Tm.args_mk,List.map_map];have e1:(if t.kind=1/\f<=(if t.kind=1/\f<=t.index then t.index+b else t.index) then (if t.kind=1/\f<=t.index then t.index+b else t.index)+c else (if t.kind=1/\f<=t.index then t.index+b else t.index))=(if t.kind=1/\f<=t.index then t.index+(b+c) else t.index):=by
  by_cases h1:t.kind=1/\f<=t.index;· rw[if_pos h1,if_pos ⟨h1.1,oO⟩,if_pos h1];omega
  ·rw[if_neg h1,if_neg h1,if_neg h1]
 rw[e1]
 congr 1
 exact List.map_congr_left fun x hx=>ih x hx _
theorem z9o {Γ Ξ:List T}{Θ:List T}{t:Tm}{a:T}{F:BH Θ->a.V}(h:Dn Θ t a F):∀(Δ:List T) (Bs:Θ=Δ++Γ),Dn (Δ++(Ξ++Γ)) (t.upN Δ.length Ξ.length) a (fun e=>F (cast (congrArg BH Bs.symm) (BH.wk Δ Ξ e))):=by
 induction h with
 | var h=>
  intro Δ Bs;subst Bs;rename_i i a p;have:=Dn.var (At.wk (Ξ:=Ξ) Δ h);rw[SA];have e:(if (Δ.length:Int)<=(i:Nat) then ((i:Nat):Int)+Ξ.length else (i:Nat))=((if i<Δ.length then i else i+Ξ.length:Nat):Int):=by
   split <;> split <;> omega
  rw[e];exact this
 | lam ha h ih=>
  intro Δ Bs;subst Bs;rw[zjm];have:=ih (_::Δ) rfl;simp only[List.length_cons,Int.natCast_add,Int.cast_ofNat_Int]at this;exact .lam ha this
 | app hf hx Cf Bx=>intro Δ Bs;subst Bs;rw[nT,GR dD];exact .app (Cf Δ rfl) (Bx Δ rfl)
 | zero=>intro Δ Bs;subst Bs;rw[nT,GR dD];exact .zero
 | succ hx ih=>intro Δ Bs;subst Bs;rw[nT,GR dD];exact .succ (ih Δ rfl)
 | rc ha hb hf hn Ck Cf Bt=>intro Δ Bs;subst Bs;rw[GR dD];exact .rc ha (Ck Δ rfl) (Cf Δ rfl) (Bt Δ rfl)
 | nil=>intro Δ Bs;subst Bs;rw[nT,GR dD];exact .nil
 | cons hx hl Bx Kt=>intro Δ Bs;subst Bs;rw[nT,GR dD];exact .cons (Bx Δ rfl) (Kt Δ rfl)
 | fold ha hb hf hn Ck Cf Bt=>intro Δ Bs;subst Bs;rw[GR dD];exact .fold ha (Ck Δ rfl) (Cf Δ rfl) (Bt Δ rfl)
 | pair hx hy Bx Ht=>intro Δ Bs;subst Bs;rw[nT,GR dD];exact .pair (Bx Δ rfl) (Ht Δ rfl)
 | fst hx ih=>intro Δ Bs;subst Bs;rw[nT,GR dD];exact .fst (ih Δ rfl)
 | snd hx ih=>intro Δ Bs;subst Bs;rw[nT,GR dD];exact .snd (ih Δ rfl)
 | unit=>intro Δ Bs;subst Bs;rw[nT,GR dD];exact .unit
theorem MI {Γ:List T}{t:Tm}{a:T}{F:BH Γ->a.V}(h:Dn Γ t a F)(Ξ:List T):Dn (Ξ++Γ) (t.upN 0 Ξ.length) a (fun e=>F (BH.drop Ξ e)):=z9o (Ξ:=Ξ) h [] rfl
theorem KA {k:Int}(hk:k≠1/\k≠2)(i:Int)(y:Ty)(a:List Tm)(p d:Int)(s:Tm):(Tm.mk k i y a).inN p d s=Tm.mk k i y (a.map fun x=>x.inN p d s):=by
 rw[Tm.inN_eq];simp[Tm.kind,Tm.index,Tm.type,Tm.args,hk.1,hk.2,AX]
theorem zjn (a:T)(t:Tm)(p d:Int)(s:Tm):(D3 a t).inN p d s=D3 a (t.inN p (d+1) s):=by
 rw[D3,Tm.inN_eq];simp[Tm.kind,Tm.index,Tm.type,Tm.args,AX,D3]
theorem V3 (i p d:Int)(s:Tm):(vT i).inN p d s=if i=p+d then s.upN 0 (p+d) else if p+d<i then vT (i - 1) else vT i:=by
 rw[vT,Tm.inN_eq,Tm.kind_mk,if_pos rfl];rfl
theorem zgi {Γ:List T}{s:T}{x:Tm}{X:BH Γ->s.V}(hx:Dn Γ x s X){a:T}:∀(Δ:List T) {i:Nat} {p:BH (Δ++s::Γ)->a.V},At (Δ++s::Γ) i a p->Dn (Δ++Γ) ((vT i).inN 0 Δ.length x) a (fun e=>p (BH.ins X Δ e))
 | [],i,p,h=>by
  rw[V3];cases h with
  | zero=>
   rw[if_pos sS];simp only[List.length_nil,Int.natCast_zero,Int.add_zero,kH];exact hx
  | succ h=>
   rename_i j q;rw[if_neg (by simp only[List.length_nil];omega),if_pos (by simp only[List.length_nil];omega)];have e:(((j+1:Nat):Int) - 1)=(j:Nat):=oO;rw[e];exact .var h
 | b::Δ,i,p,h=>by
  cases h with
  | zero=>
   rw[V3,if_neg (by simp only[List.length_cons];omega),if_neg (by simp only[List.length_cons];omega)];exact .var .zero
  | succ h=>
   rename_i j q;have ih:=MI (zgi hx Δ h) [b];have e:(vT ((j+1:Nat):Int)).inN 0 ((b::Δ).length:Nat) x=((vT (j:Nat)).inN 0 (Δ.length:Nat) x).upN 0 ([b]:List T).length:=by
    rw[V3,V3];simp only[List.length_cons,List.length_nil];by_cases h1:j=Δ.length
    ·rw[if_pos oO,if_pos oO,zmm _ _ _ _ oO]
     congr 1
    ·by_cases h2:Δ.length<j
     ·rw[if_neg oO,if_pos oO,if_neg oO,if_pos oO,SA,if_pos oO]
      congr 1;omega
     ·rw[if_neg oO,if_neg oO,if_neg oO,if_neg oO,SA,if_pos oO]
      congr 1
   rw[e];exact ih
theorem z9p {Γ:List T}{s:T}{x:Tm}{X:BH Γ->s.V}(hx:Dn Γ x s X){Θ:List T}{t:Tm}{a:T}{F:BH Θ->a.V}(h:Dn Θ t a F) :
  ∀(Δ:List T) (Bs:Θ=Δ++s::Γ),Dn (Δ++Γ) (t.inN 0 Δ.length x) a (fun e=>F (cast (congrArg BH Bs.symm) (BH.ins X Δ e))):=by
 induction h with
 | var h=>intro Δ Bs;subst Bs;exact zgi hx Δ h
 | lam ha h ih=>
  intro Δ Bs;subst Bs;rw[zjn];have:=ih (_::Δ) rfl;simp only[List.length_cons,Int.natCast_add,Int.cast_ofNat_Int]at this;exact .lam ha this
 | app hf hx Cf Bx=>intro Δ Bs;subst Bs;rw[nT,KA dD];exact .app (Cf Δ rfl) (Bx Δ rfl)
 | zero=>intro Δ Bs;subst Bs;rw[nT,KA dD];exact .zero
 | succ hx ih=>intro Δ Bs;subst Bs;rw[nT,KA dD];exact .succ (ih Δ rfl)
 | rc ha hb hf hn Ck Cf Bt=>intro Δ Bs;subst Bs;rw[KA dD];exact .rc ha (Ck Δ rfl) (Cf Δ rfl) (Bt Δ rfl)
 | nil=>intro Δ Bs;subst Bs;rw[nT,KA dD];exact .nil
 | cons hx hl Bx Kt=>intro Δ Bs;subst Bs;rw[nT,KA dD];exact .cons (Bx Δ rfl) (Kt Δ rfl)
 | fold ha hb hf hn Ck Cf Bt=>intro Δ Bs;subst Bs;rw[KA dD];exact .fold ha (Ck Δ rfl) (Cf Δ rfl) (Bt Δ rfl)
 | pair hx hy Bx Ht=>intro Δ Bs;subst Bs;rw[nT,KA dD];exact .pair (Bx Δ rfl) (Ht Δ rfl)
 | fst hx ih=>intro Δ Bs;subst Bs;rw[nT,KA dD];exact .fst (ih Δ rfl)
 | snd hx ih=>intro Δ Bs;subst Bs;rw[nT,KA dD];exact .snd (ih Δ rfl)
 | unit=>intro Δ Bs;subst Bs;rw[nT,KA dD];exact .unit
theorem zjo {Γ:List T}{s a:T}{x t:Tm}{X:BH Γ->s.V}{F:BH (s::Γ)->a.V}(hx:Dn Γ x s X)(ht:Dn (s::Γ) t a F):Dn Γ (t.inN 0 0 x) a (fun e=>F (X e,e)):=z9p hx ht [] rfl
theorem Dn.eq {Γ:List T}{t:Tm}{a:T}{F G:BH Γ->a.V}(h:Dn Γ t a F)(e:∀ρ,F ρ=G ρ):Dn Γ t a G:=by
 have:F=G:=funext e;rw[<- this];exact h
def V4 (s:List Int)(n:Int):Option Nat:=(List.range s.length).reverse.find? fun j=>s[j]?==some n
def HF:List Int->Tm->Tm
 | s,.mk k i y a=>if k=1 then (match V4 s i with|some j=>vT ((s.length:Int) - 1 - (j:Int))|none=>.mk k i y a) else .mk k 0 y (closes (if k=2 then s++[i] else s) a)
where
 closes:List Int->List Tm->List Tm
  | _,[]=>[]
  | s,x::r=>HF s x::closes s r
theorem wU (s:List Int)(l:List Tm):HF.closes s l=l.map (HF s):=by
 induction l with
 | nil=>rfl
 | cons a r ih=>simp[HF.closes,ih]
theorem KZ (s:List Int)(t:Tm):HF s t=if t.kind=1 then (match V4 s t.index with|some j=>vT ((s.length:Int) - 1 - (j:Int))|none=>t) else .mk t.kind 0 t.type (t.args.map (HF (if t.kind=2 then s++[t.index] else s))):=by
 cases t;rw[HF,wU];rfl
theorem YY {s:List Int}{n:Int}{j:Nat}(h:s[j]? = some n)(hl:∀k,j<k->s[k]?≠some n):V4 s n=some j:=by
 have hj:=(uA h).1;unfold V4;have hk:∀m,j<m->m<=s.length->(List.range m).reverse.find? (fun j=>s[j]?==some n)=some j:=by
  intro m hm Uy
  induction m with
  | zero=>omega
  | succ m ih=>
   rw[List.range_succ,List.reverse_append];show (List.find? _ (m::(List.range m).reverse))=_;by_cases e:m=j
   ·subst e;rw[List.find?_cons_of_pos (by simp[h])]
   ·rw[List.find?_cons_of_neg (by simpa using hl m oO)];exact ih oO oO
 exact hk _ hj (Nat.le_refl _)
inductive Rep:List Int->Tm->Tm->Prop
 | var {s:List Int} {n:Int} {j:Nat}:s[j]? = some n->(∀k,j<k->s[k]?≠some n)->Rep s (vT n) (vT ((s.length:Int) - 1 - (j:Int)))
 | lam {s n y b t}:Rep (s++[n]) b t->Rep s (Tm.mk 2 n y [b]) (Tm.mk 2 0 y [t])
 | n0 {s} (k y):k≠1->k≠2->Rep s (Tm.mk k 0 y []) (Tm.mk k 0 y [])
 | n1 {s k y a b}:k≠1->k≠2->Rep s a b->Rep s (Tm.mk k 0 y [a]) (Tm.mk k 0 y [b])
 | n2 {s k y a b c d}:k≠1->k≠2->Rep s a b->Rep s c d->Rep s (Tm.mk k 0 y [a,c]) (Tm.mk k 0 y [b,d])
 | n3 {s k y a b c d e f}:k≠1->k≠2->Rep s a b->Rep s c d->Rep s e f->Rep s (Tm.mk k 0 y [a,c,e]) (Tm.mk k 0 y [b,d,f])
theorem Rep.close {s:List Int}{x t:Tm}(h:Rep s x t):HF s x=t:=by
 induction h with
 | @var s n j h1 h2=>
  rw[KZ,if_pos (show (vT n).kind=1 from rfl)];show (match V4 s n with|some j=>_|none=>_)=_;rw[YY h1 h2]
 | @lam s n y b t h ih=>
  rw[KZ,if_neg (show ¬(Tm.mk 2 n y [b]).kind=1 by show ¬(2:Int)=1;decide)];show Tm.mk 2 0 y [HF (if (2:Int)=2 then s++[n] else s) b]=_;rw[if_pos rfl,ih]
 | n0 k y h1 h2=>rw[KZ,if_neg (show ¬(Tm.mk k 0 y []).kind=1 from h1)];rfl
 | @n1 s k y a b h1 h2 ha ia=>rw[KZ,if_neg (show ¬(Tm.mk k 0 y [a]).kind=1 from h1)];show Tm.mk k 0 y [HF (if k=2 then _ else s) a]=_;rw[if_neg h2,ia]
 | @n2 s k y a b c d h1 h2 ha hc ia ic=>rw[KZ,if_neg (show ¬(Tm.mk k 0 y [a,c]).kind=1 from h1)];show Tm.mk k 0 y [HF (if k=2 then _ else s) a,HF (if k=2 then _ else s) c]=_;rw[if_neg h2,ia,ic]
 | @n3 s k y a b c d e f h1 h2 ha hc he ia ic ie=>rw[KZ,if_neg (show ¬(Tm.mk k 0 y [a,c,e]).kind=1 from h1)];show Tm.mk k 0 y [HF (if k=2 then _ else s) a,HF (if k=2 then _ else s) c,HF (if k=2 then _ else s) e]=_;rw[if_neg h2,ia,ic,ie]
theorem Rep.count {s:List Int}{x t:Tm}(h:Rep s x t):x.count=t.count:=by
 induction h with
 | var _ _=>rfl
 | lam h ih=>show 1+(_+0)=1+(_+0);rw[ih]
 | n0=>rfl
 | n1 _ _ _ ia=>show 1+(_+0)=1+(_+0);rw[ia]
 | n2 _ _ _ _ ia ic=>show 1+(_+(_+0))=1+(_+(_+0));rw[ia,ic]
 | n3 _ _ _ _ _ ia ic ie=>show 1+(_+(_+(_+0)))=1+(_+(_+(_+0)));rw[ia,ic,ie]
def Tm.vars:Tm->List Int
 | .mk k i _ a=>if k=1 then [i] else varsL a
where
 varsL:List Tm->List Int
  | []=>[]
  | x::r=>x.vars++varsL r
theorem Tm.vars_eq (t:Tm):t.vars=if t.kind=1 then [t.index] else Tm.vars.varsL t.args:=by cases t;rw[Tm.vars];rfl
theorem Rep.wk {x t:Tm}{v:Int}{s:List Int}(h:Rep s x t):∀(a b:List Int),s=a++b->v∉x.vars->Rep (a++v::b) x (t.upN (b.length:Int) 1):=by
 induction h with
 | @var s n j h1 h2=>
  intro a b hs hv;subst hs;have hvn:v≠n:=by intro e;exact hv (by rw[Tm.vars_eq,if_pos (show (vT n).kind=1 from rfl)];exact List.mem_singleton.2 e)
  have hj:=(uA h1).1;rw[List.length_append]at hj;rw[SA];by_cases hja:j<a.length
  ·have e1:(if (b.length:Int)<=((a++b).length:Int) - 1 - (j:Int) then ((a++b).length:Int) - 1 - (j:Int)+1 else ((a++b).length:Int) - 1 - (j:Int))=((a++v::b).length:Int) - 1 - (j:Int):=by
    rw[if_pos (by simp;omega)]
    simp;omega
   rw[e1];refine .var ?_ ?_;· rw[List.getElem?_append_left hja]at h1 ⊢;exact h1
   ·intro k hk hh;by_cases hka:k<a.length;· exact h2 k hk (by rw[List.getElem?_append_left hka]at hh ⊢;exact hh)
    ·rw[List.getElem?_append_right oO]at hh;rcases hq:k - a.length with _|m;· rw[hq]at hh;simp at hh;exact hvn hh
     ·rw[hq,List.getElem?_cons_succ]at hh;refine h2 (a.length+m) oO ?_;rw[List.getElem?_append_right oO,Nat.add_sub_cancel_left];exact hh
  ·have e1:(if (b.length:Int)<=((a++b).length:Int) - 1 - (j:Int) then ((a++b).length:Int) - 1 - (j:Int)+1 else ((a++b).length:Int) - 1 - (j:Int))=((a++v::b).length:Int) - 1 - ((j+1:Nat):Int):=by
    rw[if_neg (by simp;omega)]
    simp;omega
   rw[e1];refine .var ?_ ?_
   ·rw[List.getElem?_append_right oO]at h1 ⊢;rw[show j+1 - a.length=(j - a.length)+1 from oO,List.getElem?_cons_succ];exact h1
   ·intro k hk hh;rw[List.getElem?_append_right oO,show k - a.length=(k - 1 - a.length)+1 from oO,List.getElem?_cons_succ]at hh;refine h2 (k - 1) oO ?_;rw[List.getElem?_append_right oO];exact hh
 | @lam s n y b' t h ih=>
  intro a b hs hv;subst hs;rw[Tm.vars_eq,if_neg (show ¬(Tm.mk 2 n y [b']).kind=1 by show ¬(2:Int)=1;decide)]at hv;have Dd:v∉b'.vars:=by intro e;exact hv (List.mem_append_left _ e)
  have:=ih a (b++[n]) sS Dd;rw[Tm.upN_eq];show Rep _ _ (Tm.mk 2 0 y [t.upN ((b.length:Int)+1) 1]);refine .lam ?_;have e:((b++[n]).length:Int)=(b.length:Int)+1:=sS;rw[e]at this
  simpa using this
 | @n0 s k y h1 h2=>intro a b hs hv;rw[GR ⟨h1,h2⟩];exact .n0 k y h1 h2
 | @n1 s k y p q h1 h2 hp ip=>
  intro a b hs hv;rw[Tm.vars_eq,if_neg (show ¬(Tm.mk k 0 y [p]).kind=1 from h1)]at hv;rw[GR ⟨h1,h2⟩];exact .n1 h1 h2 (ip a b hs (fun e=>hv (List.mem_append_left _ e)))
 | @n2 s k y p q r u h1 h2 hp hr ip ir=>
  intro a b hs hv;rw[Tm.vars_eq,if_neg (show ¬(Tm.mk k 0 y [p,r]).kind=1 from h1)]at hv;rw[GR ⟨h1,h2⟩];exact .n2 h1 h2 (ip a b hs (fun e=>hv (List.mem_append_left _ e))) (ir a b hs (fun e=>hv (List.mem_append_right _ (List.mem_append_left _ e))))
 | @n3 s k y p q r u w z h1 h2 hp hr hw ip ir iw=>
  intro a b hs hv;rw[Tm.vars_eq,if_neg (show ¬(Tm.mk k 0 y [p,r,w]).kind=1 from h1)]at hv;rw[GR ⟨h1,h2⟩];exact .n3 h1 h2 (ip a b hs (fun e=>hv (List.mem_append_left _ e))) (ir a b hs (fun e=>hv (List.mem_append_right _ (List.mem_append_left _ e)))) (iw a b hs (fun e=>hv (List.mem_append_right _ (List.mem_append_right _ (List.mem_append_left _ e)))))
theorem Rep.up {x t:Tm}{v:Int}{s:List Int}(h:Rep s x t)(hv:v∉x.vars):Rep (s++[v]) x (t.upN 0 1):=h.wk s [] sS hv
end
section
variable {gl:AB}
theorem Val.nodes_flat {v:Val}(h:v.args=[]):v.nodesN.2=v.okB:=by rw[nodesN_eq,h];rfl
theorem Val.nodes_pair {v a b:Val}(h:v.args=[a,b]):v.nodesN.2=(v.okB&&(a.nodesN.2&&b.nodesN.2)):=by
 rw[nodesN_eq,h];cases ho:v.okB <;> simp[nodesN.nodesL];cases ha:a.nodesN.2 <;> simp
theorem Val.nodes_count (v:Val)(h:v.nodesN.2=true):v.nodesN.1=v.count:=by
 induction v using Val.ind with
 | h v ih=>
 have key:∀l:List Val,(∀a∈l,a.nodesN.2=true->a.nodesN.1=a.count)->∀(n:Int) (ok:Bool),(nodesN.nodesL l (n,ok)).2=true->(nodesN.nodesL l (n,ok)).1=n+count.counts l:=by
  intro l
  induction l with
  | nil=>intro _ n ok _;simp[nodesN.nodesL,count.counts]
  | cons a r Dk=>
   intro hl n ok Ee;cases ok with
   | false=>rw[nodesL_no]at Ee;cases Ee
   | true=>
    simp only[nodesN.nodesL,if_true]at Ee ⊢;have ha:a.nodesN.2=true:=(nodesL_ok Ee).1;rw[Dk (fun b hb=>hl b (List.mem_cons_of_mem _ hb)) _ _ Ee,hl a sS ha];simp only[count.counts];omega
 rw[nodesN_eq]at h ⊢;rw[key v.args ih _ _ h,count_eq];omega
end
section
def EA (l:List Int):Nat->Nat->Ty × Nat
 | 0,p=>
  if (AD l p 7).1=3 then (Ty.mk 2 [],(AD l p 7).2) else if (AD l p 7).1=4 then (Ty.mk 5 [],(AD l p 7).2) else (Ty.mk 1 [],(AD l p 7).2)
 | n+1,p=>
  if (AD l p 7).1=3 then (Ty.mk 2 [],(AD l p 7).2) else if (AD l p 7).1=4 then (Ty.mk 5 [],(AD l p 7).2)
  else if (AD l p 7).1=5 then (Ty.mk 3 [(EA l n (AD l p 7).2).1,(EA l n (EA l n (AD l p 7).2).2).1],(EA l n (EA l n (AD l p 7).2).2).2)
  else if (AD l p 7).1=6 then (Ty.mk 4 [(EA l n (AD l p 7).2).1,(EA l n (EA l n (AD l p 7).2).2).1],(EA l n (EA l n (AD l p 7).2).2).2)
  else (Ty.mk 1 [],(AD l p 7).2)
def HJ (g:List Ty)(i:Nat):Ty:=g.getD (g.length - 1 - i) AE
def ER (g:List Ty)(t:Ty):List Nat:=(List.range g.length).filter fun i=>(HJ g i).same t
def wV (g:List Ty)(t:Ty):Option Nat:=(List.range g.length).find? fun i=>decide ((HJ g i).kind=4)&&((HJ g i).arg 1).same t
def NK (l:List Int)(t:Ty)(g:List Ty)(p:Nat):Option Tm × Nat:=
 if (ER g t).length=0 then (none,p)
 else if (AD l p 3).1=0 then (none,(AD l p 3).2)
 else (some (vT ((ER g t).getD (AD l (AD l p 3).2 (ER g t).length).1.toNat 0:Nat)),(AD l (AD l p 3).2 (ER g t).length).2)
def cK (l:List Int)(p:Nat):Tm × Nat:=(CV (AD l p 3).1.toNat,(AD l p 3).2)
def FP (l:List Int)(t:Ty)(g:List Ty)(p:Nat):Tm × Nat:=
 match NK l t g p with
 | (some x,q)=>(x,q)
 | (none,q)=>
  match t with
  | .mk k ts=>
   if k=1 then cK l q
   else if k=2 then (nT 7 [],q)
   else match ts with
    | [a,b]=>
     if k=3 then (nT 10 [(FP l a g q).1,(FP l b g (FP l a g q).2).1],(FP l b g (FP l a g q).2).2)
     else if k=4 then (Tm.mk 2 0 a [(FP l b (g++[a]) q).1],(FP l b (g++[a]) q).2)
     else (nT 13 [],q)
    | _=>(nT 13 [],q)
termination_by SizeOf.sizeOf t
def kI (l:List Int)(F:Ty->List Ty->Nat->Tm × Nat)(t:Ty)(g:List Ty)(q:Nat):Tm × Nat:=
 if t.kind=1 then
  if (AD l q 5).1=0 then (nT 5 [(F t g (AD l q 5).2).1],(F t g (AD l q 5).2).2)
  else if (AD l q 5).1=1 then (C5 BY [(F t g (AD l q 5).2).1,(F t g (F t g (AD l q 5).2).2).1],(F t g (F t g (AD l q 5).2).2).2)
  else if (AD l q 5).1=2 then (C5 FC [(F t g (AD l q 5).2).1,(F t g (F t g (AD l q 5).2).2).1],(F t g (F t g (AD l q 5).2).2).2)
  else cK l (AD l q 5).2
 else if t.kind=2 then
  if (AD l q 2).1=0 then (nT 8 [(F (Ty.mk 1 []) g (AD l q 2).2).1,(F t g (F (Ty.mk 1 []) g (AD l q 2).2).2).1],(F t g (F (Ty.mk 1 []) g (AD l q 2).2).2).2)
  else (nT 7 [],(AD l q 2).2)
 else if t.kind=3 then (nT 10 [(F (t.arg 0) g q).1,(F (t.arg 1) g (F (t.arg 0) g q).2).1],(F (t.arg 1) g (F (t.arg 0) g q).2).2)
 else if t.kind=4 then (Tm.mk 2 0 (t.arg 0) [(F (t.arg 1) (g++[t.arg 0]) q).1],(F (t.arg 1) (g++[t.arg 0]) q).2)
 else (nT 13 [],q)
def KQ (l:List Int)(F:Ty->List Ty->Nat->Tm × Nat)(t:Ty)(g:List Ty)(k:Int)(q:Nat):Tm × Nat:=
 if k=0 then
  let s:=EA l 0 q
  let x:=F t (g++[s.1]) s.2
  let y:=F s.1 g x.2
  (nT 3 [Tm.mk 2 0 s.1 [x.1],y.1],y.2)
 else if k=1 then
  let s:=EA l 0 q
  let x:=F t g s.2
  let y:=F s.1 g x.2
  (nT 11 [nT 10 [x.1,y.1]],y.2)
 else if k=2 then
  let x:=F t (g++[Ty.mk 1 [],t]) q
  let y:=F t g x.2
  let z:=cK l y.2
  (Tm.mk 6 0 t [y.1,Tm.mk 2 0 (Ty.mk 1 []) [Tm.mk 2 0 t [x.1]],z.1],z.2)
 else if k=3 then
  let x:=F t (g++[Ty.mk 1 [],Ty.mk 2 [],t]) q
  let y:=F t g x.2
  let z:=F (Ty.mk 2 []) g y.2
  (Tm.mk 9 0 t [y.1,Tm.mk 2 0 (Ty.mk 1 []) [Tm.mk 2 0 (Ty.mk 2 []) [Tm.mk 2 0 t [x.1]]],z.1],z.2)
 else if k=4 then
  let s:=EA l 0 q
  let x:=F s.1 g s.2
  let y:=F t g x.2
  (nT 12 [nT 10 [x.1,y.1]],y.2)
 else if k=5 then
  match wV g t with
  | some i=>(nT 3 [vT i,(F ((HJ g i).arg 0) g q).1],(F ((HJ g i).arg 0) g q).2)
  | none=>kI l F t g q
 else kI l F t g q
def CZ (l:List Int):Nat->Ty->List Ty->Nat->Tm × Nat
 | 0,t,g,p=>FP l t g p
 | n+1,t,g,p=>
  match NK l t g p with
  | (some x,q)=>(x,q)
  | (none,q)=>KQ l (CZ l n) t g (AD l q 8).1 (AD l q 8).2
theorem cL (l:List Int)(t:Ty)(g:List Ty)(p:Nat)(ht:t.ok):FP l t g p =
  match NK l t g p with
  | (some x,q)=>(x,q)
  | (none,q)=>
   if t.kind=1 then cK l q
   else if t.kind=2 then (nT 7 [],q)
   else if t.kind=3 then (nT 10 [(FP l (t.arg 0) g q).1,(FP l (t.arg 1) g (FP l (t.arg 0) g q).2).1],(FP l (t.arg 1) g (FP l (t.arg 0) g q).2).2)
   else if t.kind=4 then (Tm.mk 2 0 (t.arg 0) [(FP l (t.arg 1) (g++[t.arg 0]) q).1],(FP l (t.arg 1) (g++[t.arg 0]) q).2)
   else (nT 13 [],q):=by
 rw[FP.eq_def];rcases NK l t g p with⟨_|x,q⟩
 ·cases t with
  | mk k ts=>
   simp only[Ty.kind];by_cases h1:k=1;· simp[h1]
   by_cases h2:k=2;· simp[h2]
   simp only[h1,h2,if_false];by_cases Vc:k=3\/k=4
   ·obtain⟨a,b,e,-,-,e0,e1⟩:=Ty.ok_args ht Vc;simp only[Ty.args]at e;subst e;rw[e0,e1];rfl
   ·have h3:k≠3:=fun e=>Vc (.inl e);have h4:k≠4:=fun e=>Vc (.inr e);simp only[h3,h4,if_false]
    match ts with
    | [a,b]=>rfl
    | []=>rfl
    | [_]=>rfl
    | _::_::_::_=>rfl
 ·rfl
theorem V5 {k:Int}{a b:Ty}(hk:k=3\/k=4)(ha:a.shape=true)(hb:b.shape=true):(Ty.mk k [a,b]).shape=true:=by
 rcases hk with rfl|rfl <;> simp[Ty.shape,Ty.shape.shapes,HC,ha,hb]
theorem OJ (l:List Int):∀(n p:Nat),p<=l.length->(EA l n p).2<=l.length/\(EA l n p).1.shape=true/\(EA l n p).1.count+1<=2 ^ (n+1)
 | 0,p,hp=>by
  have hq:=CO (n:=7) hp;unfold EA;split;· exact⟨hq,rfl,Nat.le_refl 2⟩
  ·split;· exact⟨hq,rfl,Nat.le_refl 2⟩
   ·exact⟨hq,rfl,Nat.le_refl 2⟩
 | n+1,p,hp=>by
  have hq:=CO (n:=7) hp;obtain⟨a1,a2,a3⟩:=OJ l n _ hq;obtain⟨b1,b2,b3⟩:=OJ l n _ a1;have h2:2<=2 ^ (n+1):=Nat.pow_le_pow_right (n:=2) dD (show 1<=n+1 from oO);have h3:2 ^ (n+1+1)=2 ^ (n+1) * 2:=Nat.pow_succ ..;have hc:∀(k:Int) (a b:Ty),(Ty.mk k [a,b]).count=1+(a.count+(b.count+0)):=fun _ _ _=>rfl;unfold EA;split;· exact⟨hq,rfl,by show 1+0+1<=_;omega⟩
  split;· exact⟨hq,rfl,by show 1+0+1<=_;omega⟩
  split;· exact⟨b1,V5 (.inl rfl) a2 b2,by rw[hc];omega⟩
  split;· exact⟨b1,V5 (.inr rfl) a2 b2,by rw[hc];omega⟩
  ·exact⟨hq,rfl,by show 1+0+1<=_;omega⟩
def Ty.small (t:Ty):Prop:=t.shape=true/\t.count<=15
theorem Ty.small.ok {t:Ty}(h:t.small):t.ok:=⟨h.1,by have:=h.2;omega⟩
theorem Ty.small.arg {t:Ty}(h:t.small)(hk:t.kind=3\/t.kind=4):(t.arg 0).small/\(t.arg 1).small/\(t.arg 0).count+(t.arg 1).count<t.count:=by
 obtain⟨a,b,e,oa,ob,e0,e1⟩:=Ty.ok_args h.ok hk;have hc:t.count=1+(a.count+(b.count+0)):=by rw[Ty.count_eq,e];rfl
 have:=h.2;rw[e0,e1];exact⟨⟨oa.1,oO⟩,⟨ob.1,oO⟩,oO⟩
theorem LU (l:List Int){n p:Nat}(hp:p<=l.length)(hn:n<=3):(EA l n p).2<=l.length/\(EA l n p).1.small:=by
 obtain⟨h1,h2,h3⟩:=OJ l n p hp;have:2 ^ (n+1)<=2 ^ 4:=Nat.pow_le_pow_right dD oO;exact⟨h1,h2,oO⟩
theorem B5:(Ty.mk 1 []).small:=⟨rfl,dD⟩
theorem G2:(Ty.mk 2 []).small:=⟨rfl,dD⟩
theorem PC {g:List Ty}{i:Nat}(h:i<g.length):HJ g i∈g/\g[g.length - 1 - i]? = some (HJ g i):=by
 have hl:g.length - 1 - i<g.length:=oO;unfold HJ;rw[List.getD_eq_getElem?_getD,uB hl];exact⟨List.getElem_mem _,rfl⟩
theorem z42 {g:List Ty}{t:Ty}{i:Nat}(h:i∈ER g t):i<g.length/\HJ g i=t:=by
 simp only[ER,List.mem_filter,List.mem_range,Ty.same_iff]at h;exact h
theorem gH {g:List Ty}{t:Ty}{i:Nat}(h:wV g t=some i):i<g.length/\(HJ g i).kind=4/\(HJ g i).arg 1=t:=by
 have h1:=List.find?_some h;have h2:=List.mem_of_find?_eq_some h;simp only[uH,decide_eq_true_eq,Ty.same_iff]at h1;exact⟨List.mem_range.1 h2,h1.1,h1.2⟩
theorem SB {l:List Int}{t:Ty}{g:List Ty}{p:Nat}(hp:p<=l.length):(NK l t g p).2<=l.length:=by
 unfold NK;split;· exact hp
 ·split;· exact CO hp
  ·exact CO (CO hp)
theorem V6 {l:List Int}{t:Ty}{g:List Ty}{p q:Nat}{x:Tm}(h:NK l t g p=(some x,q)):∃i:Nat,x=vT i/\i<g.length/\HJ g i=t:=by
 unfold NK at h;split at h;· cases h
 ·rename_i Au;split at h;· cases h
  ·simp only[uD,uC]at h;generalize hk:(AD l (AD l p 3).2 (ER g t).length).1.toNat=k at h;have hb:=DQ (l:=l) (p:=(AD l p 3).2) (n:=(ER g t).length) oO;have Ac:k<(ER g t).length:=oO;refine⟨(ER g t)[k],?_,z42 (List.getElem_mem Ac)⟩;rw[<- h.1,List.getD_eq_getElem?_getD,uB Ac,Option.getD_some]
theorem G7 {i:Nat}:(vT i).shape=true:=by
 unfold vT;rw[Tm.shape_eq];simp[Tm.kind,Tm.index,Tm.type,Tm.args,Tm.shape.shapes,IN,C6,AO,Ty.zero,Ty.kind,Ty.args]
theorem FN {k:Int}{a:List Tm}(h:(a.length:Int)=AO k)(hk:¬(k=2\/k=6\/k=9))(ha:∀x∈a,x.shape=true):(nT k a).shape=true:=by
 unfold nT;rw[Tm.shape_eq];have hz:C6 k (Ty.mk 0 [])=true:=by unfold C6;rw[if_neg hk];rfl
 simp only[Tm.kind,Tm.index,Tm.type,Tm.args,(Tm.shapes_iff a).2 ha,IN,hz,h];simp
theorem HK {k:Int}{s:Ty}{a:List Tm}(h:(a.length:Int)=AO k)(hk:k=2\/k=6\/k=9)(hs:s.ok)(ha:∀x∈a,x.shape=true):(Tm.mk k 0 s a).shape=true:=by
 rw[Tm.shape_eq];simp only[Tm.kind,Tm.index,Tm.type,Tm.args,(Tm.shapes_iff a).2 ha,IN,C6,if_pos hk,h,(Ty.checkN_iff s).2 hs];simp
def YZ (l:List Int)(F:Ty->List Ty->Nat->Tm × Nat)(Q:Ty->List Ty->Tm->Prop):Prop:=
 ∀t g p,t.small->(∀x∈g,x.small)->p<=l.length->(F t g p).2<=l.length/\Q t g (F t g p).1
structure DrawOK (Q:Ty->List Ty->Tm->Prop):Prop where
 var:∀g i,i<g.length->Q (HJ g i) g (vT (i:Nat))
 num:∀g n,n<3->Q (Ty.mk 1 []) g (CV n)
 app:∀g s t f x,s.small->t.small->Q (Ty.mk 4 [s,t]) g f->Q s g x->Q t g (nT 3 [f,x])
 lam:∀g s t x,s.small->t.small->Q t (g++[s]) x->Q (Ty.mk 4 [s,t]) g (Tm.mk 2 0 s [x])
 lam2:∀g s t r x,s.small->t.small->r.small->Q r (g++[s,t]) x->Q (Ty.mk 4 [s,Ty.mk 4 [t,r]]) g (Tm.mk 2 0 s [Tm.mk 2 0 t [x]])
 lam3:∀g s t u r x,s.small->t.small->u.small->r.small->Q r (g++[s,t,u]) x->Q (Ty.mk 4 [s,Ty.mk 4 [t,Ty.mk 4 [u,r]]]) g (Tm.mk 2 0 s [Tm.mk 2 0 t [Tm.mk 2 0 u [x]]])
 pair:∀g s t x y,s.small->t.small->Q s g x->Q t g y->Q (Ty.mk 3 [s,t]) g (nT 10 [x,y])
 fst:∀g s t x,s.small->t.small->Q (Ty.mk 3 [s,t]) g x->Q s g (nT 11 [x])
 snd:∀g s t x,s.small->t.small->Q (Ty.mk 3 [s,t]) g x->Q t g (nT 12 [x])
 rc:∀g t x f n,t.small->Q t g x->Q (Ty.mk 4 [Ty.mk 1 [],Ty.mk 4 [t,t]]) g f->Q (Ty.mk 1 []) g n->Q t g (Tm.mk 6 0 t [x,f,n])
 fold:∀g t x f n,t.small->Q t g x->Q (Ty.mk 4 [Ty.mk 1 [],Ty.mk 4 [Ty.mk 2 [],Ty.mk 4 [t,t]]]) g f->Q (Ty.mk 2 []) g n->Q t g (Tm.mk 9 0 t [x,f,n])
 succ:∀g x,Q (Ty.mk 1 []) g x->Q (Ty.mk 1 []) g (nT 5 [x])
 plus:∀g x y,Q (Ty.mk 1 []) g x->Q (Ty.mk 1 []) g y->Q (Ty.mk 1 []) g (C5 BY [x,y])
 sub:∀g x y,Q (Ty.mk 1 []) g x->Q (Ty.mk 1 []) g y->Q (Ty.mk 1 []) g (C5 FC [x,y])
 nil:∀g,Q (Ty.mk 2 []) g (nT 7 [])
 cons:∀g x y,Q (Ty.mk 1 []) g x->Q (Ty.mk 2 []) g y->Q (Ty.mk 2 []) g (nT 8 [x,y])
 unit:∀g,Q (Ty.mk 5 []) g (nT 13 [])
theorem V7 {l:List Int}{Q:Ty->List Ty->Tm->Prop}(hQ:DrawOK Q){p:Nat}(hp:p<=l.length)(g:List Ty):(cK l p).2<=l.length/\Q (Ty.mk 1 []) g (cK l p).1:=by
 have:=DQ (l:=l) (p:=p) (n:=3) dD;exact⟨CO hp,hQ.num g _ oO⟩
theorem JU {t:Ty}(h:t.small):(t.kind=1/\t=Ty.mk 1 [])\/(t.kind=2/\t=Ty.mk 2 [])\/(t.kind=5/\t=Ty.mk 5 [])\/(t.kind=3/\t=Ty.mk 3 [t.arg 0,t.arg 1])\/(t.kind=4/\t=Ty.mk 4 [t.arg 0,t.arg 1]):=by
 cases t with
 | mk k ts=>
  have h1:=h.1;rw[Ty.shape_eq,uH]at h1;have hk:=h1.1;unfold HC at hk;simp[Ty.kind,Ty.args]at hk;rcases hk with⟨h2,rfl⟩|⟨h2,h3⟩;· rcases of_decide_eq_true h2 with rfl|rfl|rfl <;> simp[Ty.kind]
  ·match ts,h3 with
   | [a,b],_=>rcases of_decide_eq_true h2 with rfl|rfl <;> simp[Ty.kind,Ty.arg,Ty.args]
theorem cM {l:List Int}{F:Ty->List Ty->Nat->Tm × Nat}{Q:Ty->List Ty->Tm->Prop}(hQ:DrawOK Q)(hF:YZ l F Q):YZ l (kI l F) Q:=by
 intro t g p ht hg hp;unfold kI;have h5:=CO (n:=5) hp;have h2:=CO (n:=2) hp;rcases JU ht with⟨h,e⟩|⟨h,e⟩|⟨h,e⟩|⟨h,e⟩|⟨h,e⟩
 ·rw[if_pos h];obtain⟨a1,a2⟩:=hF t g _ ht hg h5;obtain⟨b1,b2⟩:=hF t g _ ht hg a1;rw[e]at a1 a2 b1 b2 ⊢;split;· exact⟨a1,hQ.succ g _ a2⟩
  split;· exact⟨b1,hQ.plus g _ _ a2 b2⟩
  split;· exact⟨b1,hQ.sub g _ _ a2 b2⟩
  ·exact V7 hQ h5 g
 ·rw[if_neg oO,if_pos h];obtain⟨a1,a2⟩:=hF _ g _ B5 hg h2;obtain⟨b1,b2⟩:=hF t g _ ht hg a1;rw[e]at b1 b2 ⊢;split;· exact⟨b1,hQ.cons g _ _ a2 b2⟩
  ·exact⟨h2,hQ.nil g⟩
 ·rw[if_neg oO,if_neg oO,if_neg oO,if_neg oO];rw[e];exact⟨hp,hQ.unit g⟩
 ·rw[if_neg oO,if_neg oO,if_pos h];obtain⟨s0,s1,_⟩:=ht.arg (.inl h);obtain⟨a1,a2⟩:=hF _ g _ s0 hg hp;obtain⟨b1,b2⟩:=hF _ g _ s1 hg a1;refine⟨b1,?_⟩;rw[e];exact hQ.pair g _ _ _ _ s0 s1 a2 b2
 ·rw[if_neg oO,if_neg oO,if_neg oO,if_pos h];obtain⟨s0,s1,_⟩:=ht.arg (.inr h);obtain⟨a1,a2⟩:=hF (t.arg 1) (g++[t.arg 0]) _ s1 (by intro x hx;rcases List.mem_append.1 hx with hx|hx;exact hg x hx;rw[List.mem_singleton.1 hx];exact s0) hp;refine⟨a1,?_⟩;rw[e];exact hQ.lam g _ _ _ s0 s1 a2
theorem oR {l:List Int}{F:Ty->List Ty->Nat->Tm × Nat}{Q:Ty->List Ty->Tm->Prop}(hQ:DrawOK Q)(hF:YZ l F Q)(k:Int):YZ l (fun t g p=>KQ l F t g k p) Q:=by
 intro t g p ht hg hp;have Fp:∀a:List Ty,(∀x∈a,x.small)->∀x∈g++a,x.small:=by
  intro a ha x hx;rcases List.mem_append.1 hx with hx|hx;· exact hg x hx
  ·exact ha x hx
 have Le:∀s:Ty,s.small->∀x∈g++[s],x.small:=fun s hs=>Fp [s] (by simpa using hs);obtain⟨s1,s2⟩:=LU l (n:=0) hp dD;show (KQ l F t g k p).2<=l.length/\Q t g (KQ l F t g k p).1;unfold KQ;split
 ·obtain⟨a1,a2⟩:=hF t _ _ ht (Le _ s2) s1;obtain⟨b1,b2⟩:=hF _ g _ s2 hg a1;exact⟨b1,hQ.app g _ _ _ _ s2 ht (hQ.lam g _ _ _ s2 ht a2) b2⟩
 split
 ·obtain⟨a1,a2⟩:=hF t g _ ht hg s1;obtain⟨b1,b2⟩:=hF _ g _ s2 hg a1;exact⟨b1,hQ.fst g _ _ _ ht s2 (hQ.pair g _ _ _ _ ht s2 a2 b2)⟩
 split
 ·obtain⟨a1,a2⟩:=hF t _ _ ht (Fp [Ty.mk 1 [],t] (by intro x hx;simp at hx;rcases hx with rfl|rfl;exact B5;exact ht)) hp;obtain⟨b1,b2⟩:=hF t g _ ht hg a1;obtain⟨c1,c2⟩:=V7 hQ b1 g;exact⟨c1,hQ.rc g _ _ _ _ ht b2 (hQ.lam2 g _ _ _ _ B5 ht ht a2) c2⟩
 split
 ·obtain⟨a1,a2⟩:=hF t _ _ ht (Fp [Ty.mk 1 [],Ty.mk 2 [],t] (by intro x hx;simp at hx;rcases hx with rfl|rfl|rfl;exact B5;exact G2;exact ht)) hp;obtain⟨b1,b2⟩:=hF t g _ ht hg a1;obtain⟨c1,c2⟩:=hF _ g _ G2 hg b1;exact⟨c1,hQ.fold g _ _ _ _ ht b2 (hQ.lam3 g _ _ _ _ _ B5 G2 ht ht a2) c2⟩
 split
 ·obtain⟨a1,a2⟩:=hF _ g _ s2 hg s1;obtain⟨b1,b2⟩:=hF t g _ ht hg a1;exact⟨b1,hQ.snd g _ _ _ s2 ht (hQ.pair g _ _ _ _ s2 ht a2 b2)⟩
 split
 ·split
  ·rename_i i hi;obtain⟨f1,f2,f3⟩:=gH hi;have Cv:=hg _ (PC f1).1;obtain⟨c0,c1,-⟩:=Cv.arg (.inr f2);obtain⟨a1,a2⟩:=hF _ g _ c0 hg hp;have hv:=hQ.var g i f1;rcases JU Cv with⟨h,e⟩|⟨h,e⟩|⟨h,e⟩|⟨h,e⟩|⟨h,e⟩;· omega
   ·omega
   ·omega
   ·omega
   ·rw[e,f3]at hv;exact⟨a1,hQ.app g _ _ _ _ c0 ht hv a2⟩
  ·exact cM hQ hF t g p ht hg hp
 ·exact cM hQ hF t g p ht hg hp
theorem Z0 {l:List Int}{Q:Ty->List Ty->Tm->Prop}(hQ:DrawOK Q):YZ l (FP l) Q:=by
 intro t;generalize hn:t.count=n
 induction n using Nat.strongRecOn generalizing t with
 | _ n ih=>
 intro g p ht hg hp;rw[cL l t g p ht.ok];have hq:=SB (t:=t) (g:=g) hp;split
 ·rename_i x q hx;obtain⟨i,rfl,h1,h2⟩:=V6 hx;rw[hx]at hq;have:=hQ.var g i h1;rw[h2]at this;exact⟨hq,this⟩
 ·rename_i q hx;rw[hx]at hq;rcases JU ht with⟨h,e⟩|⟨h,e⟩|⟨h,e⟩|⟨h,e⟩|⟨h,e⟩;· rw[if_pos h,e];exact V7 hQ hq g
  ·rw[if_neg oO,if_pos h,e];exact⟨hq,hQ.nil g⟩
  ·rw[if_neg oO,if_neg oO,if_neg oO,if_neg oO,e];exact⟨hq,hQ.unit g⟩
  ·rw[if_neg oO,if_neg oO,if_pos h];obtain⟨s0,s1,hc⟩:=ht.arg (.inl h);have p0:=Ty.count_eq (t.arg 0);have p1:=Ty.count_eq (t.arg 1);obtain⟨a1,a2⟩:=ih _ oO (t.arg 0) rfl g _ s0 hg hq;obtain⟨b1,b2⟩:=ih _ oO (t.arg 1) rfl g _ s1 hg a1;refine⟨b1,?_⟩;have:=hQ.pair g _ _ _ _ s0 s1 a2 b2;rw[<- e]at this;exact this
  ·rw[if_neg oO,if_neg oO,if_neg oO,if_pos h];obtain⟨s0,s1,hc⟩:=ht.arg (.inr h);have p0:=Ty.count_eq (t.arg 0);have p1:=Ty.count_eq (t.arg 1);obtain⟨a1,a2⟩:=ih _ oO (t.arg 1) rfl (g++[t.arg 0]) _ s1 (by intro x hx;rcases List.mem_append.1 hx with hx|hx;exact hg x hx;rw[List.mem_singleton.1 hx];exact s0) hq;refine⟨a1,?_⟩;have:=hQ.lam g _ _ _ s0 s1 a2;rw[<- e]at this;exact this
theorem FY {l:List Int}{Q:Ty->List Ty->Tm->Prop}(hQ:DrawOK Q):∀n,YZ l (CZ l n) Q
 | 0=>Z0 hQ
 | n+1=>by
  intro t g p ht hg hp;have hq:=SB (t:=t) (g:=g) hp;unfold CZ;split
  ·rename_i x q hx;obtain⟨i,rfl,h1,h2⟩:=V6 hx;rw[hx]at hq;have:=hQ.var g i h1;rw[h2]at this;exact⟨hq,this⟩
  ·rename_i q hx;rw[hx]at hq;exact oR hQ (FY hQ n) _ t g _ ht hg (CO hq)
theorem cN {f x y:Tm}(hf:f.shape=true)(hx:x.shape=true)(hy:y.shape=true):(C5 f [x,y]).shape=true:=by
 show (nT 3 [nT 3 [f,x],y]).shape=true;exact FN rfl dD (by intro z hz;simp at hz;rcases hz with rfl|rfl;exact FN rfl dD (by intro z hz;simp at hz;rcases hz with rfl|rfl;exact hf;exact hx);exact hy)
theorem QB:DrawOK (fun _ _ x=>x.shape=true) where
 var _ _ _:=G7
 num _ n _:=gG n
 app _ _ _ _ _ _ _ hf hx:=FN rfl dD (by intro z hz;simp at hz;rcases hz with rfl|rfl;exact hf;exact hx)
 lam _ _ _ _ hs _ hx:=HK rfl (.inl rfl) hs.ok (by intro z hz;simp at hz;rw[hz];exact hx)
 lam2 _ _ _ _ _ hs ht _ hx:=HK rfl (.inl rfl) hs.ok (by intro z hz;simp at hz;rw[hz];exact HK rfl (.inl rfl) ht.ok (by intro z hz;simp at hz;rw[hz];exact hx))
 lam3 _ _ _ _ _ _ hs ht hu _ hx:=HK rfl (.inl rfl) hs.ok (by intro z hz;simp at hz;rw[hz];exact HK rfl (.inl rfl) ht.ok (by intro z hz;simp at hz;rw[hz];exact HK rfl (.inl rfl) hu.ok (by intro z hz;simp at hz;rw[hz];exact hx)))
 pair _ _ _ _ _ _ _ hf hx:=FN rfl dD (by intro z hz;simp at hz;rcases hz with rfl|rfl;exact hf;exact hx)
 fst _ _ _ _ _ _ hx:=FN rfl dD (by intro z hz;simp at hz;rw[hz];exact hx)
 snd _ _ _ _ _ _ hx:=FN rfl dD (by intro z hz;simp at hz;rw[hz];exact hx)
 rc _ _ _ _ _ ht hx hf hn:=HK rfl (.inr (.inl rfl)) ht.ok (by intro z hz;simp at hz;rcases hz with rfl|rfl|rfl;exact hx;exact hf;exact hn)
 fold _ _ _ _ _ ht hx hf hn:=HK rfl (.inr (.inr rfl)) ht.ok (by intro z hz;simp at hz;rcases hz with rfl|rfl|rfl;exact hx;exact hf;exact hn)
 succ _ _ hx:=FN rfl dD (by intro z hz;simp at hz;rw[hz];exact hx)
 plus _ _ _ hx hy:=cN dD hx hy
 sub _ _ _ hx hy:=cN dD hx hy
 nil _:=rfl
 cons _ _ _ hf hx:=FN rfl dD (by intro z hz;simp at hz;rcases hz with rfl|rfl;exact hf;exact hx)
 unit _:=rfl
end
section
variable {gl:AB}
theorem wW (n:Nat):cT gl 124 [A0 n] [] (CV n).dv []:=by
 refine A6 Tryz.func124 ?_;intro X hP u6 hf u8 hn hR u5 u4;have Yf:C9 .i64 n:=u4 (A0 n) sS;rw[N2]at Yf;refine A2 ?_;refine A3 tT (BG 4 []) ?_;refine BR ?_;refine AA [] (j2 @CV.eq_1 @CV.eq_2) (E6 (fun x:Nat=>x<=n) (fun x:Nat=>[sV 0 (A0 x),sL 3 ((CV (n - x)).cells.map .v),sP 3,sL 2 [.v (A0 0),.v (A0 0),.v (A0 0),.own 0 [],.own 0 []],sP 2]) (fun x:Nat=>x) n (Nat.le_refl n) ?_);intro x hx ih;cases x with
 | zero=>
  refine A5 ?_;refine B9 ?_;refine A2 ?_;exact AM
 | succ x=>
  have hs:n - x=(n - (x+1))+1:=oO;refine A5 ?_;refine AQ ?_;refine A5 ?_;refine A5 ?_;refine GX ?_;refine AA [] (j3 @hs @CV.eq_1 @CV.eq_2) (ih x oO oO)
theorem ZV (n:Nat)(hn4:n<4096):cT gl 78 [A0 n] [] (.tup [(CV n).dv,A0 0]) []:=by
 refine A6 Tryz.func78 ?_;intro X hP u6 hf u8 hn hR u5 u4;have h1:¬(n:Int)<0:=oO;have h2:¬(4096:Int)<=n:=oO;refine A7 (j2 @h1 @h2) ?_;refine A3 tT (wW n) ?_;exact AM
theorem L0 (n:Nat)(hn4:n<4096):cT gl 22 [A0 n] [] (CV n).dv []:=by
 refine A6 Tryz.func22 ?_;intro X hP u6 hf u8 hn hR u5 u4;refine A2 ?_;refine A3 tT (ZV n hn4) ?_;refine A2 ?_;exact BI
theorem zew (t:Tm):cT gl 40 [t.dv] [] (Tm.mk 2 0 (Ty.mk 1 []) [t]).dv []:=by
 refine A6 Tryz.func40 ?_;intro X hP u6 hf u8 hn hR u5 u4;refine A2 ?_;refine BL @LT BE (E7 2 (Ty.mk 1 []) [t]) ?_;exact BI
theorem zex (a b c:Tm):cT gl 41 [a.dv,b.dv,c.dv] [] (Tm.mk 6 0 (Ty.mk 1 []) [a,b,c]).dv []:=by
 refine A6 Tryz.func41 ?_;intro X hP u6 hf u8 hn hR u5 u4;refine A2 ?_;refine BL @LT BE (E7 6 (Ty.mk 1 []) [a,b,c]) ?_;exact BI
def HL (t:Tm):Tm:=Tm.mk 2 0 (Ty.mk 1 []) [t]
def kJ (a b c:Tm):Tm:=Tm.mk 6 0 (Ty.mk 1 []) [a,b,c]
theorem PD (t:Tm):cT gl 40 [t.dv] [] (HL t).dv []:=zew t
theorem z9q (a b c:Tm):cT gl 41 [a.dv,b.dv,c.dv] [] (kJ a b c).dv []:=zex a b c
theorem ZW (i:Int):cT gl 43 [A0 i] [] (vT i).dv []:=FX i
theorem n5 (k:Int)(l:List Tm):cT gl 42 [A0 k,.sl (l.map Tm.cells)] [] (nT k l).dv []:=BG k l
theorem zey:HL (kJ (nT 4 []) (HL (HL (vT 1))) (vT 0))=DR:=rfl
theorem zez:HL (HL (kJ (vT 1) (HL (HL (nT 5 [vT 0]))) (vT 0)))=BY:=rfl
theorem zjp:HL (HL (kJ (vT 1) (HL (HL (nT 3 [DR,vT 0]))) (vT 0)))=FC:=rfl
theorem UH:cT gl 13 [] [] DR.dv []:=by
 refine A6 Tryz.func13 ?_;intro X hP u6 hf u8 hn hR u5 u4;refine A2 ?_;refine cC tT (n5 4 []) (ZW 1) (PD (vT 1)) (PD (HL (vT 1))) (ZW 0) (z9q (nT 4 []) (HL (HL (vT 1))) (vT 0)) (PD (kJ (nT 4 []) (HL (HL (vT 1))) (vT 0))) ?_;exact AC @zey
theorem LI:cT gl 70 [] [] BY.dv []:=by
 refine A6 Tryz.func70 ?_;intro X hP u6 hf u8 hn hR u5 u4;refine A2 ?_;refine z8n tT (ZW 1) (ZW 0) (n5 5 [vT 0]) (PD (nT 5 [vT 0])) (PD (HL (nT 5 [vT 0]))) (ZW 0) (z9q (vT 1) (HL (HL (nT 5 [vT 0]))) (vT 0)) (PD (kJ (vT 1) (HL (HL (nT 5 [vT 0]))) (vT 0))) (PD (HL (kJ (vT 1) (HL (HL (nT 5 [vT 0]))) (vT 0)))) ?_;exact AC @zez
theorem MR:cT gl 68 [] [] FC.dv []:=by
 refine A6 Tryz.func68 ?_;intro X hP u6 hf u8 hn hR u5 u4;refine A2 ?_;refine zgd tT (ZW 1) UH (ZW 0) (n5 3 [DR,vT 0]) (PD (nT 3 [DR,vT 0])) (PD (HL (nT 3 [DR,vT 0]))) (ZW 0) (z9q (vT 1) (HL (HL (nT 3 [DR,vT 0]))) (vT 0)) (PD (kJ (vT 1) (HL (HL (nT 3 [DR,vT 0]))) (vT 0))) (PD (HL (kJ (vT 1) (HL (HL (nT 3 [DR,vT 0]))) (vT 0)))) ?_;exact AC @zjp
theorem kL (f a b:Tm):cT gl 122 [f.dv,a.dv,b.dv] [] (C5 f [a,b]).dv []:=by
 refine A6 Tryz.func122 ?_;intro X hP u6 hf u8 hn hR u5 u4;refine A2 ?_;refine BL tT (BG 3 [f,a]) (BG 3 [Tm.mk 3 0 (Ty.mk 0 []) [f,a],b]) ?_;exact AT (j2 @C5.eq_1 @Q9.eq_1)
theorem zf1:HL (HL (C5 BY [C5 FC [vT 1,vT 0],C5 FC [vT 0,vT 1]]))=CH:=rfl
theorem UI:cT gl 69 [] [] CH.dv []:=by
 refine A6 Tryz.func69 ?_;intro X hP u6 hf u8 hn hR u5 u4;refine A2 ?_;refine zge tT LI MR (ZW 1) (ZW 0) (kL FC (vT 1) (vT 0)) MR (ZW 0) (ZW 1) (kL FC (vT 0) (vT 1)) (kL BY (C5 FC [vT 1,vT 0]) (C5 FC [vT 0,vT 1])) (PD (C5 BY [C5 FC [vT 1,vT 0],C5 FC [vT 0,vT 1]])) (PD (HL (C5 BY [C5 FC [vT 1,vT 0],C5 FC [vT 0,vT 1]]))) ?_;exact AC @zf1
theorem V8 (n:Nat)(b:Nat)(l:List Int)(p:Nat)(hl:l.length<=500)(hp:p<=l.length)(hn3:n<=3) :
  cT gl 119 [DP b,A0 n] [(b,CL l p)] (EA l n p).1.dv [(b,CL l (EA l n p).2)]:=by
 induction n generalizing p with
 | zero=>
  refine A6 Tryz.func119 ?_;intro X hP u6 hf u8 hn hR u5 u4;rw[EA]at hR;have Xp:=DQ (l:=l) (p:=p) (n:=7) dD;refine A2 ?_;refine A3 tT (DY b l p 7 dD oO) ?_;generalize hd:AD l p 7=d at *;obtain⟨k,q⟩:=d;simp only at Xp hR;by_cases h3:k=3
  ·refine A7 @h3 ?_;refine A3 tT FF ?_;exact AY [(b,CL l q)] @h3
  by_cases h4:k=4
  ·refine A7 @h4 ?_;refine A3 tT OX ?_;exact AY [(b,CL l q)] @h4
  by_cases h0:k=0
  ·refine A7 @h0 ?_;refine A3 tT BE ?_;exact AY [(b,CL l q)] @h0
  by_cases h1:k=1
  ·refine A7 @h1 ?_;refine A3 tT BE ?_;exact AY [(b,CL l q)] @h1
  by_cases h2:k=2
  ·refine A7 @h2 ?_;refine A3 tT BE ?_;exact AY [(b,CL l q)] @h2
  by_cases h5:k=5
  ·refine A7 @h5 ?_;refine A3 tT BE ?_;exact AY [(b,CL l q)] @h5
  have h6:k=6:=oO;refine A7 @h6 ?_;refine A3 tT BE ?_;exact AY [(b,CL l q)] @h6
 | succ n ih=>
  refine A6 Tryz.func119 ?_;intro X hP u6 hf u8 hn hR u5 u4;rw[EA]at hR;have Xp:=DQ (l:=l) (p:=p) (n:=7) dD;have hq:=CO (n:=7) hp;refine A2 ?_;refine A3 tT (DY b l p 7 dD oO) ?_;generalize hd:AD l p 7=d at *;obtain⟨k,q⟩:=d;simp only at Xp hR hq;have Cn:(0:Int)<((n+1:Nat):Int):=oO;have Df:((n+1:Nat):Int) - 1=(n:Int):=oO;obtain⟨a1,-⟩:=OJ l n q hq;by_cases h3:k=3
  ·refine A7 @h3 ?_;refine A3 tT FF ?_;exact AY [(b,CL l q)] @h3
  by_cases h4:k=4
  ·refine A7 @h4 ?_;refine A3 tT OX ?_;exact AY [(b,CL l q)] @h4
  by_cases h0:k=0
  ·refine A7 @h0 ?_;refine A3 tT BE ?_;exact AY [(b,CL l q)] @h0
  by_cases h1:k=1
  ·refine A7 @h1 ?_;refine A3 tT BE ?_;exact AY [(b,CL l q)] @h1
  by_cases h2:k=2
  ·refine A7 @h2 ?_;refine A3 tT BE ?_;exact AY [(b,CL l q)] @h2
  by_cases h5:k=5
  ·refine A7 (j2 @h5 @Cn) ?_;refine F9 @Df (ih q hq oO) (ih _ a1 oO) (WC (EA l n q).1 (EA l n (EA l n q).2).1) ?_;exact AY [(b,CL l (EA l n (EA l n q).2).2)] @h5
  have h6:k=6:=oO;refine A7 (j2 @h6 @Cn) ?_;refine F9 @Df (ih q hq oO) (ih _ a1 oO) (DJ (EA l n q).1 (EA l n (EA l n q).2).1) ?_;exact AY [(b,CL l (EA l n (EA l n q).2).2)] @h6
def UJ (g:List Ty)(t:Ty)(n:Nat):List Nat:=(List.range n).filter fun i=>(HJ g i).same t
theorem wX (g:List Ty)(t:Ty)(n:Nat):UJ g t (n+1)=if (HJ g n).same t=true then UJ g t n++[n] else UJ g t n:=by
 unfold UJ;rw[List.range_succ,List.filter_append];split <;> simp_all
theorem cO (g:List Ty)(t:Ty)(n:Nat):(UJ g t n).length<=n:=by
 have:=List.length_filter_le (fun i=>(HJ g i).same t) (List.range n)
 simpa [UJ] using this
def ZX (l:List Nat):List Int:=l.map Int.ofNat
theorem IY (l:List Nat):(ZX l).length=l.length:=by simp[ZX]
theorem z43 (l:List Nat)(n:Nat):ZX (l++[n])=ZX l++[(n:Int)]:=by simp[ZX]
theorem QC (g:List Ty)(t:Ty)(Iq:g.length<=1000000) :
  cT gl 118 [.sl (g.map Ty.cells),t.dv] [] (.sl (AH (ZX (ER g t)))) []:=by
 refine A6 Tryz.func118 ?_;intro X hP u6 hf u8 hn hR u5 u4;refine A2 ?_;refine BR ?_;refine AA [(1005,0)] (j3 @ZX.eq_1 @UJ.eq_1 @AK) (NG (g.length) (fun i=>True) (fun i=>[sV 9 (A0 i),sV 8 (A0 g.length),(.slot 5,.one (.own 1005 (AH (ZX (UJ g t i))))),(.tok 1005,.tk 1 (UJ g t i).length),sV 0 (.sl (g.map Ty.cells)),sL 3 [.v (A0 t.kind),.v (.sl (t.args.map Ty.cells))],sP 3,(.slot 4,.one (.own 0 []))]) (trivial) ?_ ?_)
 ·intro i hi _ u7;have Tx:=cO g t i;have hvt:=(PC hi).2;have Cy:(g.length:Int) - 1 - i=((g.length - 1 - i:Nat):Int):=oO;refine A5 ?_;refine AQ ?_;refine A2 ?_;refine A3 (j2 @Cy @hvt) (AV (HJ g i) t) ?_;have Zu:=wX g t i;by_cases hs:(HJ g i).same t=true
  ·rw[if_pos hs]at Zu;rw[Zu]at u7;refine CG (wr [(1005,25)]) (j4 @IY @z43 @XP @AK) (j2 @hs @IY) (u7 tT)
  ·rw[if_neg hs]at Zu;rw[Zu]at u7;refine CG (wr []) tT @hs (u7 tT)
 ·intro _;refine A5 ?_;refine B9 ?_;refine A2 ?_;exact AC (j2 @ER.eq_1 @UJ.eq_1)
theorem KB (g h:List Ty)(Iq:g.length+h.length<=1000000) :
  cT gl 120 [.sl (g.map Ty.cells),.sl (h.map Ty.cells)] [] (.sl ((g++h).map Ty.cells)) []:=by
 refine A6 Tryz.func120 ?_;intro X hP u6 hf u8 hn hR u5 u4;have Jk:g.length<=1000000:=oO;refine A2 ?_;exact AM
theorem cP {l:List Int}{t:Ty}{g:List Ty}{p q:Nat}(h:NK l t g p=(none,q)):((ER g t).length=0/\q=p)\/((ER g t).length≠0/\(AD l p 3).1=0/\q=(AD l p 3).2):=by
 unfold NK at h;split at h;· rename_i h0;cases h;exact .inl ⟨h0,rfl⟩
 ·rename_i h0;split at h;· rename_i h1;cases h;exact .inr ⟨h0,h1,rfl⟩
  ·cases h
theorem Z1 {l:List Int}{t:Ty}{g:List Ty}{p q:Nat}{x:Tm}(h:NK l t g p=(some x,q)):(ER g t).length≠0/\(AD l p 3).1≠0/\∃k i:Nat,(AD l (AD l p 3).2 (ER g t).length).1=k/\(ER g t)[k]? = some i/\x=vT i/\q=(AD l (AD l p 3).2 (ER g t).length).2:=by
 unfold NK at h;split at h;· cases h
 ·rename_i h0;split at h;· cases h
  ·rename_i h1;have hb:=DQ (l:=l) (p:=(AD l p 3).2) (n:=(ER g t).length) oO;cases h;obtain⟨k,hk⟩:∃k:Nat,(AD l (AD l p 3).2 (ER g t).length).1=k:=⟨_,(Int.toNat_of_nonneg hb.1).symm⟩;rw[hk]at hb;have Ac:k<(ER g t).length:=oO;refine⟨h0,h1,k,(ER g t)[k],hk,uB Ac,?_,rfl⟩;rw[hk,Int.toNat_natCast,List.getD_eq_getElem?_getD,uB Ac,Option.getD_some]
theorem kM (b:Nat)(l:List Int)(hl:l.length<=500)(t:Ty):∀(z:Int) (g:List Ty) (p:Nat),z<=0->t.count<=z+1000->t.small->(∀x∈g,x.small)->g.length+t.count<=1000000->p<=l.length ->
  cT gl 65 [DP b,.sl (g.map Ty.cells),t.dv,A0 z] [(b,CL l p)] (FP l t g p).1.dv [(b,CL l (FP l t g p).2)]:=by
 induction t using Ty.ind with
 | h t ih=>
 intro z g p hz Fv ht hg Hq hp;refine A6 Tryz.func65 ?_;intro X hP u6 hf u8 hn hR u5 u4;rw[cL l t g p ht.ok]at hR;have Hw:(ER g t).length<=g.length:=cO g t g.length;have Yb:=CO (n:=3) hp;have Ok:=DQ (l:=l) (p:=p) (n:=3) dD;rcases Jh:NK l t g p with⟨_|x,q⟩
 ·rw[Jh]at hR;simp only at hR;have hq:q<=l.length:=by have:=SB (t:=t) (g:=g) hp;rw[Jh]at this;exact this
  apply Q8 [sV 215 (AR (decide (t.kind=1))),sV 214 (A0 t.kind),sV 0 (DP b),sV 1 (.sl (g.map Ty.cells)),sV 3 (A0 z),sP 6,sL 6 [.v (A0 t.kind),.v (.sl (t.args.map Ty.cells))],sP 8,sL 8 [.v (A0 0),.v (A0 0),.v (A0 0),.own 0 [],.own 0 []],sB  b [.v (.sl (AH l)),.v (A0 q)]]
  ·intro Aa;refine A2 ?_;refine A3 tT (QC g t oO) ?_;rcases cP Jh with⟨h0,rfl⟩|⟨h0,h1,rfl⟩
   ·refine A7 (j2 @IY @h0) ?_;refine GX ?_;refine AA [] tT Aa
   ·have Cn:0<(ER g t).length:=oO;refine A2 ?_;refine A3 (j3 @IY @Cn @h1) (DY b l p 3 dD oO) ?_;refine A7 @h1 ?_;refine GX ?_;refine AA [] tT Aa
  ·have Eb:¬0<z:=oO;rcases JU ht with⟨h,e⟩|⟨h,e⟩|⟨h,e⟩|⟨h,e⟩|⟨h,e⟩
   ·rw[if_pos h]at hR;have hb:=DQ (l:=l) (p:=q) (n:=3) dD;obtain⟨k,hk⟩:∃k:Nat,(AD l q 3).1=k:=⟨_,(Int.toNat_of_nonneg hb.1).symm⟩;rw[hk]at hb;refine A7 (j2 @Eb @h) ?_;refine BL @hk (DY b l q 3 dD oO) (L0 k oO) ?_;exact AY [(b,CL l (AD l q 3).2)] (j2 @cK.eq_1 @hk)
   ·rw[if_neg oO,if_pos h]at hR;refine A7 (j2 @Eb @h) ?_;refine A3 tT (BG 7 []) ?_;exact AY [(b,CL l q)] @nT.eq_1
   ·rw[if_neg oO,if_neg oO,if_neg oO,if_neg oO]at hR;refine A7 (j2 @Eb @h) ?_;refine A3 tT (BG 13 []) ?_;exact AY [(b,CL l q)] @nT.eq_1
   ·rw[if_neg oO,if_neg oO,if_pos h]at hR;obtain⟨s0,s1,hc⟩:=ht.arg (.inl h);have p0:=Ty.count_eq (t.arg 0);have p1:=Ty.count_eq (t.arg 1);have ha:t.args=[t.arg 0,t.arg 1]:=by rw[e];rfl
    obtain⟨a1,-⟩:=Z0 QB (t.arg 0) g q s0 hg hq;refine A7 (j2 @Eb @h) ?_;refine F9 @ha (ih (t.arg 0) (by rw[ha];simp) (z - 1) g q oO oO s0 hg oO hq) (ih (t.arg 1) (by rw[ha];simp) (z - 1) g (FP l (t.arg 0) g q).2 oO oO s1 hg oO a1) (BG 10 [(FP l (t.arg 0) g q).1,(FP l (t.arg 1) g (FP l (t.arg 0) g q).2).1]) ?_;exact AY [(b,CL l (FP l (t.arg 1) g (FP l (t.arg 0) g q).2).2)] @nT.eq_1
   ·rw[if_neg oO,if_neg oO,if_neg oO,if_pos h]at hR;obtain⟨s0,s1,hc⟩:=ht.arg (.inr h);have p0:=Ty.count_eq (t.arg 0);have p1:=Ty.count_eq (t.arg 1);have ha:t.args=[t.arg 0,t.arg 1]:=by rw[e];rfl
    have hgs:∀x∈g++[t.arg 0],x.small:=by intro x hx;rcases List.mem_append.1 hx with hx|hx;exact hg x hx;rw[List.mem_singleton.1 hx];exact s0
    refine A7 (j2 @Eb @h) ?_;refine F9 @ha (KB g [t.arg 0] (by simp;omega)) (ih (t.arg 1) (by rw[ha];simp) (z - 1) (g++[t.arg 0]) q oO oO s1 hgs (by simp;omega) hq) (E7 2 (t.arg 0) [(FP l (t.arg 1) (g++[t.arg 0]) q).1]) ?_;exact AY [(b,CL l (FP l (t.arg 1) (g++[t.arg 0]) q).2)] tT
 ·rw[Jh]at hR;simp only at hR;obtain⟨h0,h1,k,i,hk,hi,rfl,rfl⟩:=Z1 Jh;have Cn:0<(ER g t).length:=oO;have Jl:0<(AD l p 3).1:=oO;have Kg:=IU (l:=ZX (ER g t)) (i:=k) (n:=i) (by simp[ZX,hi]);have hkl:=(uA hi).1;refine A2 ?_;refine A3 tT (QC g t oO) ?_;refine A2 ?_;refine A3 (j3 @IY @Cn @Jl) (DY b l p 3 dD oO) ?_;refine A7 @Jl ?_;refine BL (j3 @IY @hk @Kg) (DY b l (AD l p 3).2 (ER g t).length oO oO) (FX i) ?_;exact AY [(b,CL l (AD l (AD l p 3).2 (ER g t).length).2)] @vT.eq_1
end
end Go.Proofs.YtkfiobkjflmchaaGreatDoor.Lift
