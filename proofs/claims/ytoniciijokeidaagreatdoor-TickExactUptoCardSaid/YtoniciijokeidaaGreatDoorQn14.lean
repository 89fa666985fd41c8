import Derived.Test.YtoniciijokeidaaGreatDoorQn13
set_option maxHeartbeats 8000000
set_option maxRecDepth 100000
set_option linter.unusedSimpArgs false
set_option linter.unusedVariables false
set_option linter.unnecessarySimpa false
namespace Go.Proofs.YtoniciijokeidaaGreatDoor.Lift
open Go
section
variable {gl:AF}
theorem zi8 (b:Nat)(G:List Ty):cT gl 50 [BC b,.sl (G.map Ty.cells),(nT 4 []).dv] [(b,DE 0)] (.tup [(AH 0 10 zY [nT 4 [],nT 4 []]).1.dv,(T.ty .nat).dv]) [(b,DE (AH 0 10 zY [nT 4 [],nT 4 []]).2)]:=by
 have w:=D1 (gl:=gl) b 0 (nT 4 []) (nT 4 []) dD dD;generalize AH 0 10 zY [nT 4 [],nT 4 []]=r at *;have Io:(nT 4 []).dv = .agg [A0 4,A0 0,A0 0,.sl [],.sl []]:=rfl;have Bv:(nT 4 []).dv = .agg [A0 4,A0 0,A0 0,.sl [],.sl []]:=rfl;have Ai:CE.dv=DV.agg [A0 1,.sl []]:=rfl;have Cz:(T.ty .nat).dv=DV.agg [A0 1,.sl []]:=rfl;have Dy:(T.ty .list).dv=DV.agg [A0 2,.sl []]:=rfl;have Xr:(T.ty .unit).dv=DV.agg [A0 5,.sl []]:=rfl;rw[Bv];refine A8 Tryz.func50 ?_;intro X hP u7 hf u9 hn hR u6 u5;refine A4 ?_;refine B4 ?_;refine A2 ?_;refine B6 ?_;refine A4 ?_;refine EW (j3 @Io @Ai @Dy) w JV ?_;exact AI [(b,DE r.2)] (j3 @Cz @Dy @Xr)
theorem znx (b:Nat)(G:List Ty):cT gl 50 [BC b,.sl (G.map Ty.cells),(nT 7 []).dv] [(b,DE 0)] (.tup [(AH 0 10 zY [nT 4 [],nT 7 []]).1.dv,(T.ty .list).dv]) [(b,DE (AH 0 10 zY [nT 4 [],nT 7 []]).2)]:=by
 have w:=D1 (gl:=gl) b 0 (nT 4 []) (nT 7 []) dD dD;generalize AH 0 10 zY [nT 4 [],nT 7 []]=r at *;have Io:(nT 4 []).dv = .agg [A0 4,A0 0,A0 0,.sl [],.sl []]:=rfl;have Bv:(nT 7 []).dv = .agg [A0 7,A0 0,A0 0,.sl [],.sl []]:=rfl;have Ai:CE.dv=DV.agg [A0 1,.sl []]:=rfl;have Cz:(T.ty .nat).dv=DV.agg [A0 1,.sl []]:=rfl;have Dy:(T.ty .list).dv=DV.agg [A0 2,.sl []]:=rfl;have Xr:(T.ty .unit).dv=DV.agg [A0 5,.sl []]:=rfl;rw[Bv];rw[Bv]at w;refine A8 Tryz.func50 ?_;intro X hP u7 hf u9 hn hR u6 u5;refine A4 ?_;refine B4 ?_;refine A2 ?_;refine B6 ?_;refine A4 ?_;refine EW (j3 @Io @Ai @Dy) w NU ?_;exact AI [(b,DE r.2)] (j3 @Cz @Dy @Xr)
theorem zi9 (b:Nat)(G:List Ty):cT gl 50 [BC b,.sl (G.map Ty.cells),(nT 13 []).dv] [(b,DE 0)] (.tup [(AH 0 10 zY [nT 4 [],nT 13 []]).1.dv,(T.ty .unit).dv]) [(b,DE (AH 0 10 zY [nT 4 [],nT 13 []]).2)]:=by
 have w:=D1 (gl:=gl) b 0 (nT 4 []) (nT 13 []) dD dD;generalize AH 0 10 zY [nT 4 [],nT 13 []]=r at *;have Io:(nT 4 []).dv = .agg [A0 4,A0 0,A0 0,.sl [],.sl []]:=rfl;have Bv:(nT 13 []).dv = .agg [A0 13,A0 0,A0 0,.sl [],.sl []]:=rfl;have Ai:CE.dv=DV.agg [A0 1,.sl []]:=rfl;have Cz:(T.ty .nat).dv=DV.agg [A0 1,.sl []]:=rfl;have Dy:(T.ty .list).dv=DV.agg [A0 2,.sl []]:=rfl;have Xr:(T.ty .unit).dv=DV.agg [A0 5,.sl []]:=rfl;rw[Bv];rw[Bv]at w;refine A8 Tryz.func50 ?_;intro X hP u7 hf u9 hn hR u6 u5;refine A4 ?_;refine B4 ?_;refine A2 ?_;refine B6 ?_;refine A4 ?_;refine A3 (j3 @Io @Ai @Dy) w ?_;exact AI [(b,DE r.2)] (j3 @Cz @Dy @Xr)
theorem zia (b:Nat)(G:List Ty)(x:Tm)(f1:Tm × Int)(y1:Ty)
  (hx:cT gl 50 [BC b,.sl (G.map Ty.cells),x.dv] [(b,DE 0)] (.tup [f1.1.dv,y1.dv]) [(b,DE f1.2)])
  (e1:f1.2=0->y1=((.nat:T)).ty) (n1:f1.1.count<=4096)
  :
  cT gl 50 [BC b,.sl (G.map Ty.cells),(nT 5 [x]).dv] [(b,DE 0)] (if f1.2=0 then .tup [(ZB 5 T.nat f1.1).1.dv,(T.nat).ty.dv] else .tup [AA.dv,A9.dv]) [(b,DE (if f1.2=0 then (ZB 5 T.nat f1.1).2 else f1.2))]:=by
 obtain⟨w,f,s,n,c,z0,z1,z2,z3,z4,z5⟩:=UG 5 T.nat f1.1;obtain⟨r,hr⟩:∃r,r=ZB 5 T.nat f1.1:=⟨_,rfl⟩;rw[<- hr];rw[<- hr]at z5;clear hr;have kw:=D2 (gl:=gl) b 0 T.nat (BX T.nat);rw[<- z0]at kw;have fw:=Ty.fold w.1;have kf:=CA (gl:=gl) b w.2 0;rw[<- z1]at kf;have nf:f.1.count<=4096:=by rw[z1];exact A6 _ _ _ _
 have tf:=Tm.fold f.1;have ks:=BL (gl:=gl) b f.2 0;rw[<- z2]at ks;have ns:s.1.count<=4096:=by rw[z2];exact A6 _ _ _ _
 have ts:=Tm.fold s.1;have kn:=CT (gl:=gl) b s.2 5 [s.1] (by rw[UR];omega);rw[<- z3]at kn;have nn:n.1.count<=4096:=by rw[z3];exact A6 _ _ _ _
 have tn:=Tm.fold n.1;have kc:=D1 (gl:=gl) b n.2 f.1 n.1 oO oO;rw[<- z4]at kc;have nc:c.1.count<=4096:=by rw[z4];exact A6 _ _ _ _
 have tc:=Tm.fold c.1;have kr:=E4 (gl:=gl) b c.2 w.1 f1.1 c.1 oO oO;rw[<- z5]at kr;have An:=Tm.cells_eq x;have fx:=Tm.fold x;have Bx:=Tm.fold f1.1;have Ea:=Ty.fold y1;have Io:(nT 4 []).dv = .agg [A0 4,A0 0,A0 0,.sl [],.sl []]:=rfl;have Hg:A9.dv = .agg [A0 0,.sl []]:=rfl;have Ai:CE.dv=DV.agg [A0 1,.sl []]:=rfl;have Cz:(T.ty .nat).dv=DV.agg [A0 1,.sl []]:=rfl;have Dy:(T.ty .list).dv=DV.agg [A0 2,.sl []]:=rfl;rw[Cz]at kw;have Bv:(nT 5 [x]).dv = .agg [A0 5,A0 0,A0 0,.sl [],.sl [x.cells]]:=by first|rfl|(rw[Tm.dv,Tm.cells_eq];rfl)
 rw[Bv];refine A8 Tryz.func50 ?_;intro X hP u7 hf u9 hn hR u6 u5;refine A4 ?_;refine B4 ?_;refine A2 ?_;refine AE ?_;refine A7 @An ?_;refine A3 @fx hx ?_;by_cases q1:f1.2=0;rotate_left
 ·rw[if_neg q1,if_neg q1]at hR;refine A7 @q1 ?_;exact AI [(b,DE f1.2)] (j2 @AA.eq_1 @Hg)
 rw[if_pos q1,if_pos q1]at hR;rw[q1]at hx;refine A7 @q1 ?_;refine AB ?_;refine A2 ?_;refine B6 ?_;have Is:=e1 q1;subst Is;clear e1 Ea;have Ob:T.nat.ty.kind=1:=rfl;have Oa:T.nat.ty.args=[]:=rfl;rw[Ob,Oa];refine A4 ?_;refine A3 @Ai JV ?_;refine A4 ?_;refine z35 (j7 @fw @Bx @tf @ts @tn @tc @Cz) kw kf ks kn kc kr ?_;exact AI [(b,DE r.2)] @Cz
theorem zny (b:Nat)(G:List Ty)(x:Tm)(f1:Tm × Int)(y1:Ty)(a d:T)
  (hx:cT gl 50 [BC b,.sl (G.map Ty.cells),x.dv] [(b,DE 0)] (.tup [f1.1.dv,y1.dv]) [(b,DE f1.2)])
  (e1:f1.2=0->y1=((.pair a d:T)).ty) (n1:f1.1.count<=4096)
  :
  cT gl 50 [BC b,.sl (G.map Ty.cells),(nT 11 [x]).dv] [(b,DE 0)] (if f1.2=0 then .tup [(ZB 11 (T.pair a d) f1.1).1.dv,(a).ty.dv] else .tup [AA.dv,A9.dv]) [(b,DE (if f1.2=0 then (ZB 11 (T.pair a d) f1.1).2 else f1.2))]:=by
 obtain⟨w,f,s,n,c,z0,z1,z2,z3,z4,z5⟩:=UG 11 (T.pair a d) f1.1;obtain⟨r,hr⟩:∃r,r=ZB 11 (T.pair a d) f1.1:=⟨_,rfl⟩;rw[<- hr];rw[<- hr]at z5;clear hr;have kw:=D2 (gl:=gl) b 0 (T.pair a d) (BX (T.pair a d));rw[<- z0]at kw;have fw:=Ty.fold w.1;have kf:=CA (gl:=gl) b w.2 0;rw[<- z1]at kf;have nf:f.1.count<=4096:=by rw[z1];exact A6 _ _ _ _
 have tf:=Tm.fold f.1;have ks:=BL (gl:=gl) b f.2 0;rw[<- z2]at ks;have ns:s.1.count<=4096:=by rw[z2];exact A6 _ _ _ _
 have ts:=Tm.fold s.1;have kn:=CT (gl:=gl) b s.2 11 [s.1] (by rw[UR];omega);rw[<- z3]at kn;have nn:n.1.count<=4096:=by rw[z3];exact A6 _ _ _ _
 have tn:=Tm.fold n.1;have kc:=D1 (gl:=gl) b n.2 f.1 n.1 oO oO;rw[<- z4]at kc;have nc:c.1.count<=4096:=by rw[z4];exact A6 _ _ _ _
 have tc:=Tm.fold c.1;have kr:=E4 (gl:=gl) b c.2 w.1 f1.1 c.1 oO oO;rw[<- z5]at kr;have An:=Tm.cells_eq x;have fx:=Tm.fold x;have Bx:=Tm.fold f1.1;have Ea:=Ty.fold y1;have Io:(nT 4 []).dv = .agg [A0 4,A0 0,A0 0,.sl [],.sl []]:=rfl;have Hg:A9.dv = .agg [A0 0,.sl []]:=rfl;have Ai:CE.dv=DV.agg [A0 1,.sl []]:=rfl;have Cz:(T.ty .nat).dv=DV.agg [A0 1,.sl []]:=rfl;have Dy:(T.ty .list).dv=DV.agg [A0 2,.sl []]:=rfl;have Bv:(nT 11 [x]).dv = .agg [A0 11,A0 0,A0 0,.sl [],.sl [x.cells]]:=by first|rfl|(rw[Tm.dv,Tm.cells_eq];rfl)
 rw[Bv];refine A8 Tryz.func50 ?_;intro X hP u7 hf u9 hn hR u6 u5;refine A4 ?_;refine B4 ?_;refine A2 ?_;refine AE ?_;refine A7 @An ?_;refine A3 @fx hx ?_;by_cases q1:f1.2=0;rotate_left
 ·rw[if_neg q1,if_neg q1]at hR;refine A7 @q1 ?_;exact AI [(b,DE f1.2)] (j2 @AA.eq_1 @Hg)
 rw[if_pos q1,if_pos q1]at hR;rw[q1]at hx;refine A7 @q1 ?_;refine AB ?_;refine A2 ?_;refine B6 ?_;have Is:=e1 q1;subst Is;clear e1;have Ob:(T.pair a d).ty.kind=3:=rfl;have Oa:(T.pair a d).ty.args.map Ty.cells=[a.ty.cells,d.ty.cells]:=rfl;have Df:=Ty.cells_eq a.ty;have Cw:=Ty.cells_eq d.ty;have fa:=Ty.fold a.ty;have fc:=Ty.fold d.ty;rw[Ob,Oa]at Ea ⊢;rw[Df,Cw]at Ea;refine A4 ?_;refine A3 @Ai JV ?_;refine A7 (j2 @Df @Cw) ?_;refine z35 (j7 @fw @Bx @tf @ts @tn @tc @Ea) kw kf ks kn kc kr ?_;exact AI [(b,DE r.2)] (j4 @fa @fc @Df @Cw)
theorem znz (b:Nat)(G:List Ty)(x:Tm)(f1:Tm × Int)(y1:Ty)(a d:T)
  (hx:cT gl 50 [BC b,.sl (G.map Ty.cells),x.dv] [(b,DE 0)] (.tup [f1.1.dv,y1.dv]) [(b,DE f1.2)])
  (e1:f1.2=0->y1=((.pair a d:T)).ty) (n1:f1.1.count<=4096)
  :
  cT gl 50 [BC b,.sl (G.map Ty.cells),(nT 12 [x]).dv] [(b,DE 0)] (if f1.2=0 then .tup [(ZB 12 (T.pair a d) f1.1).1.dv,(d).ty.dv] else .tup [AA.dv,A9.dv]) [(b,DE (if f1.2=0 then (ZB 12 (T.pair a d) f1.1).2 else f1.2))]:=by
 obtain⟨w,f,s,n,c,z0,z1,z2,z3,z4,z5⟩:=UG 12 (T.pair a d) f1.1;obtain⟨r,hr⟩:∃r,r=ZB 12 (T.pair a d) f1.1:=⟨_,rfl⟩;rw[<- hr];rw[<- hr]at z5;clear hr;have kw:=D2 (gl:=gl) b 0 (T.pair a d) (BX (T.pair a d));rw[<- z0]at kw;have fw:=Ty.fold w.1;have kf:=CA (gl:=gl) b w.2 0;rw[<- z1]at kf;have nf:f.1.count<=4096:=by rw[z1];exact A6 _ _ _ _
 have tf:=Tm.fold f.1;have ks:=BL (gl:=gl) b f.2 0;rw[<- z2]at ks;have ns:s.1.count<=4096:=by rw[z2];exact A6 _ _ _ _
 have ts:=Tm.fold s.1;have kn:=CT (gl:=gl) b s.2 12 [s.1] (by rw[UR];omega);rw[<- z3]at kn;have nn:n.1.count<=4096:=by rw[z3];exact A6 _ _ _ _
 have tn:=Tm.fold n.1;have kc:=D1 (gl:=gl) b n.2 f.1 n.1 oO oO;rw[<- z4]at kc;have nc:c.1.count<=4096:=by rw[z4];exact A6 _ _ _ _
 have tc:=Tm.fold c.1;have kr:=E4 (gl:=gl) b c.2 w.1 f1.1 c.1 oO oO;rw[<- z5]at kr;have An:=Tm.cells_eq x;have fx:=Tm.fold x;have Bx:=Tm.fold f1.1;have Ea:=Ty.fold y1;have Io:(nT 4 []).dv = .agg [A0 4,A0 0,A0 0,.sl [],.sl []]:=rfl;have Hg:A9.dv = .agg [A0 0,.sl []]:=rfl;have Ai:CE.dv=DV.agg [A0 1,.sl []]:=rfl;have Cz:(T.ty .nat).dv=DV.agg [A0 1,.sl []]:=rfl;have Dy:(T.ty .list).dv=DV.agg [A0 2,.sl []]:=rfl;have Bv:(nT 12 [x]).dv = .agg [A0 12,A0 0,A0 0,.sl [],.sl [x.cells]]:=by first|rfl|(rw[Tm.dv,Tm.cells_eq];rfl)
 rw[Bv];refine A8 Tryz.func50 ?_;intro X hP u7 hf u9 hn hR u6 u5;refine A4 ?_;refine B4 ?_;refine A2 ?_;refine AE ?_;refine A7 @An ?_;refine A3 @fx hx ?_;by_cases q1:f1.2=0;rotate_left
 ·rw[if_neg q1,if_neg q1]at hR;refine A7 @q1 ?_;exact AI [(b,DE f1.2)] (j2 @AA.eq_1 @Hg)
 rw[if_pos q1,if_pos q1]at hR;rw[q1]at hx;refine A7 @q1 ?_;refine AB ?_;refine A2 ?_;refine B6 ?_;have Is:=e1 q1;subst Is;clear e1;have Ob:(T.pair a d).ty.kind=3:=rfl;have Oa:(T.pair a d).ty.args.map Ty.cells=[a.ty.cells,d.ty.cells]:=rfl;have Df:=Ty.cells_eq a.ty;have Cw:=Ty.cells_eq d.ty;have fa:=Ty.fold a.ty;have fc:=Ty.fold d.ty;rw[Ob,Oa]at Ea ⊢;rw[Df,Cw]at Ea;refine A4 ?_;refine A3 @Ai JV ?_;refine A7 (j2 @Df @Cw) ?_;refine z35 (j7 @fw @Bx @tf @ts @tn @tc @Ea) kw kf ks kn kc kr ?_;exact AI [(b,DE r.2)] (j4 @fa @fc @Df @Cw)
theorem zib (b:Nat)(G:List Ty)(x y:Tm)(f1 f2:Tm × Int)(y1 y2:Ty)
  (hx:cT gl 50 [BC b,.sl (G.map Ty.cells),x.dv] [(b,DE 0)] (.tup [f1.1.dv,y1.dv]) [(b,DE f1.2)])
  (hy:cT gl 50 [BC b,.sl (G.map Ty.cells),y.dv] [(b,DE 0)] (.tup [f2.1.dv,y2.dv]) [(b,DE f2.2)])
  (e1:f1.2=0->y1=((.nat:T)).ty) (n1:f1.1.count<=4096)
  (e2:f2.2=0->y2=((.list:T)).ty) (n2:f2.1.count<=4096)
  (i2:f2.2=0->f2.1.shape=true/\f2.1.idx 549755813888)
  :
  cT gl 50 [BC b,.sl (G.map Ty.cells),(nT 8 [x,y]).dv] [(b,DE 0)] (if f1.2=0 then if f2.2=0 then .tup [(QB 8 T.nat T.list f1.1 f2.1).1.dv,(T.list).ty.dv] else .tup [AA.dv,A9.dv] else .tup [AA.dv,A9.dv]) [(b,DE (if f1.2=0 then if f2.2=0 then (QB 8 T.nat T.list f1.1 f2.1).2 else f2.2 else f1.2))]:=by
 obtain⟨g1,g0,s,s1,s0,n,c,w0,w1,m,z0,z1,z2,z3,z4,z5,z6,z7,z8,z9,Bu⟩:=SS 8 T.nat T.list f1.1 f2.1;obtain⟨r,hr⟩:∃r,r=QB 8 T.nat T.list f1.1 f2.1:=⟨_,rfl⟩;rw[<- hr];rw[<- hr]at Bu;clear hr;have nu2:(f2.1.upN 0 1).count<=4096:=by rw[FM];exact n2
 have Jc:=CA (gl:=gl) b 0 1;rw[<- z0]at Jc;have Wt:g1.1.count<=4096:=by rw[z0];exact A6 _ _ _ _
 have Qu:=Tm.fold g1.1;have Iy:=CA (gl:=gl) b g1.2 0;rw[<- z1]at Iy;have Xd:g0.1.count<=4096:=by rw[z1];exact A6 _ _ _ _
 have Rg:=Tm.fold g0.1;have ks:=QR (gl:=gl) b g0.2 g1.1 [g0.1] oO (by intro x hx;simp only[List.mem_cons,List.not_mem_nil,or_false]at hx;rcases hx with rfl <;> omega) sS;rw[<- z2]at ks;have ns:s.1.count<=268435456:=by rw[z2];exact I5 _ _ _ oO
 have ts:=Tm.fold s.1;have Fp:=BL (gl:=gl) b s.2 1;rw[<- z3]at Fp;have ns1:s1.1.count<=4096:=by rw[z3];exact A6 _ _ _ _
 have ts1:=Tm.fold s1.1;have Dc:=BL (gl:=gl) b s1.2 0;rw[<- z4]at Dc;have ns0:s0.1.count<=4096:=by rw[z4];exact A6 _ _ _ _
 have Zv:=Tm.fold s0.1;have kn:=CT (gl:=gl) b s0.2 8 [s1.1,s0.1] (by rw[Z4];omega);rw[<- z5]at kn;have nn:n.1.count<=4096:=by rw[z5];exact A6 _ _ _ _
 have tn:=Tm.fold n.1;have kc:=D1 (gl:=gl) b n.2 s.1 n.1 oO oO;rw[<- z6]at kc;have nc:c.1.count<=4096:=by rw[z6];exact A6 _ _ _ _
 have tc:=Tm.fold c.1;have Hu:=D2 (gl:=gl) b c.2 T.nat (BX T.nat);rw[<- z7]at Hu;have Rx:=Ty.fold w0.1;have It:=D2 (gl:=gl) b w0.2 T.list (BX T.list);rw[<- z8]at It;have Ra:=Ty.fold w1.1;have km:=E4 (gl:=gl) b w1.2 w1.1 (f2.1.upN 0 1) c.1 oO oO;rw[<- z9]at km;have nm:m.1.count<=4096:=by rw[z9];exact A6 _ _ _ _
 have tm:=Tm.fold m.1;have kr:=E4 (gl:=gl) b m.2 w0.1 f1.1 m.1 oO oO;rw[<- Bu]at kr;have An:=Tm.cells_eq x;have fx:=Tm.fold x;have Bp:=Tm.cells_eq y;have fy:=Tm.fold y;have Bx:=Tm.fold f1.1;have Ea:=Ty.fold y1;have Jf:=Tm.fold f2.1;have Qv:=Ty.fold y2;have Ml:=Tm.fold (f2.1.upN 0 1);have Io:(nT 4 []).dv = .agg [A0 4,A0 0,A0 0,.sl [],.sl []]:=rfl;have Hg:A9.dv = .agg [A0 0,.sl []]:=rfl;have Ai:CE.dv=DV.agg [A0 1,.sl []]:=rfl;have Cz:(T.ty .nat).dv=DV.agg [A0 1,.sl []]:=rfl;have Dy:(T.ty .list).dv=DV.agg [A0 2,.sl []]:=rfl;have Bv:(nT 8 [x,y]).dv = .agg [A0 8,A0 0,A0 0,.sl [],.sl [x.cells,y.cells]]:=by first|rfl|(rw[Tm.dv,Tm.cells_eq];rfl)
 rw[Bv];refine A8 Tryz.func50 ?_;intro X hP u7 hf u9 hn hR u6 u5;refine A4 ?_;refine B4 ?_;refine A2 ?_;refine AE ?_;refine A7 (j2 @An @Bp) ?_;refine A3 @fx hx ?_;by_cases q1:f1.2=0;rotate_left
 ·rw[if_neg q1,if_neg q1]at hR;refine A7 @q1 ?_;exact AI [(b,DE f1.2)] (j2 @AA.eq_1 @Hg)
 rw[if_pos q1,if_pos q1]at hR;rw[q1]at hx;refine A7 @q1 ?_;refine AC (s':=[sV 0 (BC b),sV 1 (.sl (G.map Ty.cells)),sP 5,sL 5 [.v (A0 8),.v (A0 0),.v (A0 0),.v (.sl []),.v (.sl [x.cells,y.cells])],sP 6,sL 6 [.v (A0 0),.v (A0 0),.v (A0 0),.own 0 [],.own 0 []],sP 7,sL 7 [.v (A0 0),.own 0 []],(.slot 8,.one (.own 1058 [[A0 f1.1.kind,A0 f1.1.index,A0 f1.1.type.kind,.sl (f1.1.type.args.map Ty.cells),.sl (f1.1.args.map Tm.cells)]])),(.tok 1058,.tk 5 1),(.slot 9,.one (.own 1062 [[A0 y1.kind,.sl (y1.args.map Ty.cells)]])),(.tok 1062,.tk 2 1),sV 10 (.sl (G.map Ty.cells)),sV 35 (.sl [x.cells,y.cells]),sV 36 (A0 2),sV 37 (A0 1),sB  b [.v (A0 0)]]) [(1058,58),(1062,62)] (j2 @An @Bp) ?_;refine AB ?_;refine A2 ?_;refine AE ?_;refine A7 (j2 @An @Bp) ?_;refine A3 @fy hy ?_;by_cases q2:f2.2=0;rotate_left
 ·rw[if_neg q2,if_neg q2]at hR;refine A7 @q2 ?_;exact AI [(b,DE f2.2)] (j2 @AA.eq_1 @Hg)
 rw[if_pos q2,if_pos q2]at hR;rw[q2]at hy;refine A7 @q2 ?_;refine AB ?_;refine A2 ?_;refine B6 ?_;have Is:=e1 q1;have Py:=e2 q2;have ku:=US (gl:=gl) f2.1 1 (i2 q2).1 (i2 q2).2 dD dD oO;subst Is Py;clear e1 e2 i2;have Ob:T.nat.ty.kind=1:=rfl;have Oa:T.nat.ty.args=[]:=rfl;have hzk:T.list.ty.kind=2:=rfl;have hza:T.list.ty.args=[]:=rfl;rw[Ob,Oa,hzk,hza];rw[Cz]at Hu;rw[Dy]at It;refine A4 ?_;refine A3 @Dy NU ?_;refine A4 ?_;refine iN (j7 @Qu @Rg @ts @ts1 @Zv @tn @tc) Jc Iy ks Fp Dc kn kc ?_;refine tD (j8 @Cz @Dy @Rx @Ra @Bx @Jf @Ml (j2 @tc @tm)) Hu It ku km kr ?_;exact AI [(b,DE r.2)] @Dy
theorem zic (b:Nat)(G:List Ty)(x y:Tm)(f1 f2:Tm × Int)(y1 y2:Ty)(a d:T)
  (hx:cT gl 50 [BC b,.sl (G.map Ty.cells),x.dv] [(b,DE 0)] (.tup [f1.1.dv,y1.dv]) [(b,DE f1.2)])
  (hy:cT gl 50 [BC b,.sl (G.map Ty.cells),y.dv] [(b,DE 0)] (.tup [f2.1.dv,y2.dv]) [(b,DE f2.2)])
  (e1:f1.2=0->y1=((a:T)).ty) (n1:f1.1.count<=4096)
  (e2:f2.2=0->y2=((d:T)).ty) (n2:f2.1.count<=4096)
  (i2:f2.2=0->f2.1.shape=true/\f2.1.idx 549755813888)
  :
  cT gl 50 [BC b,.sl (G.map Ty.cells),(nT 10 [x,y]).dv] [(b,DE 0)] (if f1.2=0 then if f2.2=0 then .tup [(QB 10 a d f1.1 f2.1).1.dv,(T.pair a d).ty.dv] else .tup [AA.dv,A9.dv] else .tup [AA.dv,A9.dv]) [(b,DE (if f1.2=0 then if f2.2=0 then (QB 10 a d f1.1 f2.1).2 else f2.2 else f1.2))]:=by
 obtain⟨g1,g0,s,s1,s0,n,c,w0,w1,m,z0,z1,z2,z3,z4,z5,z6,z7,z8,z9,Bu⟩:=SS 10 a d f1.1 f2.1;obtain⟨r,hr⟩:∃r,r=QB 10 a d f1.1 f2.1:=⟨_,rfl⟩;rw[<- hr];rw[<- hr]at Bu;clear hr;have nu2:(f2.1.upN 0 1).count<=4096:=by rw[FM];exact n2
 have Jc:=CA (gl:=gl) b 0 1;rw[<- z0]at Jc;have Wt:g1.1.count<=4096:=by rw[z0];exact A6 _ _ _ _
 have Qu:=Tm.fold g1.1;have Iy:=CA (gl:=gl) b g1.2 0;rw[<- z1]at Iy;have Xd:g0.1.count<=4096:=by rw[z1];exact A6 _ _ _ _
 have Rg:=Tm.fold g0.1;have ks:=QR (gl:=gl) b g0.2 g1.1 [g0.1] oO (by intro x hx;simp only[List.mem_cons,List.not_mem_nil,or_false]at hx;rcases hx with rfl <;> omega) sS;rw[<- z2]at ks;have ns:s.1.count<=268435456:=by rw[z2];exact I5 _ _ _ oO
 have ts:=Tm.fold s.1;have Fp:=BL (gl:=gl) b s.2 1;rw[<- z3]at Fp;have ns1:s1.1.count<=4096:=by rw[z3];exact A6 _ _ _ _
 have ts1:=Tm.fold s1.1;have Dc:=BL (gl:=gl) b s1.2 0;rw[<- z4]at Dc;have ns0:s0.1.count<=4096:=by rw[z4];exact A6 _ _ _ _
 have Zv:=Tm.fold s0.1;have kn:=CT (gl:=gl) b s0.2 10 [s1.1,s0.1] (by rw[Z4];omega);rw[<- z5]at kn;have nn:n.1.count<=4096:=by rw[z5];exact A6 _ _ _ _
 have tn:=Tm.fold n.1;have kc:=D1 (gl:=gl) b n.2 s.1 n.1 oO oO;rw[<- z6]at kc;have nc:c.1.count<=4096:=by rw[z6];exact A6 _ _ _ _
 have tc:=Tm.fold c.1;have Hu:=D2 (gl:=gl) b c.2 a (BX a);rw[<- z7]at Hu;have Rx:=Ty.fold w0.1;have It:=D2 (gl:=gl) b w0.2 d (BX d);rw[<- z8]at It;have Ra:=Ty.fold w1.1;have km:=E4 (gl:=gl) b w1.2 w1.1 (f2.1.upN 0 1) c.1 oO oO;rw[<- z9]at km;have nm:m.1.count<=4096:=by rw[z9];exact A6 _ _ _ _
 have tm:=Tm.fold m.1;have kr:=E4 (gl:=gl) b m.2 w0.1 f1.1 m.1 oO oO;rw[<- Bu]at kr;have An:=Tm.cells_eq x;have fx:=Tm.fold x;have Bp:=Tm.cells_eq y;have fy:=Tm.fold y;have Bx:=Tm.fold f1.1;have Ea:=Ty.fold y1;have Jf:=Tm.fold f2.1;have Qv:=Ty.fold y2;have Ml:=Tm.fold (f2.1.upN 0 1);have Io:(nT 4 []).dv = .agg [A0 4,A0 0,A0 0,.sl [],.sl []]:=rfl;have Hg:A9.dv = .agg [A0 0,.sl []]:=rfl;have Ai:CE.dv=DV.agg [A0 1,.sl []]:=rfl;have Cz:(T.ty .nat).dv=DV.agg [A0 1,.sl []]:=rfl;have Dy:(T.ty .list).dv=DV.agg [A0 2,.sl []]:=rfl;have Bv:(nT 10 [x,y]).dv = .agg [A0 10,A0 0,A0 0,.sl [],.sl [x.cells,y.cells]]:=by first|rfl|(rw[Tm.dv,Tm.cells_eq];rfl)
 rw[Bv];refine A8 Tryz.func50 ?_;intro X hP u7 hf u9 hn hR u6 u5;refine A4 ?_;refine B4 ?_;refine A2 ?_;refine AE ?_;refine A7 (j2 @An @Bp) ?_;refine A3 @fx hx ?_;by_cases q1:f1.2=0;rotate_left
 ·rw[if_neg q1,if_neg q1]at hR;refine A7 @q1 ?_;exact AI [(b,DE f1.2)] (j2 @AA.eq_1 @Hg)
 rw[if_pos q1,if_pos q1]at hR;rw[q1]at hx;refine A7 @q1 ?_;refine AC (s':=[sV 0 (BC b),sV 1 (.sl (G.map Ty.cells)),sP 5,sL 5 [.v (A0 10),.v (A0 0),.v (A0 0),.v (.sl []),.v (.sl [x.cells,y.cells])],sP 6,sL 6 [.v (A0 0),.v (A0 0),.v (A0 0),.own 0 [],.own 0 []],sP 7,sL 7 [.v (A0 0),.own 0 []],(.slot 8,.one (.own 1058 [[A0 f1.1.kind,A0 f1.1.index,A0 f1.1.type.kind,.sl (f1.1.type.args.map Ty.cells),.sl (f1.1.args.map Tm.cells)]])),(.tok 1058,.tk 5 1),(.slot 9,.one (.own 1062 [[A0 y1.kind,.sl (y1.args.map Ty.cells)]])),(.tok 1062,.tk 2 1),sV 10 (.sl (G.map Ty.cells)),sV 35 (.sl [x.cells,y.cells]),sV 36 (A0 2),sV 37 (A0 1),sB  b [.v (A0 0)]]) [(1058,58),(1062,62)] (j2 @An @Bp) ?_;refine AB ?_;refine A2 ?_;refine AE ?_;refine A7 (j2 @An @Bp) ?_;refine A3 @fy hy ?_;by_cases q2:f2.2=0;rotate_left
 ·rw[if_neg q2,if_neg q2]at hR;refine A7 @q2 ?_;exact AI [(b,DE f2.2)] (j2 @AA.eq_1 @Hg)
 rw[if_pos q2,if_pos q2]at hR;rw[q2]at hy;refine A7 @q2 ?_;refine AB ?_;refine A2 ?_;refine B6 ?_;have Is:=e1 q1;have Py:=e2 q2;have ku:=US (gl:=gl) f2.1 1 (i2 q2).1 (i2 q2).2 dD dD oO;subst Is Py;clear e1 e2 i2;have fa:=Ty.fold a.ty;have fc:=Ty.fold d.ty;have hpc:(T.pair a d).ty.dv = .agg [A0 3,.sl [a.ty.cells,d.ty.cells]]:=rfl;have Df:=Ty.cells_eq a.ty;have Cw:=Ty.cells_eq d.ty;refine A4 ?_;refine A3 @Dy NU ?_;refine A4 ?_;refine iN (j7 @Qu @Rg @ts @ts1 @Zv @tn @tc) Jc Iy ks Fp Dc kn kc ?_;refine tD (j8 @fa @fc @Rx @Ra @Bx @Jf @Ml (j2 @tc @tm)) Hu It ku km kr ?_;exact AI [(b,DE r.2)] (j3 @hpc @Df @Cw)
theorem zo0 (b:Nat)(G:List Ty)(x y:Tm)(f1 f2:Tm × Int)(y1 y2:Ty)(a d:T)
  (hx:cT gl 50 [BC b,.sl (G.map Ty.cells),x.dv] [(b,DE 0)] (.tup [f1.1.dv,y1.dv]) [(b,DE f1.2)])
  (hy:cT gl 50 [BC b,.sl (G.map Ty.cells),y.dv] [(b,DE 0)] (.tup [f2.1.dv,y2.dv]) [(b,DE f2.2)])
  (e1:f1.2=0->y1=((.fn a d:T)).ty) (n1:f1.1.count<=4096)
  (e2:f2.2=0->y2=((a:T)).ty) (n2:f2.1.count<=4096)
  (i2:f2.2=0->f2.1.shape=true/\f2.1.idx 549755813888)
  :
  cT gl 50 [BC b,.sl (G.map Ty.cells),(nT 3 [x,y]).dv] [(b,DE 0)] (if f1.2=0 then if f2.2=0 then .tup [(VP a d f1.1 f2.1).1.dv,(d).ty.dv] else .tup [AA.dv,A9.dv] else .tup [AA.dv,A9.dv]) [(b,DE (if f1.2=0 then if f2.2=0 then (VP a d f1.1 f2.1).2 else f2.2 else f1.2))]:=by
 obtain⟨s1,s0,c,g2,g1,g0,s,u,z,o,w1,w2,m2,m1,w0,z0,z1,z2,z3,z4,z5,z6,z7,z8,z9,Bu,Cj,Ce,Ch,Cl,Cr⟩:=VQ a d f1.1 f2.1;obtain⟨r,hr⟩:∃r,r=VP a d f1.1 f2.1:=⟨_,rfl⟩;rw[<- hr];rw[<- hr]at Cr;clear hr;have nu2:(f2.1.upN 0 1).count<=4096:=by rw[FM];exact n2
 have Fp:=BL (gl:=gl) b 0 1;rw[<- z0]at Fp;have ns1:s1.1.count<=4096:=by rw[z0];exact A6 _ _ _ _
 have ts1:=Tm.fold s1.1;have Dc:=BL (gl:=gl) b s1.2 0;rw[<- z1]at Dc;have ns0:s0.1.count<=4096:=by rw[z1];exact A6 _ _ _ _
 have Zv:=Tm.fold s0.1;have kc:=CT (gl:=gl) b s0.2 3 [s1.1,s0.1] (by rw[Z4];omega);rw[<- z2]at kc;have nc:c.1.count<=4096:=by rw[z2];exact A6 _ _ _ _
 have tc:=Tm.fold c.1;have Na:=CA (gl:=gl) b c.2 2;rw[<- z3]at Na;have ng2:g2.1.count<=4096:=by rw[z3];exact A6 _ _ _ _
 have Zn:=Tm.fold g2.1;have Jc:=CA (gl:=gl) b g2.2 1;rw[<- z4]at Jc;have Wt:g1.1.count<=4096:=by rw[z4];exact A6 _ _ _ _
 have Qu:=Tm.fold g1.1;have Iy:=CA (gl:=gl) b g1.2 0;rw[<- z5]at Iy;have Xd:g0.1.count<=4096:=by rw[z5];exact A6 _ _ _ _
 have Rg:=Tm.fold g0.1;have ks:=QR (gl:=gl) b g0.2 g2.1 [g1.1,g0.1] oO (by intro x hx;simp only[List.mem_cons,List.not_mem_nil,or_false]at hx;rcases hx with rfl|rfl <;> omega) sS;rw[<- z6]at ks;have ns:s.1.count<=268435456:=by rw[z6];exact I5 _ _ _ oO
 have ts:=Tm.fold s.1;have ku:=CT (gl:=gl) b s.2 5 [s.1] (by rw[UR];omega);rw[<- z7]at ku;have nu:u.1.count<=4096:=by rw[z7];exact A6 _ _ _ _
 have tu:=Tm.fold u.1;have kz:=BL (gl:=gl) b u.2 0;rw[<- z8]at kz;have nz:z.1.count<=4096:=by rw[z8];exact A6 _ _ _ _
 have tz:=Tm.fold z.1;have ko:=D1 (gl:=gl) b z.2 u.1 z.1 oO oO;rw[<- z9]at ko;have no:o.1.count<=4096:=by rw[z9];exact A6 _ _ _ _
 have to:=Tm.fold o.1;have It:=D2 (gl:=gl) b o.2 a (BX a);rw[<- Bu]at It;have Ra:=Ty.fold w1.1;have Nu:=D2 (gl:=gl) b w1.2 d (BX d);rw[<- Cj]at Nu;have Zw:=Ty.fold w2.1;have Pu:=E4 (gl:=gl) b w2.2 w2.1 c.1 o.1 oO oO;rw[<- Ce]at Pu;have nm2:m2.1.count<=4096:=by rw[Ce];exact A6 _ _ _ _
 have Wn:=Tm.fold m2.1;have Ms:=E4 (gl:=gl) b m2.2 w1.1 (f2.1.upN 0 1) m2.1 oO oO;rw[<- Ch]at Ms;have nm1:m1.1.count<=4096:=by rw[Ch];exact A6 _ _ _ _
 have Qf:=Tm.fold m1.1;have Hu:=D2 (gl:=gl) b m1.2 (T.fn a d) (BX (T.fn a d));rw[<- Cl]at Hu;have Rx:=Ty.fold w0.1;have kr:=E4 (gl:=gl) b w0.2 w0.1 f1.1 m1.1 oO oO;rw[<- Cr]at kr;have An:=Tm.cells_eq x;have fx:=Tm.fold x;have Bp:=Tm.cells_eq y;have fy:=Tm.fold y;have Bx:=Tm.fold f1.1;have Ea:=Ty.fold y1;have Jf:=Tm.fold f2.1;have Qv:=Ty.fold y2;have Ml:=Tm.fold (f2.1.upN 0 1);have Io:(nT 4 []).dv = .agg [A0 4,A0 0,A0 0,.sl [],.sl []]:=rfl;have Hg:A9.dv = .agg [A0 0,.sl []]:=rfl;have Ai:CE.dv=DV.agg [A0 1,.sl []]:=rfl;have Cz:(T.ty .nat).dv=DV.agg [A0 1,.sl []]:=rfl;have Dy:(T.ty .list).dv=DV.agg [A0 2,.sl []]:=rfl;have Bv:(nT 3 [x,y]).dv = .agg [A0 3,A0 0,A0 0,.sl [],.sl [x.cells,y.cells]]:=by first|rfl|(rw[Tm.dv,Tm.cells_eq];rfl)
 rw[Bv];refine A8 Tryz.func50 ?_;intro X hP u7 hf u9 hn hR u6 u5;refine A4 ?_;refine B4 ?_;refine A2 ?_;refine AE ?_;refine A7 (j2 @An @Bp) ?_;refine A3 @fx hx ?_;by_cases q1:f1.2=0;rotate_left
 ·rw[if_neg q1,if_neg q1]at hR;refine A7 @q1 ?_;exact AI [(b,DE f1.2)] (j2 @AA.eq_1 @Hg)
 rw[if_pos q1,if_pos q1]at hR;rw[q1]at hx;refine A7 @q1 ?_;refine AC (s':=[sV 0 (BC b),sV 1 (.sl (G.map Ty.cells)),sP 5,sL 5 [.v (A0 3),.v (A0 0),.v (A0 0),.v (.sl []),.v (.sl [x.cells,y.cells])],sP 6,sL 6 [.v (A0 0),.v (A0 0),.v (A0 0),.own 0 [],.own 0 []],sP 7,sL 7 [.v (A0 0),.own 0 []],(.slot 8,.one (.own 1058 [[A0 f1.1.kind,A0 f1.1.index,A0 f1.1.type.kind,.sl (f1.1.type.args.map Ty.cells),.sl (f1.1.args.map Tm.cells)]])),(.tok 1058,.tk 5 1),(.slot 9,.one (.own 1062 [[A0 y1.kind,.sl (y1.args.map Ty.cells)]])),(.tok 1062,.tk 2 1),sV 10 (.sl (G.map Ty.cells)),sV 35 (.sl [x.cells,y.cells]),sV 36 (A0 2),sV 37 (A0 1),sB  b [.v (A0 0)]]) [(1058,58),(1062,62)] (j2 @An @Bp) ?_;refine AB ?_;refine A2 ?_;refine AE ?_;refine A7 (j2 @An @Bp) ?_;refine A3 @fy hy ?_;by_cases q2:f2.2=0;rotate_left
 ·rw[if_neg q2,if_neg q2]at hR;refine A7 @q2 ?_;exact AI [(b,DE f2.2)] (j2 @AA.eq_1 @Hg)
 rw[if_pos q2,if_pos q2]at hR;rw[q2]at hy;refine A7 @q2 ?_;refine AB ?_;refine A2 ?_;refine B6 ?_;have Is:=e1 q1;have Py:=e2 q2;have kup:=US (gl:=gl) f2.1 1 (i2 q2).1 (i2 q2).2 dD dD oO;subst Is Py;clear e1 e2 i2;have Ob:(T.fn a d).ty.kind=4:=rfl;have Oa:(T.fn a d).ty.args.map Ty.cells=[a.ty.cells,d.ty.cells]:=rfl;have Df:=Ty.cells_eq a.ty;have Cw:=Ty.cells_eq d.ty;have fa:=Ty.fold a.ty;have fc:=Ty.fold d.ty;rw[Ob,Oa]at Ea ⊢;rw[Df,Cw]at Ea;refine A7 (j2 @Df @Cw) ?_;refine OL (j3 @ts1 @Zv @tc) Fp Dc kc ?_;refine iN (j7 @Zn @Qu @Rg @ts @tu @tz @to) Na Jc Iy ks ku kz ko ?_;refine tD (j8 @fa @fc @Ra @Zw @Jf @Ml @tc (j3 @to @Wn @Qf)) It kup Nu Pu Ms ?_;refine EW (j4 @Ea @Rx @Bx @Qf) Hu kr ?_;exact AI [(b,DE r.2)] (j2 @fc @Cw)
theorem zo1 (b:Nat)(G:List Ty)(x y z:Tm)(f1 f2 f3:Tm × Int)(y1 y2 y3:Ty)(a:T)
  (hx:cT gl 50 [BC b,.sl (G.map Ty.cells),x.dv] [(b,DE 0)] (.tup [f1.1.dv,y1.dv]) [(b,DE f1.2)])
  (hy:cT gl 50 [BC b,.sl (G.map Ty.cells),y.dv] [(b,DE 0)] (.tup [f2.1.dv,y2.dv]) [(b,DE f2.2)])
  (hz:cT gl 50 [BC b,.sl (G.map Ty.cells),z.dv] [(b,DE 0)] (.tup [f3.1.dv,y3.dv]) [(b,DE f3.2)])
  (e1:f1.2=0->y1=((a:T)).ty) (n1:f1.1.count<=4096)
  (e2:f2.2=0->y2=((T.fn .nat (.fn a a):T)).ty) (n2:f2.1.count<=4096)
  (e3:f3.2=0->y3=((T.nat:T)).ty) (n3:f3.1.count<=4096)
  (i2:f2.2=0->f2.1.shape=true/\f2.1.idx 549755813888)
  (i3:f3.2=0->f3.1.shape=true/\f3.1.idx 549755813888)
  (ho:(T.fn .nat (.fn a a)).ok) :
  cT gl 50 [BC b,.sl (G.map Ty.cells),(Tm.mk 6 0 a.ty [x,y,z]).dv] [(b,DE 0)] (if f1.2=0 then if f2.2=0 then if f3.2=0 then .tup [(DH 6 a a (T.fn .nat (.fn a a)) .nat f1.1 f2.1 f3.1).1.dv,(a).ty.dv] else .tup [AA.dv,A9.dv] else .tup [AA.dv,A9.dv] else .tup [AA.dv,A9.dv]) [(b,DE (if f1.2=0 then if f2.2=0 then if f3.2=0 then (DH 6 a a (T.fn .nat (.fn a a)) .nat f1.1 f2.1 f3.1).2 else f3.2 else f2.2 else f1.2))]:=by
 have An:=Tm.cells_eq x;have fx:=Tm.fold x;have Bp:=Tm.cells_eq y;have fy:=Tm.fold y;have Gi:=Tm.cells_eq z;have fz:=Tm.fold z;have Bx:=Tm.fold f1.1;have Ea:=Ty.fold y1;have Jf:=Tm.fold f2.1;have Qv:=Ty.fold y2;have Ml:=Tm.fold (f2.1.upN 0 1);have hg3:=Tm.fold f3.1;have hgy3:=Ty.fold y3;have hgu3:=Tm.fold (f3.1.upN 0 2);have Io:(nT 4 []).dv = .agg [A0 4,A0 0,A0 0,.sl [],.sl []]:=rfl;have Hg:A9.dv = .agg [A0 0,.sl []]:=rfl;have Ai:CE.dv=DV.agg [A0 1,.sl []]:=rfl;have Cz:(T.ty .nat).dv=DV.agg [A0 1,.sl []]:=rfl;have Dy:(T.ty .list).dv=DV.agg [A0 2,.sl []]:=rfl;have fa:=Ty.fold a.ty;have Df:=Ty.cells_eq a.ty;have Bv:(Tm.mk 6 0 a.ty [x,y,z]).dv = .agg [A0 6,A0 0,A0 a.ty.kind,.sl (a.ty.args.map Ty.cells),.sl [x.cells,y.cells,z.cells]]:=by first|rfl|(rw[Tm.dv,Tm.cells_eq];rfl)
 rw[Bv];refine A8 Tryz.func50 ?_;intro X hP u7 hf u9 hn hR u6 u5;refine A4 ?_;refine B4 ?_;refine A2 ?_;refine AE ?_;refine A7 (j3 @An @Bp @Gi) ?_;refine A3 @fx hx ?_;by_cases q1:f1.2=0;rotate_left
 ·rw[if_neg q1,if_neg q1]at hR;refine A7 @q1 ?_;exact AI [(b,DE f1.2)] (j2 @AA.eq_1 @Hg)
 rw[if_pos q1,if_pos q1]at hR;rw[q1]at hx;refine A7 @q1 ?_;have J0:=j3 @An @Bp @Gi;refine AC (s':=[sV 0 (BC b),sV 1 (.sl (G.map Ty.cells)),sP 5,sL 5 [.v (A0 6),.v (A0 0),.v (A0 a.ty.kind),.v (.sl (a.ty.args.map Ty.cells)),.v (.sl [x.cells,y.cells,z.cells])],sP 6,sL 6 [.v (A0 0),.v (A0 0),.v (A0 0),.own 0 [],.own 0 []],sP 7,sL 7 [.v (A0 0),.own 0 []],(.slot 8,.one (.own 1058 [[A0 f1.1.kind,A0 f1.1.index,A0 f1.1.type.kind,.sl (f1.1.type.args.map Ty.cells),.sl (f1.1.args.map Tm.cells)]])),(.tok 1058,.tk 5 1),(.slot 9,.one (.own 1062 [[A0 y1.kind,.sl (y1.args.map Ty.cells)]])),(.tok 1062,.tk 2 1),sV 10 (.sl (G.map Ty.cells)),sV 35 (.sl [x.cells,y.cells,z.cells]),sV 36 (A0 3),sV 37 (A0 1),sB  b [.v (A0 0)]]) [(1058,58),(1062,62)] J0 ?_;refine AB ?_;refine A2 ?_;refine AE ?_;refine A7 J0 ?_;refine A3 @fy hy ?_;by_cases q2:f2.2=0;rotate_left
 ·rw[if_neg q2,if_neg q2]at hR;refine A7 @q2 ?_;exact AI [(b,DE f2.2)] (j2 @AA.eq_1 @Hg)
 rw[if_pos q2,if_pos q2]at hR;rw[q2]at hy;refine A7 @q2 ?_;have J1:=j3 @An @Bp @Gi;refine AC (s':=[sV 0 (BC b),sV 1 (.sl (G.map Ty.cells)),sP 5,sL 5 [.v (A0 6),.v (A0 0),.v (A0 a.ty.kind),.v (.sl (a.ty.args.map Ty.cells)),.v (.sl [x.cells,y.cells,z.cells])],sP 6,sL 6 [.v (A0 0),.v (A0 0),.v (A0 0),.own 0 [],.own 0 []],sP 7,sL 7 [.v (A0 0),.own 0 []],(.slot 8,.one (.own 1058 [[A0 f1.1.kind,A0 f1.1.index,A0 f1.1.type.kind,.sl (f1.1.type.args.map Ty.cells),.sl (f1.1.args.map Tm.cells)],[A0 f2.1.kind,A0 f2.1.index,A0 f2.1.type.kind,.sl (f2.1.type.args.map Ty.cells),.sl (f2.1.args.map Tm.cells)]])),(.tok 1058,.tk 5 2),(.slot 9,.one (.own 1062 [[A0 y1.kind,.sl (y1.args.map Ty.cells)],[A0 y2.kind,.sl (y2.args.map Ty.cells)]])),(.tok 1062,.tk 2 2),sV 10 (.sl (G.map Ty.cells)),sV 35 (.sl [x.cells,y.cells,z.cells]),sV 36 (A0 3),sV 37 (A0 2),sB  b [.v (A0 0)]]) [(1058,58),(1062,62)] J1 ?_;refine AB ?_;refine A2 ?_;refine AE ?_;refine A7 J1 ?_;refine A3 @fz hz ?_;by_cases q3:f3.2=0;rotate_left
 ·rw[if_neg q3,if_neg q3]at hR;refine A7 @q3 ?_;exact AI [(b,DE f3.2)] (j2 @AA.eq_1 @Hg)
 rw[if_pos q3,if_pos q3]at hR;rw[q3]at hz;refine A7 @q3 ?_;refine AB ?_;refine A2 ?_;refine B6 ?_;have Is:=e1 q1;have Py:=e2 q2;have Wv:=e3 q3;have kr:=oX (gl:=gl) b a (Tm.mk 6 0 a.ty [x,y,z]) f1.1 f2.1 f3.1 ho rfl rfl n1 n2 n3 (i2 q2).1 (i3 q3).1 (i2 q2).2 (i3 q3).2;rw[Bv]at kr;subst Is Py Wv;clear e1 e2 e3 i2 i3;have Km:=Tm.cells_eq f1.1;have Jn:=Tm.cells_eq f2.1;have Qt:=Tm.cells_eq f3.1;have Nd:=Ty.cells_eq a.ty;have In:=Ty.cells_eq (T.fn .nat (.fn a a)).ty;have hd3:=Ty.cells_eq (T.ty .nat);rw[Km,Jn,Qt,Nd,In,hd3]at kr;refine A4 ?_;refine A3 (j3 @An @Bp @Gi) kr ?_;exact AI [(b,DE (DH 6 a a (T.fn .nat (.fn a a)) .nat f1.1 f2.1 f3.1).2)] (j2 @fa @Nd)
theorem zid (b:Nat)(G:List Ty)(x y z:Tm)(f1 f2 f3:Tm × Int)(y1 y2 y3:Ty)(a:T)
  (hx:cT gl 50 [BC b,.sl (G.map Ty.cells),x.dv] [(b,DE 0)] (.tup [f1.1.dv,y1.dv]) [(b,DE f1.2)])
  (hy:cT gl 50 [BC b,.sl (G.map Ty.cells),y.dv] [(b,DE 0)] (.tup [f2.1.dv,y2.dv]) [(b,DE f2.2)])
  (hz:cT gl 50 [BC b,.sl (G.map Ty.cells),z.dv] [(b,DE 0)] (.tup [f3.1.dv,y3.dv]) [(b,DE f3.2)])
  (e1:f1.2=0->y1=((a:T)).ty) (n1:f1.1.count<=4096)
  (e2:f2.2=0->y2=((T.fn .nat (.fn .list (.fn a a)):T)).ty) (n2:f2.1.count<=4096)
  (e3:f3.2=0->y3=((T.list:T)).ty) (n3:f3.1.count<=4096)
  (i2:f2.2=0->f2.1.shape=true/\f2.1.idx 549755813888)
  (i3:f3.2=0->f3.1.shape=true/\f3.1.idx 549755813888)
  (ho:(T.fn .nat (.fn .list (.fn a a))).ok) :
  cT gl 50 [BC b,.sl (G.map Ty.cells),(Tm.mk 9 0 a.ty [x,y,z]).dv] [(b,DE 0)] (if f1.2=0 then if f2.2=0 then if f3.2=0 then .tup [(DH 9 a a (T.fn .nat (.fn .list (.fn a a))) .list f1.1 f2.1 f3.1).1.dv,(a).ty.dv] else .tup [AA.dv,A9.dv] else .tup [AA.dv,A9.dv] else .tup [AA.dv,A9.dv]) [(b,DE (if f1.2=0 then if f2.2=0 then if f3.2=0 then (DH 9 a a (T.fn .nat (.fn .list (.fn a a))) .list f1.1 f2.1 f3.1).2 else f3.2 else f2.2 else f1.2))]:=by
 have An:=Tm.cells_eq x;have fx:=Tm.fold x;have Bp:=Tm.cells_eq y;have fy:=Tm.fold y;have Gi:=Tm.cells_eq z;have fz:=Tm.fold z;have Bx:=Tm.fold f1.1;have Ea:=Ty.fold y1;have Jf:=Tm.fold f2.1;have Qv:=Ty.fold y2;have Ml:=Tm.fold (f2.1.upN 0 1);have hg3:=Tm.fold f3.1;have hgy3:=Ty.fold y3;have hgu3:=Tm.fold (f3.1.upN 0 2);have Io:(nT 4 []).dv = .agg [A0 4,A0 0,A0 0,.sl [],.sl []]:=rfl;have Hg:A9.dv = .agg [A0 0,.sl []]:=rfl;have Ai:CE.dv=DV.agg [A0 1,.sl []]:=rfl;have Cz:(T.ty .nat).dv=DV.agg [A0 1,.sl []]:=rfl;have Dy:(T.ty .list).dv=DV.agg [A0 2,.sl []]:=rfl;have fa:=Ty.fold a.ty;have Df:=Ty.cells_eq a.ty;have Bv:(Tm.mk 9 0 a.ty [x,y,z]).dv = .agg [A0 9,A0 0,A0 a.ty.kind,.sl (a.ty.args.map Ty.cells),.sl [x.cells,y.cells,z.cells]]:=by first|rfl|(rw[Tm.dv,Tm.cells_eq];rfl)
 rw[Bv];refine A8 Tryz.func50 ?_;intro X hP u7 hf u9 hn hR u6 u5;refine A4 ?_;refine B4 ?_;refine A2 ?_;refine AE ?_;refine A7 (j3 @An @Bp @Gi) ?_;refine A3 @fx hx ?_;by_cases q1:f1.2=0;rotate_left
 ·rw[if_neg q1,if_neg q1]at hR;refine A7 @q1 ?_;exact AI [(b,DE f1.2)] (j2 @AA.eq_1 @Hg)
 rw[if_pos q1,if_pos q1]at hR;rw[q1]at hx;refine A7 @q1 ?_;have J0:=j3 @An @Bp @Gi;refine AC (s':=[sV 0 (BC b),sV 1 (.sl (G.map Ty.cells)),sP 5,sL 5 [.v (A0 9),.v (A0 0),.v (A0 a.ty.kind),.v (.sl (a.ty.args.map Ty.cells)),.v (.sl [x.cells,y.cells,z.cells])],sP 6,sL 6 [.v (A0 0),.v (A0 0),.v (A0 0),.own 0 [],.own 0 []],sP 7,sL 7 [.v (A0 0),.own 0 []],(.slot 8,.one (.own 1058 [[A0 f1.1.kind,A0 f1.1.index,A0 f1.1.type.kind,.sl (f1.1.type.args.map Ty.cells),.sl (f1.1.args.map Tm.cells)]])),(.tok 1058,.tk 5 1),(.slot 9,.one (.own 1062 [[A0 y1.kind,.sl (y1.args.map Ty.cells)]])),(.tok 1062,.tk 2 1),sV 10 (.sl (G.map Ty.cells)),sV 35 (.sl [x.cells,y.cells,z.cells]),sV 36 (A0 3),sV 37 (A0 1),sB  b [.v (A0 0)]]) [(1058,58),(1062,62)] J0 ?_;refine AB ?_;refine A2 ?_;refine AE ?_;refine A7 J0 ?_;refine A3 @fy hy ?_;by_cases q2:f2.2=0;rotate_left
 ·rw[if_neg q2,if_neg q2]at hR;refine A7 @q2 ?_;exact AI [(b,DE f2.2)] (j2 @AA.eq_1 @Hg)
 rw[if_pos q2,if_pos q2]at hR;rw[q2]at hy;refine A7 @q2 ?_;have J1:=j3 @An @Bp @Gi;refine AC (s':=[sV 0 (BC b),sV 1 (.sl (G.map Ty.cells)),sP 5,sL 5 [.v (A0 9),.v (A0 0),.v (A0 a.ty.kind),.v (.sl (a.ty.args.map Ty.cells)),.v (.sl [x.cells,y.cells,z.cells])],sP 6,sL 6 [.v (A0 0),.v (A0 0),.v (A0 0),.own 0 [],.own 0 []],sP 7,sL 7 [.v (A0 0),.own 0 []],(.slot 8,.one (.own 1058 [[A0 f1.1.kind,A0 f1.1.index,A0 f1.1.type.kind,.sl (f1.1.type.args.map Ty.cells),.sl (f1.1.args.map Tm.cells)],[A0 f2.1.kind,A0 f2.1.index,A0 f2.1.type.kind,.sl (f2.1.type.args.map Ty.cells),.sl (f2.1.args.map Tm.cells)]])),(.tok 1058,.tk 5 2),(.slot 9,.one (.own 1062 [[A0 y1.kind,.sl (y1.args.map Ty.cells)],[A0 y2.kind,.sl (y2.args.map Ty.cells)]])),(.tok 1062,.tk 2 2),sV 10 (.sl (G.map Ty.cells)),sV 35 (.sl [x.cells,y.cells,z.cells]),sV 36 (A0 3),sV 37 (A0 2),sB  b [.v (A0 0)]]) [(1058,58),(1062,62)] J1 ?_;refine AB ?_;refine A2 ?_;refine AE ?_;refine A7 J1 ?_;refine A3 @fz hz ?_;by_cases q3:f3.2=0;rotate_left
 ·rw[if_neg q3,if_neg q3]at hR;refine A7 @q3 ?_;exact AI [(b,DE f3.2)] (j2 @AA.eq_1 @Hg)
 rw[if_pos q3,if_pos q3]at hR;rw[q3]at hz;refine A7 @q3 ?_;refine AB ?_;refine A2 ?_;refine B6 ?_;have Is:=e1 q1;have Py:=e2 q2;have Wv:=e3 q3;have kr:=oY (gl:=gl) b a (Tm.mk 9 0 a.ty [x,y,z]) f1.1 f2.1 f3.1 ho rfl rfl n1 n2 n3 (i2 q2).1 (i3 q3).1 (i2 q2).2 (i3 q3).2;rw[Bv]at kr;subst Is Py Wv;clear e1 e2 e3 i2 i3;have Km:=Tm.cells_eq f1.1;have Jn:=Tm.cells_eq f2.1;have Qt:=Tm.cells_eq f3.1;have Nd:=Ty.cells_eq a.ty;have In:=Ty.cells_eq (T.fn .nat (.fn .list (.fn a a))).ty;have hd3:=Ty.cells_eq (T.ty .list);rw[Km,Jn,Qt,Nd,In,hd3]at kr;refine A4 ?_;refine A3 (j3 @An @Bp @Gi) kr ?_;exact AI [(b,DE (DH 9 a a (T.fn .nat (.fn .list (.fn a a))) .list f1.1 f2.1 f3.1).2)] (j2 @fa @Nd)
def WL (g:List T)(t:Tm)(a:T):Ty:=if (A5.ticksE (if t.kind=2 then g++[QA t.type] else g) t.args).2=0 then a.ty else A9
theorem zR {g:List T}{k:Int}(hk:k=1\/k=4\/k=7\/k=13)(i:Int)(s:T):A5 g (Tm.mk k i zY [])=AH 0 10 zY [nT 4 [],Tm.mk k i zY []]/\WL g (Tm.mk k i zY []) s=s.ty:=by
 have h2:¬k=2:=oO;refine⟨?_,?_⟩
 ·rw[A5,if_neg h2];show BE k i _ [] [] _=_;unfold BE;rcases hk with rfl|rfl|rfl|rfl <;> rfl
 ·rfl
theorem zcm {g:List T}{k i:Int}{y:Ty}{x:Tm}{s:T}{R:Tm × Int}(hk:¬k=2)(hR:BE k i y [x] [(A5 g x).1] [GY g x]=R) :
  (DV.tup [(A5 g (Tm.mk k i y [x])).1.dv,(WL g (Tm.mk k i y [x]) s).dv])=(if (A5 g x).2=0 then .tup [R.1.dv,s.ty.dv] else .tup [AA.dv,A9.dv])/\(A5 g (Tm.mk k i y [x])).2=(if (A5 g x).2=0 then R.2 else (A5 g x).2):=by
 have e:A5 g (Tm.mk k i y [x])=if (A5.ticksE g [x]).2=0 then BE k i y [x] (A5.ticksE g [x]).1 [GY g x] else (AA,(A5.ticksE g [x]).2):=by rw[A5,if_neg hk];rfl
 have e2:WL g (Tm.mk k i y [x]) s=if (A5.ticksE g [x]).2=0 then s.ty else A9:=by
  unfold WL;rw[if_neg (show ¬(Tm.mk k i y [x]).kind=2 from hk)];rfl
 subst hR;rw[e,e2];simp only[A5.ticksE];by_cases h1:(A5 g x).2=0;· simp only[h1,if_true];exact⟨trivial,trivial⟩
 ·simp only[h1,if_false];exact⟨trivial,trivial⟩
theorem zcn {g:List T}{k i:Int}{y:Ty}{x z:Tm}{s:T}{R:Tm × Int}(hk:¬k=2)(hR:BE k i y [x,z] [(A5 g x).1,(A5 g z).1] [GY g x,GY g z]=R) :
  (DV.tup [(A5 g (Tm.mk k i y [x,z])).1.dv,(WL g (Tm.mk k i y [x,z]) s).dv])=(if (A5 g x).2=0 then if (A5 g z).2=0 then .tup [R.1.dv,s.ty.dv] else .tup [AA.dv,A9.dv] else .tup [AA.dv,A9.dv])/\(A5 g (Tm.mk k i y [x,z])).2=(if (A5 g x).2=0 then if (A5 g z).2=0 then R.2 else (A5 g z).2 else (A5 g x).2):=by
 have e:A5 g (Tm.mk k i y [x,z])=if (A5.ticksE g [x,z]).2=0 then BE k i y [x,z] (A5.ticksE g [x,z]).1 [GY g x,GY g z] else (AA,(A5.ticksE g [x,z]).2):=by rw[A5,if_neg hk];rfl
 have e2:WL g (Tm.mk k i y [x,z]) s=if (A5.ticksE g [x,z]).2=0 then s.ty else A9:=by
  unfold WL;rw[if_neg (show ¬(Tm.mk k i y [x,z]).kind=2 from hk)];rfl
 subst hR;rw[e,e2];simp only[A5.ticksE];by_cases h1:(A5 g x).2=0
 ·by_cases h2:(A5 g z).2=0;· simp only[h1,h2,if_true];exact⟨trivial,trivial⟩
  ·simp only[h1,h2,if_true,if_false];exact⟨trivial,trivial⟩
 ·simp only[h1,if_false];exact⟨trivial,trivial⟩
theorem zjd {g:List T}{k i:Int}{y:Ty}{x z w:Tm}{s:T}{R:Tm × Int}(hk:¬k=2)(hR:BE k i y [x,z,w] [(A5 g x).1,(A5 g z).1,(A5 g w).1] [GY g x,GY g z,GY g w]=R) :
  (DV.tup [(A5 g (Tm.mk k i y [x,z,w])).1.dv,(WL g (Tm.mk k i y [x,z,w]) s).dv])=(if (A5 g x).2=0 then if (A5 g z).2=0 then if (A5 g w).2=0 then .tup [R.1.dv,s.ty.dv] else .tup [AA.dv,A9.dv] else .tup [AA.dv,A9.dv] else .tup [AA.dv,A9.dv])/\(A5 g (Tm.mk k i y [x,z,w])).2=(if (A5 g x).2=0 then if (A5 g z).2=0 then if (A5 g w).2=0 then R.2 else (A5 g w).2 else (A5 g z).2 else (A5 g x).2):=by
 have e:A5 g (Tm.mk k i y [x,z,w])=if (A5.ticksE g [x,z,w]).2=0 then BE k i y [x,z,w] (A5.ticksE g [x,z,w]).1 [GY g x,GY g z,GY g w] else (AA,(A5.ticksE g [x,z,w]).2):=by rw[A5,if_neg hk];rfl
 have e2:WL g (Tm.mk k i y [x,z,w]) s=if (A5.ticksE g [x,z,w]).2=0 then s.ty else A9:=by
  unfold WL;rw[if_neg (show ¬(Tm.mk k i y [x,z,w]).kind=2 from hk)];rfl
 subst hR;rw[e,e2];simp only[A5.ticksE];by_cases h1:(A5 g x).2=0
 ·by_cases h2:(A5 g z).2=0
  ·by_cases h3:(A5 g w).2=0;· simp only[h1,h2,h3,if_true];exact⟨trivial,trivial⟩
   ·simp only[h1,h2,h3,if_true,if_false];exact⟨trivial,trivial⟩
  ·simp only[h1,h2,if_true,if_false];exact⟨trivial,trivial⟩
 ·simp only[h1,if_false];exact⟨trivial,trivial⟩
theorem zqy {g:List T}{a r:T}{x:Tm}{R:Tm × Int}(hR:AH (AH (BS a) 2 (DD a) [(A5 (g++[a]) x).1]).2 10 zY [nT 4 [],(AH (BS a) 2 (DD a) [(A5 (g++[a]) x).1]).1]=R) :
  (DV.tup [(A5 g (AY a x)).1.dv,(WL g (AY a x) (.fn a r)).dv])=(if (A5 (g++[a]) x).2=0 then .tup [R.1.dv,(T.fn a r).ty.dv] else .tup [AA.dv,A9.dv])/\(A5 g (AY a x)).2=(if (A5 (g++[a]) x).2=0 then R.2 else (A5 (g++[a]) x).2):=by
 have e:A5 g (AY a x)=if (A5.ticksE (g++[a]) [x]).2=0 then BE 2 0 a.ty [x] (A5.ticksE (g++[a]) [x]).1 [GY (g++[a]) x] else (AA,(A5.ticksE (g++[a]) [x]).2):=by
  rw[AY,A5,if_pos rfl,FU];rfl
 have e2:WL g (AY a x) (.fn a r)=if (A5.ticksE (g++[a]) [x]).2=0 then (T.fn a r).ty else A9:=by
  unfold WL;rw[if_pos (show (AY a x).kind=2 from rfl),show (AY a x).type=a.ty from rfl,FU];rfl
 subst hR;rw[e,e2];simp only[A5.ticksE];by_cases h1:(A5 (g++[a]) x).2=0
 ·simp only[h1,if_true];unfold BE;rw[if_pos rfl,FU];exact⟨rfl,rfl⟩
 ·simp only[h1,if_false];exact⟨trivial,trivial⟩
theorem zo2 (b:Nat)(G:List Ty)(i:Nat)(s:Ty)(hi:i<G.length)(hl:G.length<=1000000)(hg:G[G.length - 1 - i]? = some s) :
  cT gl 50 [BC b,.sl (G.map Ty.cells),(vT (i:Nat)).dv] [(b,DE 0)] (.tup [(AH 0 10 zY [nT 4 [],vT (i:Nat)]).1.dv,s.dv]) [(b,DE (AH 0 10 zY [nT 4 [],vT (i:Nat)]).2)]:=by
 have w:=D1 (gl:=gl) b 0 (nT 4 []) (vT (i:Nat)) dD (by show 1+0<=_;omega);generalize AH 0 10 zY [nT 4 [],vT (i:Nat)]=r at *;have Io:(nT 4 []).dv = .agg [A0 4,A0 0,A0 0,.sl [],.sl []]:=rfl;have Bv:(vT (i:Nat)).dv = .agg [A0 1,A0 (i:Int),A0 0,.sl [],.sl []]:=rfl;have Lo:=Ty.fold s;have Dp:=Ty.cells_eq s;have Bz:(i:Int)<G.length:=oO;have Un:(G.map Ty.cells)[((G.length:Int) - 1 - (i:Int)).toNat]? = some s.cells:=by
  rw[List.getElem?_map,show ((G.length:Int) - 1 - (i:Int)).toNat=G.length - 1 - i from oO,hg];rfl
 rw[Dp]at Un;rw[Bv]at w ⊢;refine A8 Tryz.func50 ?_;intro X hP u7 hf u9 hn hR u6 u5;refine A4 ?_;refine B4 ?_;refine A2 ?_;refine B6 ?_;refine A4 ?_;refine A3 (j4 @Io @hg @Dp @Bz) w ?_;exact AI [(b,DE r.2)] (j2 @Dp @Lo)
theorem zo3 (b:Nat)(G:List Ty)(x:Tm)(a c:T)(f1:Tm × Int)(y1:Ty)(hl:G.length<=1000000)
  (hx:cT gl 50 [BC b,.sl ((G++[a.ty]).map Ty.cells),x.dv] [(b,DE 0)] (.tup [f1.1.dv,y1.dv]) [(b,DE f1.2)])
  (e1:f1.2=0->y1=c.ty) (n1:f1.1.count<=4096) (ho:(T.fn a c).ok) :
  cT gl 50 [BC b,.sl (G.map Ty.cells),(AY a x).dv] [(b,DE 0)] (if f1.2=0 then .tup [(AH (AH (BS a) 2 (DD a) [f1.1]).2 10 zY [nT 4 [],(AH (BS a) 2 (DD a) [f1.1]).1]).1.dv,(T.fn a c).ty.dv] else .tup [AA.dv,A9.dv])
   [(b,DE (if f1.2=0 then (AH (AH (BS a) 2 (DD a) [f1.1]).2 10 zY [nT 4 [],(AH (BS a) 2 (DD a) [f1.1]).1]).2 else f1.2))]:=by
 have c2:=A6 (BS a) 2 (DD a) [f1.1];have kn:=H9 (gl:=gl) b (BS a) 2 (DD a) [f1.1] (by rw[UR];omega);generalize AH (BS a) 2 (DD a) [f1.1]=n at *;have kc:=D1 (gl:=gl) b n.2 (nT 4 []) n.1 dD oO;generalize AH n.2 10 zY [nT 4 [],n.1]=r at *;have w0:=z50 (gl:=gl) G a.ty hl;have Xy:=BX (gl:=gl) a;have Yb:=NV (gl:=gl) b 0 (BS a);have k4':=NV (gl:=gl) b (BS a) 0;have h0e:IH 0 (BS a)=BS a:=rfl;have Ew:IH (BS a) 0=BS a:=by unfold IH;split;(rename_i h;exact h.symm);rfl
 rw[h0e]at Yb;rw[Ew]at k4';have Bb:1+a.size+c.size<=64:=ho;have Df:a.ty.count=a.size:=T.ty_count a;have Cw:c.ty.count=c.size:=T.ty_count c;have k3':=N7 (gl:=gl) a.ty c.ty (by show 1+(a.ty.count+(c.ty.count+0))<=_;omega);have j1:IJ 4 a.ty c.ty=((T.fn a c).ty,0):=by unfold IJ;rw[if_neg (by show ¬64<1+(a.ty.count+(c.ty.count+0));omega)];rfl
 rw[j1]at k3';clear j1;unfold dJ at Xy;have An:=Tm.cells_eq x;have fx:=Tm.fold x;have fn1:=Tm.fold n.1;have Oe:=Tm.fold f1.1;have fa:=Ty.fold a.ty;have fc:=Ty.fold c.ty;have fcy:=Ty.fold (DD a);have fac:=Ty.fold (T.fn a c).ty;have hac:=Ty.cells_eq (T.fn a c).ty;have Io:(nT 4 []).dv = .agg [A0 4,A0 0,A0 0,.sl [],.sl []]:=rfl;have Hg:A9.dv = .agg [A0 0,.sl []]:=rfl;have Bv:(AY a x).dv = .agg [A0 2,A0 0,A0 a.ty.kind,.sl (a.ty.args.map Ty.cells),.sl [x.cells]]:=by rw[AY,Tm.dv,Tm.cells_eq];rfl
 rw[Bv];generalize (T.fn a c).ty=yac at *;generalize (G++[a.ty]).map Ty.cells=GG at *;refine A8 Tryz.func50 ?_;intro X hP u7 hf u9 hn hR u6 u5;refine A4 ?_;refine A3 @fa w0 ?_;refine A4 ?_;refine B4 ?_;refine A2 ?_;refine AE ?_;refine A7 @An ?_;refine A3 @fx hx ?_;by_cases q1:f1.2=0;rotate_left
 ·rw[if_neg q1,if_neg q1]at hR;refine A7 @q1 ?_;exact AI [(b,DE f1.2)] (j2 @AA.eq_1 @Hg)
 rw[if_pos q1,if_pos q1]at hR;rw[q1]at hx;refine A7 @q1 ?_;refine AB ?_;refine A2 ?_;refine B6 ?_;have Is:=e1 q1;subst Is;clear e1;refine A4 ?_;refine A3 @fa Xy ?_;refine A3 @fa Yb ?_;refine A3 (j2 @fa @fc) k3' ?_;refine A3 @fa k4' ?_;refine EW (j4 @Oe @fn1 @fcy @Io) kn kc ?_;exact AI [(b,DE r.2)] (j2 @hac @fac)
theorem jY (k i:Int)(y:Ty)(a l:List Tm)(ts:List T):(BE k i y a l ts).1.count<=4096:=by
 unfold BE;split;· exact A6 _ _ _ _
 split
 ·obtain⟨s1,s0,c,g2,g1,g0,s,u,z,o,w1,w2,m2,m1,w0,-,-,-,-,-,-,-,-,-,-,-,-,-,-,-,h⟩:=VQ (ts.getD 1 .unit) (ts.getD 0 .unit).cod (l.getD 0 AA) (l.getD 1 AA);rw[h];exact A6 _ _ _ _
 split
 ·obtain⟨w,f,s,n,c,-,-,-,-,-,h⟩:=UG k (ts.getD 0 .unit) (l.getD 0 AA);rw[h];exact A6 _ _ _ _
 split
 ·obtain⟨g1,g0,s,s1,s0,n,c,w0,w1,m,-,-,-,-,-,-,-,-,-,-,h⟩:=SS k (ts.getD 0 .unit) (ts.getD 1 .unit) (l.getD 0 AA) (l.getD 1 AA);rw[h];exact A6 _ _ _ _
 split
 ·obtain⟨w,t,p,c,q,d,g3,g2,g1,g0,s,v,o,m3,w2,m2,w1,m1,w0,-,-,-,-,-,-,-,-,-,-,-,-,-,-,-,-,-,-,-,h⟩:=L5 k (QA y) (ts.getD 0 .unit) (ts.getD 1 .unit) (ts.getD 2 .unit) (l.getD 0 AA) (l.getD 1 AA) (l.getD 2 AA);rw[h];exact A6 _ _ _ _
 ·exact A6 _ _ _ _
theorem CJ (g:List T)(t:Tm):(A5 g t).1.count<=4096:=by
 rw[bA];generalize (if t.kind=2 then g++[QA t.type] else g)=g';split;· exact jY _ _ _ _ _ _
 ·show 1+0<=4096;omega
theorem IP {g:List T}{t:Tm}{a:T}(h:(A5 g t).2=0):WL g t a=a.ty:=by
 unfold WL;rw[bA]at h;generalize (if t.kind=2 then g++[QA t.type] else g)=g' at *;split at h;· rename_i h1;rw[if_pos h1]
 ·rename_i h1;exact absurd h h1
theorem LF {Γ:List T}{t:Tm}{a:T}{F:C3 Γ->a.V}(h:Dn Γ t a F)(hl:Γ.length<=1000000)(h0:(A5 Γ.reverse t).2=0):(A5 Γ.reverse t).1.shape=true/\(A5 Γ.reverse t).1.idx 549755813888:=by
 obtain⟨G,-,-,hd⟩:=VT h;have hd:=hd h0;have hs:=G4 hd;have hc:=CJ Γ.reverse t;refine⟨hs,Tm.idx_of _ _ hs (z9y hd _ ?_)⟩;rw[List.length_map];omega
theorem BO {t:Tm}{g:List Ty}(h1:¬t.kind=1)(h:(t.inferN g).2=0):∀x∈t.args,(x.inferN (if t.kind=2 then g++[t.type] else g)).2=0:=by
 rw[Tm.inferN_eq,if_neg h1]at h;generalize (if t.kind=2 then g++[t.type] else g)=g' at *;split at h
 ·rename_i h2;obtain⟨-,hx⟩:=Tm.infers_all _ _ h2;intro x hm;obtain⟨i,hi⟩:=List.getElem?_of_mem hm;exact (hx i x hi).1
 ·rename_i h2;exact absurd h h2
theorem U2 {Γ:List T}{t:Tm}{a:T}{F:C3 Γ->a.V}(h:Dn Γ t a F)(Aw:∀x∈Γ,x.ok)(hi:(t.inferN (Γ.reverse.map T.ty)).2=0):a.ok:=by
 have hg:∀x∈Γ.reverse.map T.ty,x.ok:=by
  intro x hx;obtain⟨y,hy,rfl⟩:=List.mem_map.1 hx;exact T.ok_ty (Aw y (List.mem_reverse.1 hy))
 have ho:=Tm.inferN_ok t _ (G4 h) hg hi;rcases JU h with h1|h1;· rw[h1]at ho;exact T.ty_ok ho
 ·rw[h1]at hi;exact absurd hi dD
def zqz (gl:AF)(Γ:List T)(t:Tm)(a:T):Prop:=∀b,cT gl 50 [BC b,.sl ((Γ.reverse.map T.ty).map Ty.cells),t.dv] [(b,DE 0)] (.tup [(A5 Γ.reverse t).1.dv,(WL Γ.reverse t a).dv]) [(b,DE (A5 Γ.reverse t).2)]
theorem zo4 {Γ:List T}{t:Tm}{a:T}{F:C3 Γ->a.V}(h:Dn Γ t a F)(Aw:∀x∈Γ,x.ok)(hi:(t.inferN (Γ.reverse.map T.ty)).2=0)(hl:Γ.length+t.count<=1000000):zqz gl Γ t a:=by
 induction h with
 | @var Γ i a p h=>
  intro b;obtain⟨c1,c2⟩:=zR (g:=Γ.reverse) (k:=1) (.inl rfl) (i:Int) a;have c1:A5 Γ.reverse (vT (i:Nat))=AH 0 10 zY [nT 4 [],vT (i:Nat)]:=c1;have c2:WL Γ.reverse (vT (i:Nat)) a=a.ty:=c2;rw[c1,c2];have Ag:=h.lt;refine zo2 b _ i a.ty (by simp;omega) (by simp;omega) ?_;have:=za1 h;rw[List.getElem?_map,List.length_map];rw[List.getD_eq_getElem?_getD]at this;have Jt:Γ.reverse.length - 1 - i<Γ.reverse.length:=by simp;omega
  rw[uB Jt]at this ⊢;simp only[Option.getD_some]at this;rw[this];rfl
 | @lam Γ a r x f ha h ih=>
  intro b;have Ao:=BO (t:=AY a x) (by show ¬(2:Int)=1;decide) hi x (by simp[AY,Tm.args]);rw[if_pos (show (AY a x).kind=2 from rfl)]at Ao;have Kh:(a::Γ).reverse=Γ.reverse++[a]:=List.reverse_cons;have Ao:(x.inferN ((a::Γ).reverse.map T.ty)).2=0:=by rw[Kh,List.map_append];exact Ao
  have hc:(AY a x).count=1+(x.count+0):=rfl;have Pz:∀y∈a::Γ,y.ok:=fun y hy=>by rcases List.mem_cons.1 hy with rfl|hy;exact ha;exact Aw y hy
  have w:=ih Pz Ao (by simp only[List.length_cons];omega) b;have ho:=U2 (.lam ha h) Aw hi;have hto:=CJ (a::Γ).reverse x;have hy:(A5 (a::Γ).reverse x).2=0->WL (a::Γ).reverse x r=r.ty:=IP;rw[Kh]at w hto hy;obtain⟨c1,c2⟩:=zqy (g:=Γ.reverse) (a:=a) (r:=r) (x:=x) rfl;rw[c1,c2];rw[List.map_append]at w;exact zo3 b _ x a r _ _ (by simp;omega) w hy hto ho
 | @app Γ a c f x F X hf hx Bo Bh=>
  intro b;have Ao:=BO (t:=nT 3 [f,x]) (by show ¬(3:Int)=1;decide) hi;rw[if_neg (show ¬(nT 3 [f,x]).kind=2 by show ¬(3:Int)=2;decide)]at Ao;have hc:(nT 3 [f,x]).count=1+(f.count+(x.count+0)):=rfl;obtain⟨c1,c2⟩:=zcn (g:=Γ.reverse) (k:=3) (i:=0) (y:=zY) (x:=f) (z:=x) (s:=c) dD (show _=VP a c (A5 Γ.reverse f).1 (A5 Γ.reverse x).1 by rw[B7 hf,B7 hx];rfl);have c1:DV.tup [(A5 Γ.reverse (nT 3 [f,x])).1.dv,(WL Γ.reverse (nT 3 [f,x]) c).dv]=_:=c1;have c2:(A5 Γ.reverse (nT 3 [f,x])).2=_:=c2;rw[c1,c2];exact zo0 b _ f x _ _ _ _ a c (Bo Aw (Ao f (by simp[nT,Tm.args])) oO b) (Bh Aw (Ao x (by simp[nT,Tm.args])) oO b) IP (CJ _ _) IP (CJ _ _) (LF hx oO)
 | @zero Γ=>
  intro b;obtain⟨c1,c2⟩:=zR (g:=Γ.reverse) (k:=4) (.inr (.inl rfl)) 0 .nat;have c1:A5 Γ.reverse (nT 4 [])=AH 0 10 zY [nT 4 [],nT 4 []]:=c1;have c2:WL Γ.reverse (nT 4 []) .nat=T.ty .nat:=c2;rw[c1,c2];exact zi8 b _
 | @succ Γ x X hx ih=>
  intro b;have Ao:=BO (t:=nT 5 [x]) (by show ¬(5:Int)=1;decide) hi;rw[if_neg (show ¬(nT 5 [x]).kind=2 by show ¬(5:Int)=2;decide)]at Ao;have hc:(nT 5 [x]).count=1+(x.count+0):=rfl;obtain⟨c1,c2⟩:=zcm (g:=Γ.reverse) (k:=5) (i:=0) (y:=zY) (x:=x) (s:=.nat) dD (show _=ZB 5 .nat (A5 Γ.reverse x).1 by rw[B7 hx];rfl);have c1:DV.tup [(A5 Γ.reverse (nT 5 [x])).1.dv,(WL Γ.reverse (nT 5 [x]) .nat).dv]=_:=c1;have c2:(A5 Γ.reverse (nT 5 [x])).2=_:=c2;rw[c1,c2];exact zia b _ x _ _ (ih Aw (Ao x (by simp[nT,Tm.args])) oO b) IP (CJ _ _)
 | @rc Γ a x f n B F N ha hb hf hn Bo Bh Gn=>
  intro b;have Ao:=BO (t:=Tm.mk 6 0 a.ty [x,f,n]) (by show ¬(6:Int)=1;decide) hi;rw[if_neg (show ¬(Tm.mk 6 0 a.ty [x,f,n]).kind=2 by show ¬(6:Int)=2;decide)]at Ao;have hc:(Tm.mk 6 0 a.ty [x,f,n]).count=1+(x.count+(f.count+(n.count+0))):=rfl;have i1:=Ao x (by simp[Tm.args]);have i2:=Ao f (by simp[Tm.args]);have i3:=Ao n (by simp[Tm.args])
  obtain⟨c1,c2⟩:=zjd (g:=Γ.reverse) (k:=6) (i:=0) (y:=a.ty) (x:=x) (z:=f) (w:=n) (s:=a) dD (show _=DH 6 a a (.fn .nat (.fn a a)) .nat (A5 Γ.reverse x).1 (A5 Γ.reverse f).1 (A5 Γ.reverse n).1 by
   rw[B7 hb,B7 hf,B7 hn];unfold BE;rw[if_neg dD,if_neg dD,if_neg dD,if_neg dD,if_pos dD,FU];rfl)
  rw[c1,c2];exact zo1 b _ x f n _ _ _ _ _ _ a (Bo Aw i1 oO b) (Bh Aw i2 oO b) (Gn Aw i3 oO b) IP (CJ _ _) IP (CJ _ _) IP (CJ _ _) (LF hf oO) (LF hn oO) (U2 hf Aw i2)
 | @nil Γ=>
  intro b;obtain⟨c1,c2⟩:=zR (g:=Γ.reverse) (k:=7) (.inr (.inr (.inl rfl))) 0 .list;have c1:A5 Γ.reverse (nT 7 [])=AH 0 10 zY [nT 4 [],nT 7 []]:=c1;have c2:WL Γ.reverse (nT 7 []) .list=T.ty .list:=c2;rw[c1,c2];exact znx b _
 | @cons Γ x l X L hx hy Bo Bh=>
  intro b;have Ao:=BO (t:=nT 8 [x,l]) (by show ¬(8:Int)=1;decide) hi;rw[if_neg (show ¬(nT 8 [x,l]).kind=2 by show ¬(8:Int)=2;decide)]at Ao;have hc:(nT 8 [x,l]).count=1+(x.count+(l.count+0)):=rfl;obtain⟨c1,c2⟩:=zcn (g:=Γ.reverse) (k:=8) (i:=0) (y:=zY) (x:=x) (z:=l) (s:=.list) dD (show _=QB 8 .nat .list (A5 Γ.reverse x).1 (A5 Γ.reverse l).1 by rw[B7 hx,B7 hy];rfl);have c1:DV.tup [(A5 Γ.reverse (nT 8 [x,l])).1.dv,(WL Γ.reverse (nT 8 [x,l]) .list).dv]=_:=c1;have c2:(A5 Γ.reverse (nT 8 [x,l])).2=_:=c2;rw[c1,c2];exact zib b _ x l _ _ _ _ (Bo Aw (Ao x (by simp[nT,Tm.args])) oO b) (Bh Aw (Ao l (by simp[nT,Tm.args])) oO b) IP (CJ _ _) IP (CJ _ _) (LF hy oO)
 | @fold Γ a x f n B F N ha hb hf hn Bo Bh Gn=>
  intro b;have Ao:=BO (t:=Tm.mk 9 0 a.ty [x,f,n]) (by show ¬(9:Int)=1;decide) hi;rw[if_neg (show ¬(Tm.mk 9 0 a.ty [x,f,n]).kind=2 by show ¬(9:Int)=2;decide)]at Ao;have hc:(Tm.mk 9 0 a.ty [x,f,n]).count=1+(x.count+(f.count+(n.count+0))):=rfl;have i1:=Ao x (by simp[Tm.args]);have i2:=Ao f (by simp[Tm.args]);have i3:=Ao n (by simp[Tm.args])
  obtain⟨c1,c2⟩:=zjd (g:=Γ.reverse) (k:=9) (i:=0) (y:=a.ty) (x:=x) (z:=f) (w:=n) (s:=a) dD (show _=DH 9 a a (.fn .nat (.fn .list (.fn a a))) .list (A5 Γ.reverse x).1 (A5 Γ.reverse f).1 (A5 Γ.reverse n).1 by
   rw[B7 hb,B7 hf,B7 hn];unfold BE;rw[if_neg dD,if_neg dD,if_neg dD,if_neg dD,if_pos dD,FU];rfl)
  rw[c1,c2];exact zid b _ x f n _ _ _ _ _ _ a (Bo Aw i1 oO b) (Bh Aw i2 oO b) (Gn Aw i3 oO b) IP (CJ _ _) IP (CJ _ _) IP (CJ _ _) (LF hf oO) (LF hn oO) (U2 hf Aw i2)
 | @pair Γ a c x y X Y hx hy Bo Bh=>
  intro b;have Ao:=BO (t:=nT 10 [x,y]) (by show ¬(10:Int)=1;decide) hi;rw[if_neg (show ¬(nT 10 [x,y]).kind=2 by show ¬(10:Int)=2;decide)]at Ao;have hc:(nT 10 [x,y]).count=1+(x.count+(y.count+0)):=rfl;obtain⟨c1,c2⟩:=zcn (g:=Γ.reverse) (k:=10) (i:=0) (y:=zY) (x:=x) (z:=y) (s:=.pair a c) dD (show _=QB 10 a c (A5 Γ.reverse x).1 (A5 Γ.reverse y).1 by rw[B7 hx,B7 hy];rfl);have c1:DV.tup [(A5 Γ.reverse (nT 10 [x,y])).1.dv,(WL Γ.reverse (nT 10 [x,y]) (.pair a c)).dv]=_:=c1;have c2:(A5 Γ.reverse (nT 10 [x,y])).2=_:=c2;rw[c1,c2];exact zic b _ x y _ _ _ _ a c (Bo Aw (Ao x (by simp[nT,Tm.args])) oO b) (Bh Aw (Ao y (by simp[nT,Tm.args])) oO b) IP (CJ _ _) IP (CJ _ _) (LF hy oO)
 | @fst Γ a c x X hx ih=>
  intro b;have Ao:=BO (t:=nT 11 [x]) (by show ¬(11:Int)=1;decide) hi;rw[if_neg (show ¬(nT 11 [x]).kind=2 by show ¬(11:Int)=2;decide)]at Ao;have hc:(nT 11 [x]).count=1+(x.count+0):=rfl;obtain⟨c1,c2⟩:=zcm (g:=Γ.reverse) (k:=11) (i:=0) (y:=zY) (x:=x) (s:=a) dD (show _=ZB 11 (.pair a c) (A5 Γ.reverse x).1 by rw[B7 hx];rfl);have c1:DV.tup [(A5 Γ.reverse (nT 11 [x])).1.dv,(WL Γ.reverse (nT 11 [x]) a).dv]=_:=c1;have c2:(A5 Γ.reverse (nT 11 [x])).2=_:=c2;rw[c1,c2];exact zny b _ x _ _ a c (ih Aw (Ao x (by simp[nT,Tm.args])) oO b) IP (CJ _ _)
 | @snd Γ a c x X hx ih=>
  intro b;have Ao:=BO (t:=nT 12 [x]) (by show ¬(12:Int)=1;decide) hi;rw[if_neg (show ¬(nT 12 [x]).kind=2 by show ¬(12:Int)=2;decide)]at Ao;have hc:(nT 12 [x]).count=1+(x.count+0):=rfl;obtain⟨c1,c2⟩:=zcm (g:=Γ.reverse) (k:=12) (i:=0) (y:=zY) (x:=x) (s:=c) dD (show _=ZB 12 (.pair a c) (A5 Γ.reverse x).1 by rw[B7 hx];rfl);have c1:DV.tup [(A5 Γ.reverse (nT 12 [x])).1.dv,(WL Γ.reverse (nT 12 [x]) c).dv]=_:=c1;have c2:(A5 Γ.reverse (nT 12 [x])).2=_:=c2;rw[c1,c2];exact znz b _ x _ _ a c (ih Aw (Ao x (by simp[nT,Tm.args])) oO b) IP (CJ _ _)
 | @unit Γ=>
  intro b;obtain⟨c1,c2⟩:=zR (g:=Γ.reverse) (k:=13) (.inr (.inr (.inr rfl))) 0 .unit;have c1:A5 Γ.reverse (nT 13 [])=AH 0 10 zY [nT 4 [],nT 13 []]:=c1;have c2:WL Γ.reverse (nT 13 []) .unit=T.ty .unit:=c2;rw[c1,c2];exact zi9 b _
theorem oZ (a:T)(ho:a.ok):cT gl 13 [a.ty.dv] [] (.tup [(DD a).dv,A0 (BS a)]) []:=by
 have w1:=E1 (gl:=gl) a.ty (by have:=(T.ok_ty ho).2;omega);rw[(Ty.checkN_iff a.ty).2 (T.ok_ty ho)]at w1;have w2:=BX (gl:=gl) a;unfold dJ at w2;have fa:=Ty.fold a.ty;have fc:=Ty.fold (DD a);generalize a.ty=ta at *;generalize DD a=ca at *;have Cw:=Ty.cells_eq ca;refine A8 Tryz.func13 ?_;intro X hP u7 hf u9 hn hR u6 u5;refine A4 ?_;refine A3 @fa w1 ?_;refine A4 ?_;refine A3 @fa w2 ?_;exact BD (j2 @fc @Cw)
def M9 (g:List T)(t:Tm):Tm × Int:=if (A5 g t).2=0 then A5 g t else (AA,(A5 g t).2)
theorem dL (Bl:ET gl 0=some H1){Γ:List T}{t:Tm}{a:T}{F:C3 Γ->a.V}(h:Dn Γ t a F)(Aw:∀x∈Γ,x.ok)(hl:Γ.length<=16)(hc:t.count<=4096)(hi:t.inferN (Γ.reverse.map T.ty)=(a.ty,0)) :
  cT gl 18 [.sl ((Γ.reverse.map T.ty).map Ty.cells),t.dv] [] (.tup [(M9 Γ.reverse t).1.dv,A0 (M9 Γ.reverse t).2]) []:=by
 have Nr:t.checkN=0:=(Tm.checkN_iff t).2 ⟨G4 h,hc⟩;have hg:∀x∈Γ.reverse.map T.ty,x.ok:=by
  intro x hx;obtain⟨y,hy,rfl⟩:=List.mem_map.1 hx;exact T.ok_ty (Aw y (List.mem_reverse.1 hy))
 have w1:=PI (gl:=gl) Bl (Γ.reverse.map T.ty) hg (by simp;omega) t a.ty Nr hi;have w2:=zo4 (gl:=gl) h Aw (by rw[hi]) oO;unfold zqz at w2;have ft:=Tm.fold t;unfold M9;generalize WL Γ.reverse t a=y at *;generalize A5 Γ.reverse t=r at *;obtain⟨x,e⟩:=r;simp only at w2 ⊢;have fx:=Tm.fold x;have fy:=Ty.fold y;have fa:=Ty.fold a.ty;have An:=Tm.cells_eq x;generalize (Γ.reverse.map T.ty).map Ty.cells=GG at *;generalize a.ty=ta at *;refine A8 Tryz.func18 ?_;intro X hP u7 hf u9 hn hR u6 u5;refine A4 ?_;refine A3 @ft w1 ?_;refine A7 @fa ?_;refine EC 22 (by simp[go_sem];rfl) ?_;intro b hb;simp[go_sem]at hb ⊢;refine A3 @ft (w2 b) ?_;by_cases h0:e=0
 ·rw[if_pos h0]at hR;refine A7 @h0 ?_;exact BD (j3 @h0 @fx @An)
 ·rw[if_neg h0]at hR;refine A7 @h0 ?_;exact AT (j2 @AA.eq_1 @h0)
theorem MA (Bl:ET gl 0=some H1){t:Tm}{r:T}{F:C3 []->r.V}(h:Dn [] t r F)(hc:t.count<=536870912)(y:r.V)(hr:r.plain)(Il:r.ok){c d:Nat}(Dp:NY d t []=some (PR r y,c))(wk:Nat)(Sj:wk<=65536) :
  cT gl 57 [t.dv,A0 (wk:Int)] [] (.tup [(II t (C5 r y) c wk).1.dv,A0 (II t (C5 r y) c wk).2.1,A0 (II t (C5 r y) c wk).2.2]) []:=by
 have hcs':WD d t (EP [] ())=some (PR r y,c):=by
  unfold WD;rw[Dp];simp only[EP,N4,Nat.add_zero]
 have w:=Z3 (gl:=gl) Bl (l:=[]) (r:=r) (F:=F) h hc () y tT sS hr Il hcs' wk Sj 0 oO (by simp only[EP,MV.nles]);have Av:=Tm.fold t;simp only[I2,List.map_nil]at w;generalize II t (C5 r y) c wk=q at *;obtain⟨v,n,e⟩:=q;simp only at w ⊢;have Kq:=Val.fold v;refine A8 Tryz.func57 ?_;intro X hP u7 hf u9 hn hR u6 u5;refine A4 ?_;refine A3 @Av w ?_;exact BD @Kq
def dM (t:Tm)(c k:Nat)(wk:Int):Int × Int:=if (t.typeE []).2=0 then (if (c:Int)<=wk then ((k:Int),0) else (0,5)) else (0,4)
theorem zco (Bl:ET gl 0=some H1){t:Tm}{r:T}{F:C3 []->r.V}(h:Dn [] t r F)(hc:t.count<=536870912)(y:r.V)(hr:r.plain)(Il:r.ok){c k d:Nat}(Dp:R7 d t []=some (PR r y,c,k))(wk:Nat)(Sj:wk<=65536) :
  cT gl 23 [t.dv,A0 (wk:Int)] [] (.tup [A0 (dM t c k wk).1,A0 (dM t c k wk).2]) []:=by
 have w:=MA (gl:=gl) Bl h hc y hr Il (znr Dp) wk Sj;have hkc:=jI d _ _ _ _ _ Dp;have Av:=Tm.fold t;unfold dM;unfold II at w;by_cases h0:(t.typeE []).2=0;rotate_left
 ·rw[if_neg h0]at w ⊢;refine A8 Tryz.func23 ?_;intro X hP u7 hf u9 hn hR u6 u5;refine A4 ?_;refine A3 @Av w ?_;refine A4 ?_;exact BR
 rw[if_pos h0]at w ⊢;by_cases h1:(c:Int)<=wk;rotate_left
 ·rw[if_neg h1]at w ⊢;refine A8 Tryz.func23 ?_;intro X hP u7 hf u9 hn hR u6 u5;refine A4 ?_;refine A3 @Av w ?_;refine A4 ?_;exact BR
 rw[if_pos h1]at w ⊢;have wv:=fun b=>XG (gl:=gl) d 0 b 0 Dp oO oO (by simp only[MV.nles]);have hvd:MV.varsD []=AV:=by rw[MV.varsD]
 simp only[hvd,Nat.zero_add]at wv;have Kq:=Val.fold (C5 r y);generalize C5 r y=v at *;refine A8 Tryz.func23 ?_;intro X hP u7 hf u9 hn hR u6 u5;refine A4 ?_;refine A3 @Av w ?_;refine A4 ?_;refine EC 21 (by simp[go_sem];rfl) ?_;intro b hb;simp[go_sem]at hb ⊢;refine A3 @Av (wv b) ?_;refine A4 ?_;exact BR
end
section
theorem jZ (r:Tm × Int × Int):(IC r).2.2=r.2.2:=by
 unfold IC;split;· split <;> rfl
 ·rfl
theorem zcp (k:Int)(y:Ty)(ts:List T)(l:List (Tm × Int))(N:Int):N<=(HI k y ts l N).2/\(HI k y ts l N).2<=N+31:=by
 have h1:N<=MI k N/\MI k N<=N+18:=by unfold MI;split <;> omega
 unfold HI
 (repeat' split) <;> (show N<=_/\_<=N+31;simp only;omega)
theorem GV (t:Tm):∀(g:List T) (s:List Int) (n:Int),n<=(AG g s n t).2.2/\(AG g s n t).2.2+1<=n+41 * (t.count:Int):=by
 induction t using Tm.ind with
 | h t ih=>
 intro g s n;have hl:∀(l:List Tm),(∀x∈l,x∈t.args)->∀n:Int,n<=(AG.termsR g s n l).2.2/\(AG.termsR g s n l).2.2<=n+41 * (Tm.count.counts l:Int):=by
  intro l
  induction l with
  | nil=>intro _ n;exact⟨Int.le_refl _,by show n<=n+41 * ((0:Nat):Int);omega⟩
  | cons x r Fy=>
   intro hx n;obtain⟨a1,a2⟩:=ih x (hx x sS) g s n;obtain⟨b1,b2⟩:=Fy (fun z hz=>hx z (by simp[hz])) ((AG g s n x).2.2+1);have e:(Tm.count.counts (x::r):Int)=(x.count:Int)+(Tm.count.counts r:Int):=by
    show ((x.count+Tm.count.counts r:Nat):Int)=_;omega
   rw[e];simp only[AG.termsR];split
   ·split;· exact⟨by simp only;omega,by simp only;omega⟩
    ·exact⟨by simp only;omega,by simp only;omega⟩
   ·exact⟨by simp only;omega,by simp only;omega⟩
 obtain⟨k,i,y,a⟩:=t;have hc:((Tm.mk k i y a).count:Int)=1+(Tm.count.counts a:Int):=by
  rw[Tm.count_eq];show ((1+Tm.count.counts a:Nat):Int)=_;omega
 rw[hc,F9];have hp:(0:Int)<=(Tm.count.counts a:Int):=Int.natCast_nonneg _;split;· rw[jZ];exact⟨Int.le_refl _,by simp only;omega⟩
 split;· rw[jZ];exact⟨Int.le_refl _,by simp only;omega⟩
 split
 ·rw[jZ];cases a with
  | nil=>exact⟨by show n<=n+1;omega,by show n+1+1<=_;omega⟩
  | cons x r=>
   obtain⟨a1,a2⟩:=ih x (by simp[Tm.args]) (g++[QA y]) (s++[n+1]) (n+1);have e:(Tm.count.counts (x::r):Int)=(x.count:Int)+(Tm.count.counts r:Int):=by
    show ((x.count+Tm.count.counts r:Nat):Int)=_;omega
   rw[e];show n<=(AG _ _ (n+1) x).2.2/\(AG _ _ (n+1) x).2.2+1<=_;exact⟨oO,oO⟩
 obtain⟨b1,b2⟩:=hl a (by simp[Tm.args]) n;split
 ·rw[jZ];obtain⟨c1,c2⟩:=zcp k y (GY.tysT g a) (AG.termsR g s n a).1 (AG.termsR g s n a).2.2;exact⟨by simp only;omega,by simp only;omega⟩
 ·refine⟨b1,?_⟩;show (AG.termsR g s n a).2.2+1<=_;omega
def CQ (n:Nat):List Int:=(List.range n).map fun i:Nat=>(i:Int)+1
theorem LG (n:Nat):(CQ n).length=n:=by simp[CQ]
theorem YP (n:Nat):CQ (n+1)=CQ n++[(n:Int)+1]:=by simp[CQ,List.range_succ]
theorem z53 {n:Nat}{i:Int}(h:i∈CQ n):i<=n:=by
 simp only[CQ,List.mem_map,List.mem_range]at h;obtain⟨j,h1,rfl⟩:=h;omega
theorem kA (n:Nat):(CQ n).Nodup:=by
 refine List.Pairwise.map _ ?_ (List.nodup_range (n:=n));intro x y h;omega
def SK (Γ:List T)(t:Tm):Tm × Int:=
 if (AG Γ.reverse (CQ Γ.length) Γ.length t).2.1=0 then
  if (EA (CQ Γ.length) (AG Γ.reverse (CQ Γ.length) Γ.length t).1).checkN=0 then (EA (CQ Γ.length) (AG Γ.reverse (CQ Γ.length) Γ.length t).1,0) else (AA,4)
 else (AA,4)
theorem z54 {Γ:List T}{t:Tm}{a:T}{F:C3 Γ->a.V}(h:Dn Γ t a F):SK Γ t=M9 Γ.reverse t:=by
 obtain⟨x,hI,hN⟩:=v9 h;obtain⟨G,-,-,hT⟩:=VT h;obtain⟨-,hn⟩:=hN (CQ Γ.length) Γ.length (LG _) (kA _) (fun i hi=>z53 hi);unfold SK M9;have he:=zgl t Γ.reverse;by_cases h0:(A5 Γ.reverse t).2=0
 ·have hx:=hI.1 h0;have hs:=G4 (hT h0);have hc:=CJ Γ.reverse t;rw[hx]at hs hc;have hk:x.checkN=0:=(Tm.checkN_iff x).2 ⟨hs,hc⟩;rcases hn with⟨n0,n1,n2,n3⟩|⟨n0,n3⟩;· rw[if_pos h0,if_pos n0,n1.close,if_pos hk,<- hx,<- h0]
  ·omega
 ·rw[if_neg h0,er4 he h0];rcases hn with⟨n0,n1,n2,n3⟩|⟨n0,n3⟩
  ·rw[if_pos n0,n1.close];by_cases hk:x.checkN=0
   ·obtain⟨hs,hc⟩:=(Tm.checkN_iff x).1 hk;exact absurd (hI.2 hs hc) h0
   ·rw[if_neg hk]
  ·rw[if_neg (by rw[n0];decide)]
def D3:List Tm->Int->Tm->Tm × Int
 | v,n,.mk k i y a=>
  if k=1 then (v.getD (v.length - 1 - i.toNat) AA,n)
  else if k=2 then (Tm.mk 2 (n+1) y [(headN (v++[vT (n+1)]) (n+1) a).1],(headN (v++[vT (n+1)]) (n+1) a).2)
  else (Tm.mk k 0 y (namesR v n a).1,(namesR v n a).2)
where
 headN:List Tm->Int->List Tm->Tm × Int
  | _,n,[]=>(AA,n)
  | v,n,x::_=>D3 v n x
 namesR:List Tm->Int->List Tm->List Tm × Int
  | _,n,[]=>([],n)
  | v,n,x::r=>((D3 v n x).1::(namesR v (D3 v n x).2 r).1,(namesR v (D3 v n x).2 r).2)
theorem p9 (v:List Tm)(n:Int)(t:Tm):D3 v n t=if t.kind=1 then (v.getD (v.length - 1 - t.index.toNat) AA,n)
  else if t.kind=2 then (Tm.mk 2 (n+1) t.type [(D3.headN (v++[vT (n+1)]) (n+1) t.args).1],(D3.headN (v++[vT (n+1)]) (n+1) t.args).2)
  else (Tm.mk t.kind 0 t.type (D3.namesR v n t.args).1,(D3.namesR v n t.args).2):=by
 cases t;rw[D3];rfl
theorem YQ (v:List Tm)(x:Tm):∀(l:List Tm) (n:Int),D3.namesR v n (l++[x])=((D3.namesR v n l).1++[(D3 v (D3.namesR v n l).2 x).1],(D3 v (D3.namesR v n l).2 x).2)
 | [],n=>rfl
 | a::r,n=>by
  simp only[List.cons_append,D3.namesR];rw[YQ v x r]
theorem zie (t:Tm):∀(v:List Tm) (n:Int),n<=(D3 v n t).2/\(D3 v n t).2<=n+(t.count:Int):=by
 induction t using Tm.ind with
 | h t ih=>
 intro v n;have hl:∀(l:List Tm),(∀x∈l,x∈t.args)->∀n:Int,n<=(D3.namesR v n l).2/\(D3.namesR v n l).2<=n+(Tm.count.counts l:Int):=by
  intro l
  induction l with
  | nil=>intro _ n;exact⟨Int.le_refl _,by show n<=n+((0:Nat):Int);omega⟩
  | cons x r Fy=>
   intro hx n;obtain⟨a1,a2⟩:=ih x (hx x sS) v n;obtain⟨b1,b2⟩:=Fy (fun z hz=>hx z (by simp[hz])) (D3 v n x).2;have e:(Tm.count.counts (x::r):Int)=(x.count:Int)+(Tm.count.counts r:Int):=by
    show ((x.count+Tm.count.counts r:Nat):Int)=_;omega
   rw[e];simp only[D3.namesR];omega
 have hc:(t.count:Int)=1+(Tm.count.counts t.args:Int):=by
  rw[Tm.count_eq];omega
 rw[hc,p9];split;· exact⟨Int.le_refl _,by simp only;omega⟩
 split
 ·cases ha:t.args with
  | nil=>exact⟨by show n<=n+1;omega,by show n+1<=n+(1+((0:Nat):Int));omega⟩
  | cons x r=>
   obtain⟨a1,a2⟩:=ih x (by rw[ha];simp) (v++[vT (n+1)]) (n+1);have e:(Tm.count.counts (x::r):Int)=(x.count:Int)+(Tm.count.counts r:Int):=by
    show ((x.count+Tm.count.counts r:Nat):Int)=_;omega
   rw[e];show n<=(D3 _ (n+1) x).2/\(D3 _ (n+1) x).2<=_;omega
 ·obtain⟨b1,b2⟩:=hl t.args (fun _ h=>h) n;simp only;omega
theorem pA (v:List Tm):∀(l:List Tm) (n:Int),n<=(D3.namesR v n l).2/\(D3.namesR v n l).2<=n+(Tm.count.counts l:Int)
 | [],n=>⟨Int.le_refl _,by show n<=n+((0:Nat):Int);omega⟩
 | x::r,n=>by
  obtain⟨a1,a2⟩:=zie x v n;obtain⟨b1,b2⟩:=pA v r (D3 v n x).2;have e:(Tm.count.counts (x::r):Int)=(x.count:Int)+(Tm.count.counts r:Int):=by
   show ((x.count+Tm.count.counts r:Nat):Int)=_;omega
  rw[e];simp only[D3.namesR];omega
theorem z55 (n:Int):D3 [] n EF=(FC n,n+4):=by
 have e2:n+1+1=n+2:=oO;have e3:n+2+1=n+3:=oO;have e4:n+3+1=n+4:=oO;have hp:EF=Tm.mk 2 0 CE [Tm.mk 2 0 CE [Tm.mk 6 0 CE [vT 1,Tm.mk 2 0 CE [Tm.mk 2 0 CE [nT 5 [vT 0]]],vT 0]]]:=rfl;rw[hp];simp[D3,D3.headN,D3.namesR,vT,nT,FC,e2,e3,e4]
end
section
variable {gl:AF}
theorem dN (v:List Tm):∀(l:List Tm) (n:Int),(D3.namesR v n l).1.length=l.length
 | [],_=>rfl
 | x::r,n=>by simp only[D3.namesR,List.length_cons,dN v r]
theorem z56 (b:Nat)(t:Tm)(ht:t.shape=true):∀(v:List Tm) (n:Int),t.closedN v.length=true->0<=n->n+(t.count:Int)<=1099511627776->v.length+t.count<=1000000 ->
  cT gl 163 [BC b,t.dv,.sl (v.map Tm.cells)] [(b,bn n)] (D3 v n t).1.dv [(b,bn (D3 v n t).2)]:=by
 induction t using Tm.ind with
 | h t ih=>
 intro v n Ci Mq Fo hl;obtain⟨ha,hi,hv,Be,hs⟩:=Tm.shape_node ht;have Dg:=Tm.count_eq t;have Av:=Tm.fold t;rw[p9];rw[Tm.closedN_eq]at Ci;by_cases h1:t.kind=1
 ·rw[if_pos h1];rw[if_pos h1]at Ci;have Ci:=of_decide_eq_true (Bool.and_eq_true_iff.1 Ci).2;have Ag:v.length - 1 - t.index.toNat<v.length:=oO;have hx:=uB Ag;rw[List.getD_eq_getElem?_getD,hx,Option.getD_some];generalize v[v.length - 1 - t.index.toNat]=x at *;have Cp:v[(v.length - 1 - t.index:Int).toNat]? = some x:=by rw[<- hx];congr 1;omega
  have Us:v.length<=1000000:=oO;have An:=Tm.cells_eq x;have Sb:t.index<(v.length:Int):=oO;refine A8 Tryz.func163 ?_;intro X hP u7 hf u9 hn hR u6 u5;refine A7 (j5 @h1 @Cp @Sb @hi @Us) ?_;exact AI [(b,bn n)] @An
 rw[if_neg h1];rw[if_neg h1]at Ci;by_cases h2:t.kind=2
 ·rw[if_pos h2];rw[h2]at ha
  obtain⟨y,hy⟩:∃y,t.args=[y]:=by
   match hh:t.args,ha with
   | [y],_=>exact⟨y,rfl⟩
  have Wp:y∈t.args:=by rw[hy];simp
  have Bp:=Tm.count_mem Wp;have Dz:y.closedN (v++[vT (n+1)]).length=true:=by
   have:=(Tm.closeds_iff _ _).1 Ci y Wp;rw[if_pos h2]at this;rw[List.length_append];exact this
  rw[hy];have w1:=cE (gl:=gl) b n Mq oO;have w2:=cD (gl:=gl) (n+1);have w3:=g7 (gl:=gl) v (vT (n+1)) oO;have w4:=ih y Wp (hs y Wp) (v++[vT (n+1)]) (n+1) Dz oO oO (by rw[List.length_append];show v.length+1+y.count<=_;omega);show U8 _ _ _ _ _ (Tm.mk 2 (n+1) t.type [(D3 (v++[vT (n+1)]) (n+1) y).1]).dv [(b,bn (D3 (v++[vT (n+1)]) (n+1) y).2)];generalize D3 (v++[vT (n+1)]) (n+1) y=r at *;obtain⟨r1,r2⟩:=r;simp only at w4 ⊢;have Aq:t.args[0]? = some y:=by rw[hy];rfl
  have Cs:=Tm.fold y;have Ih:=Tm.cells_eq r1;have Dv:(vT (n+1)).dv=(Tm.mk 1 (n+1) (Ty.mk 0 []) []).dv:=rfl;have Su:(vT (n+1)).dv = .agg [A0 1,A0 (n+1),A0 0,.sl [],.sl []]:=rfl;have Ry:(Tm.mk 1 (n+1) (Ty.mk 0 []) []).dv = .agg [A0 1,A0 (n+1),A0 0,.sl [],.sl []]:=rfl;rw[Ry]at w2;rw[Su]at w3;generalize (v++[vT (n+1)]).map Tm.cells=V2 at *;refine A8 Tryz.func163 ?_;intro X hP u7 hf u9 hn hR u6 u5;refine A7 @h2 ?_;refine A3 tT w1 ?_;refine A4 ?_;refine OL (j2 @Aq @Cs) w2 w3 w4 ?_;refine A4 ?_;exact AI [(b,bn r2)] (j2 @Ih @h2)
 rw[if_neg h2];have Ci:=(Tm.closeds_iff _ _).1 Ci;rw[if_neg h2]at Ci;have hlen:=dN v;have Jw:D3.namesR v n []=([],n):=rfl;have hga:t.args.length<=3:=by
  have:B5 t.kind<=3:=by unfold B5;(repeat' split) <;> omega
  omega
 refine A8 Tryz.func163 ?_;intro X hP u7 hf u9 hn hR u6 u5;refine A7 (j2 @h1 @h2) ?_;refine BK ?_;refine AC [(1007,0)] @Jw (FE (t.args) (fun done rest=>[sV 0 (BC b),sV 2 (.sl (v.map Tm.cells)),sP 4,sL 4 [.v (A0 t.kind),.v (A0 t.index),.v (A0 t.type.kind),.v (.sl (t.type.args.map Ty.cells)),.v (.sl (t.args.map Tm.cells))],sP 6,sL 6 [.v (A0 0),.v (A0 0),.v (A0 0),.own 0 [],.own 0 []],sP 7,sL 7 [.v (A0 t.kind),.v (A0 0),.v (A0 t.type.kind),.v (.sl (t.type.args.map Ty.cells)),.own 1007 ((D3.namesR v n done).1.map Tm.cells)],(.tok 1007,.tk 5 done.length),sV 8 (A0 done.length),sB  b [.v (.sl []),.v (.sl []),.v (A0 (D3.namesR v n done).2)]]) ?_ ?_)
 ·intro done x rest hL Aq Aa;have Ag:done.length<t.args.length:=by rw[hL];simp
  have Dd:=uE Aq;have An:=Tm.count_mem Dd;have Df:=Tm.counts_append done (x::rest);rw[<- hL]at Df;simp only[Tm.count.counts]at Df;obtain⟨d1,d2⟩:=pA v done n;have hclx:x.closedN v.length=true:=Ci x Dd;have w:=ih x Dd (hs x Dd) v (D3.namesR v n done).2 hclx oO oO oO;have Hs:=YQ v x done n;rw[Hs,List.map_append]at Aa;have Dy:=hlen done n;have Bi:=Tm.fold x;generalize D3.namesR v n done=q at *;obtain⟨q1,q2⟩:=q;simp only at w Aa Dy ⊢;generalize D3 v q2 x=r at *;obtain⟨r1,r2⟩:=r;simp only[List.map_cons,List.map_nil]at w Aa ⊢;have Ih:=Tm.cells_eq r1;rw[Ih]at Aa;have hlq:(q1.map Tm.cells).length=done.length:=by rw[List.length_map,Dy]
  have hwq:∀e∈q1.map Tm.cells,e.length=5:=by
   intro e he;obtain⟨z,_,rfl⟩:=List.mem_map.1 he;exact Tm.length_cells z
  have Bc:done.length<=2147483647:=oO;generalize q1.map Tm.cells=Q at *;refine A2 ?_;refine AE ?_;refine A7 @Aq ?_;refine A3 (j5 @Aq @Bi @hlq @hwq @Bc) w ?_;refine CR (wr [(1007,64)]) (j3 @hlq @hwq @Bc) tT Aa
 ·refine A2 ?_;refine B6 ?_;refine A4 ?_;exact AI [(b,bn (D3.namesR v n t.args).2)] tT
theorem XJ (c b:Nat)(hb:c≠b)(n:Int)(x y:Tm)(h0:0<=n)(h1:n<=549755813888):cT gl 131 [BC c,x.dv,y.dv] (co c b n) (nT 3 [nT 3 [FC n,x],y]).dv (co c b (n+4)):=by
 have w:=z56 (gl:=gl) b EF (by rfl) [] n (by rfl) h0 (by show n+((9:Nat):Int)<=_;omega) (by show 0+9<=_;omega);rw[z55]at w;simp only[List.map_nil]at w;have w2:=ID (gl:=gl) (FC n) x;have w3:=ID (gl:=gl) (nT 3 [FC n,x]) y;have Qq:=Tm.fold EF;have u9:=Tm.fold (FC n);have Bi:=Tm.fold x;have Cs:=Tm.fold y;have Cy:=Tm.fold (nT 3 [FC n,x]);have Ab:b≠c:=fun h=>hb h.symm;generalize FC n=pn at *;generalize nT 3 [pn,x]=a1 at *;refine A8 Tryz.func131 ?_;intro X hP u7 hf u9 hn hR u6 u5;refine A7 (j2 @hb @Ab) ?_;refine eJ (j7 @hb @Ab @Qq @u9 @Bi @Cs @Cy) TV w w2 w3 ?_;exact AI (co c b (n+4)) (j2 @hb @Ab)
theorem pB {s:List Int}{n:Int}(h:∀k:Nat,s[k]?≠some n):UH s n=none:=by
 unfold UH;rw[List.find?_eq_none];intro x _
 simpa using h x
theorem xC (t:Tm):∀(s:List Int),s.length+t.count<=1000000->cT gl 54 [t.dv,.sl (AP s)] [] (EA s t).dv []:=by
 induction t using Tm.ind with
 | h t ih=>
 intro s hl;have Dg:=Tm.count_eq t;have Av:=Tm.fold t;rw[IB];have hls:s.length<=1000000:=oO;have hli:(AP s).length=s.length:=by simp[AP]
 by_cases h1:t.kind=1
 ·rw[if_pos h1];refine A8 Tryz.func54 ?_;intro X hP u7 hf u9 hn hR u6 u5;refine A7 (j2 @h1 @hli) ?_;refine BK ?_;refine AC [] @hli (CH (fun j:Nat=>j<=s.length/\∀k,j<=k->s[k]?≠some t.index) (fun j:Nat=>[sV 1 (.sl (AP s)),sP 2,sL 2 [.v (A0 t.kind),.v (A0 t.index),.v (A0 t.type.kind),.v (.sl (t.type.args.map Ty.cells)),.v (.sl (t.args.map Tm.cells))],sP 4,sL 4 [.v (A0 0),.v (A0 0),.v (A0 0),.own 0 [],.own 0 []],sV 5 (A0 ((j:Int) - 1))]) (fun j:Nat=>j) s.length (⟨Nat.le_refl _,fun k hk=>by rw[List.getElem?_eq_none hk];intro h;cases h⟩) ?_);intro j hj Bh;obtain⟨i1,i2⟩:=hj;cases j with
  | zero=>
   have hN:=pB (s:=s) (n:=t.index) (fun k=>i2 k (Nat.zero_le _));rw[hN]at hR;generalize t.kind=tk at *;subst h1;refine A4 ?_;exact B9
  | succ j=>
   have Mr:j<s.length:=oO;have hgx:(AP s)[j]? = some [A0 s[j]]:=by simp[AP,uB Mr]
   have To:(0:Int)<=j:=oO;by_cases he:s[j]=t.index
   ·have hS:=Y7 (s:=s) (n:=t.index) (j:=j) (by rw[uB Mr,he]) (fun k hk=>i2 k oO);rw[hS]at hR;have Dv:(vT ((s.length:Int) - 1 - (j:Int))).dv=(Tm.mk 1 ((s.length:Int) - 1 - (j:Int)) (Ty.mk 0 []) []).dv:=rfl;have w:=cD (gl:=gl) ((s.length:Int) - 1 - (j:Int));simp only[Dv]at hR;generalize s[j]=sj at *;generalize AP s=S at *;subst he;refine A7 (j2 @To @hgx) ?_;refine A3 @hli w ?_;exact B9
   ·have Xj:=Bh j ⟨oO,fun k hk=>by
     by_cases hkj:k=j;· subst hkj;rw[uB Mr];intro h;exact he (Option.some.inj h)
     ·exact i2 k oO⟩ oO
    generalize s[j]=sj at *;refine A7 (j3 @To @hgx @he) ?_;refine CR (wr []) tT tT Xj
 rw[if_neg h1];obtain⟨s',Ww⟩:∃s',s' = if t.kind=2 then s++[t.index] else s:=⟨_,rfl⟩
 rw[<- Ww];have Je:s'.length<=s.length+1:=by rw[Ww];split <;> simp
 have Df:∀x∈t.args,x.count<t.count:=fun x hx=>by have:=Tm.count_mem hx;omega
 refine A8 Tryz.func54 ?_;intro X hP u7 hf u9 hn hR u6 u5;have hlt3:=Tm.fit_len (u5 t.dv sS);by_cases h2:t.kind=2
 ·rw[if_pos h2]at Ww;have hse:AP s++[[A0 t.index]]=AP s':=by rw[Ww];simp[AP]
  refine A7 (j3 @h1 @h2 @hli) ?_;refine BK ?_;refine AC [(1006,0)] (j2 @hse @h2) (FE (t.args) (fun done rest=>[sP 2,sL 2 [.v (A0 t.kind),.v (A0 t.index),.v (A0 t.type.kind),.v (.sl (t.type.args.map Ty.cells)),.v (.sl (t.args.map Tm.cells))],sP 4,sL 4 [.v (A0 0),.v (A0 0),.v (A0 0),.own 0 [],.own 0 []],sP 6,sL 6 [.v (A0 t.kind),.v (A0 0),.v (A0 t.type.kind),.v (.sl (t.type.args.map Ty.cells)),.own 1006 (done.map fun x=>(EA s' x).cells)],(.tok 1006,.tk 5 done.length),sV 7 (.sl (AP s')),sV 8 (A0 done.length)]) ?_ ?_)
  ·intro done x rest hL Aq Aa;have Ag:done.length<t.args.length:=by rw[hL];simp
   have Dd:=uE Aq;have w:=ih x Dd s' (by have:=Df x Dd;omega);have Bi:=Tm.fold x;refine A2 ?_;refine AE ?_;refine A7 @Aq ?_;refine A3 (j2 @Aq @Bi) w ?_;refine CR (wr [(1006,65)]) tT tT Aa
  ·refine A2 ?_;refine B6 ?_;refine A4 ?_;exact AT @h2
 ·rw[if_neg h2]at Ww;subst Ww;refine A7 (j2 @h1 @h2) ?_;refine BK ?_;refine AC [(1006,0)] tT (FE (t.args) (fun done rest=>[sP 2,sL 2 [.v (A0 t.kind),.v (A0 t.index),.v (A0 t.type.kind),.v (.sl (t.type.args.map Ty.cells)),.v (.sl (t.args.map Tm.cells))],sP 4,sL 4 [.v (A0 0),.v (A0 0),.v (A0 0),.own 0 [],.own 0 []],sP 6,sL 6 [.v (A0 t.kind),.v (A0 0),.v (A0 t.type.kind),.v (.sl (t.type.args.map Ty.cells)),.own 1006 (done.map fun x=>(EA s' x).cells)],(.tok 1006,.tk 5 done.length),sV 7 (.sl (AP s')),sV 8 (A0 done.length)]) ?_ ?_)
  ·intro done x rest hL Aq Aa;have Ag:done.length<t.args.length:=by rw[hL];simp
   have Dd:=uE Aq;have w:=ih x Dd s' (by have:=Df x Dd;omega);have Bi:=Tm.fold x;refine A2 ?_;refine AE ?_;refine A7 @Aq ?_;refine A3 (j2 @Aq @Bi) w ?_;refine CR (wr [(1006,65)]) tT tT Aa
  ·refine A2 ?_;refine B6 ?_;refine A4 ?_;exact B9
theorem zcq (t:Tm)(e:Int)(hc:t.count<=1073741824):cT gl 101 [t.dv,A0 e] [] (if e=0 then if 4096<t.count then .tup [AA.dv,A0 4] else .tup [t.dv,A0 0] else .tup [AA.dv,A0 e]) []:=by
 have w:=z45 (gl:=gl) t hc;have Av:=Tm.fold t;have An:=Tm.cells_eq t;refine A8 Tryz.func101 ?_;intro X hP u7 hf u9 hn hR u6 u5;by_cases h:e=0
 ·rw[if_pos h]at hR;by_cases h4:4096<t.count
  ·rw[if_pos h4]at hR;have h5:(4096:Int)<(t.count:Int):=oO;refine A7 @h ?_;refine A3 @Av w ?_;refine A7 @h5 ?_;exact AT @AA.eq_1
  ·rw[if_neg h4]at hR;have h5:¬(4096:Int)<(t.count:Int):=oO;refine A7 @h ?_;refine A3 @Av w ?_;refine A7 @h5 ?_;exact AT @An
 ·rw[if_neg h]at hR;refine A7 @h ?_;exact AT (j2 @AA.eq_1 @h)
theorem GW (i:Int):(vT i).dv = .agg [A0 1,A0 i,A0 0,.sl [],.sl []]:=rfl
theorem O1:(nT 4 []).dv = .agg [A0 4,A0 0,A0 0,.sl [],.sl []]:=rfl
theorem B8 (c b:Nat)(hb:c≠b)(n m:Int)(h:m=n+1)(h0:0<=n)(h1:n<=1099511627776):cT gl 52 [BC c] (co c b n) (.agg [A0 1,A0 m,A0 0,.sl [],.sl []]) (co c b m):=by
 subst h;exact vQ c b hb n h0 h1
theorem F5 (c b:Nat)(hb:c≠b)(n m:Int)(x y:Tm)(h:m=n+4)(h0:0<=n)(h1:n<=549755813888):cT gl 131 [BC c,x.dv,y.dv] (co c b n) (nT 3 [nT 3 [FC n,x],y]).dv (co c b m):=by
 subst h;exact XJ c b hb n x y h0 h1
theorem gO:cT gl 164 [] [] (Ty.mk 2 []).dv []:=by
 refine A8 Tryz.func164 ?_;intro X hP u7 hf u9 hn hR u6 u5;refine A4 ?_;exact B9
theorem XK (k:Int)(h:¬k=4):cT gl 38 [(Ty.mk k []).dv] [] (Ty.mk k []).dv []:=by
 have hd:(Ty.mk k []).dv = .agg [A0 k,.sl []]:=rfl;rw[hd];refine A8 Tryz.func38 ?_;intro X hP u7 hf u9 hn hR u6 u5;refine A4 ?_;refine B4 ?_;refine A7 @h ?_;exact BR
theorem z57 (x y Xa Ya:Ty)(hx:cT gl 38 [x.dv] [] Xa.dv [])(hy:cT gl 38 [y.dv] [] Ya.dv []) :
  cT gl 38 [(Ty.mk 3 [x,y]).dv] [] (Ty.mk 3 [Xa,Ya]).dv []:=by
 have Bi:=Ty.fold x;have Cs:=Ty.fold y;have hd:(Ty.mk 3 [x,y]).dv = .agg [A0 3,.sl [x.cells,y.cells]]:=rfl;have hD:(Ty.mk 3 [Xa,Ya]).dv = .agg [A0 3,.sl [Xa.cells,Ya.cells]]:=rfl;have An:=Ty.cells_eq x;have Bp:=Ty.cells_eq y;have Om:=Ty.cells_eq Xa;have Sq:=Ty.cells_eq Ya;rw[hd];refine A8 Tryz.func38 ?_;intro X hP u7 hf u9 hn hR u6 u5;rw[hD]at hR;refine A4 ?_;refine B4 ?_;refine A2 ?_;refine AE ?_;refine A7 @An ?_;refine A3 (j2 @An @Bi) hx ?_;refine A4 ?_;refine AC (s':=[sP 1,sL 1 [.v (A0 3),.v (.sl [x.cells,y.cells])],sP 2,sL 2 [.v (A0 0),.own 0 []],sP 3,sL 3 [.v (A0 3),.own 1024 [[A0 Xa.kind,.sl (Xa.args.map Ty.cells)]]],(.tok 1024,.tk 2 1),sV 4 (A0 1)]) [(1024,24)] (j2 @An @Bp) ?_;refine AB ?_;refine A2 ?_;refine AE ?_;refine A7 @Bp ?_;refine A3 (j2 @Bp @Cs) hy ?_;refine A4 ?_;refine AB ?_;refine A2 ?_;refine B6 ?_;refine A4 ?_;exact BD (j2 @Om @Sq)
theorem zif (x y Xa Ya:Ty)(hx:cT gl 38 [x.dv] [] Xa.dv [])(hy:cT gl 38 [y.dv] [] Ya.dv []) :
  cT gl 38 [(Ty.mk 4 [x,y]).dv] [] (Ty.mk 4 [Xa,Ty.mk 3 [CE,Ya]]).dv []:=by
 have wp:=BF (gl:=gl) Ya;obtain⟨P,hP0⟩:∃P,P=Ty.mk 3 [CE,Ya]:=⟨_,rfl⟩;rw[<- hP0]at wp ⊢;clear hP0;have Bi:=Ty.fold x;have Cs:=Ty.fold y;have hfY:=Ty.fold Ya;have hd:(Ty.mk 4 [x,y]).dv = .agg [A0 4,.sl [x.cells,y.cells]]:=rfl;have hD:(Ty.mk 4 [Xa,P]).dv = .agg [A0 4,.sl [Xa.cells,P.cells]]:=rfl;have An:=Ty.cells_eq x;have Bp:=Ty.cells_eq y;have Om:=Ty.cells_eq Xa;have Sq:=Ty.cells_eq Ya;have hcW:=Ty.cells_eq P;rw[hd];refine A8 Tryz.func38 ?_;intro X hP u7 hf u9 hn hR u6 u5;rw[hD]at hR;refine A4 ?_;refine B4 ?_;refine A2 ?_;refine AE ?_;refine BK ?_;refine j0 (by rw[hP];exact AZ) 9 ?_ ?_ [] [24] fun K hK=>?_;· decide
 ·rfl
 simp[go_sem,hP,u7,hn,An];refine FF @Bi (hx) ?_;refine⟨by rfl,?_⟩;refine YF (E:=2) (B:=32) (zs:=[[A0 Xa.kind,.sl (Xa.args.map Ty.cells)]]) (zd:=[A0 0,.sl []]) (by simp[go_sem]) (by simp[go_sem]) (by simp[go_sem,hP]) (by rw[hP];kernel_rfl) rfl dD (by rw[hP];rfl) (by rw[hn];exact uF rfl) sS (by simp;unfold HL;omega) sS rfl ?_;intro b cap Bj Np Ow;have Oy:1<=cap:=Bj;obtain⟨full,Fj⟩:∃full,full=[[A0 Xa.kind,.sl (Xa.args.map Ty.cells)]]++List.replicate (cap - 1) [A0 0,DV.sl []]:=⟨_,rfl⟩;have Ew:full.length=cap:=by rw[Fj];simp;omega
 have Ok:∀e∈full,e.length=2:=by
  intro e he;rw[Fj]at he;rcases List.mem_append.1 he with he|he;· rw[List.mem_singleton.1 he];rfl
  ·rw[(List.mem_replicate.1 he).2];rfl
 have Av:full.take 1=[[A0 Xa.kind,.sl (Xa.args.map Ty.cells)]]:=by rw[Fj];rfl
 simp only[List.length_singleton];rw[<- Fj];clear Fj;simp[go_sem,hP,u7,hn];refine F1 ?_;clear hK K;refine A2 ?_;refine AC (s':=[sP 1,sL 1 [.v (A0 4),.v (.sl [x.cells,y.cells])],sP 2,sL 2 [.v (A0 0),.own 0 []],sP 3,sL 3 [.v (A0 4),.v (KK b 1 cap)],sV 4 (A0 1),sB  b (AM full)]) [] (j3 @An @Bp @cF) ?_;refine AB ?_;refine A2 ?_;refine AE ?_;refine BK ?_;refine j0 (by rw[hP];exact AZ) 9 ?_ ?_ [] [24] fun K hK=>?_;· decide
 ·rfl
 simp[go_sem,hP,u7,hn,Bp];refine FF @Cs (hy) ?_;refine⟨by rfl,?_⟩;refine nQ rfl (YG (q:=some b) (E:=2) (B:=32) (n:=1) (cap:=cap) (full:=full) (zs:=[[A0 Ya.kind,.sl (Ya.args.map Ty.cells)]]) (zd:=[A0 0,.sl []]) rfl rfl (by rw[hn];exact uF rfl) (by simp[go_sem,hP]) dD (by rw[hP];rfl) (by simp[go_sem,hP,u7,hn]) (by simp[go_sem,hP,u7,hn]) (fun b' Ab=>by cases Ab;simp[go_sem]) (fun h=>by cases h) Ew Oy sS (by simp;unfold HL;omega) Ok sS (by rw[hP];kernel_rfl) rfl) rfl ?_;rintro q b2 cs ⟨Vt,Cd,rfl,rfl,f1,f2,f3,f4,f9⟩ hnb2;simp only[List.length_singleton]at f3 f4;have f5:Cd.take 2=[[A0 Xa.kind,.sl (Xa.args.map Ty.cells)],[A0 Ya.kind,.sl (Ya.args.map Ty.cells)]]:=by rw[f4,Av];rfl
 have f6:Cd[1]? = some [A0 Ya.kind,.sl (Ya.args.map Ty.cells)]:=by
  have:=congrArg (fun l=>l[1]?) f5
  simpa [List.getElem?_take] using this
 have Hl:GZ (List.take 2 (List.drop 2 (AM Cd)))=some [A0 Ya.kind,.sl (Ya.args.map Ty.cells)]:=by simpa using g8 f2 f6
 have hput:=xX (ys:=Cd) (E:=2) f2 (i:=1) oO (z:=[A0 P.kind,.sl (P.args.map Ty.cells)]) rfl;have f8:AM Cd=[.v (A0 Xa.kind),.v (.sl (Xa.args.map Ty.cells)),.v (A0 Ya.kind),.v (.sl (Ya.args.map Ty.cells))]++AM (Cd.drop 2):=by
  conv=>lhs;rw[<- List.take_append_drop 2 Cd,H8,f5]
  rfl
 simp[z46,zaz,go_sem,hP,u7,hn];refine F1 ?_;clear hK K;refine zjc (b:=b2) (by rw[<- f8];simp[go_sem]) ?_;simp[go_sem];refine A2 ?_;refine AB ?_;refine A2 ?_;refine B6 ?_;refine A4 ?_;refine A3 @hfY wp ?_;refine A2 ?_;refine P6 (b:=b2) (E:=2) (ys:=[[A0 Xa.kind,.sl (Xa.args.map Ty.cells)],[A0 P.kind,.sl (P.args.map Ty.cells)]]) (by simp[go_sem];rfl) sS (by simp;unfold HL;omega) (by rcases f9 with h|h;(cases h;exact Ow);exact h.1) ?_;have Kc:G0 b2 [[A0 Xa.kind,.sl (Xa.args.map Ty.cells)],[A0 P.kind,.sl (P.args.map Ty.cells)]] (.v (.prim (.slice (some ⟨b2,0,none⟩) 2 Vt))) = .v (.sl [[A0 Xa.kind,.sl (Xa.args.map Ty.cells)],[A0 P.kind,.sl (P.args.map Ty.cells)]]):=PC rfl f3;simp[go_sem,frz,TO,JH,L1,L2,L3,JS,P9,MW,MX,PA,MY,PB,MZ,N0,Kc];refine A4 ?_;exact BD (j2 @Om @hcW)
theorem E5:∀a:T,cT gl 38 [a.ty.dv] [] a.tk.ty.dv []
 | .nat=>XK 1 dD
 | .list=>XK 2 dD
 | .unit=>XK 5 dD
 | .pair a d=>z57 a.ty d.ty a.tk.ty d.tk.ty (E5 a) (E5 d)
 | .fn a d=>zif a.ty d.ty a.tk.ty d.tk.ty (E5 a) (E5 d)
theorem pC (c b:Nat)(hb:c≠b)(n:Int)(t:Tm)(g:List Ty)(y:Ty)(u7:g.length<=1048576)(ht:t.tys)(hc:t.count<=1073741824)(hg:∀x∈g,x.ok)(hy:t.typedE g=(y,0)) :
  cT gl 99 [BC c,.sl (g.map Ty.cells),t.dv] (co c b n) (.tup [y.dv,A0 0]) (co c b n):=by
 have w:=RZ (gl:=gl) t g u7 ht hc hg;rw[hy]at w;have Av:=Tm.fold t;have Cs:=Ty.cells_eq y;have Ab:b≠c:=fun h=>hb h.symm;refine A8 Tryz.func99 ?_;intro X hP u7 hf u9 hn hR u6 u5;refine A7 (j2 @hb @Ab) ?_;refine D5 (j3 @Av @hb @Ab) w ?_;refine A7 (j2 @hb @Ab) ?_;exact AI (co c b n) (j3 @hb @Ab @Cs)
def DS (gl:AF)(c b:Nat)(G:List Ty)(V:List Tm)(n:Int)(t:Tm)(r:Tm × Int × Int)(y:Ty):Prop:=
 cT gl 53 [BC c,.sl (G.map Ty.cells),.sl (V.map Tm.cells),t.dv] (co c b n) (.tup [r.1.dv,y.dv,A0 r.2.1]) (co c b r.2.2)
def E6 (gl:AF)(c b:Nat)(G:List Ty)(V:List Tm)(n:Int)(t:Tm)(r:Tm × Int × Int):Prop:=
 cT gl 100 [BC c,.sl (G.map Ty.cells),.sl (V.map Tm.cells),t.dv] (co c b n) (.tup [r.1.dv,A0 r.2.1]) (co c b r.2.2)
theorem kE {c b:Nat}(hb:c≠b){n:Int}{t:Tm}{G:List Ty}{V:List Tm}{y:Ty}{m:Tm × Int × Int}(u7:G.length<=1048576)(ht:t.tys)(hc:t.count<=1073741824)(hg:∀x∈G,x.ok)(hy:t.typedE G=(y,0))(hm:m.1.count<=1073741824)(h:E6 gl c b G V n t m):DS gl c b G V n t (IC m) y:=by
 have w1:=pC (gl:=gl) c b hb n t G y u7 ht hc hg hy;have w3:=zcq (gl:=gl) m.1 m.2.1 hm;unfold E6 at h;unfold DS;have Av:=Tm.fold t;have Cs:=Ty.cells_eq y;have Ab:b≠c:=fun h=>hb h.symm;obtain⟨x,e,k⟩:=m;simp only at h w3 hm;have Bi:=Tm.fold x;have An:=Tm.cells_eq x;generalize G.map Ty.cells=GG at *;generalize V.map Tm.cells=VV at *;unfold IC;simp only;by_cases he:e=0
 ·subst he;rw[if_pos rfl]at w3 ⊢;by_cases h4:4096<x.count
  ·rw[if_pos h4]at w3 ⊢;refine A8 Tryz.func53 ?_;intro X hP u7 hf u9 hn hR u6 u5;have J0:=j2 @hb @Ab;refine A7 J0 ?_;have J1:=j3 @Av @hb @Ab;refine D5 J1 w1 ?_;refine A7 J0 ?_;refine D5 J1 h ?_;refine A7 J0 ?_;refine D5 (j3 @Bi @hb @Ab) w3 ?_;refine A7 J0 ?_;exact AI (co c b k) (j4 @hb @Ab @Cs @AA.eq_1)
  ·rw[if_neg h4]at w3 ⊢;refine A8 Tryz.func53 ?_;intro X hP u7 hf u9 hn hR u6 u5;have J2:=j2 @hb @Ab;refine A7 J2 ?_;have J3:=j3 @Av @hb @Ab;refine D5 J3 w1 ?_;refine A7 J2 ?_;refine D5 J3 h ?_;refine A7 J2 ?_;refine D5 (j3 @Bi @hb @Ab) w3 ?_;refine A7 J2 ?_;exact AI (co c b k) (j4 @hb @Ab @Cs @An)
 ·rw[if_neg he]at w3 ⊢;refine A8 Tryz.func53 ?_;intro X hP u7 hf u9 hn hR u6 u5;have J4:=j2 @hb @Ab;refine A7 J4 ?_;have J5:=j3 @Av @hb @Ab;refine D5 J5 w1 ?_;refine A7 J4 ?_;refine D5 J5 h ?_;refine A7 J4 ?_;refine D5 (j3 @Bi @hb @Ab) w3 ?_;refine A7 J4 ?_;exact AI (co c b k) (j4 @hb @Ab @Cs @AA.eq_1)
theorem xD (c b:Nat)(hb:c≠b)(t:Tm)(hk:t.kind=6)(a:T)(v0 v1 v2 n:Int)(h0:0<=n)(h1:n<=274877906944) :
  cT gl 134 [BC c,t.dv,a.tk.ty.dv,.sl [[A0 1,A0 (v0),A0 0,.sl [],.sl []],[A0 1,A0 (v1),A0 0,.sl [],.sl []],[A0 1,A0 (v2),A0 0,.sl [],.sl []]]] (co c b n) (Tm.mk 6 0 a.wt.ty [nT 10 [nT 4 [],AS v0],HZ 6 a v1 n,AS v2]).dv (co c b (n+14)):=by
 have Ab:b≠c:=fun h=>hb h.symm;have fs:=Ty.fold a.tk.ty;have fW:=Ty.fold a.wt.ty;have Kn:(Ty.mk 1 []).dv=DV.agg [A0 1,.sl []]:=rfl;have Ib:(Ty.mk 2 []).dv=DV.agg [A0 2,.sl []]:=rfl;have Av:=Tm.fold t;have kW:=BF (gl:=gl) a.tk.ty;rw[show Ty.mk 3 [CE,a.tk.ty]=a.wt.ty from rfl]at kW;have kL:=W3 (gl:=gl) a.tk.ty a.wt.ty;rw[show Ty.mk 4 [a.tk.ty,a.wt.ty]=(T.fn a a).tk.ty from rfl]at kL;have fL:=Ty.fold (T.fn a a).tk.ty;have kC:=BF (gl:=gl) (T.fn a a).tk.ty;rw[show Ty.mk 3 [CE,(T.fn a a).tk.ty]=(T.fn a a).wt.ty from rfl]at kC;have fC:=Ty.fold (T.fn a a).wt.ty;have kv0:=B8 (gl:=gl) c b hb n (n+1) rfl oO oO;have Jm:=B8 (gl:=gl) c b hb (n+1) (n+2) oO oO oO;have Ni:=B8 (gl:=gl) c b hb (n+2) (n+3) oO oO oO;have Tq:=B8 (gl:=gl) c b hb (n+3) (n+4) oO oO oO;have kv4:=B8 (gl:=gl) c b hb (n+4) (n+5) oO oO oO;have kv5:=B8 (gl:=gl) c b hb (n+5) (n+6) oO oO oO;have Uz:=BW (gl:=gl) (vT (n+3));rw[GW]at Uz;obtain⟨fa,Cy⟩:∃z,z=nT 11 [vT (n+3)]:=⟨_,rfl⟩;rw[<- Cy]at Uz;have ffa:=Tm.fold fa;have Tt:=BW (gl:=gl) (vT (n+4));rw[GW]at Tt;obtain⟨fu,Fj⟩:∃z,z=nT 11 [vT (n+4)]:=⟨_,rfl⟩;rw[<- Fj]at Tt;have ffu:=Tm.fold fu;have Ge:=F5 (gl:=gl) c b hb (n+6) (n+10) fa fu oO oO oO
 obtain⟨p1,Ef⟩:∃z,z=nT 3 [nT 3 [FC (n+6),fa],fu]:=⟨_,rfl⟩;rw[<- Ef]at Ge;have My:=Tm.fold p1;have Vk:=BW (gl:=gl) (vT (n+6));rw[GW]at Vk;obtain⟨fw,Ok⟩:∃z,z=nT 11 [vT (n+6)]:=⟨_,rfl⟩;rw[<- Ok]at Vk;have ffw:=Tm.fold fw;have Kv:=F5 (gl:=gl) c b hb (n+10) (n+14) p1 fw oO oO oO;obtain⟨p2,Ir⟩:∃z,z=nT 3 [nT 3 [FC (n+10),p1],fw]:=⟨_,rfl⟩;rw[<- Ir]at Kv;have Qo:=Tm.fold p2;have De:=BQ (gl:=gl) 5 [p2];simp only[List.map_cons,List.map_nil,Tm.cells_eq p2]at De;rw[show (Tm.mk 5 0 (Ty.mk 0 []) [p2])=nT 5 [p2] from rfl]at De;obtain⟨nd,Ai⟩:∃z,z=nT 5 [p2]:=⟨_,rfl⟩;rw[<- Ai]at De;have Li:=Tm.fold nd;have We:=BJ (gl:=gl) (vT (n+3));rw[GW]at We;obtain⟨sa,Co⟩:∃z,z=nT 12 [vT (n+3)]:=⟨_,rfl⟩;rw[<- Co]at We;have fsa:=Tm.fold sa;have Vr:=BJ (gl:=gl) (vT (n+4));rw[GW]at Vr;obtain⟨su,Ny⟩:∃z,z=nT 12 [vT (n+4)]:=⟨_,rfl⟩;rw[<- Ny]at Vr;have fsu:=Tm.fold su;have Tv:=BJ (gl:=gl) (vT (n+6));rw[GW]at Tv;obtain⟨sw,Vw⟩:∃z,z=nT 12 [vT (n+6)]:=⟨_,rfl⟩;rw[<- Vw]at Tv;have fsw:=Tm.fold sw;have Sw:=ID (gl:=gl) su sa;obtain⟨ap,Gl⟩:∃z,z=nT 3 [su,sa]:=⟨_,rfl⟩;rw[<- Gl]at Sw;have fap:=Tm.fold ap;have Mz:=DO (gl:=gl) nd sw;obtain⟨pr,Ij⟩:∃z,z=nT 10 [nd,sw]:=⟨_,rfl⟩
 rw[<- Ij]at Mz;have Qh:=Tm.fold pr;have Wk:=CZ (gl:=gl) a.wt.ty (n+6) ap pr;rw[GW]at Wk;obtain⟨e1,Vz⟩:∃z,z=nT 3 [Tm.mk 2 (n+6) a.wt.ty [pr],ap]:=⟨_,rfl⟩;rw[<- Vz]at Wk;have fe1:=Tm.fold e1;have Fp:=BJ (gl:=gl) (vT (v1));rw[GW]at Fp;obtain⟨s1,Bg⟩:∃z,z=nT 12 [vT (v1)]:=⟨_,rfl⟩;rw[<- Bg]at Fp;have Nz:=Tm.fold s1;have Tn:=ID (gl:=gl) s1 (vT (n+1));rw[GW]at Tn;obtain⟨ar,Bl⟩:∃z,z=nT 3 [s1,(vT (n+1))]:=⟨_,rfl⟩;rw[<- Bl]at Tn;have far:=Tm.fold ar;have Vi:=CZ (gl:=gl) (T.fn a a).wt.ty (n+4) ar e1;rw[GW]at Vi;obtain⟨st,Fd⟩:∃z,z=nT 3 [Tm.mk 2 (n+4) (T.fn a a).wt.ty [e1],ar]:=⟨_,rfl⟩;rw[<- Fd]at Vi;have fst:=Tm.fold st;have Yr:=NN (gl:=gl) a.wt.ty (n+3) st;obtain⟨la,Og⟩:∃z,z=Tm.mk 2 (n+3) a.wt.ty [st]:=⟨_,rfl⟩;rw[<- Og]at Yr;have fla:=Tm.fold la;have Pl:=NN (gl:=gl) (Ty.mk 1 []) (n+1) la;rw[Kn]at Pl;obtain⟨ln,Kw⟩:∃z,z=Tm.mk 2 (n+1) (Ty.mk 1 []) [la]:=⟨_,rfl⟩;rw[<- Kw]at Pl;have fln:=Tm.fold ln;have Dc:=BJ (gl:=gl) (vT (v0));rw[GW]at Dc;obtain⟨s0,Cb⟩:∃z,z=nT 12 [vT (v0)]:=⟨_,rfl⟩;rw[<- Cb]at Dc;have Ld:=Tm.fold s0;have Pm:=BJ (gl:=gl) (vT (v2));rw[GW]at Pm;obtain⟨s2,By⟩:∃z,z=nT 12 [vT (v2)]:=⟨_,rfl⟩;rw[<- By]at Pm;have Wq:=Tm.fold s2
 have Vx:=DO (gl:=gl) (nT 4 []) s0;rw[O1]at Vx;obtain⟨bs,Ow⟩:∃z,z=nT 10 [nT 4 [],s0]:=⟨_,rfl⟩;rw[<- Ow]at Vx;have fbs:=Tm.fold bs;have k4:=BQ (gl:=gl) 4 [];rw[show (Tm.mk 4 0 (Ty.mk 0 []) []).dv=(nT 4 []).dv from rfl,O1]at k4;simp only[List.map_nil]at k4;have Am:(Tm.mk 6 0 a.wt.ty [nT 10 [nT 4 [],AS v0],HZ 6 a v1 n,AS v2])=Tm.mk 6 0 a.wt.ty [bs,ln,s2]:=by
  have Fd:HZ 6 a v1 n=ln:=by
   simp only[Kw,Og,Fd,Bl,Bg,Vz,Ij,Vw,Gl,Co,Ny,Ai,Ir,Ok,Ef,Fj,Cy];rw[show n+10=n+6+4 from oO];rfl
  rw[Fd,Ow,Cb,By];rfl
 rw[Am];have Hl:(Tm.mk 6 0 a.wt.ty [bs,ln,s2]).dv = .agg [A0 6,A0 0,A0 a.wt.ty.kind,.sl (a.wt.ty.args.map Ty.cells),.sl [bs.cells,ln.cells,s2.cells]]:=rfl;have Km:=Tm.cells_eq bs;have Jn:=Tm.cells_eq ln;have Qt:=Tm.cells_eq s2;rw[Hl];clear Hl Am;clear Cy Fj Ef Ok Ir Ai Co Ny Vw Gl Ij Vz Bg Bl Fd Og Kw Cb By Ow;generalize a.tk.ty=tY at *;generalize a.wt.ty=wY at *;generalize (T.fn a a).tk.ty=lY at *;generalize (T.fn a a).wt.ty=cY at *;refine A8 Tryz.func134 ?_;intro X hP u7 hf u9 hn hR u6 u5;have Da:=hb;have J0:=j2 @hb @Ab;refine A7 J0 ?_;have J1:=j8 @hb @Ab @fs @fW @Kn @Ib @fL (j8 @fC @ffa @ffu @My @ffw @Qo @Li (j8 @fsa @fsu @fsw @fap @Qh @fe1 @Nz (j7 @far @fst @fla @fln @Ld @Wq @fbs)));refine mQ J1 kW cC ?_;refine A7 J0 ?_;refine D5 J1 kL ?_;refine A7 J0 ?_;refine NH J1 kv0 Jm Ni ?_;refine A7 J0 ?_;refine NH J1 Tq kv4 kv5 ?_;refine A7 (j3 @hk @hb @Ab) ?_;refine z8e J1 Uz Tt Ge Vk Kv De ?_;refine A7 J0 ?_;refine z8e J1 Vr We Sw Tv Mz Wk ?_;refine A7 J0 ?_;refine eJ J1 kC Fp Tn Vi ?_;refine A7 J0 ?_;refine mQ J1 Yr Pl ?_;refine A7 J0 ?_;refine NH J1 k4 Dc Vx ?_;refine A7 J0 ?_;refine D5 J1 Pm ?_;refine A7 J0 ?_;exact AI (co c b (n+14)) (j5 @hb @Ab @Km @Jn @Qt)
theorem pD (c b:Nat)(hb:c≠b)(t:Tm)(hk:t.kind=9)(a:T)(v0 v1 v2 n:Int)(h0:0<=n)(h1:n<=274877906944) :
  cT gl 134 [BC c,t.dv,a.tk.ty.dv,.sl [[A0 1,A0 (v0),A0 0,.sl [],.sl []],[A0 1,A0 (v1),A0 0,.sl [],.sl []],[A0 1,A0 (v2),A0 0,.sl [],.sl []]]] (co c b n) (Tm.mk 9 0 a.wt.ty [nT 10 [nT 4 [],AS v0],HZ 9 a v1 n,AS v2]).dv (co c b (n+18)):=by
 have Ab:b≠c:=fun h=>hb h.symm;have fs:=Ty.fold a.tk.ty;have fW:=Ty.fold a.wt.ty;have Kn:(Ty.mk 1 []).dv=DV.agg [A0 1,.sl []]:=rfl;have Ib:(Ty.mk 2 []).dv=DV.agg [A0 2,.sl []]:=rfl;have Av:=Tm.fold t;have kW:=BF (gl:=gl) a.tk.ty;rw[show Ty.mk 3 [CE,a.tk.ty]=a.wt.ty from rfl]at kW;have kL:=W3 (gl:=gl) a.tk.ty a.wt.ty;rw[show Ty.mk 4 [a.tk.ty,a.wt.ty]=(T.fn a a).tk.ty from rfl]at kL;have fL:=Ty.fold (T.fn a a).tk.ty;have kC:=BF (gl:=gl) (T.fn a a).tk.ty;rw[show Ty.mk 3 [CE,(T.fn a a).tk.ty]=(T.fn a a).wt.ty from rfl]at kC;have fC:=Ty.fold (T.fn a a).wt.ty;have kv0:=B8 (gl:=gl) c b hb n (n+1) rfl oO oO;have Jm:=B8 (gl:=gl) c b hb (n+1) (n+2) oO oO oO;have Ni:=B8 (gl:=gl) c b hb (n+2) (n+3) oO oO oO;have Tq:=B8 (gl:=gl) c b hb (n+3) (n+4) oO oO oO;have kv4:=B8 (gl:=gl) c b hb (n+4) (n+5) oO oO oO;have kv5:=B8 (gl:=gl) c b hb (n+5) (n+6) oO oO oO;have Uz:=BW (gl:=gl) (vT (n+3));rw[GW]at Uz;obtain⟨fa,Cy⟩:∃z,z=nT 11 [vT (n+3)]:=⟨_,rfl⟩;rw[<- Cy]at Uz;have ffa:=Tm.fold fa;have Tt:=BW (gl:=gl) (vT (n+4));rw[GW]at Tt;obtain⟨fu,Fj⟩:∃z,z=nT 11 [vT (n+4)]:=⟨_,rfl⟩;rw[<- Fj]at Tt;have ffu:=Tm.fold fu;have Ge:=F5 (gl:=gl) c b hb (n+6) (n+10) fa fu oO oO oO
 obtain⟨p1,Ef⟩:∃z,z=nT 3 [nT 3 [FC (n+6),fa],fu]:=⟨_,rfl⟩;rw[<- Ef]at Ge;have My:=Tm.fold p1;have kfz:=BW (gl:=gl) (vT (n+5));rw[GW]at kfz;obtain⟨fz,Kc⟩:∃z,z=nT 11 [vT (n+5)]:=⟨_,rfl⟩;rw[<- Kc]at kfz;have ffz:=Tm.fold fz;have Kv:=F5 (gl:=gl) c b hb (n+10) (n+14) p1 fz oO oO oO;obtain⟨p2,Ir⟩:∃z,z=nT 3 [nT 3 [FC (n+10),p1],fz]:=⟨_,rfl⟩;rw[<- Ir]at Kv;have Qo:=Tm.fold p2;have Vk:=BW (gl:=gl) (vT (n+6));rw[GW]at Vk;obtain⟨fw,Ok⟩:∃z,z=nT 11 [vT (n+6)]:=⟨_,rfl⟩;rw[<- Ok]at Vk;have ffw:=Tm.fold fw;have Te:=F5 (gl:=gl) c b hb (n+14) (n+18) p2 fw oO oO oO;obtain⟨p3,Oo⟩:∃z,z=nT 3 [nT 3 [FC (n+14),p2],fw]:=⟨_,rfl⟩;rw[<- Oo]at Te;have Zt:=Tm.fold p3;have De:=BQ (gl:=gl) 5 [p3];simp only[List.map_cons,List.map_nil,Tm.cells_eq p3]at De;rw[show (Tm.mk 5 0 (Ty.mk 0 []) [p3])=nT 5 [p3] from rfl]at De;obtain⟨nd,Ai⟩:∃z,z=nT 5 [p3]:=⟨_,rfl⟩;rw[<- Ai]at De;have Li:=Tm.fold nd;have We:=BJ (gl:=gl) (vT (n+3));rw[GW]at We;obtain⟨sa,Co⟩:∃z,z=nT 12 [vT (n+3)]:=⟨_,rfl⟩;rw[<- Co]at We;have fsa:=Tm.fold sa;have Vr:=BJ (gl:=gl) (vT (n+4));rw[GW]at Vr;obtain⟨su,Ny⟩:∃z,z=nT 12 [vT (n+4)]:=⟨_,rfl⟩;rw[<- Ny]at Vr;have fsu:=Tm.fold su;have Tv:=BJ (gl:=gl) (vT (n+6))
 rw[GW]at Tv;obtain⟨sw,Vw⟩:∃z,z=nT 12 [vT (n+6)]:=⟨_,rfl⟩;rw[<- Vw]at Tv;have fsw:=Tm.fold sw;have ksz:=BJ (gl:=gl) (vT (n+5));rw[GW]at ksz;obtain⟨sz,Bb⟩:∃z,z=nT 12 [vT (n+5)]:=⟨_,rfl⟩;rw[<- Bb]at ksz;have fsz:=Tm.fold sz;have Sw:=ID (gl:=gl) sz sa;obtain⟨ap,Gl⟩:∃z,z=nT 3 [sz,sa]:=⟨_,rfl⟩;rw[<- Gl]at Sw;have fap:=Tm.fold ap;have Mz:=DO (gl:=gl) nd sw;obtain⟨pr,Ij⟩:∃z,z=nT 10 [nd,sw]:=⟨_,rfl⟩;rw[<- Ij]at Mz;have Qh:=Tm.fold pr;have Wk:=CZ (gl:=gl) a.wt.ty (n+6) ap pr;rw[GW]at Wk;obtain⟨e1,Vz⟩:∃z,z=nT 3 [Tm.mk 2 (n+6) a.wt.ty [pr],ap]:=⟨_,rfl⟩;rw[<- Vz]at Wk;have fe1:=Tm.fold e1;have kaq:=ID (gl:=gl) su (vT (n+2));rw[GW]at kaq;obtain⟨aq,haq⟩:∃z,z=nT 3 [su,(vT (n+2))]:=⟨_,rfl⟩;rw[<- haq]at kaq;have faq:=Tm.fold aq;have ke2:=CZ (gl:=gl) (T.fn a a).wt.ty (n+5) aq e1;rw[GW]at ke2;obtain⟨e2,he2⟩:∃z,z=nT 3 [Tm.mk 2 (n+5) (T.fn a a).wt.ty [e1],aq]:=⟨_,rfl⟩;rw[<- he2]at ke2;have fe2:=Tm.fold e2;have kM:=W3 (gl:=gl) (Ty.mk 2 []) (T.fn a a).wt.ty;rw[show Ty.mk 4 [Ty.mk 2 [],(T.fn a a).wt.ty]=(T.fn .list (.fn a a)).tk.ty from rfl]at kM;have fM:=Ty.fold (T.fn .list (.fn a a)).tk.ty;have kD:=BF (gl:=gl) (T.fn .list (.fn a a)).tk.ty
 rw[show Ty.mk 3 [CE,(T.fn .list (.fn a a)).tk.ty]=(T.fn .list (.fn a a)).wt.ty from rfl]at kD;have fD:=Ty.fold (T.fn .list (.fn a a)).wt.ty;rw[Ib]at kM;have Fp:=BJ (gl:=gl) (vT (v1));rw[GW]at Fp;obtain⟨s1,Bg⟩:∃z,z=nT 12 [vT (v1)]:=⟨_,rfl⟩;rw[<- Bg]at Fp;have Nz:=Tm.fold s1;have Tn:=ID (gl:=gl) s1 (vT (n+1));rw[GW]at Tn;obtain⟨ar,Bl⟩:∃z,z=nT 3 [s1,(vT (n+1))]:=⟨_,rfl⟩;rw[<- Bl]at Tn;have far:=Tm.fold ar;have Vi:=CZ (gl:=gl) (T.fn .list (.fn a a)).wt.ty (n+4) ar e2;rw[GW]at Vi;obtain⟨st,Fd⟩:∃z,z=nT 3 [Tm.mk 2 (n+4) (T.fn .list (.fn a a)).wt.ty [e2],ar]:=⟨_,rfl⟩;rw[<- Fd]at Vi;have fst:=Tm.fold st;have Yr:=NN (gl:=gl) a.wt.ty (n+3) st;obtain⟨la,Og⟩:∃z,z=Tm.mk 2 (n+3) a.wt.ty [st]:=⟨_,rfl⟩;rw[<- Og]at Yr;have fla:=Tm.fold la;have kll:=NN (gl:=gl) (Ty.mk 2 []) (n+2) la;rw[Ib]at kll;obtain⟨ll,Hc⟩:∃z,z=Tm.mk 2 (n+2) (Ty.mk 2 []) [la]:=⟨_,rfl⟩;rw[<- Hc]at kll;have fll:=Tm.fold ll;have Pl:=NN (gl:=gl) (Ty.mk 1 []) (n+1) ll;rw[Kn]at Pl;obtain⟨ln,Kw⟩:∃z,z=Tm.mk 2 (n+1) (Ty.mk 1 []) [ll]:=⟨_,rfl⟩;rw[<- Kw]at Pl;have fln:=Tm.fold ln;have Dc:=BJ (gl:=gl) (vT (v0));rw[GW]at Dc;obtain⟨s0,Cb⟩:∃z,z=nT 12 [vT (v0)]:=⟨_,rfl⟩;rw[<- Cb]at Dc;have Ld:=Tm.fold s0
 have Pm:=BJ (gl:=gl) (vT (v2));rw[GW]at Pm;obtain⟨s2,By⟩:∃z,z=nT 12 [vT (v2)]:=⟨_,rfl⟩;rw[<- By]at Pm;have Wq:=Tm.fold s2;have Vx:=DO (gl:=gl) (nT 4 []) s0;rw[O1]at Vx;obtain⟨bs,Ow⟩:∃z,z=nT 10 [nT 4 [],s0]:=⟨_,rfl⟩;rw[<- Ow]at Vx;have fbs:=Tm.fold bs;have k4:=BQ (gl:=gl) 4 [];rw[show (Tm.mk 4 0 (Ty.mk 0 []) []).dv=(nT 4 []).dv from rfl,O1]at k4;simp only[List.map_nil]at k4;have Am:(Tm.mk 9 0 a.wt.ty [nT 10 [nT 4 [],AS v0],HZ 9 a v1 n,AS v2])=Tm.mk 9 0 a.wt.ty [bs,ln,s2]:=by
  have Fd:HZ 9 a v1 n=ln:=by
   simp only[Kw,Hc,Og,Fd,Bl,Bg,he2,haq,Vz,Ij,Vw,Gl,Co,Bb,Ny,Ai,Oo,Ir,Ok,Kc,Ef,Fj,Cy];rw[show n+10=n+6+4 from oO,show n+14=n+6+4+4 from oO];rfl
  rw[Fd,Ow,Cb,By];rfl
 rw[Am];have Hl:(Tm.mk 9 0 a.wt.ty [bs,ln,s2]).dv = .agg [A0 9,A0 0,A0 a.wt.ty.kind,.sl (a.wt.ty.args.map Ty.cells),.sl [bs.cells,ln.cells,s2.cells]]:=rfl;have Km:=Tm.cells_eq bs;have Jn:=Tm.cells_eq ln;have Qt:=Tm.cells_eq s2;rw[Hl];clear Hl Am;clear Cy Fj Ef Kc Ir Ok Oo Ai Co Ny Vw Bb Gl Ij Vz haq he2 Bg Bl Fd Og Hc Kw Cb By Ow;generalize a.tk.ty=tY at *;generalize a.wt.ty=wY at *;generalize (T.fn a a).tk.ty=lY at *;generalize (T.fn a a).wt.ty=cY at *;generalize (T.fn .list (.fn a a)).tk.ty=mY at *;generalize (T.fn .list (.fn a a)).wt.ty=dY at *;refine A8 Tryz.func134 ?_;intro X hP u7 hf u9 hn hR u6 u5;have Da:=hb;have J0:=j2 @hb @Ab;refine A7 J0 ?_;have J1:=j8 @hb @Ab @fs @fW @Kn @Ib @fL (j8 @fC @ffa @ffu @My @ffz @Qo @ffw (j8 @Zt @Li @fsa @fsu @fsw @fsz @fap (j8 @Qh @fe1 @faq @fe2 @fM @fD @Nz (j8 @far @fst @fla @fll @fln @Ld @Wq @fbs))));refine mQ J1 kW cC ?_;refine A7 J0 ?_;refine D5 J1 kL ?_;refine A7 J0 ?_;refine NH J1 kv0 Jm Ni ?_;refine A7 J0 ?_;refine NH J1 Tq kv4 kv5 ?_;refine A7 (j3 @hk @hb @Ab) ?_;refine zs6 J1 Uz Tt Ge kfz Kv Vk Te De ?_;refine A7 J0 ?_;refine z8e J1 ksz We Sw Tv Mz Wk ?_;refine A7 J0 ?_;refine eJ J1 kC Vr kaq ke2 ?_;refine A7 J0 ?_;refine NH J1 gO kC kM ?_;refine A7 J0 ?_;refine eJ J1 kD Fp Tn Vi ?_;refine A7 J0 ?_
 refine eJ J1 gO Yr kll Pl ?_;refine A7 J0 ?_;refine NH J1 k4 Dc Vx ?_;refine A7 J0 ?_;refine D5 J1 Pm ?_;refine A7 J0 ?_;exact AI (co c b (n+18)) (j5 @hb @Ab @Km @Jn @Qt)
theorem zcr (c b:Nat)(hb:c≠b)(G:List Ty)(s:List Int)(n i:Int)(h0:0<=i)(hi:i.toNat<s.length)(hl:s.length<=1000000):E6 gl c b G (s.map vT) n (vT i) (nT 10 [nT 4 [],vT (s.getD (s.length - 1 - i.toNat) 0)],0,n):=by
 unfold E6;have Ag:s.length - 1 - i.toNat<s.length:=oO;have hx:=uB Ag;rw[List.getD_eq_getElem?_getD,hx,Option.getD_some];generalize s[s.length - 1 - i.toNat]=v at *;have hV:((s.map vT).map Tm.cells)[(s.length - 1 - i:Int).toNat]? = some [A0 1,A0 v,A0 0,.sl [],.sl []]:=by
  rw[show (s.length - 1 - i:Int).toNat=s.length - 1 - i.toNat from oO,List.getElem?_map,List.getElem?_map,hx];rfl
 have hVl:((s.map vT).map Tm.cells).length=s.length:=sS;have k4:=BQ (gl:=gl) 4 [];rw[show (Tm.mk 4 0 (Ty.mk 0 []) []).dv=(nT 4 []).dv from rfl,O1]at k4;simp only[List.map_nil]at k4;have kp:=DO (gl:=gl) (nT 4 []) (vT v);rw[O1,GW]at kp;have Gp:=Tm.cells_eq (nT 10 [nT 4 [],vT v]);generalize nT 10 [nT 4 [],vT v]=B at *;generalize (s.map vT).map Tm.cells=VV at *;generalize G.map Ty.cells=GG at *;have Ab:b≠c:=fun h=>hb h.symm;have Sb:i<(s.length:Int):=oO;rw[GW];refine A8 Tryz.func100 ?_;intro X hP u7 hf u9 hn hR u6 u5;refine A7 (j2 @hb @Ab) ?_;refine D5 (j2 @hb @Ab) k4 ?_;have J0:=j6 @hb @Ab @hV @hVl @Sb @h0;refine A7 J0 ?_;refine D5 J0 kp ?_;exact AI (co c b n) (j3 @hb @Ab @Gp)
theorem zig (c b:Nat)(hb:c≠b)(G:List Ty)(V:List Tm)(n:Int):E6 gl c b G V n (nT 4 []) (nT 10 [nT 4 [],nT 4 []],0,n):=by
 unfold E6;have k4:=BQ (gl:=gl) 4 [];rw[show (Tm.mk 4 0 (Ty.mk 0 []) []).dv=(nT 4 []).dv from rfl,O1]at k4;simp only[List.map_nil]at k4;have kn:=BQ (gl:=gl) 4 [];have Ai:(nT 4 []).dv = .agg [A0 4,A0 0,A0 0,.sl [],.sl []]:=rfl;rw[show (Tm.mk 4 0 (Ty.mk 0 []) []).dv=(nT 4 []).dv from rfl,Ai]at kn;simp only[List.map_nil]at kn;have kp:=DO (gl:=gl) (nT 4 []) (nT 4 []);rw[O1]at kp;rw[Ai];have Gp:=Tm.cells_eq (nT 10 [nT 4 [],nT 4 []]);generalize nT 10 [nT 4 [],nT 4 []]=B at *;generalize V.map Tm.cells=VV at *;generalize G.map Ty.cells=GG at *;have Ab:b≠c:=fun h=>hb h.symm;refine A8 Tryz.func100 ?_;intro X hP u7 hf u9 hn hR u6 u5;have J0:=j2 @hb @Ab;refine A7 J0 ?_;refine D5 J0 k4 ?_;refine A7 J0 ?_;refine mQ J0 kn kp ?_;exact AI (co c b n) (j3 @hb @Ab @Gp)
theorem zih (c b:Nat)(hb:c≠b)(G:List Ty)(V:List Tm)(n:Int):E6 gl c b G V n (nT 7 []) (nT 10 [nT 4 [],nT 7 []],0,n):=by
 unfold E6;have k4:=BQ (gl:=gl) 4 [];rw[show (Tm.mk 4 0 (Ty.mk 0 []) []).dv=(nT 4 []).dv from rfl,O1]at k4;simp only[List.map_nil]at k4;have kn:=BQ (gl:=gl) 7 [];have Ai:(nT 7 []).dv = .agg [A0 7,A0 0,A0 0,.sl [],.sl []]:=rfl;rw[show (Tm.mk 7 0 (Ty.mk 0 []) []).dv=(nT 7 []).dv from rfl,Ai]at kn;simp only[List.map_nil]at kn;have kp:=DO (gl:=gl) (nT 4 []) (nT 7 []);rw[O1,Ai]at kp;rw[Ai];have Gp:=Tm.cells_eq (nT 10 [nT 4 [],nT 7 []]);generalize nT 10 [nT 4 [],nT 7 []]=B at *;generalize V.map Tm.cells=VV at *;generalize G.map Ty.cells=GG at *;have Ab:b≠c:=fun h=>hb h.symm;refine A8 Tryz.func100 ?_;intro X hP u7 hf u9 hn hR u6 u5;have J0:=j2 @hb @Ab;refine A7 J0 ?_;refine D5 J0 k4 ?_;refine A7 J0 ?_;refine mQ J0 kn kp ?_;exact AI (co c b n) (j3 @hb @Ab @Gp)
theorem zct (c b:Nat)(hb:c≠b)(G:List Ty)(V:List Tm)(n:Int):E6 gl c b G V n (nT 13 []) (nT 10 [nT 4 [],nT 13 []],0,n):=by
 unfold E6;have k4:=BQ (gl:=gl) 4 [];rw[show (Tm.mk 4 0 (Ty.mk 0 []) []).dv=(nT 4 []).dv from rfl,O1]at k4;simp only[List.map_nil]at k4;have kn:=BQ (gl:=gl) 13 [];have Ai:(nT 13 []).dv = .agg [A0 13,A0 0,A0 0,.sl [],.sl []]:=rfl;rw[show (Tm.mk 13 0 (Ty.mk 0 []) []).dv=(nT 13 []).dv from rfl,Ai]at kn;simp only[List.map_nil]at kn;have kp:=DO (gl:=gl) (nT 4 []) (nT 13 []);rw[O1,Ai]at kp;rw[Ai];have Gp:=Tm.cells_eq (nT 10 [nT 4 [],nT 13 []]);generalize nT 10 [nT 4 [],nT 13 []]=B at *;generalize V.map Tm.cells=VV at *;generalize G.map Ty.cells=GG at *;have Ab:b≠c:=fun h=>hb h.symm;refine A8 Tryz.func100 ?_;intro X hP u7 hf u9 hn hR u6 u5;have J0:=j2 @hb @Ab;refine A7 J0 ?_;refine D5 J0 k4 ?_;refine A7 J0 ?_;refine mQ J0 kn kp ?_;exact AI (co c b n) (j3 @hb @Ab @Gp)
theorem zcu (c b:Nat)(hb:c≠b)(G:List Ty)(V:List Tm)(n:Int)(a:T)(x:Tm)(r:Tm × Int × Int)(y:Ty)(h0:0<=n)(Fo:n<=1099511627776)(hG:G.length<=1000000)(hV:V.length<=1000000)(hx:DS gl c b (G++[a.ty]) (V++[vT (n+1)]) (n+1) x r y) :
  E6 gl c b G V n (AY a x) (nT 10 [nT 4 [],Tm.mk 2 (n+1) a.tk.ty [r.1]],r.2):=by
 unfold E6;unfold DS at hx;obtain⟨z,e,m⟩:=r;simp only at hx ⊢;have k4:=BQ (gl:=gl) 4 [];rw[show (Tm.mk 4 0 (Ty.mk 0 []) []).dv=(nT 4 []).dv from rfl,O1]at k4;simp only[List.map_nil]at k4;have kv:=B8 (gl:=gl) c b hb n (n+1) rfl h0 Fo;have kw:=g7 (gl:=gl) V (vT (n+1)) hV;rw[GW]at kw;have ko:=E5 (gl:=gl) a;have fo:=Ty.fold a.tk.ty;have fa:=Ty.fold a.ty;have ca:=Ty.cells_eq a.ty;have kl:=NN (gl:=gl) a.tk.ty (n+1) z;have kp:=DO (gl:=gl) (nT 4 []) (Tm.mk 2 (n+1) a.tk.ty [z]);rw[O1]at kp;have fl:=Tm.fold (Tm.mk 2 (n+1) a.tk.ty [z]);have Gp:=Tm.cells_eq (nT 10 [nT 4 [],Tm.mk 2 (n+1) a.tk.ty [z]]);have fx:=Tm.fold x;have fz:=Tm.fold z;have fy:=Ty.fold y;have cx:=Tm.cells_eq x;have Bv:(AY a x).dv = .agg [A0 2,A0 0,A0 a.ty.kind,.sl (a.ty.args.map Ty.cells),.sl [x.cells]]:=by rw[Tm.dv,Tm.cells_eq];rfl
 rw[Bv];have hGm:(G++[a.ty]).map Ty.cells=G.map Ty.cells++[a.ty.cells]:=sS;rw[hGm]at hx;have Zy:(G.map Ty.cells).length=G.length:=sS;have hGw:∀e∈G.map Ty.cells,e.length=2:=by
  intro e he;obtain⟨q,_,rfl⟩:=List.mem_map.1 he;exact Ty.length_cells q
 have hGb:G.length<=2147483647:=oO;have hGx:=eq_true hGw;generalize (V++[vT (n+1)]).map Tm.cells=VW at *;generalize nT 10 [nT 4 [],Tm.mk 2 (n+1) a.tk.ty [z]]=B at *;generalize Tm.mk 2 (n+1) a.tk.ty [z]=L at *;generalize V.map Tm.cells=VV at *;generalize G.map Ty.cells=GG at *;generalize a.tk.ty=tk at *;generalize a.ty=ta at *;have Ab:b≠c:=fun h=>hb h.symm;refine A8 Tryz.func100 ?_;intro X hP u7 hf u9 hn hR u6 u5;have J0:=j2 @hb @Ab;refine A7 J0 ?_;refine D5 J0 k4 ?_;refine A7 J0 ?_;refine D5 J0 kv ?_;refine A7 J0 ?_;refine mQ (j8 @hb @Ab @fx @cx @ca @Zy @hGx @hGb) kw hx ?_;refine A7 J0 ?_;refine NH (j6 @hb @Ab @fa @fo @fz @fl) ko kl kp ?_;exact AI (co c b m) (j3 @hb @Ab @Gp)
theorem z58 (c b:Nat)(hb:c≠b)(G:List Ty)(V:List Tm)(n:Int)  (x:Tm)(r1:Tm × Int × Int)(h0:0<=n)(l1:n<=r1.2.2)(hN:r1.2.2<=137438953472)(hx:DS gl c b G V (n) x r1 (T.nat:T).ty):E6 gl c b G V n (nT 5 [x]) (if r1.2.1=0 then ((pN 5 T.nat (r1.2.2+1) r1.1:Tm),(0:Int),(r1.2.2+1:Int)) else (AA,r1.2)):=by
 have Ab:b≠c:=fun h=>hb h.symm;unfold DS at hx;have An:=Tm.cells_eq x;have fx:=Tm.fold x;obtain⟨z1,e1,n1⟩:=r1;simp only at hx hN l1 ⊢;have He:=Tm.fold z1;have Mg:=E5 (gl:=gl) T.nat;have Fg:=BF (gl:=gl) T.nat.tk.ty;rw[show Ty.mk 3 [CE,T.nat.tk.ty]=T.nat.wt.ty from rfl]at Fg;have Gd:=Ty.fold T.nat.ty;have Hj:=Ty.fold T.nat.tk.ty;have Jm:=B8 (gl:=gl) c b hb n1 (n1+1) rfl oO oO;have k4:=BQ (gl:=gl) 4 [];rw[show (Tm.mk 4 0 (Ty.mk 0 []) []).dv=(nT 4 []).dv from rfl,O1]at k4;simp only[List.map_nil]at k4;have Eo:=BW (gl:=gl) (vT (n1+1));rw[GW]at Eo;obtain⟨f0,Dl⟩:∃z,z=nT 11 [vT (n1+1)]:=⟨_,rfl⟩;rw[<- Dl]at Eo;have Le:=Tm.fold f0;have Dc:=BJ (gl:=gl) (vT (n1+1));rw[GW]at Dc;obtain⟨s0,Cb⟩:∃z,z=nT 12 [vT (n1+1)]:=⟨_,rfl⟩;rw[<- Cb]at Dc;have Ld:=Tm.fold s0;have De:=BQ (gl:=gl) 5 [s0];simp only[List.map_cons,List.map_nil,Tm.cells_eq s0]at De;rw[show (Tm.mk 5 0 (Ty.mk 0 []) [s0])=nT 5 [s0] from rfl]at De;obtain⟨nd,Ai⟩:∃z,z=nT 5 [s0]:=⟨_,rfl⟩;rw[<- Ai]at De;have Li:=Tm.fold nd;have Gc:=DO (gl:=gl) f0 nd;obtain⟨B0,Ez⟩:∃z,z=nT 10 [f0,nd]:=⟨_,rfl⟩;rw[<- Ez]at Gc;have Lm:=Tm.fold B0;have Ey:=CZ (gl:=gl) T.nat.wt.ty (n1+1) z1 B0;rw[GW]at Ey
 obtain⟨B1,Ep⟩:∃z,z=nT 3 [Tm.mk 2 (n1+1) T.nat.wt.ty [B0],z1]:=⟨_,rfl⟩;rw[<- Ep]at Ey;have Ll:=Tm.fold B1;have Am:pN 5 T.nat (n1+1) z1=B1:=by
  simp only[Ep,Ez,Ai,Cb,Dl];rfl
 rw[Am];clear Am Dl Cb Ai Ez Ep;have Gp:=Tm.cells_eq B1;have Bv:(nT 5 [x]).dv = .agg [A0 5,A0 0,A0 0,.sl [],.sl [x.cells]]:=by first|rfl|(rw[Tm.dv,Tm.cells_eq];rfl)
 unfold E6;rw[Bv];clear Bv;have e4:¬(4:Int)=0:=dD;refine A8 Tryz.func100 ?_;intro X hP u7 hf u9 hn hR u6 u5;generalize G.map Ty.cells=GG at *;generalize V.map Tm.cells=VV at *;have J0:=j2 @hb @Ab;refine A7 J0 ?_;refine D5 J0 k4 ?_;refine A7 J0 ?_;refine B4 ?_;refine A2 ?_;refine AE ?_;refine A7 (j3 @An @hb @Ab) ?_;refine D5 (j3 @fx @hb @Ab) hx ?_;by_cases q1:e1=0;rotate_left
 ·rw[if_neg q1]at hR;refine A7 (j3 @q1 @hb @Ab) ?_;exact AI (co c b n1) (j4 @hb @Ab @AA.eq_1 @q1)
 rw[if_pos q1]at hR;refine A7 (j3 @q1 @hb @Ab) ?_;refine NH (j5 @He @Gd @Hj @hb @Ab) Jm Mg Fg ?_;have J1:=j2 @hb @Ab;refine A7 J1 ?_;refine AC (s':=[sV 0 (BC c),sV 1 (.sl GG),sV 2 (.sl VV),sP 7,sL 7 [.v (A0 5),.v (A0 0),.v (A0 0),.v (.sl []),.v (.sl [x.cells])],sP 8,sL 8 [.v (A0 0),.v (A0 0),.v (A0 0),.own 0 [],.own 0 []],(.slot 15,.one (.own 1116 [[A0 z1.kind,A0 z1.index,A0 z1.type.kind,.sl (z1.type.args.map Ty.cells),.sl (z1.args.map Tm.cells)]])),(.tok 1116,.tk 5 1),(.slot 16,.one (.own 1121 [[A0 1,A0 (n1+1),A0 0,.sl [],.sl []]])),(.tok 1121,.tk 5 1),(.slot 17,.one (.own 1127 [[A0 T.nat.wt.ty.kind,.sl (T.nat.wt.ty.args.map Ty.cells)]])),(.tok 1127,.tk 2 1),sV 18 (A0 1),sB  c [.v (BC b)],sB  b [.v (.sl []),.v (.sl []),.v (A0 (n1+1))]]) [(1116,116),(1121,121),(1127,127)] (j3 @An @hb @Ab) ?_;refine AB ?_;refine A2 ?_;refine B6 ?_;refine A7 J1 ?_;have J2:=j8 @hb @Ab @He @Gd @Hj @Le @Ld (j3 @Li @Lm @Ll);refine eJ J2 Eo Dc De Gc ?_;refine A7 J1 ?_;refine B4 ?_;refine A2 ?_;refine AE ?_;refine D5 J2 Ey ?_;refine A7 J1 ?_
 refine AC (s':=[sP 8,sL 8 [.v (A0 0),.v (A0 0),.v (A0 0),.own 0 [],.own 0 []],sV 15 (.sl [[A0 z1.kind,A0 z1.index,A0 z1.type.kind,.sl (z1.type.args.map Ty.cells),.sl (z1.args.map Tm.cells)]]),sV 16 (.sl [[A0 1,A0 (n1+1),A0 0,.sl [],.sl []]]),sV 17 (.sl [[A0 T.nat.wt.ty.kind,.sl (T.nat.wt.ty.args.map Ty.cells)]]),sP 22,sL 22 [.v (A0 B1.kind),.v (A0 B1.index),.v (A0 B1.type.kind),.v (.sl (B1.type.args.map Ty.cells)),.v (.sl (B1.args.map Tm.cells))],sV 30 (A0 (-1)),sB  c [.v (BC b)],sB  b [.v (.sl []),.v (.sl []),.v (A0 (n1+1))]]) [] J1 ?_;refine AB ?_;refine A2 ?_;refine B6 ?_;refine A7 J1 ?_;exact AI (co c b (n1+1)) (j3 @hb @Ab @Gp)
theorem zcv (c b:Nat)(hb:c≠b)(G:List Ty)(V:List Tm)(n:Int)(a d:T)(x:Tm)(r1:Tm × Int × Int)(h0:0<=n)(l1:n<=r1.2.2)(hN:r1.2.2<=137438953472)(hx:DS gl c b G V (n) x r1 ((T.pair a d):T).ty):E6 gl c b G V n (nT 11 [x]) (if r1.2.1=0 then ((pN 11 (T.pair a d) (r1.2.2+1) r1.1:Tm),(0:Int),(r1.2.2+1:Int)) else (AA,r1.2)):=by
 have Ab:b≠c:=fun h=>hb h.symm;unfold DS at hx;have An:=Tm.cells_eq x;have fx:=Tm.fold x;obtain⟨z1,e1,n1⟩:=r1;simp only at hx hN l1 ⊢;have He:=Tm.fold z1;have Mg:=E5 (gl:=gl) (T.pair a d);have Fg:=BF (gl:=gl) (T.pair a d).tk.ty;rw[show Ty.mk 3 [CE,(T.pair a d).tk.ty]=(T.pair a d).wt.ty from rfl]at Fg;have Gd:=Ty.fold (T.pair a d).ty;have Hj:=Ty.fold (T.pair a d).tk.ty;have Jm:=B8 (gl:=gl) c b hb n1 (n1+1) rfl oO oO;have k4:=BQ (gl:=gl) 4 [];rw[show (Tm.mk 4 0 (Ty.mk 0 []) []).dv=(nT 4 []).dv from rfl,O1]at k4;simp only[List.map_nil]at k4;have Eo:=BW (gl:=gl) (vT (n1+1));rw[GW]at Eo;obtain⟨f0,Dl⟩:∃z,z=nT 11 [vT (n1+1)]:=⟨_,rfl⟩;rw[<- Dl]at Eo;have Le:=Tm.fold f0;have Dc:=BJ (gl:=gl) (vT (n1+1));rw[GW]at Dc;obtain⟨s0,Cb⟩:∃z,z=nT 12 [vT (n1+1)]:=⟨_,rfl⟩;rw[<- Cb]at Dc;have Ld:=Tm.fold s0;have De:=BQ (gl:=gl) 11 [s0];simp only[List.map_cons,List.map_nil,Tm.cells_eq s0]at De;rw[show (Tm.mk 11 0 (Ty.mk 0 []) [s0])=nT 11 [s0] from rfl]at De;obtain⟨nd,Ai⟩:∃z,z=nT 11 [s0]:=⟨_,rfl⟩;rw[<- Ai]at De;have Li:=Tm.fold nd;have Gc:=DO (gl:=gl) f0 nd;obtain⟨B0,Ez⟩:∃z,z=nT 10 [f0,nd]:=⟨_,rfl⟩;rw[<- Ez]at Gc;have Lm:=Tm.fold B0;have Ey:=CZ (gl:=gl) (T.pair a d).wt.ty (n1+1) z1 B0;rw[GW]at Ey
 obtain⟨B1,Ep⟩:∃z,z=nT 3 [Tm.mk 2 (n1+1) (T.pair a d).wt.ty [B0],z1]:=⟨_,rfl⟩;rw[<- Ep]at Ey;have Ll:=Tm.fold B1;have Am:pN 11 (T.pair a d) (n1+1) z1=B1:=by
  simp only[Ep,Ez,Ai,Cb,Dl];rfl
 rw[Am];clear Am Dl Cb Ai Ez Ep;have Gp:=Tm.cells_eq B1;have Bv:(nT 11 [x]).dv = .agg [A0 11,A0 0,A0 0,.sl [],.sl [x.cells]]:=by first|rfl|(rw[Tm.dv,Tm.cells_eq];rfl)
 unfold E6;rw[Bv];clear Bv;have e4:¬(4:Int)=0:=dD;refine A8 Tryz.func100 ?_;intro X hP u7 hf u9 hn hR u6 u5;generalize G.map Ty.cells=GG at *;generalize V.map Tm.cells=VV at *;have J0:=j2 @hb @Ab;refine A7 J0 ?_;refine D5 J0 k4 ?_;refine A7 J0 ?_;refine B4 ?_;refine A2 ?_;refine AE ?_;refine A7 (j3 @An @hb @Ab) ?_;refine D5 (j3 @fx @hb @Ab) hx ?_;by_cases q1:e1=0;rotate_left
 ·rw[if_neg q1]at hR;refine A7 (j3 @q1 @hb @Ab) ?_;exact AI (co c b n1) (j4 @hb @Ab @AA.eq_1 @q1)
 rw[if_pos q1]at hR;refine A7 (j3 @q1 @hb @Ab) ?_;refine NH (j5 @He @Gd @Hj @hb @Ab) Jm Mg Fg ?_;have J1:=j2 @hb @Ab;refine A7 J1 ?_;refine AC (s':=[sV 0 (BC c),sV 1 (.sl GG),sV 2 (.sl VV),sP 7,sL 7 [.v (A0 11),.v (A0 0),.v (A0 0),.v (.sl []),.v (.sl [x.cells])],sP 8,sL 8 [.v (A0 0),.v (A0 0),.v (A0 0),.own 0 [],.own 0 []],(.slot 15,.one (.own 1116 [[A0 z1.kind,A0 z1.index,A0 z1.type.kind,.sl (z1.type.args.map Ty.cells),.sl (z1.args.map Tm.cells)]])),(.tok 1116,.tk 5 1),(.slot 16,.one (.own 1121 [[A0 1,A0 (n1+1),A0 0,.sl [],.sl []]])),(.tok 1121,.tk 5 1),(.slot 17,.one (.own 1127 [[A0 (T.pair a d).wt.ty.kind,.sl ((T.pair a d).wt.ty.args.map Ty.cells)]])),(.tok 1127,.tk 2 1),sV 18 (A0 1),sB  c [.v (BC b)],sB  b [.v (.sl []),.v (.sl []),.v (A0 (n1+1))]]) [(1116,116),(1121,121),(1127,127)] (j3 @An @hb @Ab) ?_;refine AB ?_;refine A2 ?_;refine B6 ?_;refine A7 J1 ?_;have J2:=j8 @hb @Ab @He @Gd @Hj @Le @Ld (j3 @Li @Lm @Ll);refine eJ J2 Eo Dc De Gc ?_;refine A7 J1 ?_;refine B4 ?_;refine A2 ?_;refine AE ?_;refine D5 J2 Ey ?_;refine A7 J1 ?_
 refine AC (s':=[sP 8,sL 8 [.v (A0 0),.v (A0 0),.v (A0 0),.own 0 [],.own 0 []],sV 15 (.sl [[A0 z1.kind,A0 z1.index,A0 z1.type.kind,.sl (z1.type.args.map Ty.cells),.sl (z1.args.map Tm.cells)]]),sV 16 (.sl [[A0 1,A0 (n1+1),A0 0,.sl [],.sl []]]),sV 17 (.sl [[A0 (T.pair a d).wt.ty.kind,.sl ((T.pair a d).wt.ty.args.map Ty.cells)]]),sP 22,sL 22 [.v (A0 B1.kind),.v (A0 B1.index),.v (A0 B1.type.kind),.v (.sl (B1.type.args.map Ty.cells)),.v (.sl (B1.args.map Tm.cells))],sV 30 (A0 (-1)),sB  c [.v (BC b)],sB  b [.v (.sl []),.v (.sl []),.v (A0 (n1+1))]]) [] J1 ?_;refine AB ?_;refine A2 ?_;refine B6 ?_;refine A7 J1 ?_;exact AI (co c b (n1+1)) (j3 @hb @Ab @Gp)
theorem zcw (c b:Nat)(hb:c≠b)(G:List Ty)(V:List Tm)(n:Int)(a d:T)(x:Tm)(r1:Tm × Int × Int)(h0:0<=n)(l1:n<=r1.2.2)(hN:r1.2.2<=137438953472)(hx:DS gl c b G V (n) x r1 ((T.pair a d):T).ty):E6 gl c b G V n (nT 12 [x]) (if r1.2.1=0 then ((pN 12 (T.pair a d) (r1.2.2+1) r1.1:Tm),(0:Int),(r1.2.2+1:Int)) else (AA,r1.2)):=by
 have Ab:b≠c:=fun h=>hb h.symm;unfold DS at hx;have An:=Tm.cells_eq x;have fx:=Tm.fold x;obtain⟨z1,e1,n1⟩:=r1;simp only at hx hN l1 ⊢;have He:=Tm.fold z1;have Mg:=E5 (gl:=gl) (T.pair a d);have Fg:=BF (gl:=gl) (T.pair a d).tk.ty;rw[show Ty.mk 3 [CE,(T.pair a d).tk.ty]=(T.pair a d).wt.ty from rfl]at Fg;have Gd:=Ty.fold (T.pair a d).ty;have Hj:=Ty.fold (T.pair a d).tk.ty;have Jm:=B8 (gl:=gl) c b hb n1 (n1+1) rfl oO oO;have k4:=BQ (gl:=gl) 4 [];rw[show (Tm.mk 4 0 (Ty.mk 0 []) []).dv=(nT 4 []).dv from rfl,O1]at k4;simp only[List.map_nil]at k4;have Eo:=BW (gl:=gl) (vT (n1+1));rw[GW]at Eo;obtain⟨f0,Dl⟩:∃z,z=nT 11 [vT (n1+1)]:=⟨_,rfl⟩;rw[<- Dl]at Eo;have Le:=Tm.fold f0;have Dc:=BJ (gl:=gl) (vT (n1+1));rw[GW]at Dc;obtain⟨s0,Cb⟩:∃z,z=nT 12 [vT (n1+1)]:=⟨_,rfl⟩;rw[<- Cb]at Dc;have Ld:=Tm.fold s0;have De:=BQ (gl:=gl) 12 [s0];simp only[List.map_cons,List.map_nil,Tm.cells_eq s0]at De;rw[show (Tm.mk 12 0 (Ty.mk 0 []) [s0])=nT 12 [s0] from rfl]at De;obtain⟨nd,Ai⟩:∃z,z=nT 12 [s0]:=⟨_,rfl⟩;rw[<- Ai]at De;have Li:=Tm.fold nd;have Gc:=DO (gl:=gl) f0 nd;obtain⟨B0,Ez⟩:∃z,z=nT 10 [f0,nd]:=⟨_,rfl⟩;rw[<- Ez]at Gc;have Lm:=Tm.fold B0;have Ey:=CZ (gl:=gl) (T.pair a d).wt.ty (n1+1) z1 B0;rw[GW]at Ey
 obtain⟨B1,Ep⟩:∃z,z=nT 3 [Tm.mk 2 (n1+1) (T.pair a d).wt.ty [B0],z1]:=⟨_,rfl⟩;rw[<- Ep]at Ey;have Ll:=Tm.fold B1;have Am:pN 12 (T.pair a d) (n1+1) z1=B1:=by
  simp only[Ep,Ez,Ai,Cb,Dl];rfl
 rw[Am];clear Am Dl Cb Ai Ez Ep;have Gp:=Tm.cells_eq B1;have Bv:(nT 12 [x]).dv = .agg [A0 12,A0 0,A0 0,.sl [],.sl [x.cells]]:=by first|rfl|(rw[Tm.dv,Tm.cells_eq];rfl)
 unfold E6;rw[Bv];clear Bv;have e4:¬(4:Int)=0:=dD;refine A8 Tryz.func100 ?_;intro X hP u7 hf u9 hn hR u6 u5;generalize G.map Ty.cells=GG at *;generalize V.map Tm.cells=VV at *;have J0:=j2 @hb @Ab;refine A7 J0 ?_;refine D5 J0 k4 ?_;refine A7 J0 ?_;refine B4 ?_;refine A2 ?_;refine AE ?_;refine A7 (j3 @An @hb @Ab) ?_;refine D5 (j3 @fx @hb @Ab) hx ?_;by_cases q1:e1=0;rotate_left
 ·rw[if_neg q1]at hR;refine A7 (j3 @q1 @hb @Ab) ?_;exact AI (co c b n1) (j4 @hb @Ab @AA.eq_1 @q1)
 rw[if_pos q1]at hR;refine A7 (j3 @q1 @hb @Ab) ?_;refine NH (j5 @He @Gd @Hj @hb @Ab) Jm Mg Fg ?_;have J1:=j2 @hb @Ab;refine A7 J1 ?_;refine AC (s':=[sV 0 (BC c),sV 1 (.sl GG),sV 2 (.sl VV),sP 7,sL 7 [.v (A0 12),.v (A0 0),.v (A0 0),.v (.sl []),.v (.sl [x.cells])],sP 8,sL 8 [.v (A0 0),.v (A0 0),.v (A0 0),.own 0 [],.own 0 []],(.slot 15,.one (.own 1116 [[A0 z1.kind,A0 z1.index,A0 z1.type.kind,.sl (z1.type.args.map Ty.cells),.sl (z1.args.map Tm.cells)]])),(.tok 1116,.tk 5 1),(.slot 16,.one (.own 1121 [[A0 1,A0 (n1+1),A0 0,.sl [],.sl []]])),(.tok 1121,.tk 5 1),(.slot 17,.one (.own 1127 [[A0 (T.pair a d).wt.ty.kind,.sl ((T.pair a d).wt.ty.args.map Ty.cells)]])),(.tok 1127,.tk 2 1),sV 18 (A0 1),sB  c [.v (BC b)],sB  b [.v (.sl []),.v (.sl []),.v (A0 (n1+1))]]) [(1116,116),(1121,121),(1127,127)] (j3 @An @hb @Ab) ?_;refine AB ?_;refine A2 ?_;refine B6 ?_;refine A7 J1 ?_;have J2:=j8 @hb @Ab @He @Gd @Hj @Le @Ld (j3 @Li @Lm @Ll);refine eJ J2 Eo Dc De Gc ?_;refine A7 J1 ?_;refine B4 ?_;refine A2 ?_;refine AE ?_;refine D5 J2 Ey ?_;refine A7 J1 ?_
 refine AC (s':=[sP 8,sL 8 [.v (A0 0),.v (A0 0),.v (A0 0),.own 0 [],.own 0 []],sV 15 (.sl [[A0 z1.kind,A0 z1.index,A0 z1.type.kind,.sl (z1.type.args.map Ty.cells),.sl (z1.args.map Tm.cells)]]),sV 16 (.sl [[A0 1,A0 (n1+1),A0 0,.sl [],.sl []]]),sV 17 (.sl [[A0 (T.pair a d).wt.ty.kind,.sl ((T.pair a d).wt.ty.args.map Ty.cells)]]),sP 22,sL 22 [.v (A0 B1.kind),.v (A0 B1.index),.v (A0 B1.type.kind),.v (.sl (B1.type.args.map Ty.cells)),.v (.sl (B1.args.map Tm.cells))],sV 30 (A0 (-1)),sB  c [.v (BC b)],sB  b [.v (.sl []),.v (.sl []),.v (A0 (n1+1))]]) [] J1 ?_;refine AB ?_;refine A2 ?_;refine B6 ?_;refine A7 J1 ?_;exact AI (co c b (n1+1)) (j3 @hb @Ab @Gp)
end
end Go.Proofs.YtoniciijokeidaaGreatDoor.Lift
