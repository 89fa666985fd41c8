import Derived.Test.YtoniciijokeidaaGreatDoorQn14
set_option maxHeartbeats 8000000
set_option maxRecDepth 100000
set_option linter.unusedSimpArgs false
set_option linter.unusedVariables false
set_option linter.unnecessarySimpa false
namespace Go.Proofs.YtoniciijokeidaaGreatDoor.Lift
open Go
section
variable {gl:AF}
theorem z59 (c b:Nat)(hb:c≠b)(G:List Ty)(V:List Tm)(n:Int)  (x y:Tm)(r1 r2:Tm × Int × Int)(h0:0<=n)(l1:n<=r1.2.2)(l2:r1.2.2+1<=r2.2.2)(hN:r2.2.2<=137438953472)(hx:DS gl c b G V (n) x r1 (T.nat:T).ty)(hy:DS gl c b G V (r1.2.2+1) y r2 (T.list:T).ty):E6 gl c b G V n (nT 8 [x,y]) (if r1.2.1=0 then if r2.2.1=0 then ((VX 8 T.nat T.list (r1.2.2+1) r1.1 (r2.2.2+1) r2.1:Tm),(0:Int),(r2.2.2+1+4:Int)) else (AA,r2.2) else (AA,r1.2)):=by
 have Ab:b≠c:=fun h=>hb h.symm;unfold DS at hx hy;have An:=Tm.cells_eq x;have fx:=Tm.fold x;have Bp:=Tm.cells_eq y;have fy:=Tm.fold y;obtain⟨z1,e1,n1⟩:=r1;obtain⟨z2,e2,n2⟩:=r2;simp only at hx hy hN l1 l2 ⊢;have He:=Tm.fold z1;have Mg:=E5 (gl:=gl) T.nat;have Fg:=BF (gl:=gl) T.nat.tk.ty;rw[show Ty.mk 3 [CE,T.nat.tk.ty]=T.nat.wt.ty from rfl]at Fg;have Gd:=Ty.fold T.nat.ty;have Hj:=Ty.fold T.nat.tk.ty;have Jm:=B8 (gl:=gl) c b hb n1 (n1+1) rfl oO oO;have Lw:=Tm.fold z2;have Rp:=E5 (gl:=gl) T.list;have Ke:=BF (gl:=gl) T.list.tk.ty;rw[show Ty.mk 3 [CE,T.list.tk.ty]=T.list.wt.ty from rfl]at Ke;have Lp:=Ty.fold T.list.ty;have Ls:=Ty.fold T.list.tk.ty;have Ni:=B8 (gl:=gl) c b hb n2 (n2+1) rfl oO oO;have k4:=BQ (gl:=gl) 4 [];rw[show (Tm.mk 4 0 (Ty.mk 0 []) []).dv=(nT 4 []).dv from rfl,O1]at k4;simp only[List.map_nil]at k4;have Eo:=BW (gl:=gl) (vT (n1+1));rw[GW]at Eo;obtain⟨f0,Dl⟩:∃z,z=nT 11 [vT (n1+1)]:=⟨_,rfl⟩;rw[<- Dl]at Eo;have Le:=Tm.fold f0;have Jo:=BW (gl:=gl) (vT (n2+1));rw[GW]at Jo;obtain⟨f1,Ar⟩:∃z,z=nT 11 [vT (n2+1)]:=⟨_,rfl⟩;rw[<- Ar]at Jo;have Oe:=Tm.fold f1;have Ge:=XJ (gl:=gl) c b hb (n2+1) f0 f1 oO oO;obtain⟨p1,Ef⟩:∃z,z=nT 3 [nT 3 [FC (n2+1),f0],f1]:=⟨_,rfl⟩
 rw[<- Ef]at Ge;have My:=Tm.fold p1;have Dc:=BJ (gl:=gl) (vT (n1+1));rw[GW]at Dc;obtain⟨s0,Cb⟩:∃z,z=nT 12 [vT (n1+1)]:=⟨_,rfl⟩;rw[<- Cb]at Dc;have Ld:=Tm.fold s0;have Fp:=BJ (gl:=gl) (vT (n2+1));rw[GW]at Fp;obtain⟨s1,Bg⟩:∃z,z=nT 12 [vT (n2+1)]:=⟨_,rfl⟩;rw[<- Bg]at Fp;have Nz:=Tm.fold s1;have De:=BQ (gl:=gl) 8 [s0,s1];simp only[List.map_cons,List.map_nil,Tm.cells_eq s0,Tm.cells_eq s1]at De;rw[show (Tm.mk 8 0 (Ty.mk 0 []) [s0,s1])=nT 8 [s0,s1] from rfl]at De;obtain⟨nd,Ai⟩:∃z,z=nT 8 [s0,s1]:=⟨_,rfl⟩;rw[<- Ai]at De;have Li:=Tm.fold nd;have Gc:=DO (gl:=gl) p1 nd;obtain⟨B0,Ez⟩:∃z,z=nT 10 [p1,nd]:=⟨_,rfl⟩;rw[<- Ez]at Gc;have Lm:=Tm.fold B0;have Ey:=CZ (gl:=gl) T.list.wt.ty (n2+1) z2 B0;rw[GW]at Ey;obtain⟨B1,Ep⟩:∃z,z=nT 3 [Tm.mk 2 (n2+1) T.list.wt.ty [B0],z2]:=⟨_,rfl⟩;rw[<- Ep]at Ey;have Ll:=Tm.fold B1;have Jh:=CZ (gl:=gl) T.nat.wt.ty (n1+1) z1 B1;rw[GW]at Jh;obtain⟨B2,Jl⟩:∃z,z=nT 3 [Tm.mk 2 (n1+1) T.nat.wt.ty [B1],z1]:=⟨_,rfl⟩;rw[<- Jl]at Jh;have Qp:=Tm.fold B2;have Am:VX 8 T.nat T.list (n1+1) z1 (n2+1) z2=B2:=by
  simp only[Jl,Ep,Ez,Ai,Bg,Cb,Ef,Ar,Dl];rfl
 rw[Am];clear Am Dl Ar Ef Cb Bg Ai Ez Ep Jl;have Gp:=Tm.cells_eq B2;have Bv:(nT 8 [x,y]).dv = .agg [A0 8,A0 0,A0 0,.sl [],.sl [x.cells,y.cells]]:=by first|rfl|(rw[Tm.dv,Tm.cells_eq];rfl)
 unfold E6;rw[Bv];clear Bv;have e4:¬(4:Int)=0:=dD;refine A8 Tryz.func100 ?_;intro X hP u7 hf u9 hn hR u6 u5;generalize G.map Ty.cells=GG at *;generalize V.map Tm.cells=VV at *;have J0:=j2 @hb @Ab;refine A7 J0 ?_;refine D5 J0 k4 ?_;refine A7 J0 ?_;refine B4 ?_;refine A2 ?_;refine AE ?_;refine A7 (j4 @An @Bp @hb @Ab) ?_;refine D5 (j3 @fx @hb @Ab) hx ?_;by_cases q1:e1=0;rotate_left
 ·rw[if_neg q1]at hR;refine A7 (j3 @q1 @hb @Ab) ?_;exact AI (co c b n1) (j4 @hb @Ab @AA.eq_1 @q1)
 rw[if_pos q1]at hR;refine A7 (j3 @q1 @hb @Ab) ?_;refine NH (j5 @He @Gd @Hj @hb @Ab) Jm Mg Fg ?_;refine A7 (j2 @hb @Ab) ?_;have J1:=j4 @An @Bp @hb @Ab;refine AC (s':=[sV 0 (BC c),sV 1 (.sl GG),sV 2 (.sl VV),sP 7,sL 7 [.v (A0 8),.v (A0 0),.v (A0 0),.v (.sl []),.v (.sl [x.cells,y.cells])],sP 8,sL 8 [.v (A0 0),.v (A0 0),.v (A0 0),.own 0 [],.own 0 []],(.slot 15,.one (.own 1116 [[A0 z1.kind,A0 z1.index,A0 z1.type.kind,.sl (z1.type.args.map Ty.cells),.sl (z1.args.map Tm.cells)]])),(.tok 1116,.tk 5 1),(.slot 16,.one (.own 1121 [[A0 1,A0 (n1+1),A0 0,.sl [],.sl []]])),(.tok 1121,.tk 5 1),(.slot 17,.one (.own 1127 [[A0 T.nat.wt.ty.kind,.sl (T.nat.wt.ty.args.map Ty.cells)]])),(.tok 1127,.tk 2 1),sV 18 (A0 1),sB  c [.v (BC b)],sB  b [.v (.sl []),.v (.sl []),.v (A0 (n1+1))]]) [(1116,116),(1121,121),(1127,127)] J1 ?_;refine AB ?_;refine A2 ?_;refine AE ?_;refine A7 J1 ?_;refine D5 (j3 @fy @hb @Ab) hy ?_;by_cases q2:e2=0;rotate_left
 ·rw[if_neg q2]at hR;refine A7 (j3 @q2 @hb @Ab) ?_;exact AI (co c b n2) (j4 @hb @Ab @AA.eq_1 @q2)
 rw[if_pos q2]at hR;refine A7 (j3 @q2 @hb @Ab) ?_;refine NH (j5 @Lw @Lp @Ls @hb @Ab) Ni Rp Ke ?_;have J2:=j2 @hb @Ab;refine A7 J2 ?_;refine AC (s':=[sV 0 (BC c),sV 1 (.sl GG),sV 2 (.sl VV),sP 7,sL 7 [.v (A0 8),.v (A0 0),.v (A0 0),.v (.sl []),.v (.sl [x.cells,y.cells])],sP 8,sL 8 [.v (A0 0),.v (A0 0),.v (A0 0),.own 0 [],.own 0 []],(.slot 15,.one (.own 1116 [[A0 z1.kind,A0 z1.index,A0 z1.type.kind,.sl (z1.type.args.map Ty.cells),.sl (z1.args.map Tm.cells)],[A0 z2.kind,A0 z2.index,A0 z2.type.kind,.sl (z2.type.args.map Ty.cells),.sl (z2.args.map Tm.cells)]])),(.tok 1116,.tk 5 2),(.slot 16,.one (.own 1121 [[A0 1,A0 (n1+1),A0 0,.sl [],.sl []],[A0 1,A0 (n2+1),A0 0,.sl [],.sl []]])),(.tok 1121,.tk 5 2),(.slot 17,.one (.own 1127 [[A0 T.nat.wt.ty.kind,.sl (T.nat.wt.ty.args.map Ty.cells)],[A0 T.list.wt.ty.kind,.sl (T.list.wt.ty.args.map Ty.cells)]])),(.tok 1127,.tk 2 2),sV 18 (A0 2),sB  c [.v (BC b)],sB  b [.v (.sl []),.v (.sl []),.v (A0 (n2+1))]]) [(1116,116),(1121,121),(1127,127)] (j4 @An @Bp @hb @Ab) ?_;refine AB ?_;refine A2 ?_;refine B6 ?_;refine A7 J2 ?_;have J3:=j8 @hb @Ab @He @Gd @Hj @Lw @Lp (j8 @Ls @Le @Oe @My @Ld @Nz @Li (j3 @Lm @Ll @Qp));refine zfo J3 Eo Jo Ge Dc Fp De Gc ?_;refine A7 J2 ?_;refine B4 ?_;refine A2 ?_;refine AE ?_;refine D5 J3 Ey ?_;refine A7 J2 ?_
 refine AC (s':=[sP 8,sL 8 [.v (A0 0),.v (A0 0),.v (A0 0),.own 0 [],.own 0 []],sV 15 (.sl [[A0 z1.kind,A0 z1.index,A0 z1.type.kind,.sl (z1.type.args.map Ty.cells),.sl (z1.args.map Tm.cells)],[A0 z2.kind,A0 z2.index,A0 z2.type.kind,.sl (z2.type.args.map Ty.cells),.sl (z2.args.map Tm.cells)]]),sV 16 (.sl [[A0 1,A0 (n1+1),A0 0,.sl [],.sl []],[A0 1,A0 (n2+1),A0 0,.sl [],.sl []]]),sV 17 (.sl [[A0 T.nat.wt.ty.kind,.sl (T.nat.wt.ty.args.map Ty.cells)],[A0 T.list.wt.ty.kind,.sl (T.list.wt.ty.args.map Ty.cells)]]),sP 22,sL 22 [.v (A0 B1.kind),.v (A0 B1.index),.v (A0 B1.type.kind),.v (.sl (B1.type.args.map Ty.cells)),.v (.sl (B1.args.map Tm.cells))],sV 30 (A0 (0)),sB  c [.v (BC b)],sB  b [.v (.sl []),.v (.sl []),.v (A0 (n2+1+4))]]) [] J2 ?_;refine AB ?_;refine A2 ?_;refine AE ?_;refine D5 J3 Jh ?_;refine A7 J2 ?_
 refine AC (s':=[sP 8,sL 8 [.v (A0 0),.v (A0 0),.v (A0 0),.own 0 [],.own 0 []],sV 15 (.sl [[A0 z1.kind,A0 z1.index,A0 z1.type.kind,.sl (z1.type.args.map Ty.cells),.sl (z1.args.map Tm.cells)],[A0 z2.kind,A0 z2.index,A0 z2.type.kind,.sl (z2.type.args.map Ty.cells),.sl (z2.args.map Tm.cells)]]),sV 16 (.sl [[A0 1,A0 (n1+1),A0 0,.sl [],.sl []],[A0 1,A0 (n2+1),A0 0,.sl [],.sl []]]),sV 17 (.sl [[A0 T.nat.wt.ty.kind,.sl (T.nat.wt.ty.args.map Ty.cells)],[A0 T.list.wt.ty.kind,.sl (T.list.wt.ty.args.map Ty.cells)]]),sP 22,sL 22 [.v (A0 B2.kind),.v (A0 B2.index),.v (A0 B2.type.kind),.v (.sl (B2.type.args.map Ty.cells)),.v (.sl (B2.args.map Tm.cells))],sV 30 (A0 (-1)),sB  c [.v (BC b)],sB  b [.v (.sl []),.v (.sl []),.v (A0 (n2+1+4))]]) [] J2 ?_;refine AB ?_;refine A2 ?_;refine B6 ?_;refine A7 J2 ?_;exact AI (co c b (n2+1+4)) (j3 @hb @Ab @Gp)
theorem z5a (c b:Nat)(hb:c≠b)(G:List Ty)(V:List Tm)(n:Int)(a d:T)(x y:Tm)(r1 r2:Tm × Int × Int)(h0:0<=n)(l1:n<=r1.2.2)(l2:r1.2.2+1<=r2.2.2)(hN:r2.2.2<=137438953472)(hx:DS gl c b G V (n) x r1 (a:T).ty)(hy:DS gl c b G V (r1.2.2+1) y r2 (d:T).ty):E6 gl c b G V n (nT 10 [x,y]) (if r1.2.1=0 then if r2.2.1=0 then ((VX 10 a d (r1.2.2+1) r1.1 (r2.2.2+1) r2.1:Tm),(0:Int),(r2.2.2+1+4:Int)) else (AA,r2.2) else (AA,r1.2)):=by
 have Ab:b≠c:=fun h=>hb h.symm;unfold DS at hx hy;have An:=Tm.cells_eq x;have fx:=Tm.fold x;have Bp:=Tm.cells_eq y;have fy:=Tm.fold y;obtain⟨z1,e1,n1⟩:=r1;obtain⟨z2,e2,n2⟩:=r2;simp only at hx hy hN l1 l2 ⊢;have He:=Tm.fold z1;have Mg:=E5 (gl:=gl) a;have Fg:=BF (gl:=gl) a.tk.ty;rw[show Ty.mk 3 [CE,a.tk.ty]=a.wt.ty from rfl]at Fg;have Gd:=Ty.fold a.ty;have Hj:=Ty.fold a.tk.ty;have Jm:=B8 (gl:=gl) c b hb n1 (n1+1) rfl oO oO;have Lw:=Tm.fold z2;have Rp:=E5 (gl:=gl) d;have Ke:=BF (gl:=gl) d.tk.ty;rw[show Ty.mk 3 [CE,d.tk.ty]=d.wt.ty from rfl]at Ke;have Lp:=Ty.fold d.ty;have Ls:=Ty.fold d.tk.ty;have Ni:=B8 (gl:=gl) c b hb n2 (n2+1) rfl oO oO;have k4:=BQ (gl:=gl) 4 [];rw[show (Tm.mk 4 0 (Ty.mk 0 []) []).dv=(nT 4 []).dv from rfl,O1]at k4;simp only[List.map_nil]at k4;have Eo:=BW (gl:=gl) (vT (n1+1));rw[GW]at Eo;obtain⟨f0,Dl⟩:∃z,z=nT 11 [vT (n1+1)]:=⟨_,rfl⟩;rw[<- Dl]at Eo;have Le:=Tm.fold f0;have Jo:=BW (gl:=gl) (vT (n2+1));rw[GW]at Jo;obtain⟨f1,Ar⟩:∃z,z=nT 11 [vT (n2+1)]:=⟨_,rfl⟩;rw[<- Ar]at Jo;have Oe:=Tm.fold f1;have Ge:=XJ (gl:=gl) c b hb (n2+1) f0 f1 oO oO;obtain⟨p1,Ef⟩:∃z,z=nT 3 [nT 3 [FC (n2+1),f0],f1]:=⟨_,rfl⟩;rw[<- Ef]at Ge;have My:=Tm.fold p1
 have Dc:=BJ (gl:=gl) (vT (n1+1));rw[GW]at Dc;obtain⟨s0,Cb⟩:∃z,z=nT 12 [vT (n1+1)]:=⟨_,rfl⟩;rw[<- Cb]at Dc;have Ld:=Tm.fold s0;have Fp:=BJ (gl:=gl) (vT (n2+1));rw[GW]at Fp;obtain⟨s1,Bg⟩:∃z,z=nT 12 [vT (n2+1)]:=⟨_,rfl⟩;rw[<- Bg]at Fp;have Nz:=Tm.fold s1;have De:=BQ (gl:=gl) 10 [s0,s1];simp only[List.map_cons,List.map_nil,Tm.cells_eq s0,Tm.cells_eq s1]at De;rw[show (Tm.mk 10 0 (Ty.mk 0 []) [s0,s1])=nT 10 [s0,s1] from rfl]at De;obtain⟨nd,Ai⟩:∃z,z=nT 10 [s0,s1]:=⟨_,rfl⟩;rw[<- Ai]at De;have Li:=Tm.fold nd;have Gc:=DO (gl:=gl) p1 nd;obtain⟨B0,Ez⟩:∃z,z=nT 10 [p1,nd]:=⟨_,rfl⟩;rw[<- Ez]at Gc;have Lm:=Tm.fold B0;have Ey:=CZ (gl:=gl) d.wt.ty (n2+1) z2 B0;rw[GW]at Ey;obtain⟨B1,Ep⟩:∃z,z=nT 3 [Tm.mk 2 (n2+1) d.wt.ty [B0],z2]:=⟨_,rfl⟩;rw[<- Ep]at Ey;have Ll:=Tm.fold B1;have Jh:=CZ (gl:=gl) a.wt.ty (n1+1) z1 B1;rw[GW]at Jh;obtain⟨B2,Jl⟩:∃z,z=nT 3 [Tm.mk 2 (n1+1) a.wt.ty [B1],z1]:=⟨_,rfl⟩;rw[<- Jl]at Jh;have Qp:=Tm.fold B2;have Am:VX 10 a d (n1+1) z1 (n2+1) z2=B2:=by
  simp only[Jl,Ep,Ez,Ai,Bg,Cb,Ef,Ar,Dl];rfl
 rw[Am];clear Am Dl Ar Ef Cb Bg Ai Ez Ep Jl;have Gp:=Tm.cells_eq B2;have Bv:(nT 10 [x,y]).dv = .agg [A0 10,A0 0,A0 0,.sl [],.sl [x.cells,y.cells]]:=by first|rfl|(rw[Tm.dv,Tm.cells_eq];rfl)
 unfold E6;rw[Bv];clear Bv;have e4:¬(4:Int)=0:=dD;refine A8 Tryz.func100 ?_;intro X hP u7 hf u9 hn hR u6 u5;generalize G.map Ty.cells=GG at *;generalize V.map Tm.cells=VV at *;have J0:=j2 @hb @Ab;refine A7 J0 ?_;refine D5 J0 k4 ?_;refine A7 J0 ?_;refine B4 ?_;refine A2 ?_;refine AE ?_;refine A7 (j4 @An @Bp @hb @Ab) ?_;refine D5 (j3 @fx @hb @Ab) hx ?_;by_cases q1:e1=0;rotate_left
 ·rw[if_neg q1]at hR;refine A7 (j3 @q1 @hb @Ab) ?_;exact AI (co c b n1) (j4 @hb @Ab @AA.eq_1 @q1)
 rw[if_pos q1]at hR;refine A7 (j3 @q1 @hb @Ab) ?_;refine NH (j5 @He @Gd @Hj @hb @Ab) Jm Mg Fg ?_;refine A7 (j2 @hb @Ab) ?_;have J1:=j4 @An @Bp @hb @Ab;refine AC (s':=[sV 0 (BC c),sV 1 (.sl GG),sV 2 (.sl VV),sP 7,sL 7 [.v (A0 10),.v (A0 0),.v (A0 0),.v (.sl []),.v (.sl [x.cells,y.cells])],sP 8,sL 8 [.v (A0 0),.v (A0 0),.v (A0 0),.own 0 [],.own 0 []],(.slot 15,.one (.own 1116 [[A0 z1.kind,A0 z1.index,A0 z1.type.kind,.sl (z1.type.args.map Ty.cells),.sl (z1.args.map Tm.cells)]])),(.tok 1116,.tk 5 1),(.slot 16,.one (.own 1121 [[A0 1,A0 (n1+1),A0 0,.sl [],.sl []]])),(.tok 1121,.tk 5 1),(.slot 17,.one (.own 1127 [[A0 a.wt.ty.kind,.sl (a.wt.ty.args.map Ty.cells)]])),(.tok 1127,.tk 2 1),sV 18 (A0 1),sB  c [.v (BC b)],sB  b [.v (.sl []),.v (.sl []),.v (A0 (n1+1))]]) [(1116,116),(1121,121),(1127,127)] J1 ?_;refine AB ?_;refine A2 ?_;refine AE ?_;refine A7 J1 ?_;refine D5 (j3 @fy @hb @Ab) hy ?_;by_cases q2:e2=0;rotate_left
 ·rw[if_neg q2]at hR;refine A7 (j3 @q2 @hb @Ab) ?_;exact AI (co c b n2) (j4 @hb @Ab @AA.eq_1 @q2)
 rw[if_pos q2]at hR;refine A7 (j3 @q2 @hb @Ab) ?_;refine NH (j5 @Lw @Lp @Ls @hb @Ab) Ni Rp Ke ?_;have J2:=j2 @hb @Ab;refine A7 J2 ?_;refine AC (s':=[sV 0 (BC c),sV 1 (.sl GG),sV 2 (.sl VV),sP 7,sL 7 [.v (A0 10),.v (A0 0),.v (A0 0),.v (.sl []),.v (.sl [x.cells,y.cells])],sP 8,sL 8 [.v (A0 0),.v (A0 0),.v (A0 0),.own 0 [],.own 0 []],(.slot 15,.one (.own 1116 [[A0 z1.kind,A0 z1.index,A0 z1.type.kind,.sl (z1.type.args.map Ty.cells),.sl (z1.args.map Tm.cells)],[A0 z2.kind,A0 z2.index,A0 z2.type.kind,.sl (z2.type.args.map Ty.cells),.sl (z2.args.map Tm.cells)]])),(.tok 1116,.tk 5 2),(.slot 16,.one (.own 1121 [[A0 1,A0 (n1+1),A0 0,.sl [],.sl []],[A0 1,A0 (n2+1),A0 0,.sl [],.sl []]])),(.tok 1121,.tk 5 2),(.slot 17,.one (.own 1127 [[A0 a.wt.ty.kind,.sl (a.wt.ty.args.map Ty.cells)],[A0 d.wt.ty.kind,.sl (d.wt.ty.args.map Ty.cells)]])),(.tok 1127,.tk 2 2),sV 18 (A0 2),sB  c [.v (BC b)],sB  b [.v (.sl []),.v (.sl []),.v (A0 (n2+1))]]) [(1116,116),(1121,121),(1127,127)] (j4 @An @Bp @hb @Ab) ?_;refine AB ?_;refine A2 ?_;refine B6 ?_;refine A7 J2 ?_;have J3:=j8 @hb @Ab @He @Gd @Hj @Lw @Lp (j8 @Ls @Le @Oe @My @Ld @Nz @Li (j3 @Lm @Ll @Qp));refine zfo J3 Eo Jo Ge Dc Fp De Gc ?_;refine A7 J2 ?_;refine B4 ?_;refine A2 ?_;refine AE ?_;refine D5 J3 Ey ?_;refine A7 J2 ?_
 refine AC (s':=[sP 8,sL 8 [.v (A0 0),.v (A0 0),.v (A0 0),.own 0 [],.own 0 []],sV 15 (.sl [[A0 z1.kind,A0 z1.index,A0 z1.type.kind,.sl (z1.type.args.map Ty.cells),.sl (z1.args.map Tm.cells)],[A0 z2.kind,A0 z2.index,A0 z2.type.kind,.sl (z2.type.args.map Ty.cells),.sl (z2.args.map Tm.cells)]]),sV 16 (.sl [[A0 1,A0 (n1+1),A0 0,.sl [],.sl []],[A0 1,A0 (n2+1),A0 0,.sl [],.sl []]]),sV 17 (.sl [[A0 a.wt.ty.kind,.sl (a.wt.ty.args.map Ty.cells)],[A0 d.wt.ty.kind,.sl (d.wt.ty.args.map Ty.cells)]]),sP 22,sL 22 [.v (A0 B1.kind),.v (A0 B1.index),.v (A0 B1.type.kind),.v (.sl (B1.type.args.map Ty.cells)),.v (.sl (B1.args.map Tm.cells))],sV 30 (A0 (0)),sB  c [.v (BC b)],sB  b [.v (.sl []),.v (.sl []),.v (A0 (n2+1+4))]]) [] J2 ?_;refine AB ?_;refine A2 ?_;refine AE ?_;refine D5 J3 Jh ?_;refine A7 J2 ?_
 refine AC (s':=[sP 8,sL 8 [.v (A0 0),.v (A0 0),.v (A0 0),.own 0 [],.own 0 []],sV 15 (.sl [[A0 z1.kind,A0 z1.index,A0 z1.type.kind,.sl (z1.type.args.map Ty.cells),.sl (z1.args.map Tm.cells)],[A0 z2.kind,A0 z2.index,A0 z2.type.kind,.sl (z2.type.args.map Ty.cells),.sl (z2.args.map Tm.cells)]]),sV 16 (.sl [[A0 1,A0 (n1+1),A0 0,.sl [],.sl []],[A0 1,A0 (n2+1),A0 0,.sl [],.sl []]]),sV 17 (.sl [[A0 a.wt.ty.kind,.sl (a.wt.ty.args.map Ty.cells)],[A0 d.wt.ty.kind,.sl (d.wt.ty.args.map Ty.cells)]]),sP 22,sL 22 [.v (A0 B2.kind),.v (A0 B2.index),.v (A0 B2.type.kind),.v (.sl (B2.type.args.map Ty.cells)),.v (.sl (B2.args.map Tm.cells))],sV 30 (A0 (-1)),sB  c [.v (BC b)],sB  b [.v (.sl []),.v (.sl []),.v (A0 (n2+1+4))]]) [] J2 ?_;refine AB ?_;refine A2 ?_;refine B6 ?_;refine A7 J2 ?_;exact AI (co c b (n2+1+4)) (j3 @hb @Ab @Gp)
theorem zcx (c b:Nat)(hb:c≠b)(G:List Ty)(V:List Tm)(n:Int)(a d:T)(x y:Tm)(r1 r2:Tm × Int × Int)(h0:0<=n)(l1:n<=r1.2.2)(l2:r1.2.2+1<=r2.2.2)(hN:r2.2.2<=137438953472)(hx:DS gl c b G V (n) x r1 ((T.fn a d):T).ty)(hy:DS gl c b G V (r1.2.2+1) y r2 (a:T).ty):E6 gl c b G V n (nT 3 [x,y]) (if r1.2.1=0 then if r2.2.1=0 then ((bD a d (r1.2.2+1) r1.1 (r2.2.2+1) r2.1:Tm),(0:Int),(r2.2.2+1+9:Int)) else (AA,r2.2) else (AA,r1.2)):=by
 have Ab:b≠c:=fun h=>hb h.symm;unfold DS at hx hy;have An:=Tm.cells_eq x;have fx:=Tm.fold x;have Bp:=Tm.cells_eq y;have fy:=Tm.fold y;obtain⟨z1,e1,n1⟩:=r1;obtain⟨z2,e2,n2⟩:=r2;simp only at hx hy hN l1 l2 ⊢;have He:=Tm.fold z1;have Mg:=E5 (gl:=gl) (T.fn a d);have Fg:=BF (gl:=gl) (T.fn a d).tk.ty;rw[show Ty.mk 3 [CE,(T.fn a d).tk.ty]=(T.fn a d).wt.ty from rfl]at Fg;have Gd:=Ty.fold (T.fn a d).ty;have Hj:=Ty.fold (T.fn a d).tk.ty;have Jm:=B8 (gl:=gl) c b hb n1 (n1+1) rfl oO oO;have Lw:=Tm.fold z2;have Rp:=E5 (gl:=gl) a;have Ke:=BF (gl:=gl) a.tk.ty;rw[show Ty.mk 3 [CE,a.tk.ty]=a.wt.ty from rfl]at Ke;have Lp:=Ty.fold a.ty;have Ls:=Ty.fold a.tk.ty;have Ni:=B8 (gl:=gl) c b hb n2 (n2+1) rfl oO oO;have k4:=BQ (gl:=gl) 4 [];rw[show (Tm.mk 4 0 (Ty.mk 0 []) []).dv=(nT 4 []).dv from rfl,O1]at k4;simp only[List.map_nil]at k4;have Is:(T.fn a d).wt.ty.dv = .agg [A0 3,.sl [[A0 1,.sl []],[A0 4,.sl [a.tk.ty.cells,d.wt.ty.cells]]]]:=rfl;have Ob:(T.fn a d).wt.ty.kind=3:=rfl;have Oa:List.map Ty.cells (T.fn a d).wt.ty.args=[[A0 1,.sl []],[A0 4,.sl [a.tk.ty.cells,d.wt.ty.cells]]]:=rfl;have hA:=Ty.cells_eq a.tk.ty;have hD:=Ty.cells_eq d.wt.ty;have fD:=Ty.fold d.wt.ty;have Xu:=B8 (gl:=gl) c b hb (n2+1) (n2+1+1) rfl oO oO
 have Eo:=BW (gl:=gl) (vT (n1+1));rw[GW]at Eo;obtain⟨f0,Dl⟩:∃z,z=nT 11 [vT (n1+1)]:=⟨_,rfl⟩;rw[<- Dl]at Eo;have Le:=Tm.fold f0;have Jo:=BW (gl:=gl) (vT (n2+1));rw[GW]at Jo;obtain⟨f1,Ar⟩:∃z,z=nT 11 [vT (n2+1)]:=⟨_,rfl⟩;rw[<- Ar]at Jo;have Oe:=Tm.fold f1;have Ge:=F5 (gl:=gl) c b hb (n2+1+1) (n2+1+1+4) f0 f1 rfl oO oO;obtain⟨p1,Ef⟩:∃z,z=nT 3 [nT 3 [FC (n2+1+1),f0],f1]:=⟨_,rfl⟩;rw[<- Ef]at Ge;have My:=Tm.fold p1;have Oz:=BW (gl:=gl) (vT (n2+1+1));rw[GW]at Oz;obtain⟨f2,As⟩:∃z,z=nT 11 [vT (n2+1+1)]:=⟨_,rfl⟩;rw[<- As]at Oz;have Xc:=Tm.fold f2;have Kv:=F5 (gl:=gl) c b hb (n2+1+1+4) (n2+1+9) p1 f2 oO oO oO;obtain⟨p2,Ir⟩:∃z,z=nT 3 [nT 3 [FC (n2+1+1+4),p1],f2]:=⟨_,rfl⟩;rw[<- Ir]at Kv;have Qo:=Tm.fold p2;have De:=BQ (gl:=gl) 5 [p2];simp only[List.map_cons,List.map_nil,Tm.cells_eq p2]at De;rw[show (Tm.mk 5 0 (Ty.mk 0 []) [p2])=nT 5 [p2] from rfl]at De;obtain⟨nd,Ai⟩:∃z,z=nT 5 [p2]:=⟨_,rfl⟩;rw[<- Ai]at De;have Li:=Tm.fold nd;have Dc:=BJ (gl:=gl) (vT (n1+1));rw[GW]at Dc;obtain⟨s0,Cb⟩:∃z,z=nT 12 [vT (n1+1)]:=⟨_,rfl⟩;rw[<- Cb]at Dc;have Ld:=Tm.fold s0;have Fp:=BJ (gl:=gl) (vT (n2+1));rw[GW]at Fp
 obtain⟨s1,Bg⟩:∃z,z=nT 12 [vT (n2+1)]:=⟨_,rfl⟩;rw[<- Bg]at Fp;have Nz:=Tm.fold s1;have Sw:=ID (gl:=gl) s0 s1;obtain⟨ap,Gl⟩:∃z,z=nT 3 [s0,s1]:=⟨_,rfl⟩;rw[<- Gl]at Sw;have fap:=Tm.fold ap;have Pm:=BJ (gl:=gl) (vT (n2+1+1));rw[GW]at Pm;obtain⟨s2,By⟩:∃z,z=nT 12 [vT (n2+1+1)]:=⟨_,rfl⟩;rw[<- By]at Pm;have Wq:=Tm.fold s2;have Mz:=DO (gl:=gl) nd s2;obtain⟨pr,Ij⟩:∃z,z=nT 10 [nd,s2]:=⟨_,rfl⟩;rw[<- Ij]at Mz;have Qh:=Tm.fold pr;have Gc:=CZ (gl:=gl) d.wt.ty (n2+1+1) ap pr;rw[GW]at Gc;obtain⟨B0,Ez⟩:∃z,z=nT 3 [Tm.mk 2 (n2+1+1) d.wt.ty [pr],ap]:=⟨_,rfl⟩;rw[<- Ez]at Gc;have Lm:=Tm.fold B0;have Ey:=CZ (gl:=gl) a.wt.ty (n2+1) z2 B0;rw[GW]at Ey;obtain⟨B1,Ep⟩:∃z,z=nT 3 [Tm.mk 2 (n2+1) a.wt.ty [B0],z2]:=⟨_,rfl⟩;rw[<- Ep]at Ey;have Ll:=Tm.fold B1;have Jh:=CZ (gl:=gl) (T.fn a d).wt.ty (n1+1) z1 B1;rw[GW]at Jh;obtain⟨B2,Jl⟩:∃z,z=nT 3 [Tm.mk 2 (n1+1) (T.fn a d).wt.ty [B1],z1]:=⟨_,rfl⟩;rw[<- Jl]at Jh;have Qp:=Tm.fold B2;have Am:bD a d (n1+1) z1 (n2+1) z2=B2:=by
  simp only[Jl,Ep,Ez,Ij,By,Gl,Bg,Cb,Ai,Ir,As,Ef,Ar,Dl];rfl
 rw[Am];clear Am Dl Ar Ef As Ir Ai Cb Bg Gl By Ij Ez Ep Jl;have Gp:=Tm.cells_eq B2;have Bv:(nT 3 [x,y]).dv = .agg [A0 3,A0 0,A0 0,.sl [],.sl [x.cells,y.cells]]:=by first|rfl|(rw[Tm.dv,Tm.cells_eq];rfl)
 unfold E6;rw[Bv];clear Bv;have e4:¬(4:Int)=0:=dD;refine A8 Tryz.func100 ?_;intro X hP u7 hf u9 hn hR u6 u5;generalize G.map Ty.cells=GG at *;generalize V.map Tm.cells=VV at *;have J0:=j2 @hb @Ab;refine A7 J0 ?_;refine D5 J0 k4 ?_;refine A7 J0 ?_;refine B4 ?_;refine A2 ?_;refine AE ?_;refine A7 (j4 @An @Bp @hb @Ab) ?_;refine D5 (j3 @fx @hb @Ab) hx ?_;by_cases q1:e1=0;rotate_left
 ·rw[if_neg q1]at hR;refine A7 (j3 @q1 @hb @Ab) ?_;exact AI (co c b n1) (j4 @hb @Ab @AA.eq_1 @q1)
 rw[if_pos q1]at hR;refine A7 (j3 @q1 @hb @Ab) ?_;refine NH (j5 @He @Gd @Hj @hb @Ab) Jm Mg Fg ?_;refine A7 (j2 @hb @Ab) ?_;refine AC (s':=[sV 0 (BC c),sV 1 (.sl GG),sV 2 (.sl VV),sP 7,sL 7 [.v (A0 3),.v (A0 0),.v (A0 0),.v (.sl []),.v (.sl [x.cells,y.cells])],sP 8,sL 8 [.v (A0 0),.v (A0 0),.v (A0 0),.own 0 [],.own 0 []],(.slot 15,.one (.own 1116 [[A0 z1.kind,A0 z1.index,A0 z1.type.kind,.sl (z1.type.args.map Ty.cells),.sl (z1.args.map Tm.cells)]])),(.tok 1116,.tk 5 1),(.slot 16,.one (.own 1121 [[A0 1,A0 (n1+1),A0 0,.sl [],.sl []]])),(.tok 1121,.tk 5 1),(.slot 17,.one (.own 1127 [[A0 3,.sl [[A0 1,.sl []],[A0 4,.sl [a.tk.ty.cells,d.wt.ty.cells]]]]])),(.tok 1127,.tk 2 1),sV 18 (A0 1),sB  c [.v (BC b)],sB  b [.v (.sl []),.v (.sl []),.v (A0 (n1+1))]]) [(1116,116),(1121,121),(1127,127)] (j8 @An @Bp @hb @Ab @Ob @Oa @hA @hD) ?_;refine AB ?_;refine A2 ?_;refine AE ?_;refine A7 (j4 @An @Bp @hb @Ab) ?_;refine D5 (j3 @fy @hb @Ab) hy ?_;by_cases q2:e2=0;rotate_left
 ·rw[if_neg q2]at hR;refine A7 (j3 @q2 @hb @Ab) ?_;exact AI (co c b n2) (j4 @hb @Ab @AA.eq_1 @q2)
 rw[if_pos q2]at hR;refine A7 (j3 @q2 @hb @Ab) ?_;refine NH (j5 @Lw @Lp @Ls @hb @Ab) Ni Rp Ke ?_;have J1:=j2 @hb @Ab;refine A7 J1 ?_;refine AC (s':=[sV 0 (BC c),sV 1 (.sl GG),sV 2 (.sl VV),sP 7,sL 7 [.v (A0 3),.v (A0 0),.v (A0 0),.v (.sl []),.v (.sl [x.cells,y.cells])],sP 8,sL 8 [.v (A0 0),.v (A0 0),.v (A0 0),.own 0 [],.own 0 []],(.slot 15,.one (.own 1116 [[A0 z1.kind,A0 z1.index,A0 z1.type.kind,.sl (z1.type.args.map Ty.cells),.sl (z1.args.map Tm.cells)],[A0 z2.kind,A0 z2.index,A0 z2.type.kind,.sl (z2.type.args.map Ty.cells),.sl (z2.args.map Tm.cells)]])),(.tok 1116,.tk 5 2),(.slot 16,.one (.own 1121 [[A0 1,A0 (n1+1),A0 0,.sl [],.sl []],[A0 1,A0 (n2+1),A0 0,.sl [],.sl []]])),(.tok 1121,.tk 5 2),(.slot 17,.one (.own 1127 [[A0 3,.sl [[A0 1,.sl []],[A0 4,.sl [a.tk.ty.cells,d.wt.ty.cells]]]],[A0 a.wt.ty.kind,.sl (a.wt.ty.args.map Ty.cells)]])),(.tok 1127,.tk 2 2),sV 18 (A0 2),sB  c [.v (BC b)],sB  b [.v (.sl []),.v (.sl []),.v (A0 (n2+1))]]) [(1116,116),(1121,121),(1127,127)] (j8 @An @Bp @hb @Ab @Ob @Oa @hA @hD) ?_;refine AB ?_;refine A2 ?_;refine B6 ?_;refine A7 J1 ?_;have J2:=j8 @hb @Ab @He @Gd @Hj @Lw @Lp (j8 @Ls @fD @Le @Oe @My @Xc @Qo (j8 @Li @Ld @Nz @fap @Wq @Qh @Lm (j4 @Ll @Qp @hA @hD)));refine D5 J2 Xu ?_;have J3:=j4 @hb @Ab @hA @hD;refine A7 J3 ?_
 refine z8e J2 Eo Jo Ge Oz Kv De ?_;refine A7 J3 ?_;refine z8e J2 Dc Fp Sw Pm Mz Gc ?_;refine A7 J3 ?_;refine B4 ?_;refine A2 ?_;refine AE ?_;have J4:=j8 @hb @Ab @He @Gd @Hj @Lw @Lp (j8 @Ls @fD @Le @Oe @My @Xc @Qo (j8 @Li @Ld @Nz @fap @Wq @Qh @Lm (j5 @Ll @Qp @hA @hD @Is)));refine D5 J4 Ey ?_;refine A7 J1 ?_;refine AC (s':=[sP 8,sL 8 [.v (A0 0),.v (A0 0),.v (A0 0),.own 0 [],.own 0 []],sV 15 (.sl [[A0 z1.kind,A0 z1.index,A0 z1.type.kind,.sl (z1.type.args.map Ty.cells),.sl (z1.args.map Tm.cells)],[A0 z2.kind,A0 z2.index,A0 z2.type.kind,.sl (z2.type.args.map Ty.cells),.sl (z2.args.map Tm.cells)]]),sV 16 (.sl [[A0 1,A0 (n1+1),A0 0,.sl [],.sl []],[A0 1,A0 (n2+1),A0 0,.sl [],.sl []]]),sV 17 (.sl [[A0 3,.sl [[A0 1,.sl []],[A0 4,.sl [a.tk.ty.cells,d.wt.ty.cells]]]],[A0 a.wt.ty.kind,.sl (a.wt.ty.args.map Ty.cells)]]),sP 22,sL 22 [.v (A0 B1.kind),.v (A0 B1.index),.v (A0 B1.type.kind),.v (.sl (B1.type.args.map Ty.cells)),.v (.sl (B1.args.map Tm.cells))],sV 30 (A0 (0)),sB  c [.v (BC b)],sB  b [.v (.sl []),.v (.sl []),.v (A0 (n2+1+9))]]) [] J1 ?_;refine AB ?_;refine A2 ?_;refine AE ?_;refine D5 J4 Jh ?_;refine A7 J1 ?_
 refine AC (s':=[sP 8,sL 8 [.v (A0 0),.v (A0 0),.v (A0 0),.own 0 [],.own 0 []],sV 15 (.sl [[A0 z1.kind,A0 z1.index,A0 z1.type.kind,.sl (z1.type.args.map Ty.cells),.sl (z1.args.map Tm.cells)],[A0 z2.kind,A0 z2.index,A0 z2.type.kind,.sl (z2.type.args.map Ty.cells),.sl (z2.args.map Tm.cells)]]),sV 16 (.sl [[A0 1,A0 (n1+1),A0 0,.sl [],.sl []],[A0 1,A0 (n2+1),A0 0,.sl [],.sl []]]),sV 17 (.sl [[A0 3,.sl [[A0 1,.sl []],[A0 4,.sl [a.tk.ty.cells,d.wt.ty.cells]]]],[A0 a.wt.ty.kind,.sl (a.wt.ty.args.map Ty.cells)]]),sP 22,sL 22 [.v (A0 B2.kind),.v (A0 B2.index),.v (A0 B2.type.kind),.v (.sl (B2.type.args.map Ty.cells)),.v (.sl (B2.args.map Tm.cells))],sV 30 (A0 (-1)),sB  c [.v (BC b)],sB  b [.v (.sl []),.v (.sl []),.v (A0 (n2+1+9))]]) [] J1 ?_;refine AB ?_;refine A2 ?_;refine B6 ?_;refine A7 J1 ?_;exact AI (co c b (n2+1+9)) (j3 @hb @Ab @Gp)
theorem zcy (c b:Nat)(hb:c≠b)(G:List Ty)(V:List Tm)(n:Int)(a b0 b1 b2:T)(x y z:Tm)(r1 r2 r3:Tm × Int × Int)(h0:0<=n)(l1:n<=r1.2.2)(l2:r1.2.2+1<=r2.2.2)(l3:r2.2.2+1<=r3.2.2)(hN:r3.2.2<=137438953472)(hx:DS gl c b G V (n) x r1 (b0:T).ty)(hy:DS gl c b G V (r1.2.2+1) y r2 (b1:T).ty)(hz:DS gl c b G V (r2.2.2+1) z r3 (b2:T).ty):E6 gl c b G V n (Tm.mk 6 0 a.ty [x,y,z]) (if r1.2.1=0 then if r2.2.1=0 then if r3.2.1=0 then ((FZ 6 a b0 b1 b2 (r1.2.2+1) r1.1 (r2.2.2+1) r2.1 (r3.2.2+1) r3.1:Tm),(0:Int),(r3.2.2+1+27:Int)) else (AA,r3.2) else (AA,r2.2) else (AA,r1.2)):=by
 have Ab:b≠c:=fun h=>hb h.symm;unfold DS at hx hy hz;have An:=Tm.cells_eq x;have fx:=Tm.fold x;have Bp:=Tm.cells_eq y;have fy:=Tm.fold y;have Gi:=Tm.cells_eq z;have fz:=Tm.fold z;obtain⟨z1,e1,n1⟩:=r1;obtain⟨z2,e2,n2⟩:=r2;obtain⟨z3,e3,n3⟩:=r3;simp only at hx hy hz hN l1 l2 l3 ⊢;have He:=Tm.fold z1;have Mg:=E5 (gl:=gl) b0;have Fg:=BF (gl:=gl) b0.tk.ty;rw[show Ty.mk 3 [CE,b0.tk.ty]=b0.wt.ty from rfl]at Fg;have Gd:=Ty.fold b0.ty;have Hj:=Ty.fold b0.tk.ty;have Jm:=B8 (gl:=gl) c b hb n1 (n1+1) rfl oO oO;have Lw:=Tm.fold z2;have Rp:=E5 (gl:=gl) b1;have Ke:=BF (gl:=gl) b1.tk.ty;rw[show Ty.mk 3 [CE,b1.tk.ty]=b1.wt.ty from rfl]at Ke;have Lp:=Ty.fold b1.ty;have Ls:=Ty.fold b1.tk.ty;have Ni:=B8 (gl:=gl) c b hb n2 (n2+1) rfl oO oO;have Xk:=Tm.fold z3;have kt3:=E5 (gl:=gl) b2;have Yo:=BF (gl:=gl) b2.tk.ty;rw[show Ty.mk 3 [CE,b2.tk.ty]=b2.wt.ty from rfl]at Yo;have Xp:=Ty.fold b2.ty;have Xz:=Ty.fold b2.tk.ty;have Tq:=B8 (gl:=gl) c b hb n3 (n3+1) rfl oO oO;have k4:=BQ (gl:=gl) 4 [];rw[show (Tm.mk 4 0 (Ty.mk 0 []) []).dv=(nT 4 []).dv from rfl,O1]at k4;simp only[List.map_nil]at k4;have kof:=E5 (gl:=gl) a;have fta:=Ty.fold a.ty;have ftk:=Ty.fold a.tk.ty;have kcW:=BF (gl:=gl) a.tk.ty
 rw[show Ty.mk 3 [CE,a.tk.ty]=a.wt.ty from rfl]at kcW;have fW:=Ty.fold a.wt.ty;have Wa:=xD (gl:=gl) c b hb (Tm.mk 6 0 a.ty [x,y,z]) rfl a (n1+1) (n2+1) (n3+1) (n3+1) oO oO;obtain⟨lo,Im⟩:∃q,q=Tm.mk 6 0 a.wt.ty [nT 10 [nT 4 [],AS (n1+1)],HZ 6 a (n2+1) (n3+1),AS (n3+1)]:=⟨_,rfl⟩;rw[<- Im]at Wa;have flo:=Tm.fold lo;have Xu:=B8 (gl:=gl) c b hb (n3+1+14) (n3+1+14+1) rfl oO oO;have Eo:=BW (gl:=gl) (vT (n1+1));rw[GW]at Eo;obtain⟨f0,Dl⟩:∃z,z=nT 11 [vT (n1+1)]:=⟨_,rfl⟩;rw[<- Dl]at Eo;have Le:=Tm.fold f0;have Jo:=BW (gl:=gl) (vT (n2+1));rw[GW]at Jo;obtain⟨f1,Ar⟩:∃z,z=nT 11 [vT (n2+1)]:=⟨_,rfl⟩;rw[<- Ar]at Jo;have Oe:=Tm.fold f1;have Ge:=F5 (gl:=gl) c b hb (n3+1+14+1) (n3+1+14+1+4) f0 f1 rfl oO oO;obtain⟨p1,Ef⟩:∃z,z=nT 3 [nT 3 [FC (n3+1+14+1),f0],f1]:=⟨_,rfl⟩;rw[<- Ef]at Ge;have My:=Tm.fold p1;have Oz:=BW (gl:=gl) (vT (n3+1));rw[GW]at Oz;obtain⟨f2,As⟩:∃z,z=nT 11 [vT (n3+1)]:=⟨_,rfl⟩;rw[<- As]at Oz;have Xc:=Tm.fold f2;have Kv:=F5 (gl:=gl) c b hb (n3+1+14+1+4) (n3+1+14+1+4+4) p1 f2 rfl oO oO;obtain⟨p2,Ir⟩:∃z,z=nT 3 [nT 3 [FC (n3+1+14+1+4),p1],f2]:=⟨_,rfl⟩;rw[<- Ir]at Kv;have Qo:=Tm.fold p2
 have Ua:=BW (gl:=gl) (vT (n3+1+14+1));rw[GW]at Ua;obtain⟨f3,Fv⟩:∃z,z=nT 11 [vT (n3+1+14+1)]:=⟨_,rfl⟩;rw[<- Fv]at Ua;have ff3:=Tm.fold f3;have Te:=F5 (gl:=gl) c b hb (n3+1+14+1+4+4) (n3+1+27) p2 f3 oO oO oO;obtain⟨p3,Oo⟩:∃z,z=nT 3 [nT 3 [FC (n3+1+14+1+4+4),p2],f3]:=⟨_,rfl⟩;rw[<- Oo]at Te;have Zt:=Tm.fold p3;have Tj:=BJ (gl:=gl) (vT (n3+1+14+1));rw[GW]at Tj;obtain⟨s3,Fa⟩:∃z,z=nT 12 [vT (n3+1+14+1)]:=⟨_,rfl⟩;rw[<- Fa]at Tj;have fs3:=Tm.fold s3;have Mz:=DO (gl:=gl) p3 s3;obtain⟨pr,Ij⟩:∃z,z=nT 10 [p3,s3]:=⟨_,rfl⟩;rw[<- Ij]at Mz;have Qh:=Tm.fold pr;have Gc:=CZ (gl:=gl) a.wt.ty (n3+1+14+1) lo pr;rw[GW]at Gc;obtain⟨B0,Ez⟩:∃z,z=nT 3 [Tm.mk 2 (n3+1+14+1) a.wt.ty [pr],lo]:=⟨_,rfl⟩;rw[<- Ez]at Gc;have Lm:=Tm.fold B0;have Ey:=CZ (gl:=gl) b2.wt.ty (n3+1) z3 B0;rw[GW]at Ey;obtain⟨B1,Ep⟩:∃z,z=nT 3 [Tm.mk 2 (n3+1) b2.wt.ty [B0],z3]:=⟨_,rfl⟩;rw[<- Ep]at Ey;have Ll:=Tm.fold B1;have Jh:=CZ (gl:=gl) b1.wt.ty (n2+1) z2 B1;rw[GW]at Jh;obtain⟨B2,Jl⟩:∃z,z=nT 3 [Tm.mk 2 (n2+1) b1.wt.ty [B1],z2]:=⟨_,rfl⟩;rw[<- Jl]at Jh;have Qp:=Tm.fold B2;have Uj:=CZ (gl:=gl) b0.wt.ty (n1+1) z1 B2;rw[GW]at Uj
 obtain⟨B3,Tp⟩:∃z,z=nT 3 [Tm.mk 2 (n1+1) b0.wt.ty [B2],z1]:=⟨_,rfl⟩;rw[<- Tp]at Uj;have fB3:=Tm.fold B3;have Am:FZ 6 a b0 b1 b2 (n1+1) z1 (n2+1) z2 (n3+1) z3=B3:=by
  simp only[Tp,Jl,Ep,Ez,Ij,Fa,Oo,Fv,Ir,As,Ef,Ar,Dl,Im];rfl
 rw[Am];clear Am Im Dl Ar Ef As Ir Fv Oo Fa Ij Ez Ep Jl Tp;have Gp:=Tm.cells_eq B3;have Bv:(Tm.mk 6 0 a.ty [x,y,z]).dv = .agg [A0 6,A0 0,A0 a.ty.kind,.sl (a.ty.args.map Ty.cells),.sl [x.cells,y.cells,z.cells]]:=by first|rfl|(rw[Tm.dv,Tm.cells_eq];rfl)
 unfold E6;rw[Bv];rw[Bv]at Wa;clear Bv;have e4:¬(4:Int)=0:=dD;refine A8 Tryz.func100 ?_;intro X hP u7 hf u9 hn hR u6 u5;generalize G.map Ty.cells=GG at *;generalize V.map Tm.cells=VV at *;have J0:=j2 @hb @Ab;refine A7 J0 ?_;refine D5 J0 k4 ?_;refine A7 J0 ?_;refine B4 ?_;refine A2 ?_;refine AE ?_;refine A7 (j5 @An @Bp @Gi @hb @Ab) ?_;refine D5 (j3 @fx @hb @Ab) hx ?_;by_cases q1:e1=0;rotate_left
 ·rw[if_neg q1]at hR;refine A7 (j3 @q1 @hb @Ab) ?_;exact AI (co c b n1) (j4 @hb @Ab @AA.eq_1 @q1)
 rw[if_pos q1]at hR;refine A7 (j3 @q1 @hb @Ab) ?_;refine NH (j5 @He @Gd @Hj @hb @Ab) Jm Mg Fg ?_;refine A7 (j2 @hb @Ab) ?_;have J1:=j5 @An @Bp @Gi @hb @Ab;refine AC (s':=[sV 0 (BC c),sV 1 (.sl GG),sV 2 (.sl VV),sP 7,sL 7 [.v (A0 6),.v (A0 0),.v (A0 a.ty.kind),.v (.sl (a.ty.args.map Ty.cells)),.v (.sl [x.cells,y.cells,z.cells])],sP 8,sL 8 [.v (A0 0),.v (A0 0),.v (A0 0),.own 0 [],.own 0 []],(.slot 15,.one (.own 1116 [[A0 z1.kind,A0 z1.index,A0 z1.type.kind,.sl (z1.type.args.map Ty.cells),.sl (z1.args.map Tm.cells)]])),(.tok 1116,.tk 5 1),(.slot 16,.one (.own 1121 [[A0 1,A0 (n1+1),A0 0,.sl [],.sl []]])),(.tok 1121,.tk 5 1),(.slot 17,.one (.own 1127 [[A0 b0.wt.ty.kind,.sl (b0.wt.ty.args.map Ty.cells)]])),(.tok 1127,.tk 2 1),sV 18 (A0 1),sB  c [.v (BC b)],sB  b [.v (.sl []),.v (.sl []),.v (A0 (n1+1))]]) [(1116,116),(1121,121),(1127,127)] J1 ?_;refine AB ?_;refine A2 ?_;refine AE ?_;refine A7 J1 ?_;refine D5 (j3 @fy @hb @Ab) hy ?_;by_cases q2:e2=0;rotate_left
 ·rw[if_neg q2]at hR;refine A7 (j3 @q2 @hb @Ab) ?_;exact AI (co c b n2) (j4 @hb @Ab @AA.eq_1 @q2)
 rw[if_pos q2]at hR;refine A7 (j3 @q2 @hb @Ab) ?_;refine NH (j5 @Lw @Lp @Ls @hb @Ab) Ni Rp Ke ?_;refine A7 (j2 @hb @Ab) ?_;have J2:=j5 @An @Bp @Gi @hb @Ab;refine AC (s':=[sV 0 (BC c),sV 1 (.sl GG),sV 2 (.sl VV),sP 7,sL 7 [.v (A0 6),.v (A0 0),.v (A0 a.ty.kind),.v (.sl (a.ty.args.map Ty.cells)),.v (.sl [x.cells,y.cells,z.cells])],sP 8,sL 8 [.v (A0 0),.v (A0 0),.v (A0 0),.own 0 [],.own 0 []],(.slot 15,.one (.own 1116 [[A0 z1.kind,A0 z1.index,A0 z1.type.kind,.sl (z1.type.args.map Ty.cells),.sl (z1.args.map Tm.cells)],[A0 z2.kind,A0 z2.index,A0 z2.type.kind,.sl (z2.type.args.map Ty.cells),.sl (z2.args.map Tm.cells)]])),(.tok 1116,.tk 5 2),(.slot 16,.one (.own 1121 [[A0 1,A0 (n1+1),A0 0,.sl [],.sl []],[A0 1,A0 (n2+1),A0 0,.sl [],.sl []]])),(.tok 1121,.tk 5 2),(.slot 17,.one (.own 1127 [[A0 b0.wt.ty.kind,.sl (b0.wt.ty.args.map Ty.cells)],[A0 b1.wt.ty.kind,.sl (b1.wt.ty.args.map Ty.cells)]])),(.tok 1127,.tk 2 2),sV 18 (A0 2),sB  c [.v (BC b)],sB  b [.v (.sl []),.v (.sl []),.v (A0 (n2+1))]]) [(1116,116),(1121,121),(1127,127)] J2 ?_;refine AB ?_;refine A2 ?_;refine AE ?_;refine A7 J2 ?_;refine D5 (j3 @fz @hb @Ab) hz ?_;by_cases q3:e3=0;rotate_left
 ·rw[if_neg q3]at hR;refine A7 (j3 @q3 @hb @Ab) ?_;exact AI (co c b n3) (j4 @hb @Ab @AA.eq_1 @q3)
 rw[if_pos q3]at hR;refine A7 (j3 @q3 @hb @Ab) ?_;refine NH (j5 @Xk @Xp @Xz @hb @Ab) Tq kt3 Yo ?_;have J3:=j2 @hb @Ab;refine A7 J3 ?_;refine AC (s':=[sV 0 (BC c),sV 1 (.sl GG),sV 2 (.sl VV),sP 7,sL 7 [.v (A0 6),.v (A0 0),.v (A0 a.ty.kind),.v (.sl (a.ty.args.map Ty.cells)),.v (.sl [x.cells,y.cells,z.cells])],sP 8,sL 8 [.v (A0 0),.v (A0 0),.v (A0 0),.own 0 [],.own 0 []],(.slot 15,.one (.own 1116 [[A0 z1.kind,A0 z1.index,A0 z1.type.kind,.sl (z1.type.args.map Ty.cells),.sl (z1.args.map Tm.cells)],[A0 z2.kind,A0 z2.index,A0 z2.type.kind,.sl (z2.type.args.map Ty.cells),.sl (z2.args.map Tm.cells)],[A0 z3.kind,A0 z3.index,A0 z3.type.kind,.sl (z3.type.args.map Ty.cells),.sl (z3.args.map Tm.cells)]])),(.tok 1116,.tk 5 3),(.slot 16,.one (.own 1121 [[A0 1,A0 (n1+1),A0 0,.sl [],.sl []],[A0 1,A0 (n2+1),A0 0,.sl [],.sl []],[A0 1,A0 (n3+1),A0 0,.sl [],.sl []]])),(.tok 1121,.tk 5 3),(.slot 17,.one (.own 1127 [[A0 b0.wt.ty.kind,.sl (b0.wt.ty.args.map Ty.cells)],[A0 b1.wt.ty.kind,.sl (b1.wt.ty.args.map Ty.cells)],[A0 b2.wt.ty.kind,.sl (b2.wt.ty.args.map Ty.cells)]])),(.tok 1127,.tk 2 3),sV 18 (A0 3),sB  c [.v (BC b)],sB  b [.v (.sl []),.v (.sl []),.v (A0 (n3+1))]]) [(1116,116),(1121,121),(1127,127)] (j5 @An @Bp @Gi @hb @Ab) ?_;refine AB ?_;refine A2 ?_;refine B6 ?_;refine A7 J3 ?_
 have J4:=j8 @hb @Ab @He @Gd @Hj @Lw @Lp (j8 @Ls @Xk @Xp @Xz @fta @ftk @fW (j8 @flo @Le @Oe @My @Xc @Qo @ff3 (j7 @Zt @fs3 @Qh @Lm @Ll @Qp @fB3)));refine D5 J4 kof ?_;refine A7 J3 ?_;refine D5 J4 Wa ?_;refine A7 J3 ?_;refine D5 J4 Xu ?_;refine A7 J3 ?_;refine zfo J4 Eo Jo Ge Oz Kv Ua Te ?_;refine A7 J3 ?_;refine eJ J4 kcW Tj Mz Gc ?_;refine A7 J3 ?_;refine B4 ?_;refine A2 ?_;refine AE ?_;refine D5 J4 Ey ?_;refine A7 J3 ?_
 refine AC (s':=[sP 8,sL 8 [.v (A0 0),.v (A0 0),.v (A0 0),.own 0 [],.own 0 []],sV 15 (.sl [[A0 z1.kind,A0 z1.index,A0 z1.type.kind,.sl (z1.type.args.map Ty.cells),.sl (z1.args.map Tm.cells)],[A0 z2.kind,A0 z2.index,A0 z2.type.kind,.sl (z2.type.args.map Ty.cells),.sl (z2.args.map Tm.cells)],[A0 z3.kind,A0 z3.index,A0 z3.type.kind,.sl (z3.type.args.map Ty.cells),.sl (z3.args.map Tm.cells)]]),sV 16 (.sl [[A0 1,A0 (n1+1),A0 0,.sl [],.sl []],[A0 1,A0 (n2+1),A0 0,.sl [],.sl []],[A0 1,A0 (n3+1),A0 0,.sl [],.sl []]]),sV 17 (.sl [[A0 b0.wt.ty.kind,.sl (b0.wt.ty.args.map Ty.cells)],[A0 b1.wt.ty.kind,.sl (b1.wt.ty.args.map Ty.cells)],[A0 b2.wt.ty.kind,.sl (b2.wt.ty.args.map Ty.cells)]]),sP 22,sL 22 [.v (A0 B1.kind),.v (A0 B1.index),.v (A0 B1.type.kind),.v (.sl (B1.type.args.map Ty.cells)),.v (.sl (B1.args.map Tm.cells))],sV 30 (A0 (1)),sB  c [.v (BC b)],sB  b [.v (.sl []),.v (.sl []),.v (A0 (n3+1+27))]]) [] J3 ?_;refine AB ?_;refine A2 ?_;refine AE ?_;refine D5 J4 Jh ?_;refine A7 J3 ?_
 refine AC (s':=[sP 8,sL 8 [.v (A0 0),.v (A0 0),.v (A0 0),.own 0 [],.own 0 []],sV 15 (.sl [[A0 z1.kind,A0 z1.index,A0 z1.type.kind,.sl (z1.type.args.map Ty.cells),.sl (z1.args.map Tm.cells)],[A0 z2.kind,A0 z2.index,A0 z2.type.kind,.sl (z2.type.args.map Ty.cells),.sl (z2.args.map Tm.cells)],[A0 z3.kind,A0 z3.index,A0 z3.type.kind,.sl (z3.type.args.map Ty.cells),.sl (z3.args.map Tm.cells)]]),sV 16 (.sl [[A0 1,A0 (n1+1),A0 0,.sl [],.sl []],[A0 1,A0 (n2+1),A0 0,.sl [],.sl []],[A0 1,A0 (n3+1),A0 0,.sl [],.sl []]]),sV 17 (.sl [[A0 b0.wt.ty.kind,.sl (b0.wt.ty.args.map Ty.cells)],[A0 b1.wt.ty.kind,.sl (b1.wt.ty.args.map Ty.cells)],[A0 b2.wt.ty.kind,.sl (b2.wt.ty.args.map Ty.cells)]]),sP 22,sL 22 [.v (A0 B2.kind),.v (A0 B2.index),.v (A0 B2.type.kind),.v (.sl (B2.type.args.map Ty.cells)),.v (.sl (B2.args.map Tm.cells))],sV 30 (A0 (0)),sB  c [.v (BC b)],sB  b [.v (.sl []),.v (.sl []),.v (A0 (n3+1+27))]]) [] J3 ?_;refine AB ?_;refine A2 ?_;refine AE ?_;refine D5 J4 Uj ?_;refine A7 J3 ?_
 refine AC (s':=[sP 8,sL 8 [.v (A0 0),.v (A0 0),.v (A0 0),.own 0 [],.own 0 []],sV 15 (.sl [[A0 z1.kind,A0 z1.index,A0 z1.type.kind,.sl (z1.type.args.map Ty.cells),.sl (z1.args.map Tm.cells)],[A0 z2.kind,A0 z2.index,A0 z2.type.kind,.sl (z2.type.args.map Ty.cells),.sl (z2.args.map Tm.cells)],[A0 z3.kind,A0 z3.index,A0 z3.type.kind,.sl (z3.type.args.map Ty.cells),.sl (z3.args.map Tm.cells)]]),sV 16 (.sl [[A0 1,A0 (n1+1),A0 0,.sl [],.sl []],[A0 1,A0 (n2+1),A0 0,.sl [],.sl []],[A0 1,A0 (n3+1),A0 0,.sl [],.sl []]]),sV 17 (.sl [[A0 b0.wt.ty.kind,.sl (b0.wt.ty.args.map Ty.cells)],[A0 b1.wt.ty.kind,.sl (b1.wt.ty.args.map Ty.cells)],[A0 b2.wt.ty.kind,.sl (b2.wt.ty.args.map Ty.cells)]]),sP 22,sL 22 [.v (A0 B3.kind),.v (A0 B3.index),.v (A0 B3.type.kind),.v (.sl (B3.type.args.map Ty.cells)),.v (.sl (B3.args.map Tm.cells))],sV 30 (A0 (-1)),sB  c [.v (BC b)],sB  b [.v (.sl []),.v (.sl []),.v (A0 (n3+1+27))]]) [] J3 ?_;refine AB ?_;refine A2 ?_;refine B6 ?_;refine A7 J3 ?_;exact AI (co c b (n3+1+27)) (j3 @hb @Ab @Gp)
theorem z5b (c b:Nat)(hb:c≠b)(G:List Ty)(V:List Tm)(n:Int)(a b0 b1 b2:T)(x y z:Tm)(r1 r2 r3:Tm × Int × Int)(h0:0<=n)(l1:n<=r1.2.2)(l2:r1.2.2+1<=r2.2.2)(l3:r2.2.2+1<=r3.2.2)(hN:r3.2.2<=137438953472)(hx:DS gl c b G V (n) x r1 (b0:T).ty)(hy:DS gl c b G V (r1.2.2+1) y r2 (b1:T).ty)(hz:DS gl c b G V (r2.2.2+1) z r3 (b2:T).ty):E6 gl c b G V n (Tm.mk 9 0 a.ty [x,y,z]) (if r1.2.1=0 then if r2.2.1=0 then if r3.2.1=0 then ((FZ 9 a b0 b1 b2 (r1.2.2+1) r1.1 (r2.2.2+1) r2.1 (r3.2.2+1) r3.1:Tm),(0:Int),(r3.2.2+1+31:Int)) else (AA,r3.2) else (AA,r2.2) else (AA,r1.2)):=by
 have Ab:b≠c:=fun h=>hb h.symm;unfold DS at hx hy hz;have An:=Tm.cells_eq x;have fx:=Tm.fold x;have Bp:=Tm.cells_eq y;have fy:=Tm.fold y;have Gi:=Tm.cells_eq z;have fz:=Tm.fold z;obtain⟨z1,e1,n1⟩:=r1;obtain⟨z2,e2,n2⟩:=r2;obtain⟨z3,e3,n3⟩:=r3;simp only at hx hy hz hN l1 l2 l3 ⊢;have He:=Tm.fold z1;have Mg:=E5 (gl:=gl) b0;have Fg:=BF (gl:=gl) b0.tk.ty;rw[show Ty.mk 3 [CE,b0.tk.ty]=b0.wt.ty from rfl]at Fg;have Gd:=Ty.fold b0.ty;have Hj:=Ty.fold b0.tk.ty;have Jm:=B8 (gl:=gl) c b hb n1 (n1+1) rfl oO oO;have Lw:=Tm.fold z2;have Rp:=E5 (gl:=gl) b1;have Ke:=BF (gl:=gl) b1.tk.ty;rw[show Ty.mk 3 [CE,b1.tk.ty]=b1.wt.ty from rfl]at Ke;have Lp:=Ty.fold b1.ty;have Ls:=Ty.fold b1.tk.ty;have Ni:=B8 (gl:=gl) c b hb n2 (n2+1) rfl oO oO;have Xk:=Tm.fold z3;have kt3:=E5 (gl:=gl) b2;have Yo:=BF (gl:=gl) b2.tk.ty;rw[show Ty.mk 3 [CE,b2.tk.ty]=b2.wt.ty from rfl]at Yo;have Xp:=Ty.fold b2.ty;have Xz:=Ty.fold b2.tk.ty;have Tq:=B8 (gl:=gl) c b hb n3 (n3+1) rfl oO oO;have k4:=BQ (gl:=gl) 4 [];rw[show (Tm.mk 4 0 (Ty.mk 0 []) []).dv=(nT 4 []).dv from rfl,O1]at k4;simp only[List.map_nil]at k4;have kof:=E5 (gl:=gl) a;have fta:=Ty.fold a.ty;have ftk:=Ty.fold a.tk.ty;have kcW:=BF (gl:=gl) a.tk.ty
 rw[show Ty.mk 3 [CE,a.tk.ty]=a.wt.ty from rfl]at kcW;have fW:=Ty.fold a.wt.ty;have Wa:=pD (gl:=gl) c b hb (Tm.mk 9 0 a.ty [x,y,z]) rfl a (n1+1) (n2+1) (n3+1) (n3+1) oO oO;obtain⟨lo,Im⟩:∃q,q=Tm.mk 9 0 a.wt.ty [nT 10 [nT 4 [],AS (n1+1)],HZ 9 a (n2+1) (n3+1),AS (n3+1)]:=⟨_,rfl⟩;rw[<- Im]at Wa;have flo:=Tm.fold lo;have Xu:=B8 (gl:=gl) c b hb (n3+1+18) (n3+1+18+1) rfl oO oO;have Eo:=BW (gl:=gl) (vT (n1+1));rw[GW]at Eo;obtain⟨f0,Dl⟩:∃z,z=nT 11 [vT (n1+1)]:=⟨_,rfl⟩;rw[<- Dl]at Eo;have Le:=Tm.fold f0;have Jo:=BW (gl:=gl) (vT (n2+1));rw[GW]at Jo;obtain⟨f1,Ar⟩:∃z,z=nT 11 [vT (n2+1)]:=⟨_,rfl⟩;rw[<- Ar]at Jo;have Oe:=Tm.fold f1;have Ge:=F5 (gl:=gl) c b hb (n3+1+18+1) (n3+1+18+1+4) f0 f1 rfl oO oO;obtain⟨p1,Ef⟩:∃z,z=nT 3 [nT 3 [FC (n3+1+18+1),f0],f1]:=⟨_,rfl⟩;rw[<- Ef]at Ge;have My:=Tm.fold p1;have Oz:=BW (gl:=gl) (vT (n3+1));rw[GW]at Oz;obtain⟨f2,As⟩:∃z,z=nT 11 [vT (n3+1)]:=⟨_,rfl⟩;rw[<- As]at Oz;have Xc:=Tm.fold f2;have Kv:=F5 (gl:=gl) c b hb (n3+1+18+1+4) (n3+1+18+1+4+4) p1 f2 rfl oO oO;obtain⟨p2,Ir⟩:∃z,z=nT 3 [nT 3 [FC (n3+1+18+1+4),p1],f2]:=⟨_,rfl⟩;rw[<- Ir]at Kv;have Qo:=Tm.fold p2
 have Ua:=BW (gl:=gl) (vT (n3+1+18+1));rw[GW]at Ua;obtain⟨f3,Fv⟩:∃z,z=nT 11 [vT (n3+1+18+1)]:=⟨_,rfl⟩;rw[<- Fv]at Ua;have ff3:=Tm.fold f3;have Te:=F5 (gl:=gl) c b hb (n3+1+18+1+4+4) (n3+1+31) p2 f3 oO oO oO;obtain⟨p3,Oo⟩:∃z,z=nT 3 [nT 3 [FC (n3+1+18+1+4+4),p2],f3]:=⟨_,rfl⟩;rw[<- Oo]at Te;have Zt:=Tm.fold p3;have Tj:=BJ (gl:=gl) (vT (n3+1+18+1));rw[GW]at Tj;obtain⟨s3,Fa⟩:∃z,z=nT 12 [vT (n3+1+18+1)]:=⟨_,rfl⟩;rw[<- Fa]at Tj;have fs3:=Tm.fold s3;have Mz:=DO (gl:=gl) p3 s3;obtain⟨pr,Ij⟩:∃z,z=nT 10 [p3,s3]:=⟨_,rfl⟩;rw[<- Ij]at Mz;have Qh:=Tm.fold pr;have Gc:=CZ (gl:=gl) a.wt.ty (n3+1+18+1) lo pr;rw[GW]at Gc;obtain⟨B0,Ez⟩:∃z,z=nT 3 [Tm.mk 2 (n3+1+18+1) a.wt.ty [pr],lo]:=⟨_,rfl⟩;rw[<- Ez]at Gc;have Lm:=Tm.fold B0;have Ey:=CZ (gl:=gl) b2.wt.ty (n3+1) z3 B0;rw[GW]at Ey;obtain⟨B1,Ep⟩:∃z,z=nT 3 [Tm.mk 2 (n3+1) b2.wt.ty [B0],z3]:=⟨_,rfl⟩;rw[<- Ep]at Ey;have Ll:=Tm.fold B1;have Jh:=CZ (gl:=gl) b1.wt.ty (n2+1) z2 B1;rw[GW]at Jh;obtain⟨B2,Jl⟩:∃z,z=nT 3 [Tm.mk 2 (n2+1) b1.wt.ty [B1],z2]:=⟨_,rfl⟩;rw[<- Jl]at Jh;have Qp:=Tm.fold B2;have Uj:=CZ (gl:=gl) b0.wt.ty (n1+1) z1 B2;rw[GW]at Uj
 obtain⟨B3,Tp⟩:∃z,z=nT 3 [Tm.mk 2 (n1+1) b0.wt.ty [B2],z1]:=⟨_,rfl⟩;rw[<- Tp]at Uj;have fB3:=Tm.fold B3;have Am:FZ 9 a b0 b1 b2 (n1+1) z1 (n2+1) z2 (n3+1) z3=B3:=by
  simp only[Tp,Jl,Ep,Ez,Ij,Fa,Oo,Fv,Ir,As,Ef,Ar,Dl,Im];rfl
 rw[Am];clear Am Im Dl Ar Ef As Ir Fv Oo Fa Ij Ez Ep Jl Tp;have Gp:=Tm.cells_eq B3;have Bv:(Tm.mk 9 0 a.ty [x,y,z]).dv = .agg [A0 9,A0 0,A0 a.ty.kind,.sl (a.ty.args.map Ty.cells),.sl [x.cells,y.cells,z.cells]]:=by first|rfl|(rw[Tm.dv,Tm.cells_eq];rfl)
 unfold E6;rw[Bv];rw[Bv]at Wa;clear Bv;have e4:¬(4:Int)=0:=dD;refine A8 Tryz.func100 ?_;intro X hP u7 hf u9 hn hR u6 u5;generalize G.map Ty.cells=GG at *;generalize V.map Tm.cells=VV at *;have J0:=j2 @hb @Ab;refine A7 J0 ?_;refine D5 J0 k4 ?_;refine A7 J0 ?_;refine B4 ?_;refine A2 ?_;refine AE ?_;refine A7 (j5 @An @Bp @Gi @hb @Ab) ?_;refine D5 (j3 @fx @hb @Ab) hx ?_;by_cases q1:e1=0;rotate_left
 ·rw[if_neg q1]at hR;refine A7 (j3 @q1 @hb @Ab) ?_;exact AI (co c b n1) (j4 @hb @Ab @AA.eq_1 @q1)
 rw[if_pos q1]at hR;refine A7 (j3 @q1 @hb @Ab) ?_;refine NH (j5 @He @Gd @Hj @hb @Ab) Jm Mg Fg ?_;refine A7 (j2 @hb @Ab) ?_;have J1:=j5 @An @Bp @Gi @hb @Ab;refine AC (s':=[sV 0 (BC c),sV 1 (.sl GG),sV 2 (.sl VV),sP 7,sL 7 [.v (A0 9),.v (A0 0),.v (A0 a.ty.kind),.v (.sl (a.ty.args.map Ty.cells)),.v (.sl [x.cells,y.cells,z.cells])],sP 8,sL 8 [.v (A0 0),.v (A0 0),.v (A0 0),.own 0 [],.own 0 []],(.slot 15,.one (.own 1116 [[A0 z1.kind,A0 z1.index,A0 z1.type.kind,.sl (z1.type.args.map Ty.cells),.sl (z1.args.map Tm.cells)]])),(.tok 1116,.tk 5 1),(.slot 16,.one (.own 1121 [[A0 1,A0 (n1+1),A0 0,.sl [],.sl []]])),(.tok 1121,.tk 5 1),(.slot 17,.one (.own 1127 [[A0 b0.wt.ty.kind,.sl (b0.wt.ty.args.map Ty.cells)]])),(.tok 1127,.tk 2 1),sV 18 (A0 1),sB  c [.v (BC b)],sB  b [.v (.sl []),.v (.sl []),.v (A0 (n1+1))]]) [(1116,116),(1121,121),(1127,127)] J1 ?_;refine AB ?_;refine A2 ?_;refine AE ?_;refine A7 J1 ?_;refine D5 (j3 @fy @hb @Ab) hy ?_;by_cases q2:e2=0;rotate_left
 ·rw[if_neg q2]at hR;refine A7 (j3 @q2 @hb @Ab) ?_;exact AI (co c b n2) (j4 @hb @Ab @AA.eq_1 @q2)
 rw[if_pos q2]at hR;refine A7 (j3 @q2 @hb @Ab) ?_;refine NH (j5 @Lw @Lp @Ls @hb @Ab) Ni Rp Ke ?_;refine A7 (j2 @hb @Ab) ?_;have J2:=j5 @An @Bp @Gi @hb @Ab;refine AC (s':=[sV 0 (BC c),sV 1 (.sl GG),sV 2 (.sl VV),sP 7,sL 7 [.v (A0 9),.v (A0 0),.v (A0 a.ty.kind),.v (.sl (a.ty.args.map Ty.cells)),.v (.sl [x.cells,y.cells,z.cells])],sP 8,sL 8 [.v (A0 0),.v (A0 0),.v (A0 0),.own 0 [],.own 0 []],(.slot 15,.one (.own 1116 [[A0 z1.kind,A0 z1.index,A0 z1.type.kind,.sl (z1.type.args.map Ty.cells),.sl (z1.args.map Tm.cells)],[A0 z2.kind,A0 z2.index,A0 z2.type.kind,.sl (z2.type.args.map Ty.cells),.sl (z2.args.map Tm.cells)]])),(.tok 1116,.tk 5 2),(.slot 16,.one (.own 1121 [[A0 1,A0 (n1+1),A0 0,.sl [],.sl []],[A0 1,A0 (n2+1),A0 0,.sl [],.sl []]])),(.tok 1121,.tk 5 2),(.slot 17,.one (.own 1127 [[A0 b0.wt.ty.kind,.sl (b0.wt.ty.args.map Ty.cells)],[A0 b1.wt.ty.kind,.sl (b1.wt.ty.args.map Ty.cells)]])),(.tok 1127,.tk 2 2),sV 18 (A0 2),sB  c [.v (BC b)],sB  b [.v (.sl []),.v (.sl []),.v (A0 (n2+1))]]) [(1116,116),(1121,121),(1127,127)] J2 ?_;refine AB ?_;refine A2 ?_;refine AE ?_;refine A7 J2 ?_;refine D5 (j3 @fz @hb @Ab) hz ?_;by_cases q3:e3=0;rotate_left
 ·rw[if_neg q3]at hR;refine A7 (j3 @q3 @hb @Ab) ?_;exact AI (co c b n3) (j4 @hb @Ab @AA.eq_1 @q3)
 rw[if_pos q3]at hR;refine A7 (j3 @q3 @hb @Ab) ?_;refine NH (j5 @Xk @Xp @Xz @hb @Ab) Tq kt3 Yo ?_;have J3:=j2 @hb @Ab;refine A7 J3 ?_;refine AC (s':=[sV 0 (BC c),sV 1 (.sl GG),sV 2 (.sl VV),sP 7,sL 7 [.v (A0 9),.v (A0 0),.v (A0 a.ty.kind),.v (.sl (a.ty.args.map Ty.cells)),.v (.sl [x.cells,y.cells,z.cells])],sP 8,sL 8 [.v (A0 0),.v (A0 0),.v (A0 0),.own 0 [],.own 0 []],(.slot 15,.one (.own 1116 [[A0 z1.kind,A0 z1.index,A0 z1.type.kind,.sl (z1.type.args.map Ty.cells),.sl (z1.args.map Tm.cells)],[A0 z2.kind,A0 z2.index,A0 z2.type.kind,.sl (z2.type.args.map Ty.cells),.sl (z2.args.map Tm.cells)],[A0 z3.kind,A0 z3.index,A0 z3.type.kind,.sl (z3.type.args.map Ty.cells),.sl (z3.args.map Tm.cells)]])),(.tok 1116,.tk 5 3),(.slot 16,.one (.own 1121 [[A0 1,A0 (n1+1),A0 0,.sl [],.sl []],[A0 1,A0 (n2+1),A0 0,.sl [],.sl []],[A0 1,A0 (n3+1),A0 0,.sl [],.sl []]])),(.tok 1121,.tk 5 3),(.slot 17,.one (.own 1127 [[A0 b0.wt.ty.kind,.sl (b0.wt.ty.args.map Ty.cells)],[A0 b1.wt.ty.kind,.sl (b1.wt.ty.args.map Ty.cells)],[A0 b2.wt.ty.kind,.sl (b2.wt.ty.args.map Ty.cells)]])),(.tok 1127,.tk 2 3),sV 18 (A0 3),sB  c [.v (BC b)],sB  b [.v (.sl []),.v (.sl []),.v (A0 (n3+1))]]) [(1116,116),(1121,121),(1127,127)] (j5 @An @Bp @Gi @hb @Ab) ?_;refine AB ?_;refine A2 ?_;refine B6 ?_;refine A7 J3 ?_
 have J4:=j8 @hb @Ab @He @Gd @Hj @Lw @Lp (j8 @Ls @Xk @Xp @Xz @fta @ftk @fW (j8 @flo @Le @Oe @My @Xc @Qo @ff3 (j7 @Zt @fs3 @Qh @Lm @Ll @Qp @fB3)));refine D5 J4 kof ?_;refine A7 J3 ?_;refine D5 J4 Wa ?_;refine A7 J3 ?_;refine D5 J4 Xu ?_;refine A7 J3 ?_;refine zfo J4 Eo Jo Ge Oz Kv Ua Te ?_;refine A7 J3 ?_;refine eJ J4 kcW Tj Mz Gc ?_;refine A7 J3 ?_;refine B4 ?_;refine A2 ?_;refine AE ?_;refine D5 J4 Ey ?_;refine A7 J3 ?_
 refine AC (s':=[sP 8,sL 8 [.v (A0 0),.v (A0 0),.v (A0 0),.own 0 [],.own 0 []],sV 15 (.sl [[A0 z1.kind,A0 z1.index,A0 z1.type.kind,.sl (z1.type.args.map Ty.cells),.sl (z1.args.map Tm.cells)],[A0 z2.kind,A0 z2.index,A0 z2.type.kind,.sl (z2.type.args.map Ty.cells),.sl (z2.args.map Tm.cells)],[A0 z3.kind,A0 z3.index,A0 z3.type.kind,.sl (z3.type.args.map Ty.cells),.sl (z3.args.map Tm.cells)]]),sV 16 (.sl [[A0 1,A0 (n1+1),A0 0,.sl [],.sl []],[A0 1,A0 (n2+1),A0 0,.sl [],.sl []],[A0 1,A0 (n3+1),A0 0,.sl [],.sl []]]),sV 17 (.sl [[A0 b0.wt.ty.kind,.sl (b0.wt.ty.args.map Ty.cells)],[A0 b1.wt.ty.kind,.sl (b1.wt.ty.args.map Ty.cells)],[A0 b2.wt.ty.kind,.sl (b2.wt.ty.args.map Ty.cells)]]),sP 22,sL 22 [.v (A0 B1.kind),.v (A0 B1.index),.v (A0 B1.type.kind),.v (.sl (B1.type.args.map Ty.cells)),.v (.sl (B1.args.map Tm.cells))],sV 30 (A0 (1)),sB  c [.v (BC b)],sB  b [.v (.sl []),.v (.sl []),.v (A0 (n3+1+31))]]) [] J3 ?_;refine AB ?_;refine A2 ?_;refine AE ?_;refine D5 J4 Jh ?_;refine A7 J3 ?_
 refine AC (s':=[sP 8,sL 8 [.v (A0 0),.v (A0 0),.v (A0 0),.own 0 [],.own 0 []],sV 15 (.sl [[A0 z1.kind,A0 z1.index,A0 z1.type.kind,.sl (z1.type.args.map Ty.cells),.sl (z1.args.map Tm.cells)],[A0 z2.kind,A0 z2.index,A0 z2.type.kind,.sl (z2.type.args.map Ty.cells),.sl (z2.args.map Tm.cells)],[A0 z3.kind,A0 z3.index,A0 z3.type.kind,.sl (z3.type.args.map Ty.cells),.sl (z3.args.map Tm.cells)]]),sV 16 (.sl [[A0 1,A0 (n1+1),A0 0,.sl [],.sl []],[A0 1,A0 (n2+1),A0 0,.sl [],.sl []],[A0 1,A0 (n3+1),A0 0,.sl [],.sl []]]),sV 17 (.sl [[A0 b0.wt.ty.kind,.sl (b0.wt.ty.args.map Ty.cells)],[A0 b1.wt.ty.kind,.sl (b1.wt.ty.args.map Ty.cells)],[A0 b2.wt.ty.kind,.sl (b2.wt.ty.args.map Ty.cells)]]),sP 22,sL 22 [.v (A0 B2.kind),.v (A0 B2.index),.v (A0 B2.type.kind),.v (.sl (B2.type.args.map Ty.cells)),.v (.sl (B2.args.map Tm.cells))],sV 30 (A0 (0)),sB  c [.v (BC b)],sB  b [.v (.sl []),.v (.sl []),.v (A0 (n3+1+31))]]) [] J3 ?_;refine AB ?_;refine A2 ?_;refine AE ?_;refine D5 J4 Uj ?_;refine A7 J3 ?_
 refine AC (s':=[sP 8,sL 8 [.v (A0 0),.v (A0 0),.v (A0 0),.own 0 [],.own 0 []],sV 15 (.sl [[A0 z1.kind,A0 z1.index,A0 z1.type.kind,.sl (z1.type.args.map Ty.cells),.sl (z1.args.map Tm.cells)],[A0 z2.kind,A0 z2.index,A0 z2.type.kind,.sl (z2.type.args.map Ty.cells),.sl (z2.args.map Tm.cells)],[A0 z3.kind,A0 z3.index,A0 z3.type.kind,.sl (z3.type.args.map Ty.cells),.sl (z3.args.map Tm.cells)]]),sV 16 (.sl [[A0 1,A0 (n1+1),A0 0,.sl [],.sl []],[A0 1,A0 (n2+1),A0 0,.sl [],.sl []],[A0 1,A0 (n3+1),A0 0,.sl [],.sl []]]),sV 17 (.sl [[A0 b0.wt.ty.kind,.sl (b0.wt.ty.args.map Ty.cells)],[A0 b1.wt.ty.kind,.sl (b1.wt.ty.args.map Ty.cells)],[A0 b2.wt.ty.kind,.sl (b2.wt.ty.args.map Ty.cells)]]),sP 22,sL 22 [.v (A0 B3.kind),.v (A0 B3.index),.v (A0 B3.type.kind),.v (.sl (B3.type.args.map Ty.cells)),.v (.sl (B3.args.map Tm.cells))],sV 30 (A0 (-1)),sB  c [.v (BC b)],sB  b [.v (.sl []),.v (.sl []),.v (A0 (n3+1+31))]]) [] J3 ?_;refine AB ?_;refine A2 ?_;refine B6 ?_;refine A7 J3 ?_;exact AI (co c b (n3+1+31)) (j3 @hb @Ab @Gp)
end
section
variable {gl:AF}
theorem xE (r:Tm × Int × Int):(IC r).1.count<=4096:=by
 unfold IC;split
 ·split;· show 1+0<=4096;omega
  ·show r.1.count<=4096;omega
 ·show 1+0<=4096;omega
theorem CK (g:List T)(s:List Int)(n:Int)(t:Tm):(AG g s n t).1.count<=4096:=by
 cases t with
 | mk k i y a=>
  rw[F9]
  (repeat' split) <;> first|exact xE _|(show 1+0<=4096;omega)
theorem TE (n:Int):(FC n).count=9:=rfl
theorem zcz (k:Int)(a:T)(v N:Int):(HZ k a v N).count<=200:=by
 unfold HZ;split
 ·show (bE a v N).count<=200;simp only[bE,KC,O0,AU,AS,nT,M5,M6,LY,M7,M4,TE];omega
 ·show (bF a v N).count<=200;simp only[bF,KC,O0,AU,AS,nT,M5,M6,LY,M7,M4,TE];omega
theorem zd0 (k:Int)(a:T)(v:Int)(x:Tm):(pN k a v x).count<=x.count+100:=by
 simp only[pN,KC,O0,AU,AS,nT,M5,M6,LY,M7,M4,TE];omega
theorem zd1 (k:Int)(a b:T)(v w:Int)(x y:Tm):(VX k a b v x w y).count<=x.count+y.count+100:=by
 simp only[VX,KC,O0,AU,AS,nT,M5,M6,LY,M7,M4,TE];omega
theorem zo5 (a b:T)(v w:Int)(x y:Tm):(bD a b v x w y).count<=x.count+y.count+200:=by
 simp only[bD,KC,O0,AU,AS,nT,M5,M6,LY,M7,M4,TE];omega
theorem gP (k:Int)(a b0 b1 b2:T)(v w u:Int)(x y z:Tm):(FZ k a b0 b1 b2 v x w y u z).count<=x.count+y.count+z.count+500:=by
 have:=zcz k a w u;simp only[FZ,KC,O0,AU,AS,nT,M5,M6,LY,M7,M4,TE];omega
variable {Γ:List T}{g:List T}{s:List Int}{n:Int}
theorem I6 {r:Int × Int}(h:¬r.1=0):IC (AA,r)=(AA,r):=by unfold IC;rw[if_neg h]
theorem gQ (x:Tm):AG.termsR g s n [x]=if (AG g s n x).2.1=0 then ([((AG g s n x).1,(AG g s n x).2.2+1)],0,(AG g s n x).2.2+1) else ([],(AG g s n x).2):=by
 simp only[AG.termsR,if_true]
theorem TF (x y:Tm):AG.termsR g s n [x,y]=if (AG g s n x).2.1=0 then if (AG g s ((AG g s n x).2.2+1) y).2.1=0 then ([((AG g s n x).1,(AG g s n x).2.2+1),((AG g s ((AG g s n x).2.2+1) y).1,(AG g s ((AG g s n x).2.2+1) y).2.2+1)],0,(AG g s ((AG g s n x).2.2+1) y).2.2+1) else ([],(AG g s ((AG g s n x).2.2+1) y).2) else ([],(AG g s n x).2):=by
 rw[AG.termsR,gQ];by_cases h1:(AG g s n x).2.1=0
 ·rw[if_pos h1,if_pos h1];by_cases h2:(AG g s ((AG g s n x).2.2+1) y).2.1=0;· rw[if_pos h2,if_pos h2];rfl
  ·rw[if_neg h2,if_neg h2,if_neg h2]
 ·rw[if_neg h1,if_neg h1]
theorem gR (x y z:Tm):AG.termsR g s n [x,y,z]=if (AG g s n x).2.1=0 then if (AG.termsR g s ((AG g s n x).2.2+1) [y,z]).2.1=0 then (((AG g s n x).1,(AG g s n x).2.2+1)::(AG.termsR g s ((AG g s n x).2.2+1) [y,z]).1,0,(AG.termsR g s ((AG g s n x).2.2+1) [y,z]).2.2) else ([],(AG.termsR g s ((AG g s n x).2.2+1) [y,z]).2) else ([],(AG g s n x).2):=by
 rw[AG.termsR]
theorem gS {k:Int}{x:Tm}{a:T}{F:C3 Γ->a.V}(hk:k=5\/k=11\/k=12)(hd:Dn Γ x a F){r:Tm × Int × Int}(hr:AG Γ.reverse s n x=r) :
  AG Γ.reverse s n (nT k [x])=IC (if r.2.1=0 then ((pN k a (r.2.2+1) r.1:Tm),(0:Int),(r.2.2+1:Int)) else (AA,r.2)):=by
 have ht:GY.tysT Γ.reverse [x]=[a]:=by simp only[GY.tysT,B7 hd]
 rw[nT,GR oO,ht,gQ,hr];by_cases h:r.2.1=0
 ·rw[if_pos h,if_pos h,if_pos rfl];have e3:HI k zY [a] [(r.1,r.2.2+1)] (r.2.2+1)=(pN k a (r.2.2+1) r.1,r.2.2+1):=by
   unfold HI;rw[if_neg oO,if_pos hk];rfl
  rw[e3]
 ·rw[if_neg h,if_neg h];rw[if_neg h];exact (I6 h).symm
theorem kF {k:Int}{x y:Tm}{a b:T}{F:C3 Γ->a.V}{G:C3 Γ->b.V}(hk:k=8\/k=10)(hd:Dn Γ x a F)(Nv:Dn Γ y b G){r q:Tm × Int × Int}(hr:AG Γ.reverse s n x=r)(hq:AG Γ.reverse s (r.2.2+1) y=q) :
  AG Γ.reverse s n (nT k [x,y])=IC (if r.2.1=0 then if q.2.1=0 then ((VX k a b (r.2.2+1) r.1 (q.2.2+1) q.1:Tm),(0:Int),(q.2.2+1+4:Int)) else (AA,q.2) else (AA,r.2)):=by
 have ht:GY.tysT Γ.reverse [x,y]=[a,b]:=by simp only[GY.tysT,B7 hd,B7 Nv]
 rw[nT,GR oO,ht,TF,hr,hq];by_cases h:r.2.1=0
 ·rw[if_pos h,if_pos h];by_cases h':q.2.1=0
  ·rw[if_pos h',if_pos h',if_pos rfl];have e3:HI k zY [a,b] [(r.1,r.2.2+1),(q.1,q.2.2+1)] (q.2.2+1)=(VX k a b (r.2.2+1) r.1 (q.2.2+1) q.1,q.2.2+1+4):=by
    unfold HI;rw[if_neg oO,if_neg oO,if_pos hk];rfl
   rw[e3]
  ·rw[if_neg h',if_neg h'];rw[if_neg h'];exact (I6 h').symm
 ·rw[if_neg h,if_neg h];rw[if_neg h];exact (I6 h).symm
theorem zd2 {x y:Tm}{a b:T}{F:C3 Γ->(T.fn a b).V}{G:C3 Γ->a.V}(hd:Dn Γ x (.fn a b) F)(Nv:Dn Γ y a G){r q:Tm × Int × Int}(hr:AG Γ.reverse s n x=r)(hq:AG Γ.reverse s (r.2.2+1) y=q) :
  AG Γ.reverse s n (nT 3 [x,y])=IC (if r.2.1=0 then if q.2.1=0 then ((bD a b (r.2.2+1) r.1 (q.2.2+1) q.1:Tm),(0:Int),(q.2.2+1+9:Int)) else (AA,q.2) else (AA,r.2)):=by
 have ht:GY.tysT Γ.reverse [x,y]=[.fn a b,a]:=by simp only[GY.tysT,B7 hd,B7 Nv]
 rw[nT,GR oO,ht,TF,hr,hq];by_cases h:r.2.1=0
 ·rw[if_pos h,if_pos h];by_cases h':q.2.1=0;· rw[if_pos h',if_pos h',if_pos rfl];rfl
  ·rw[if_neg h',if_neg h'];rw[if_neg h'];exact (I6 h').symm
 ·rw[if_neg h,if_neg h];rw[if_neg h];exact (I6 h).symm
theorem dO {x y z:Tm}{a b0 b1 b2:T}{F:C3 Γ->b0.V}{G:C3 Γ->b1.V}{H:C3 Γ->b2.V}(hd:Dn Γ x b0 F)(Nd:Dn Γ y b1 G)(In:Dn Γ z b2 H){r q p:Tm × Int × Int}(hr:AG Γ.reverse s n x=r)(hq:AG Γ.reverse s (r.2.2+1) y=q)(hp:AG Γ.reverse s (q.2.2+1) z=p) :
  AG Γ.reverse s n (Tm.mk 6 0 a.ty [x,y,z])=IC (if r.2.1=0 then if q.2.1=0 then if p.2.1=0 then ((FZ 6 a b0 b1 b2 (r.2.2+1) r.1 (q.2.2+1) q.1 (p.2.2+1) p.1:Tm),(0:Int),(p.2.2+1+27:Int)) else (AA,p.2) else (AA,q.2) else (AA,r.2)):=by
 have ht:GY.tysT Γ.reverse [x,y,z]=[b0,b1,b2]:=by simp only[GY.tysT,B7 hd,B7 Nd,B7 In]
 rw[GR (k:=6) dD,ht,gR,hr,TF,hq,hp];by_cases h:r.2.1=0
 ·rw[if_pos h,if_pos h];by_cases h':q.2.1=0
  ·rw[if_pos h',if_pos h'];by_cases Gq:p.2.1=0
   ·rw[if_pos Gq,if_pos Gq,if_pos rfl,if_pos rfl];have e3:HI 6 a.ty [b0,b1,b2] [(r.1,r.2.2+1),(q.1,q.2.2+1),(p.1,p.2.2+1)] (p.2.2+1)=(FZ 6 a b0 b1 b2 (r.2.2+1) r.1 (q.2.2+1) q.1 (p.2.2+1) p.1,p.2.2+1+27):=by
     unfold HI;rw[if_neg dD,if_neg dD,if_neg dD,FU];have e4:MI 6 (p.2.2+1)+13=p.2.2+1+27:=by unfold MI;rw[if_pos rfl];omega
     rw[e4];rfl
    simp only;rw[e3]
   ·rw[if_neg Gq,if_neg Gq];rw[if_neg Gq,if_neg Gq];exact (I6 Gq).symm
  ·rw[if_neg h',if_neg h'];rw[if_neg h',if_neg h'];exact (I6 h').symm
 ·rw[if_neg h,if_neg h];rw[if_neg h];exact (I6 h).symm
theorem dP {x y z:Tm}{a b0 b1 b2:T}{F:C3 Γ->b0.V}{G:C3 Γ->b1.V}{H:C3 Γ->b2.V}(hd:Dn Γ x b0 F)(Nd:Dn Γ y b1 G)(In:Dn Γ z b2 H){r q p:Tm × Int × Int}(hr:AG Γ.reverse s n x=r)(hq:AG Γ.reverse s (r.2.2+1) y=q)(hp:AG Γ.reverse s (q.2.2+1) z=p) :
  AG Γ.reverse s n (Tm.mk 9 0 a.ty [x,y,z])=IC (if r.2.1=0 then if q.2.1=0 then if p.2.1=0 then ((FZ 9 a b0 b1 b2 (r.2.2+1) r.1 (q.2.2+1) q.1 (p.2.2+1) p.1:Tm),(0:Int),(p.2.2+1+31:Int)) else (AA,p.2) else (AA,q.2) else (AA,r.2)):=by
 have ht:GY.tysT Γ.reverse [x,y,z]=[b0,b1,b2]:=by simp only[GY.tysT,B7 hd,B7 Nd,B7 In]
 rw[GR (k:=9) dD,ht,gR,hr,TF,hq,hp];by_cases h:r.2.1=0
 ·rw[if_pos h,if_pos h];by_cases h':q.2.1=0
  ·rw[if_pos h',if_pos h'];by_cases Gq:p.2.1=0
   ·rw[if_pos Gq,if_pos Gq,if_pos rfl,if_pos rfl];have e3:HI 9 a.ty [b0,b1,b2] [(r.1,r.2.2+1),(q.1,q.2.2+1),(p.1,p.2.2+1)] (p.2.2+1)=(FZ 9 a b0 b1 b2 (r.2.2+1) r.1 (q.2.2+1) q.1 (p.2.2+1) p.1,p.2.2+1+31):=by
     unfold HI;rw[if_neg dD,if_neg dD,if_neg dD,FU];have e4:MI 9 (p.2.2+1)+13=p.2.2+1+31:=by unfold MI;rw[if_neg dD];omega
     rw[e4];rfl
    simp only;rw[e3]
   ·rw[if_neg Gq,if_neg Gq];rw[if_neg Gq,if_neg Gq];exact (I6 Gq).symm
  ·rw[if_neg h',if_neg h'];rw[if_neg h',if_neg h'];exact (I6 h').symm
 ·rw[if_neg h,if_neg h];rw[if_neg h];exact (I6 h).symm
def TR (gl:AF)(Γ:List T)(t:Tm)(a:T):Prop:=∀(c b:Nat),c≠b->∀(s:List Int) (n:Int),s.length=Γ.length->0<=n->n+41 * (t.count:Int)<=68719476736->DS gl c b (Γ.reverse.map T.ty) (s.map vT) n t (AG Γ.reverse s n t) a.ty
theorem IG {t:Tm}{a:T}{F:C3 Γ->a.V}(h:Dn Γ t a F)(Aw:∀x∈Γ,x.ok)(hi:(t.inferN (Γ.reverse.map T.ty)).2=0)(hc:t.count<=4096)(hl:Γ.length<=10000){c b:Nat}(hb:c≠b){V:List Tm}{m:Tm × Int × Int}(hm:m.1.count<=1073741824)(hk:E6 gl c b (Γ.reverse.map T.ty) V n t m):DS gl c b (Γ.reverse.map T.ty) V n t (IC m) a.ty:=by
 have hs:=G4 h;refine kE hb (by simp;omega) (JW t hs) oO ?_ ?_ hm hk
 ·intro x hx;obtain⟨y,hy,rfl⟩:=List.mem_map.1 hx;exact T.ok_ty (Aw y (List.mem_reverse.1 hy))
 ·unfold Tm.typedE;rw[if_pos ((Tm.checkN_iff t).2 ⟨hs,hc⟩)];rcases JU h with h1|h1;· exact h1
  ·rw[h1]at hi;exact absurd hi dD
theorem xF {t:Tm}{a:T}{F:C3 Γ->a.V}(h:Dn Γ t a F)(Aw:∀x∈Γ,x.ok)(hi:(t.inferN (Γ.reverse.map T.ty)).2=0)(hl:Γ.length+t.count<=10000)(Jz:t.count<=4096):TR gl Γ t a:=by
 induction h with
 | @var Γ i a p h=>
  intro c b hb s n hs h0 hn;have Ag:=h.lt;have he:AG Γ.reverse s n (vT (i:Nat))=IC (nT 10 [nT 4 [],vT (s.getD (s.length - 1 - ((i:Nat):Int).toNat) 0)],0,n):=by rw[vT,F9,if_pos rfl]
  rw[he];exact IG (.var h) Aw hi Jz oO hb (by show 3<=1073741824;decide) (zcr c b hb _ s n i (Int.natCast_nonneg _) (by simp only[Int.toNat_natCast];omega) oO)
 | @lam Γ a r x f ha h ih=>
  intro c b hb s n hs h0 hn;have Ao:=BO (t:=AY a x) (by show ¬(2:Int)=1;decide) hi x (by simp[AY,Tm.args]);rw[if_pos (show (AY a x).kind=2 from rfl)]at Ao;have Kh:(a::Γ).reverse=Γ.reverse++[a]:=List.reverse_cons;have Ao:(x.inferN ((a::Γ).reverse.map T.ty)).2=0:=by rw[Kh,List.map_append];exact Ao
  have hc:(AY a x).count=1+(x.count+0):=rfl;have Pz:∀y∈a::Γ,y.ok:=fun y hy=>by rcases List.mem_cons.1 hy with rfl|hy;exact ha;exact Aw y hy
  have w:=ih Pz Ao (by simp only[List.length_cons];omega) oO c b hb (s++[n+1]) (n+1) (by simp[hs]) oO oO;rw[Kh,List.map_append,List.map_append]at w;have he:AG Γ.reverse s n (AY a x)=IC (nT 10 [nT 4 [],Tm.mk 2 (n+1) a.tk.ty [(AG (Γ.reverse++[a]) (s++[n+1]) (n+1) x).1]],(AG (Γ.reverse++[a]) (s++[n+1]) (n+1) x).2):=by
   rw[show AY a x=Tm.mk 2 0 a.ty [x] from rfl,F9,if_neg dD,if_neg dD,if_pos rfl,FU];rfl
  have An:=CK (Γ.reverse++[a]) (s++[n+1]) (n+1) x;rw[he];refine IG (.lam ha h) Aw hi Jz oO hb ?_ (zcu c b hb _ _ n a x _ _ h0 oO (by simp;omega) (by simp;omega) w);show 1+(1+(1+((AG (Γ.reverse++[a]) (s++[n+1]) (n+1) x).1.count+0)+0))<=_;omega
 | @zero Γ=>
  intro c b hb s n hs h0 hn;have he:AG Γ.reverse s n (nT 4 [])=IC (nT 10 [nT 4 [],nT 4 []],0,n):=by rw[nT,F9,if_neg dD,if_pos dD];rfl
  rw[he];exact IG .zero Aw hi Jz oO hb (by show 3<=1073741824;decide) (zig c b hb _ _ n)
 | @nil Γ=>
  intro c b hb s n hs h0 hn;have he:AG Γ.reverse s n (nT 7 [])=IC (nT 10 [nT 4 [],nT 7 []],0,n):=by rw[nT,F9,if_neg dD,if_pos dD];rfl
  rw[he];exact IG .nil Aw hi Jz oO hb (by show 3<=1073741824;decide) (zih c b hb _ _ n)
 | @unit Γ=>
  intro c b hb s n hs h0 hn;have he:AG Γ.reverse s n (nT 13 [])=IC (nT 10 [nT 4 [],nT 13 []],0,n):=by rw[nT,F9,if_neg dD,if_pos dD];rfl
  rw[he];exact IG .unit Aw hi Jz oO hb (by show 3<=1073741824;decide) (zct c b hb _ _ n)
 | @succ Γ x X hx ih=>
  intro c b hb s n hs h0 hn;have Ao:=BO (t:=nT 5 [x]) (by show ¬(5:Int)=1;decide) hi;rw[if_neg (show ¬(nT 5 [x]).kind=2 by show ¬(5:Int)=2;decide)]at Ao;have hc:(nT 5 [x]).count=1+(x.count+0):=rfl;have w1:=ih Aw (Ao x (by simp[nT,Tm.args])) oO oO c b hb s (n) hs oO oO;obtain⟨l1,u1⟩:=GV x Γ.reverse s (n);have c1:=CK Γ.reverse s (n) x;obtain⟨r1,Do⟩:∃r,AG Γ.reverse s (n) x=r:=⟨_,rfl⟩;rw[Do]at w1 l1 u1 c1;rw[gS (.inl rfl) hx Do];refine IG (.succ hx) Aw hi Jz oO hb ?_ (z58 c b hb _ _ n x r1 h0 l1 oO w1);have hz:AA.count=1:=rfl;have Cw:=zd0 5 .nat (r1.2.2+1) r1.1
  (repeat' split) <;> (simp only;omega)
 | @fst Γ a d x X hx ih=>
  intro c b hb s n hs h0 hn;have Ao:=BO (t:=nT 11 [x]) (by show ¬(11:Int)=1;decide) hi;rw[if_neg (show ¬(nT 11 [x]).kind=2 by show ¬(11:Int)=2;decide)]at Ao;have hc:(nT 11 [x]).count=1+(x.count+0):=rfl;have w1:=ih Aw (Ao x (by simp[nT,Tm.args])) oO oO c b hb s (n) hs oO oO;obtain⟨l1,u1⟩:=GV x Γ.reverse s (n);have c1:=CK Γ.reverse s (n) x;obtain⟨r1,Do⟩:∃r,AG Γ.reverse s (n) x=r:=⟨_,rfl⟩;rw[Do]at w1 l1 u1 c1;rw[gS (.inr (.inl rfl)) hx Do];refine IG (.fst hx) Aw hi Jz oO hb ?_ (zcv c b hb _ _ n a d x r1 h0 l1 oO w1);have hz:AA.count=1:=rfl;have Cw:=zd0 11 (.pair a d) (r1.2.2+1) r1.1
  (repeat' split) <;> (simp only;omega)
 | @snd Γ a d x X hx ih=>
  intro c b hb s n hs h0 hn;have Ao:=BO (t:=nT 12 [x]) (by show ¬(12:Int)=1;decide) hi;rw[if_neg (show ¬(nT 12 [x]).kind=2 by show ¬(12:Int)=2;decide)]at Ao;have hc:(nT 12 [x]).count=1+(x.count+0):=rfl;have w1:=ih Aw (Ao x (by simp[nT,Tm.args])) oO oO c b hb s (n) hs oO oO;obtain⟨l1,u1⟩:=GV x Γ.reverse s (n);have c1:=CK Γ.reverse s (n) x;obtain⟨r1,Do⟩:∃r,AG Γ.reverse s (n) x=r:=⟨_,rfl⟩;rw[Do]at w1 l1 u1 c1;rw[gS (.inr (.inr rfl)) hx Do];refine IG (.snd hx) Aw hi Jz oO hb ?_ (zcw c b hb _ _ n a d x r1 h0 l1 oO w1);have hz:AA.count=1:=rfl;have Cw:=zd0 12 (.pair a d) (r1.2.2+1) r1.1
  (repeat' split) <;> (simp only;omega)
 | @cons Γ x l X L hx hy Bo Bh=>
  intro c b hb s n hs h0 hn;have Ao:=BO (t:=nT 8 [x,l]) (by show ¬(8:Int)=1;decide) hi;rw[if_neg (show ¬(nT 8 [x,l]).kind=2 by show ¬(8:Int)=2;decide)]at Ao;have hc:(nT 8 [x,l]).count=1+(x.count+(l.count+0)):=rfl;have w1:=Bo Aw (Ao x (by simp[nT,Tm.args])) oO oO c b hb s (n) hs oO oO;obtain⟨l1,u1⟩:=GV x Γ.reverse s (n);have c1:=CK Γ.reverse s (n) x;obtain⟨r1,Do⟩:∃r,AG Γ.reverse s (n) x=r:=⟨_,rfl⟩;rw[Do]at w1 l1 u1 c1;have w2:=Bh Aw (Ao l (by simp[nT,Tm.args])) oO oO c b hb s (r1.2.2+1) hs oO oO;obtain⟨l2,u2⟩:=GV l Γ.reverse s (r1.2.2+1);have c2:=CK Γ.reverse s (r1.2.2+1) l;obtain⟨r2,Fm⟩:∃r,AG Γ.reverse s (r1.2.2+1) l=r:=⟨_,rfl⟩;rw[Fm]at w2 l2 u2 c2;rw[kF (.inl rfl) hx hy Do Fm];refine IG (.cons hx hy) Aw hi Jz oO hb ?_ (z59 c b hb _ _ n x l r1 r2 h0 l1 l2 oO w1 w2);have hz:AA.count=1:=rfl;have Cw:=zd1 8 .nat .list (r1.2.2+1) (r2.2.2+1) r1.1 r2.1
  (repeat' split) <;> (simp only;omega)
 | @pair Γ a d x y X Y hx hy Bo Bh=>
  intro c b hb s n hs h0 hn;have Ao:=BO (t:=nT 10 [x,y]) (by show ¬(10:Int)=1;decide) hi;rw[if_neg (show ¬(nT 10 [x,y]).kind=2 by show ¬(10:Int)=2;decide)]at Ao;have hc:(nT 10 [x,y]).count=1+(x.count+(y.count+0)):=rfl;have w1:=Bo Aw (Ao x (by simp[nT,Tm.args])) oO oO c b hb s (n) hs oO oO;obtain⟨l1,u1⟩:=GV x Γ.reverse s (n);have c1:=CK Γ.reverse s (n) x;obtain⟨r1,Do⟩:∃r,AG Γ.reverse s (n) x=r:=⟨_,rfl⟩;rw[Do]at w1 l1 u1 c1;have w2:=Bh Aw (Ao y (by simp[nT,Tm.args])) oO oO c b hb s (r1.2.2+1) hs oO oO;obtain⟨l2,u2⟩:=GV y Γ.reverse s (r1.2.2+1);have c2:=CK Γ.reverse s (r1.2.2+1) y;obtain⟨r2,Fm⟩:∃r,AG Γ.reverse s (r1.2.2+1) y=r:=⟨_,rfl⟩;rw[Fm]at w2 l2 u2 c2;rw[kF (.inr rfl) hx hy Do Fm];refine IG (.pair hx hy) Aw hi Jz oO hb ?_ (z5a c b hb _ _ n a d x y r1 r2 h0 l1 l2 oO w1 w2);have hz:AA.count=1:=rfl;have Cw:=zd1 10 a d (r1.2.2+1) (r2.2.2+1) r1.1 r2.1
  (repeat' split) <;> (simp only;omega)
 | @app Γ a d f x F X hf hx Bo Bh=>
  intro c b hb s n hs h0 hn;have Ao:=BO (t:=nT 3 [f,x]) (by show ¬(3:Int)=1;decide) hi;rw[if_neg (show ¬(nT 3 [f,x]).kind=2 by show ¬(3:Int)=2;decide)]at Ao;have hc:(nT 3 [f,x]).count=1+(f.count+(x.count+0)):=rfl;have w1:=Bo Aw (Ao f (by simp[nT,Tm.args])) oO oO c b hb s (n) hs oO oO;obtain⟨l1,u1⟩:=GV f Γ.reverse s (n);have c1:=CK Γ.reverse s (n) f;obtain⟨r1,Do⟩:∃r,AG Γ.reverse s (n) f=r:=⟨_,rfl⟩;rw[Do]at w1 l1 u1 c1;have w2:=Bh Aw (Ao x (by simp[nT,Tm.args])) oO oO c b hb s (r1.2.2+1) hs oO oO;obtain⟨l2,u2⟩:=GV x Γ.reverse s (r1.2.2+1);have c2:=CK Γ.reverse s (r1.2.2+1) x;obtain⟨r2,Fm⟩:∃r,AG Γ.reverse s (r1.2.2+1) x=r:=⟨_,rfl⟩;rw[Fm]at w2 l2 u2 c2;rw[zd2 hf hx Do Fm];refine IG (.app hf hx) Aw hi Jz oO hb ?_ (zcx c b hb _ _ n a d f x r1 r2 h0 l1 l2 oO w1 w2);have hz:AA.count=1:=rfl;have Cw:=zo5 a d (r1.2.2+1) (r2.2.2+1) r1.1 r2.1
  (repeat' split) <;> (simp only;omega)
 | @rc Γ a x f z B F N ha Da hf Mq Bo Bh Gn=>
  intro c b hb s n hs h0 hn;have Ao:=BO (t:=Tm.mk 6 0 a.ty [x,f,z]) (by show ¬(6:Int)=1;decide) hi;rw[if_neg (show ¬(Tm.mk 6 0 a.ty [x,f,z]).kind=2 by show ¬(6:Int)=2;decide)]at Ao;have hc:(Tm.mk 6 0 a.ty [x,f,z]).count=1+(x.count+(f.count+(z.count+0))):=rfl;have w1:=Bo Aw (Ao x (by simp[Tm.args])) oO oO c b hb s (n) hs oO oO;obtain⟨l1,u1⟩:=GV x Γ.reverse s (n);have c1:=CK Γ.reverse s (n) x;obtain⟨r1,Do⟩:∃r,AG Γ.reverse s (n) x=r:=⟨_,rfl⟩;rw[Do]at w1 l1 u1 c1;have w2:=Bh Aw (Ao f (by simp[Tm.args])) oO oO c b hb s (r1.2.2+1) hs oO oO;obtain⟨l2,u2⟩:=GV f Γ.reverse s (r1.2.2+1);have c2:=CK Γ.reverse s (r1.2.2+1) f;obtain⟨r2,Fm⟩:∃r,AG Γ.reverse s (r1.2.2+1) f=r:=⟨_,rfl⟩;rw[Fm]at w2 l2 u2 c2;have w3:=Gn Aw (Ao z (by simp[Tm.args])) oO oO c b hb s (r2.2.2+1) hs oO oO;obtain⟨l3,u3⟩:=GV z Γ.reverse s (r2.2.2+1);have c3:=CK Γ.reverse s (r2.2.2+1) z;obtain⟨r3,Yn⟩:∃r,AG Γ.reverse s (r2.2.2+1) z=r:=⟨_,rfl⟩;rw[Yn]at w3 l3 u3 c3;rw[dO Da hf Mq Do Fm Yn];refine IG (.rc ha Da hf Mq) Aw hi Jz oO hb ?_ (zcy c b hb _ _ n a _ _ _ x f z r1 r2 r3 h0 l1 l2 l3 oO w1 w2 w3);have hz:AA.count=1:=rfl;have Cw:=gP 6 a a (.fn .nat (.fn a a)) .nat (r1.2.2+1) (r2.2.2+1) (r3.2.2+1) r1.1 r2.1 r3.1
  (repeat' split) <;> (simp only;omega)
 | @fold Γ a x f z B F N ha Da hf Mq Bo Bh Gn=>
  intro c b hb s n hs h0 hn;have Ao:=BO (t:=Tm.mk 9 0 a.ty [x,f,z]) (by show ¬(9:Int)=1;decide) hi;rw[if_neg (show ¬(Tm.mk 9 0 a.ty [x,f,z]).kind=2 by show ¬(9:Int)=2;decide)]at Ao;have hc:(Tm.mk 9 0 a.ty [x,f,z]).count=1+(x.count+(f.count+(z.count+0))):=rfl;have w1:=Bo Aw (Ao x (by simp[Tm.args])) oO oO c b hb s (n) hs oO oO;obtain⟨l1,u1⟩:=GV x Γ.reverse s (n);have c1:=CK Γ.reverse s (n) x;obtain⟨r1,Do⟩:∃r,AG Γ.reverse s (n) x=r:=⟨_,rfl⟩;rw[Do]at w1 l1 u1 c1;have w2:=Bh Aw (Ao f (by simp[Tm.args])) oO oO c b hb s (r1.2.2+1) hs oO oO;obtain⟨l2,u2⟩:=GV f Γ.reverse s (r1.2.2+1);have c2:=CK Γ.reverse s (r1.2.2+1) f;obtain⟨r2,Fm⟩:∃r,AG Γ.reverse s (r1.2.2+1) f=r:=⟨_,rfl⟩;rw[Fm]at w2 l2 u2 c2;have w3:=Gn Aw (Ao z (by simp[Tm.args])) oO oO c b hb s (r2.2.2+1) hs oO oO;obtain⟨l3,u3⟩:=GV z Γ.reverse s (r2.2.2+1);have c3:=CK Γ.reverse s (r2.2.2+1) z;obtain⟨r3,Yn⟩:∃r,AG Γ.reverse s (r2.2.2+1) z=r:=⟨_,rfl⟩;rw[Yn]at w3 l3 u3 c3;rw[dP Da hf Mq Do Fm Yn];refine IG (.fold ha Da hf Mq) Aw hi Jz oO hb ?_ (z5b c b hb _ _ n a _ _ _ x f z r1 r2 r3 h0 l1 l2 l3 oO w1 w2 w3);have hz:AA.count=1:=rfl;have Cw:=gP 9 a a (.fn .nat (.fn .list (.fn a a))) .list (r1.2.2+1) (r2.2.2+1) (r3.2.2+1) r1.1 r2.1 r3.1
  (repeat' split) <;> (simp only;omega)
end
section
variable {gl:AF}
theorem NW:∀a:T,a.tk.size<=3 * a.size
 | .nat=>dD
 | .list=>dD
 | .unit=>dD
 | .pair a b=>by
  have:=NW a;have:=NW b;show 1+a.tk.size+b.tk.size<=3 * (1+a.size+b.size);omega
 | .fn a b=>by
  have:=NW a;have:=NW b;show 1+a.tk.size+(1+1+b.tk.size)<=3 * (1+a.size+b.size);omega
theorem GB {a:T}(h:a.size<=1000000):a.wt.ty.count<=1073741824:=by
 have:=NW a;rw[T.ty_count];show 1+1+a.tk.size<=_;omega
theorem zd3 {a:T}(h:a.size<=1000000):a.tk.ty.count<=1073741824:=by
 have:=NW a;rw[T.ty_count];omega
theorem NX (k i:Int)(y:Ty):(Tm.mk k i y []).tys↔y.count<=1073741824:=by rw[Tm.tys_eq];simp[Tm.args,Tm.type]
theorem YR (k i:Int)(y:Ty)(a:Tm):(Tm.mk k i y [a]).tys↔y.count<=1073741824/\a.tys:=by rw[Tm.tys_eq];simp[Tm.args,Tm.type]
theorem R8 (k i:Int)(y:Ty)(a b:Tm):(Tm.mk k i y [a,b]).tys↔y.count<=1073741824/\a.tys/\b.tys:=by rw[Tm.tys_eq];simp[Tm.args,Tm.type]
theorem dQ (k i:Int)(y:Ty)(a b c:Tm):(Tm.mk k i y [a,b,c]).tys↔y.count<=1073741824/\a.tys/\b.tys/\c.tys:=by rw[Tm.tys_eq];simp[Tm.args,Tm.type]
theorem GC:(zY.count<=1073741824)=True:=eq_true dD
theorem dR:(CE.count<=1073741824)=True:=eq_true dD
theorem zd4:((T.ty .list).count<=1073741824)=True:=eq_true dD
theorem PQ (n:Int):(FC n).tys:=by simp[FC,vT,nT,NX,YR,R8,dQ,GC,dR,show ((Ty.mk 0 []).count<=1073741824)=True from eq_true dD]
theorem KH:((Ty.mk 0 []).count<=1073741824)=True:=eq_true dD
theorem kG {k:Int}{a:T}{v:Int}{x:Tm}(ha:a.size<=1000000)(hx:x.tys):(pN k a v x).tys:=by
 have h1:=GB ha;simp[pN,KC,AU,AS,vT,nT,NX,YR,R8,dQ,GC,KH,h1,hx]
theorem pE {k:Int}{a b:T}{v w:Int}{x y:Tm}(ha:a.size<=1000000)(hb:b.size<=1000000)(hx:x.tys)(hy:y.tys):(VX k a b v x w y).tys:=by
 have h1:=GB ha;have h2:=GB hb;simp[VX,KC,O0,AU,AS,vT,nT,NX,YR,R8,dQ,GC,KH,PQ,h1,h2,hx,hy]
theorem zd5 {a b:T}{v w:Int}{x y:Tm}(ha:(T.fn a b).size<=1000000)(hx:x.tys)(hy:y.tys):(bD a b v x w y).tys:=by
 have hs:1+a.size+b.size<=1000000:=ha;have h1:=GB ha;have h2:=GB (a:=a) oO;have h3:=GB (a:=b) oO;simp[bD,KC,O0,AU,AS,vT,nT,NX,YR,R8,dQ,GC,KH,PQ,h1,h2,h3,hx,hy]
theorem xG {k:Int}{a:T}{v N:Int}(ha:a.size<=64):(HZ k a v N).tys:=by
 have h1:=GB (a:=a) oO;have h2:=GB (a:=.fn a a) (by show 1+a.size+a.size<=_;omega);have h3:=GB (a:=.fn .list (.fn a a)) (by show 1+1+(1+a.size+a.size)<=_;omega);unfold HZ;split;· simp[bE,KC,O0,AU,AS,vT,nT,NX,YR,R8,dQ,GC,KH,dR,PQ,h1,h2]
 ·simp[bF,KC,O0,AU,AS,vT,nT,NX,YR,R8,dQ,GC,KH,dR,zd4,PQ,h1,h2,h3]
theorem YS {k:Int}{a b0 b1 b2:T}{v w u:Int}{x y z:Tm}(ha:a.size<=64)(h0:b0.size<=1000000)(h1:b1.size<=1000000)(h2:b2.size<=1000000)(hx:x.tys)(hy:y.tys)(hz:z.tys):(FZ k a b0 b1 b2 v x w y u z).tys:=by
 have k1:=GB (a:=a) oO;have k2:=GB h0;have k3:=GB h1;have k4:=GB h2;have k5:=xG (k:=k) (v:=w) (N:=u) ha;simp[FZ,KC,O0,AU,AS,vT,nT,NX,YR,R8,dQ,GC,KH,PQ,k1,k2,k3,k4,k5,hx,hy,hz]
theorem E7:AA.tys:=by simp[AA,NX,KH]
theorem GD {r:Tm × Int × Int}(h:r.1.tys):(IC r).1.tys:=by
 unfold IC;split
 ·split;· exact E7
  ·exact h
 ·exact E7
theorem GX {c:Prop}[Decidable c]{r q:Tm × Int × Int}(h:r.1.tys)(h':q.1.tys):(if c then r else q).1.tys:=by
 by_cases hc:c;· rw[if_pos hc];exact h
 ·rw[if_neg hc];exact h'
variable {Γ:List T}
theorem xH {t:Tm}{a:T}{F:C3 Γ->a.V}(h:Dn Γ t a F)(Aw:∀x∈Γ,x.ok)(hi:(t.inferN (Γ.reverse.map T.ty)).2=0):∀(s:List Int) (n:Int),(AG Γ.reverse s n t).1.tys:=by
 have hz:(nT 4 []).tys:=by simp[nT,NX,GC]
 induction h with
 | @var Γ i a p h=>
  intro s n;rw[vT,F9,if_pos rfl];exact GD (by simp[vT,nT,NX,R8,GC,KH])
 | @lam Γ a r x f ha h ih=>
  intro s n;have Ao:=BO (t:=AY a x) (by show ¬(2:Int)=1;decide) hi x (by simp[AY,Tm.args]);rw[if_pos (show (AY a x).kind=2 from rfl)]at Ao;have Kh:(a::Γ).reverse=Γ.reverse++[a]:=List.reverse_cons;have Ao:(x.inferN ((a::Γ).reverse.map T.ty)).2=0:=by rw[Kh,List.map_append];exact Ao
  have Pz:∀y∈a::Γ,y.ok:=fun y hy=>by rcases List.mem_cons.1 hy with rfl|hy;exact ha;exact Aw y hy
  have w:=ih Pz Ao (s++[n+1]) (n+1);rw[Kh]at w;have hao:a.size<=64:=ha;have h1:=zd3 (a:=a) oO;rw[show AY a x=Tm.mk 2 0 a.ty [x] from rfl,F9,if_neg dD,if_neg dD,if_pos rfl,FU];refine GD ?_;show (nT 10 [nT 4 [],Tm.mk 2 (n+1) a.tk.ty [(AG (Γ.reverse++[a]) (s++[n+1]) (n+1) x).1]]).tys;simp[nT,NX,YR,R8,GC,h1,w]
 | @zero Γ=>intro s n;rw[nT,F9,if_neg dD,if_pos dD];exact GD (by simp[nT,NX,R8,GC])
 | @nil Γ=>intro s n;rw[nT,F9,if_neg dD,if_pos dD];exact GD (by simp[nT,NX,R8,GC])
 | @unit Γ=>intro s n;rw[nT,F9,if_neg dD,if_pos dD];exact GD (by simp[nT,NX,R8,GC])
 | @succ Γ x X hx ih=>
  intro s n;have Ao:=BO (t:=nT 5 [x]) (by show ¬(5:Int)=1;decide) hi;rw[if_neg (show ¬(nT 5 [x]).kind=2 by show ¬(5:Int)=2;decide)]at Ao;have i1:=Ao x (by simp[nT,Tm.args]);rw[gS (.inl rfl) hx rfl];exact GD (GX (kG dD (ih Aw i1 s n)) E7)
 | @fst Γ a d x X hx ih=>
  intro s n;have Ao:=BO (t:=nT 11 [x]) (by show ¬(11:Int)=1;decide) hi;rw[if_neg (show ¬(nT 11 [x]).kind=2 by show ¬(11:Int)=2;decide)]at Ao;have i1:=Ao x (by simp[nT,Tm.args]);have o1:(T.pair a d).size<=64:=U2 hx Aw i1;rw[gS (.inr (.inl rfl)) hx rfl];exact GD (GX (kG oO (ih Aw i1 s n)) E7)
 | @snd Γ a d x X hx ih=>
  intro s n;have Ao:=BO (t:=nT 12 [x]) (by show ¬(12:Int)=1;decide) hi;rw[if_neg (show ¬(nT 12 [x]).kind=2 by show ¬(12:Int)=2;decide)]at Ao;have i1:=Ao x (by simp[nT,Tm.args]);have o1:(T.pair a d).size<=64:=U2 hx Aw i1;rw[gS (.inr (.inr rfl)) hx rfl];exact GD (GX (kG oO (ih Aw i1 s n)) E7)
 | @cons Γ x l X L hx hy Bo Bh=>
  intro s n;have Ao:=BO (t:=nT 8 [x,l]) (by show ¬(8:Int)=1;decide) hi;rw[if_neg (show ¬(nT 8 [x,l]).kind=2 by show ¬(8:Int)=2;decide)]at Ao;have i1:=Ao x (by simp[nT,Tm.args]);have i2:=Ao l (by simp[nT,Tm.args]);rw[kF (.inl rfl) hx hy rfl rfl];exact GD (GX (GX (pE dD dD (Bo Aw i1 _ _) (Bh Aw i2 _ _)) E7) E7)
 | @pair Γ a d x y X Y hx hy Bo Bh=>
  intro s n;have Ao:=BO (t:=nT 10 [x,y]) (by show ¬(10:Int)=1;decide) hi;rw[if_neg (show ¬(nT 10 [x,y]).kind=2 by show ¬(10:Int)=2;decide)]at Ao;have i1:=Ao x (by simp[nT,Tm.args]);have i2:=Ao y (by simp[nT,Tm.args]);have o1:a.size<=64:=U2 hx Aw i1;have o2:d.size<=64:=U2 hy Aw i2;rw[kF (.inr rfl) hx hy rfl rfl];exact GD (GX (GX (pE oO oO (Bo Aw i1 _ _) (Bh Aw i2 _ _)) E7) E7)
 | @app Γ a d f x F X hf hx Bo Bh=>
  intro s n;have Ao:=BO (t:=nT 3 [f,x]) (by show ¬(3:Int)=1;decide) hi;rw[if_neg (show ¬(nT 3 [f,x]).kind=2 by show ¬(3:Int)=2;decide)]at Ao;have i1:=Ao f (by simp[nT,Tm.args]);have i2:=Ao x (by simp[nT,Tm.args]);have o1:(T.fn a d).size<=64:=U2 hf Aw i1;rw[zd2 hf hx rfl rfl];exact GD (GX (GX (zd5 oO (Bo Aw i1 _ _) (Bh Aw i2 _ _)) E7) E7)
 | @rc Γ a x f z B F N ha Da hf Mq Bo Bh Gn=>
  intro s n;have Ao:=BO (t:=Tm.mk 6 0 a.ty [x,f,z]) (by show ¬(6:Int)=1;decide) hi;rw[if_neg (show ¬(Tm.mk 6 0 a.ty [x,f,z]).kind=2 by show ¬(6:Int)=2;decide)]at Ao;have i1:=Ao x (by simp[Tm.args]);have i2:=Ao f (by simp[Tm.args]);have i3:=Ao z (by simp[Tm.args]);have o1:a.size<=64:=ha;have o2:(T.fn .nat (.fn a a)).size<=64:=U2 hf Aw i2;rw[dO Da hf Mq rfl rfl rfl];exact GD (GX (GX (GX (YS o1 oO oO dD (Bo Aw i1 _ _) (Bh Aw i2 _ _) (Gn Aw i3 _ _)) E7) E7) E7)
 | @fold Γ a x f z B F N ha Da hf Mq Bo Bh Gn=>
  intro s n;have Ao:=BO (t:=Tm.mk 9 0 a.ty [x,f,z]) (by show ¬(9:Int)=1;decide) hi;rw[if_neg (show ¬(Tm.mk 9 0 a.ty [x,f,z]).kind=2 by show ¬(9:Int)=2;decide)]at Ao;have i1:=Ao x (by simp[Tm.args]);have i2:=Ao f (by simp[Tm.args]);have i3:=Ao z (by simp[Tm.args]);have o1:a.size<=64:=ha;have o2:(T.fn .nat (.fn .list (.fn a a))).size<=64:=U2 hf Aw i2;rw[dP Da hf Mq rfl rfl rfl];exact GD (GX (GX (GX (YS o1 oO oO dD (Bo Aw i1 _ _) (Bh Aw i2 _ _) (Gn Aw i3 _ _)) E7) E7) E7)
theorem xI (t:Tm):∀s,t.tys->(EA s t).tys:=by
 induction t using Tm.ind with
 | h t ih=>
 intro s h;rw[IB];by_cases h1:t.kind=1
 ·rw[if_pos h1];split;· simp[vT,NX,KH]
  ·exact h
 ·rw[if_neg h1];obtain⟨h2,h3⟩:=(Tm.tys_eq t).1 h;refine (Tm.tys_eq _).2 ⟨h2,fun a ha=>?_⟩;obtain⟨x,hx,rfl⟩:=List.mem_map.1 (show a∈t.args.map _ from ha);exact ih x hx _ (h3 x hx)
theorem kH (t:Tm):∀s,(EA s t).count<=t.count:=by
 induction t using Tm.ind with
 | h t ih=>
 intro s;rw[IB];by_cases h1:t.kind=1
 ·rw[if_pos h1];split;· exact Tm.count_pos t
  ·exact Nat.le_refl _
 ·rw[if_neg h1,Tm.count_eq,Tm.count_eq t];generalize (if t.kind=2 then s++[t.index] else s)=s';have hl:∀l:List Tm,(∀x∈l,x∈t.args)->Tm.count.counts (l.map (EA s'))<=Tm.count.counts l:=by
   intro l
   induction l with
   | nil=>intro _;exact Nat.le_refl _
   | cons x r Fy=>
    intro hx;have a1:=ih x (hx x sS) s';have a2:=Fy fun z hz=>hx z (by simp[hz]);show (EA s' x).count+Tm.count.counts (r.map (EA s'))<=x.count+Tm.count.counts r;omega
  have:=hl t.args fun _ h=>h;show 1+Tm.count.counts (t.args.map (EA s'))<=_;omega
theorem pF {X:Ctx}{s:St}(k:Nat){Ad:List Nat}{ops:Array Oper}{l:List Oper}{K:St->Prop}{o:Oper}{cs:List SV}{q:Option (Prop × St)}(hk:get s (.loc k)=some (.row cs))(hq:q=none)(h:∀b,newB b s->vc X Ad ops (o::l) (expose k b s) K):eD X Ad ops l K o s q:=by
 subst hq;exact z2p k hk fun b hb=>DM (h b hb)
theorem xJ (n:Nat):AP (CQ (n+1))=AP (CQ n)++[[A0 ((n:Int)+1)]]:=by rw[YP];simp[AP]
theorem pG (n:Nat):((CQ (n+1)).map vT).map Tm.cells=((CQ n).map vT).map Tm.cells++[[A0 1,A0 ((n:Int)+1),A0 0,.sl [],.sl []]]:=by rw[YP];simp[vT];rfl
theorem pH {Γ:List T}{t:Tm}{a:T}{F:C3 Γ->a.V}(h:Dn Γ t a F)(Aw:∀x∈Γ,x.ok)(hl:Γ.length<=16)(hc:t.count<=4096)(hi:t.inferN (Γ.reverse.map T.ty)=(a.ty,0))(Gb:t.typeE (Γ.reverse.map T.ty)=(a.ty,0)) :
  cT gl 19 [.sl ((Γ.reverse.map T.ty).map Ty.cells),t.dv] [] (.tup [(SK Γ t).1.dv,A0 (SK Γ t).2]) []:=by
 have hs:=G4 h;have hg:∀x∈Γ.reverse.map T.ty,x.count<=2147483648:=by
  intro x hx;obtain⟨y,hy,rfl⟩:=List.mem_map.1 hx;have:=(T.ok_ty (Aw y (List.mem_reverse.1 hy))).2;omega
 have w1:=H2 (gl:=gl) t (Γ.reverse.map T.ty) hg (JW t hs) oO;rw[Gb]at w1;simp only at w1;have wt:=xF (gl:=gl) h Aw (by rw[hi]) oO hc;have Be:=xH h Aw (by rw[hi]) (CQ Γ.length) Γ.length;have An:=CK Γ.reverse (CQ Γ.length) Γ.length t;unfold TR DS at wt;have Zy:((Γ.reverse.map T.ty).map Ty.cells).length=Γ.length:=sS;unfold SK;have wt:=fun c b hb=>wt c b hb (CQ Γ.length) Γ.length (LG _) (Int.natCast_nonneg _) oO;generalize AG Γ.reverse (CQ Γ.length) Γ.length t=r at *;obtain⟨x,e,m⟩:=r;simp only at wt Be An ⊢;have w3:=xC (gl:=gl) x (CQ Γ.length) (by rw[LG];omega);have Cw:=kH x (CQ Γ.length);have w4:=RY (gl:=gl) (EA (CQ Γ.length) x) (xI x _ Be) oO;generalize EA (CQ Γ.length) x=z at *;have ft:=Tm.fold t;have fx:=Tm.fold x;have fz:=Tm.fold z;have cz:=Tm.cells_eq z;have fa:=Ty.fold a.ty;have n0:AP (CQ 0)=[]:=rfl;have n1:((CQ 0).map vT).map Tm.cells=[]:=rfl;generalize (Γ.reverse.map T.ty).map Ty.cells=GG at *;generalize a.ty=ta at *;refine A8 Tryz.func19 ?_;intro X hP u7 hf u9 hn hR u6 u5;refine A4 ?_;refine A3 @ft w1 ?_;refine A7 @fa ?_;refine BK ?_;first|refine AQ [] fun K hK=>?_|refine AL (by rw[hP];exact AZ) [] fun K hK=>?_
 refine KI ?_;refine pF 27 (by simp[go_sem];rfl) rfl ?_;intro b Da;simp[go_sem,hP,u7,hn]at Da ⊢;refine F1 ?_;clear hK K;refine EC 29 (by simp[go_sem];rfl) ?_;intro c Gr;simp[go_sem]at Gr ⊢;have hb:c≠b:=fun e=>by subst e;simp_all
 have Ab:b≠c:=fun e=>hb e.symm;refine A7 (j2 @hb @Ab) ?_;refine BK ?_;refine AC [(1041,0),(1046,0)] (j4 @hb @Ab @n0 @n1) (FD (Γ.length) (fun i=>True) (fun i=>[sV 0 (.sl GG),sP 3,sL 3 [.v (A0 t.kind),.v (A0 t.index),.v (A0 t.type.kind),.v (.sl (t.type.args.map Ty.cells)),.v (.sl (t.args.map Tm.cells))],sP 4,sL 4 [.v (A0 0),.v (A0 0),.v (A0 0),.own 0 [],.own 0 []],sV 5 (A0 0),sV 8 (BC c),(.slot 9,.one (.own 1041 (((CQ i).map vT).map Tm.cells))),(.tok 1041,.tk 5 i),(.slot 10,.one (.own 1046 (AP (CQ i)))),(.tok 1046,.tk 1 i),sV 11 (A0 i),sB  c [.v (BC b)],sB  b [.v (.sl []),.v (.sl []),.v (A0 (i:Int))]]) (trivial) ?_ ?_)
 ·intro i Jt _ Aa;have kv:=B8 (gl:=gl) c b hb (i:Int) ((i:Int)+1) rfl oO oO;rw[xJ,pG]at Aa;have l1:(AP (CQ i)).length=i:=by simp[AP,LG]
  have l2:(((CQ i).map vT).map Tm.cells).length=i:=by simp[LG]
  have x1:(∀e∈AP (CQ i),e.length=1)=True:=eq_true (by
   intro e he;simp only[AP,List.mem_map]at he;obtain⟨q,-,rfl⟩:=he
   rfl)
  have x2:(∀e∈((CQ i).map vT).map Tm.cells,e.length=5)=True:=eq_true (by
   intro e he;obtain⟨q,_,rfl⟩:=List.mem_map.1 he;exact Tm.length_cells q)
  have Mt:i<=2147483647:=oO;have Lt:((i+1:Nat):Int)=(i:Int)+1:=oO;rw[Lt]at Aa;generalize AP (CQ i)=N1 at *;generalize ((CQ i).map vT).map Tm.cells=N2 at *;refine A2 ?_;refine AE ?_;refine A7 (j2 @hb @Ab) ?_;refine D5 (j2 @hb @Ab) kv ?_;refine A7 (j7 @hb @Ab @l1 @l2 @x1 @x2 @Mt) ?_;refine CR (wr [(1041,41),(1046,46)]) (j4 @hb @Ab @l1 @l2) tT (Aa tT)
 ·intro _;have wt:=wt c b hb;have l1:(AP (CQ Γ.length)).length=Γ.length:=by simp[AP,LG]
  refine A2 ?_;refine B6 ?_;refine A7 (j2 @hb @Ab) ?_;refine D5 (j3 @hb @Ab @ft) wt ?_;by_cases he:e=0;rotate_left
  ·rw[if_neg he]at hR;refine A7 (j3 @he @hb @Ab) ?_;exact AT @AA.eq_1
  rw[if_pos he]at hR;subst he;refine A7 (j2 @hb @Ab) ?_;refine D5 (j3 @hb @Ab @fx) w3 ?_;refine A7 (j2 @hb @Ab) ?_;refine D5 (j3 @hb @Ab @fz) w4 ?_;by_cases hk:z.checkN=0
  ·rw[if_pos hk]at hR;refine A7 (j3 @hk @hb @Ab) ?_;exact AT @cz
  ·rw[if_neg hk]at hR;refine A7 (j3 @hk @hb @Ab) ?_;exact AT @AA.eq_1
theorem zS:∀g:List Ty,(∀x∈g,x.ok)->∃Δ:List T,g=Δ.map T.ty/\∀a∈Δ,a.ok
 | [],_=>⟨[],rfl,sS⟩
 | x::g,h=>by
  obtain⟨Δ,h1,h2⟩:=zS g fun y hy=>h y (List.mem_cons_of_mem _ hy);obtain⟨a,ha⟩:=T.of_shape x (h x (List.mem_cons_self ..)).1;refine⟨a::Δ,by rw[List.map_cons,<- h1,ha],fun b hb=>?_⟩;rcases List.mem_cons.1 hb with rfl|hb;· exact T.ty_ok (by rw[ha];exact h x (List.mem_cons_self ..))
  ·exact h2 b hb
theorem gT (Bl:ET gl 0=some H1)(g:List Ty)(t:Tm)(hg:∀x∈g,x.count<=1073741824)(ht:t.tys)(hc:t.count<=536870912) :
  ∃(x:Tm) (e:Int),cT gl 18 [.sl (g.map Ty.cells),t.dv] [] (.tup [x.dv,A0 e]) []/\cT gl 19 [.sl (g.map Ty.cells),t.dv] [] (.tup [x.dv,A0 e]) [] /\
   x.tys/\x.count<=4096/\(e=0->(A5 ([]:List T) t).2=0/\x=(A5 ([]:List T) t).1\/g≠[]):=by
 have w1:=IF (gl:=gl) Bl t g (fun x hx=>by have:=hg x hx;omega) ht oO;have w2:=H2 (gl:=gl) t g (fun x hx=>by have:=hg x hx;omega) ht oO;have ft:=Tm.fold t;by_cases he:(t.typeE g).2=0;rotate_left
 ·have fy:=Ty.fold (t.typeE g).1;generalize t.typeE g=r at *;obtain⟨y,e⟩:=r;simp only at w1 w2 he fy;generalize g.map Ty.cells=GG at *;refine⟨AA,e,?_,?_,E7,by show 1+0<=4096;omega,fun h=>absurd h he⟩
  ·refine A8 Tryz.func18 ?_;intro X hP u7 hf u9 hn hR u6 u5;refine A4 ?_;refine A3 @ft w1 ?_;refine A7 @he ?_;exact AT (j2 @AA.eq_1 @he)
  ·refine A8 Tryz.func19 ?_;intro X hP u7 hf u9 hn hR u6 u5;refine A4 ?_;refine A3 @ft w2 ?_;refine A7 @he ?_;exact AT (j2 @AA.eq_1 @he)
 have Pt:OM g=0:=by
  unfold Tm.typeE at he;by_cases hq:OM g=0;· exact hq
  ·rw[if_neg hq]at he;exact absurd he hq
 have Lf:(t.typedE g).2=0:=by unfold Tm.typeE at he;rw[if_pos Pt]at he;exact he
 have Nr:t.checkN=0:=by
  unfold Tm.typedE at Lf;by_cases hq:t.checkN=0;· exact hq
  ·rw[if_neg hq]at Lf;exact absurd Lf hq
 have Ip:(t.inferN g).2=0:=by unfold Tm.typedE at Lf;rw[if_pos Nr]at Lf;exact Lf
 obtain⟨u7,Ym⟩:=aS Pt;obtain⟨Δ,rfl,hΔ⟩:=zS g Ym;obtain⟨hs,Jz⟩:=(Tm.checkN_iff t).1 Nr;obtain⟨a,F,h1,hF⟩:=Y3 t Δ hs Ip;have hi:t.inferN (Δ.map T.ty)=(a.ty,0):=by rw[<- h1,<- Ip]
 have Gb:t.typeE (Δ.map T.ty)=(a.ty,0):=by
  unfold Tm.typeE Tm.typedE;rw[if_pos Pt,if_pos Nr,hi]
 have hl:Δ.length<=16:=by rw[List.length_map]at u7;exact u7
 have Kh:Δ.reverse.reverse.map T.ty=Δ.map T.ty:=by rw[List.reverse_reverse]
 have k1:=dL (gl:=gl) Bl hF (fun x hx=>hΔ x (List.mem_reverse.1 hx)) (by simpa using hl) Jz (by rw[Kh];exact hi);have k2:=pH (gl:=gl) hF (fun x hx=>hΔ x (List.mem_reverse.1 hx)) (by simpa using hl) Jz (by rw[Kh];exact hi) (by rw[Kh];exact Gb);rw[z54 hF]at k2;rw[Kh]at k1 k2;refine⟨_,_,k1,k2,?_,?_,fun h=>?_⟩
 ·unfold M9;split
  ·rename_i h0;obtain⟨G,-,-,hT⟩:=VT hF;exact JW _ (G4 (hT h0))
  ·exact E7
 ·unfold M9;split;· exact CJ _ _
  ·show 1+0<=4096;omega
 ·cases Δ with
  | nil=>
   left
   have e0:([]:List T).reverse.reverse=[]:=rfl;rw[e0]at h ⊢;unfold M9 at h ⊢;by_cases h0:(A5 [] t).2=0;· rw[if_pos h0];exact⟨h0,rfl⟩
   ·rw[if_neg h0]at h;exact absurd h h0
  | cons x r=>right;simp
end
section
variable {gl:AF}
theorem WJ {t:Tm}(h:(t.typeE []).2=0):∃(a:T) (F:C3 []->a.V),Dn [] t a F/\t.typeE []=(a.ty,0)/\t.inferN []=(a.ty,0)/\a.ok/\t.count<=4096/\t.shape=true:=by
 have Gr:OM []=0:=rfl;unfold Tm.typeE at h ⊢;rw[if_pos Gr]at h ⊢;unfold Tm.typedE at h ⊢;by_cases hk:t.checkN=0
 ·rw[if_pos hk]at h ⊢;obtain⟨hs,hc⟩:=(Tm.checkN_iff t).1 hk;obtain⟨a,F,h1,h2⟩:=Y3 t [] hs h;have h1:(t.inferN []).1=a.ty:=h1;have he:t.inferN []=(a.ty,0):=by rw[<- h1,<- h]
  have ho:=Tm.inferN_ok t [] hs sS h;rw[h1]at ho;exact⟨a,F,h2,he,he,T.ty_ok ho,hc,hs⟩
 ·rw[if_neg hk]at h;exact absurd h hk
theorem z5c (t:Tm)(wk e:Int)(he:e≠0)(y:Ty)(Gb:cT gl 49 [.sl [],t.dv] [] (.tup [y.dv,A0 e]) []) :
  cT gl 105 [t.dv,.sl [],A0 wk] [] (.tup [DA.dv,A0 0,A0 e]) []:=by
 have Av:=Tm.fold t;have Cs:=Ty.fold y;have Bp:=Ty.cells_eq y;refine A8 Tryz.func105 ?_;intro X hP u7 hf u9 hn hR u6 u5;refine A4 ?_;refine A3 @Av Gb ?_;refine A7 @he ?_;exact AT (j2 @DA.eq_1 @he)
theorem xK (t:Tm)(wk:Int)(a:T)(hp:¬a.plain)(ho:a.ok)(Gb:cT gl 49 [.sl [],t.dv] [] (.tup [a.ty.dv,A0 0]) []) :
  cT gl 105 [t.dv,.sl [],A0 wk] [] (.tup [DA.dv,A0 0,A0 7]) []:=by
 have Av:=Tm.fold t;have wd:=gI (gl:=gl) a hp ho;have Cs:=Ty.fold a.ty;generalize a.ty=y at *;refine A8 Tryz.func105 ?_;intro X hP u7 hf u9 hn hR u6 u5;refine A4 ?_;refine A3 @Av Gb ?_;refine A4 ?_;refine B4 ?_;refine A4 ?_;refine A3 @Cs wd ?_;refine A4 ?_;exact AT @DA.eq_1
theorem pI (t:Tm)(wk:Int)(hw:wk<0\/65536<wk)(a:T)(hp:a.plain)(ho:a.ok)(Gb:cT gl 49 [.sl [],t.dv] [] (.tup [a.ty.dv,A0 0]) []) :
  cT gl 105 [t.dv,.sl [],A0 wk] [] (.tup [DA.dv,A0 0,A0 1]) []:=by
 have Av:=Tm.fold t;have wd:=T9 (gl:=gl) a hp ho;have Cs:=Ty.fold a.ty;generalize a.ty=y at *;refine A8 Tryz.func105 ?_;intro X hP u7 hf u9 hn hR u6 u5;refine A4 ?_;refine A3 @Av Gb ?_;refine A4 ?_;refine B4 ?_;refine A4 ?_;refine A3 @Cs wd ?_;by_cases h0:wk<0
 ·refine A7 @h0 ?_;exact AT @DA.eq_1
 ·have h1:65536<wk:=oO;refine A7 (j2 @h0 @h1) ?_;exact AT @DA.eq_1
theorem dS (t:Tm)(wk:Int)(v:Val)(n e:Int)(w:cT gl 105 [t.dv,.sl [],A0 wk] [] (.tup [v.dv,A0 n,A0 e]) []) :
  cT gl 57 [t.dv,A0 wk] [] (.tup [v.dv,A0 n,A0 e]) []:=by
 have Av:=Tm.fold t;have Kq:=Val.fold v;refine A8 Tryz.func57 ?_;intro X hP u7 hf u9 hn hR u6 u5;refine A4 ?_;refine A3 @Av w ?_;exact BD @Kq
theorem z5d (t:Tm)(wk e:Int)(he:e≠0)(y:Ty)(Gb:cT gl 51 [.sl [],t.dv] [] (.tup [y.dv,A0 e]) []) :
  cT gl 107 [t.dv,.sl [],A0 wk] [] (.tup [DA.dv,A0 0,A0 e]) []:=by
 have Av:=Tm.fold t;have Cs:=Ty.fold y;have Bp:=Ty.cells_eq y;refine A8 Tryz.func107 ?_;intro X hP u7 hf u9 hn hR u6 u5;refine A4 ?_;refine A3 @Av Gb ?_;refine A7 @he ?_;exact AT (j2 @DA.eq_1 @he)
theorem xL (t:Tm)(wk:Int)(a:T)(hp:¬a.plain)(ho:a.ok)(Gb:cT gl 51 [.sl [],t.dv] [] (.tup [a.ty.dv,A0 0]) []) :
  cT gl 107 [t.dv,.sl [],A0 wk] [] (.tup [DA.dv,A0 0,A0 7]) []:=by
 have Av:=Tm.fold t;have wd:=ZD (gl:=gl) a ho;rw[show decide (a.level=0)=false from decide_eq_false (fun h=>hp ((T.level_plain a).1 h))]at wd;have Cs:=Ty.fold a.ty;generalize a.ty=y at *;refine A8 Tryz.func107 ?_;intro X hP u7 hf u9 hn hR u6 u5;refine A4 ?_;refine A3 @Av Gb ?_;refine A4 ?_;refine B4 ?_;refine A4 ?_;refine A3 @Cs wd ?_;refine A4 ?_;exact AT @DA.eq_1
theorem pJ (t:Tm)(wk:Int)(hw:wk<0\/65536<wk)(a:T)(hp:a.plain)(ho:a.ok)(Gb:cT gl 51 [.sl [],t.dv] [] (.tup [a.ty.dv,A0 0]) []) :
  cT gl 107 [t.dv,.sl [],A0 wk] [] (.tup [DA.dv,A0 0,A0 1]) []:=by
 have Av:=Tm.fold t;have wd:=ZD (gl:=gl) a ho;rw[show decide (a.level=0)=true from decide_eq_true ((T.level_plain a).2 hp)]at wd;have Cs:=Ty.fold a.ty;generalize a.ty=y at *;refine A8 Tryz.func107 ?_;intro X hP u7 hf u9 hn hR u6 u5;refine A4 ?_;refine A3 @Av Gb ?_;refine A4 ?_;refine B4 ?_;refine A4 ?_;refine A3 @Cs wd ?_;by_cases h0:wk<0
 ·refine A7 @h0 ?_;exact AT @DA.eq_1
 ·have h1:65536<wk:=oO;refine A7 (j2 @h0 @h1) ?_;exact AT @DA.eq_1
theorem dU (t:Tm)(wk:Int)(v:Val)(n e:Int)(w:cT gl 107 [t.dv,.sl [],A0 wk] [] (.tup [v.dv,A0 n,A0 e]) []) :
  cT gl 59 [t.dv,A0 wk] [] (.tup [v.dv,A0 n,A0 e]) []:=by
 have Av:=Tm.fold t;have Kq:=Val.fold v;refine A8 Tryz.func59 ?_;intro X hP u7 hf u9 hn hR u6 u5;refine A4 ?_;refine A3 @Av w ?_;exact BD @Kq
theorem gU (Bl:ET gl 0=some H1)(t:Tm)(wk:Int)(ht:t.tys)(hc:t.count<=536870912) :
  ∃(v:Val) (n e:Int),cT gl 57 [t.dv,A0 wk] [] (.tup [v.dv,A0 n,A0 e]) []/\cT gl 59 [t.dv,A0 wk] [] (.tup [v.dv,A0 n,A0 e]) [] /\
   (e=0->∃(a:T) (F:C3 []->a.V) (c d:Nat),Dn [] t a F/\t.inferN []=(a.ty,0)/\a.plain/\a.ok/\v=C5 a (F ())/\NY d t []=some (PR a (F ()),c)/\c<=65536):=by
 have w1:=IF (gl:=gl) Bl t [] sS ht oO;have w2:=H2 (gl:=gl) t [] sS ht oO;rw[List.map_nil]at w1 w2;by_cases he:(t.typeE []).2=0;rotate_left;· exact⟨_,_,_,dS t wk _ _ _ (z5c t wk _ he _ w1),dU t wk _ _ _ (z5d t wk _ he _ w2),fun h=>absurd h he⟩
 obtain⟨a,F,hF,h1,h2,ho,Jz,hs⟩:=WJ he;rw[h1]at w1 w2;by_cases hp:a.plain;rotate_left;· exact⟨_,_,_,dS t wk _ _ _ (xK t wk a hp ho w1),dU t wk _ _ _ (xL t wk a hp ho w2),fun h=>absurd h dD⟩
 by_cases hw:wk<0\/65536<wk;· exact⟨_,_,_,dS t wk _ _ _ (pI t wk hw a hp ho w1),dU t wk _ _ _ (pJ t wk hw a hp ho w2),fun h=>absurd h dD⟩
 obtain⟨k,rfl⟩:∃k:Nat,wk=(k:Int):=⟨wk.toNat,oO⟩
 obtain⟨c,d,hr⟩:∃c d,NY d t []=some (PR a (F ()),c):=by
  obtain⟨c,d0,hr⟩:=oF (l:=[]) (r:=a) hF () tT hp;have:=hr d0 (Nat.le_refl _);refine⟨c,d0,?_⟩;unfold WD at this;split at this;· cases this
  rename_i g c1 h1;simp only[EP,N4]at this;cases this;rw[h1];rfl
 have e1:=MA (gl:=gl) Bl hF hc (F ()) hp ho hr k oO;have e2:=zno (gl:=gl) t a F k hF hc hp ho oO oO;rw[eY hF oO hr hp]at e2;refine⟨_,_,_,e1,e2,fun h=>⟨a,F,c,d,hF,h2,hp,ho,?_,hr,?_⟩⟩
 ·unfold II at h ⊢;rw[if_pos he]at h ⊢;split at h;· rename_i q;rw[if_pos q]
  ·exact absurd h dD
 ·unfold II at h;rw[if_pos he]at h;split at h;· omega
  ·exact absurd h dD
theorem dV:∀{a:T},a.plain->a.tk.plain
 | .nat,_=>trivial
 | .list,_=>trivial
 | .unit,_=>trivial
 | .pair _ _,h=>⟨dV h.1,dV h.2⟩
 | .fn _ _,h=>h.elim
theorem kI:∀{a:T},a.plain->a.tk.size=a.size
 | .nat,_=>rfl
 | .list,_=>rfl
 | .unit,_=>rfl
 | .pair a b,h=>by show 1+a.tk.size+b.tk.size=1+a.size+b.size;rw[kI h.1,kI h.2]
 | .fn _ _,h=>h.elim
theorem zd6 {t:Tm}{a:T}{G:C3 []->a.wt.V}(hK:KJ [] t a G){d:Nat}{r:MV × Nat × Nat}(h:R7 d t []=some r):r.2.2=Prod.fst (G ()):=by
 obtain⟨d',v,k,h1,-,h3⟩:=hK [] () tT;have:=zj6 d d' t [] r (v,k) h h1;rw[<- h3];exact (congrArg Prod.snd this).symm
theorem xM (t x:Tm)(ta:Ty)(q1 v:Val)(n q2 q3 wk:Int)(w1:cT gl 49 [.sl [],t.dv] [] (.tup [ta.dv,A0 0]) [])(w2:cT gl 56 [ta.dv] [] (.tup [AK true,A0 0]) [])
  (w3:cT gl 18 [.sl [],t.dv] [] (.tup [x.dv,A0 0]) []) (w4:cT gl 57 [x.dv,A0 wk] [] (.tup [q1.dv,A0 q2,A0 q3]) []) (hq:q3=0->q1=Val.mk 3 0 [] [Val.mk 1 n [] [],v]) :
  cT gl 21 [t.dv,A0 wk] [] (if q3=0 then .tup [v.dv,A0 n,A0 0] else .tup [DA.dv,A0 0,A0 q3]) []:=by
 have ft:=Tm.fold t;have fa:=Ty.fold ta;have fx:=Tm.fold x;have fv:=Val.fold v;have fq:=Val.fold q1;have Et:=Val.cells_eq v;by_cases h:q3=0
 ·rw[if_pos h];have Ry:q1.dv = .agg [A0 3,A0 0,.sl [],.sl [[A0 1,A0 n,.sl [],.sl []],v.cells]]:=by rw[hq h];rfl
  rw[h,Ry,Et]at w4;refine A8 Tryz.func21 ?_;intro X hP u7 hf u9 hn hR u6 u5;refine A4 ?_;refine A3 @ft w1 ?_;refine A4 ?_;refine A3 @fa w2 ?_;refine A4 ?_;refine A3 @ft w3 ?_;refine A4 ?_;refine A3 @fx w4 ?_;refine A4 ?_;exact BD (j2 @fv @Et)
 ·rw[if_neg h];refine A8 Tryz.func21 ?_;intro X hP u7 hf u9 hn hR u6 u5;refine A4 ?_;refine A3 @ft w1 ?_;refine A4 ?_;refine A3 @fa w2 ?_;refine A4 ?_;refine A3 @ft w3 ?_;refine A4 ?_;refine A3 @fx w4 ?_;refine A7 @h ?_;exact AT @DA.eq_1
theorem z5e (Bl:ET gl 0=some H1){t:Tm}{a:T}{F:C3 []->a.V}(h:Dn [] t a F)(hp:a.plain)(ho:a.ok)(hos:a.size<=60)(hc:t.count<=4096)(hi:t.inferN []=(a.ty,0))(h0:(A5 [] t).2=0){G:C3 []->a.wt.V}(hG:Dn [] (A5 [] t).1 a.wt G){c d:Nat}(Dp:NY d (A5 [] t).1 []=some (PR a.wt (G ()),c))(wk:Nat)(Sj:wk<=65536) :
  cT gl 21 [t.dv,A0 (wk:Int)] [] (if (II (A5 [] t).1 (C5 a.wt (G ())) c wk).2.2=0 then .tup [(C5 a.tk (Prod.snd (G ()))).dv,A0 (Int.ofNat (Prod.fst (G ()))),A0 0] else .tup [DA.dv,A0 0,A0 (II (A5 [] t).1 (C5 a.wt (G ())) c wk).2.2]) []:=by
 have Nr:t.checkN=0:=(Tm.checkN_iff t).2 ⟨G4 h,hc⟩;have w1:=R5 (gl:=gl) Bl t a.ty Nr hi;have w2:=T9 (gl:=gl) a hp ho;have w3:=dL (gl:=gl) Bl h sS sS hc (by simpa using hi);have Gb:M9 [] t=A5 [] t:=by unfold M9;rw[if_pos h0]
 simp only[List.reverse_nil,List.map_nil,Gb]at w3;rw[h0]at w3;have hwp:(T.pair .nat a.tk).plain:=⟨trivial,dV hp⟩;have hwo:a.wt.ok:=by show 1+1+a.tk.size<=64;rw[kI hp];omega
 have hxc:=CJ [] t;have w4:=MA (gl:=gl) Bl hG oO (G ()) hwp hwo Dp wk Sj;have Ih:=z4t (A5 [] t).1 (C5 a.wt (G ())) c wk;refine xM t _ a.ty _ _ _ _ _ _ w1 w2 w3 w4 fun hq=>?_;rcases Ih with h1|h1|h1;· rw[h1]at hq;exact absurd hq dD
 ·rw[h1]at hq;exact absurd hq dD
 ·exact h1.2
theorem z5f (a:T)(ho:a.ok):cT gl 14 [a.ty.dv] [] (.tup [(DD a).dv,A0 (BS a)]) []:=by
 have h0:a.ty.checkN=0:=(Ty.checkN_iff _).2 (T.ok_ty ho);have hac:a.ty.count<=64:=(T.ok_ty ho).2;have w1:=DX (gl:=gl) a.ty oO;rw[h0]at w1;have w2:=E5 (gl:=gl) a;have Zf:=NW a;have Bb:a.size<=64:=ho;have htc:a.tk.ty.count<=2147483648:=by rw[T.ty_count];omega
 have w3:=DX (gl:=gl) a.tk.ty htc;have fa:=Ty.fold a.ty;have fk:=Ty.fold a.tk.ty;have ck:=Ty.cells_eq a.tk.ty;have hz:A9.dv = .agg [A0 0,.sl []]:=rfl;unfold DD BS;by_cases hk:a.tk.size<=64
 ·rw[if_pos hk,if_pos hk];rw[(Ty.checkN_iff _).2 (T.ok_ty (a:=a.tk) hk)]at w3;generalize a.tk.ty=tk at *;generalize a.ty=ta at *;refine A8 Tryz.func14 ?_;intro X hP u7 hf u9 hn hR u6 u5;refine A4 ?_;refine A3 @fa w1 ?_;refine A4 ?_;refine A3 @fa w2 ?_;refine A4 ?_;refine A3 @fk w3 ?_;refine A4 ?_;exact AT @ck
 ·rw[if_neg hk,if_neg hk];have h3:¬a.tk.ty.checkN=0:=fun h=>hk (T.ty_ok ((Ty.checkN_iff _).1 h));generalize a.tk.ty.checkN=e at *;generalize a.tk.ty=tk at *;generalize a.ty=ta at *;refine A8 Tryz.func14 ?_;intro X hP u7 hf u9 hn hR u6 u5;refine A4 ?_;refine A3 @fa w1 ?_;refine A4 ?_;refine A3 @fa w2 ?_;refine A4 ?_;refine A3 @fk w3 ?_;refine A7 @h3 ?_;exact AT @hz
theorem z5g (s:Ty)(hc:s.count<=1073741824):∃(y:Ty) (e:Int),cT gl 13 [s.dv] [] (.tup [y.dv,A0 e]) []/\cT gl 14 [s.dv] [] (.tup [y.dv,A0 e]) []/\y.count<=64:=by
 by_cases h:s.checkN=0
 ·obtain⟨a,rfl⟩:=T.of_shape s ((Ty.checkN_iff s).1 h).1;have ho:=T.ty_ok ((Ty.checkN_iff _).1 h);refine⟨_,_,oZ a ho,z5f a ho,?_⟩;unfold DD;split;· rename_i hk;rw[T.ty_count];exact hk
  ·decide
 ·have w1:=E1 (gl:=gl) s oO;have w2:=DX (gl:=gl) s oO;have fs:=Ty.fold s;generalize s.checkN=e at *;refine⟨A9,e,?_,?_,dD⟩
  ·refine A8 Tryz.func13 ?_;intro X hP u7 hf u9 hn hR u6 u5;refine A4 ?_;refine A3 @fs w1 ?_;refine A7 @h ?_;exact AT (j2 @A9.eq_1 @h)
  ·refine A8 Tryz.func14 ?_;intro X hP u7 hf u9 hn hR u6 u5;refine A4 ?_;refine A3 @fs w2 ?_;refine A7 @h ?_;exact AT (j2 @A9.eq_1 @h)
theorem zd7 (t:Tm)(wk e:Int)(he:e≠0)(y:Ty)(w1:cT gl 49 [.sl [],t.dv] [] (.tup [y.dv,A0 e]) []):cT gl 21 [t.dv,A0 wk] [] (.tup [DA.dv,A0 0,A0 e]) []:=by
 have ft:=Tm.fold t;have fy:=Ty.fold y;have cy:=Ty.cells_eq y;refine A8 Tryz.func21 ?_;intro X hP u7 hf u9 hn hR u6 u5;refine A4 ?_;refine A3 @ft w1 ?_;refine A7 @he ?_;exact AT (j2 @DA.eq_1 @he)
theorem z5h (t:Tm)(wk:Int)(y:Ty)(w1:cT gl 49 [.sl [],t.dv] [] (.tup [y.dv,A0 0]) [])(w2:cT gl 56 [y.dv] [] (.tup [AK false,A0 0]) []):cT gl 21 [t.dv,A0 wk] [] (.tup [DA.dv,A0 0,A0 7]) []:=by
 have ft:=Tm.fold t;have fy:=Ty.fold y;have cy:=Ty.cells_eq y;refine A8 Tryz.func21 ?_;intro X hP u7 hf u9 hn hR u6 u5;refine A4 ?_;refine A3 @ft w1 ?_;refine A4 ?_;refine A3 @fy w2 ?_;refine A4 ?_;exact AT @DA.eq_1
theorem z5i (t x:Tm)(wk e:Int)(he:e≠0)(y:Ty)(w1:cT gl 49 [.sl [],t.dv] [] (.tup [y.dv,A0 0]) [])(w2:cT gl 56 [y.dv] [] (.tup [AK true,A0 0]) [])(w3:cT gl 18 [.sl [],t.dv] [] (.tup [x.dv,A0 e]) []):cT gl 21 [t.dv,A0 wk] [] (.tup [DA.dv,A0 0,A0 e]) []:=by
 have ft:=Tm.fold t;have fy:=Ty.fold y;have cy:=Ty.cells_eq y;have fx:=Tm.fold x;have cx:=Tm.cells_eq x;refine A8 Tryz.func21 ?_;intro X hP u7 hf u9 hn hR u6 u5;refine A4 ?_;refine A3 @ft w1 ?_;refine A4 ?_;refine A3 @fy w2 ?_;refine A4 ?_;refine A3 @ft w3 ?_;refine A7 @he ?_;exact AT (j2 @DA.eq_1 @he)
theorem z5j (t x:Tm)(wk e n:Int)(v:Val)(he:e≠0)(y:Ty)(w1:cT gl 49 [.sl [],t.dv] [] (.tup [y.dv,A0 0]) [])(w2:cT gl 56 [y.dv] [] (.tup [AK true,A0 0]) [])(w3:cT gl 18 [.sl [],t.dv] [] (.tup [x.dv,A0 0]) [])(w4:cT gl 57 [x.dv,A0 wk] [] (.tup [v.dv,A0 n,A0 e]) []):cT gl 21 [t.dv,A0 wk] [] (.tup [DA.dv,A0 0,A0 e]) []:=by
 have ft:=Tm.fold t;have fy:=Ty.fold y;have cy:=Ty.cells_eq y;have fx:=Tm.fold x;have cx:=Tm.cells_eq x;have fv:=Val.fold v;have cv:=Val.cells_eq v;refine A8 Tryz.func21 ?_;intro X hP u7 hf u9 hn hR u6 u5;refine A4 ?_;refine A3 @ft w1 ?_;refine A4 ?_;refine A3 @fy w2 ?_;refine A4 ?_;refine A3 @ft w3 ?_;refine A4 ?_;refine A3 @fx w4 ?_;refine A7 @he ?_;exact AT (j2 @DA.eq_1 @he)
theorem zii (t x:Tm)(wk n k:Int)(v:Val)(y:Ty)(w1:cT gl 49 [.sl [],t.dv] [] (.tup [y.dv,A0 0]) [])(w2:cT gl 56 [y.dv] [] (.tup [AK true,A0 0]) [])(w3:cT gl 18 [.sl [],t.dv] [] (.tup [x.dv,A0 0]) [])(w4:cT gl 57 [x.dv,A0 wk] [] (.tup [(Val.mk 3 0 [] [Val.mk 1 k [] [],v]).dv,A0 n,A0 0]) []):cT gl 21 [t.dv,A0 wk] [] (.tup [v.dv,A0 k,A0 0]) []:=by
 have ft:=Tm.fold t;have fy:=Ty.fold y;have cy:=Ty.cells_eq y;have fx:=Tm.fold x;have cx:=Tm.cells_eq x;have fv:=Val.fold v;have cv:=Val.cells_eq v;have Ry:(Val.mk 3 0 [] [Val.mk 1 k [] [],v]).dv = .agg [A0 3,A0 0,.sl [],.sl [[A0 1,A0 k,.sl [],.sl []],v.cells]]:=rfl;rw[Ry,cv]at w4;refine A8 Tryz.func21 ?_;intro X hP u7 hf u9 hn hR u6 u5;refine A4 ?_;refine A3 @ft w1 ?_;refine A4 ?_;refine A3 @fy w2 ?_;refine A4 ?_;refine A3 @ft w3 ?_;refine A4 ?_;refine A3 @fx w4 ?_;refine A4 ?_;exact BD (j2 @fv @cv)
theorem zd8 (t:Tm)(wk e:Int)(he:e≠0)(y:Ty)(w1:cT gl 51 [.sl [],t.dv] [] (.tup [y.dv,A0 e]) []):cT gl 22 [t.dv,A0 wk] [] (.tup [DA.dv,A0 0,A0 e]) []:=by
 have ft:=Tm.fold t;have fy:=Ty.fold y;have cy:=Ty.cells_eq y;refine A8 Tryz.func22 ?_;intro X hP u7 hf u9 hn hR u6 u5;refine A4 ?_;refine A3 @ft w1 ?_;refine A7 @he ?_;exact AT (j2 @DA.eq_1 @he)
theorem z5k (t:Tm)(wk:Int)(y:Ty)(w1:cT gl 51 [.sl [],t.dv] [] (.tup [y.dv,A0 0]) [])(w2:cT gl 58 [y.dv] [] (.tup [AK false,A0 0]) []):cT gl 22 [t.dv,A0 wk] [] (.tup [DA.dv,A0 0,A0 7]) []:=by
 have ft:=Tm.fold t;have fy:=Ty.fold y;have cy:=Ty.cells_eq y;refine A8 Tryz.func22 ?_;intro X hP u7 hf u9 hn hR u6 u5;refine A4 ?_;refine A3 @ft w1 ?_;refine A4 ?_;refine A3 @fy w2 ?_;refine A4 ?_;exact AT @DA.eq_1
theorem z5l (t x:Tm)(wk e:Int)(he:e≠0)(y:Ty)(w1:cT gl 51 [.sl [],t.dv] [] (.tup [y.dv,A0 0]) [])(w2:cT gl 58 [y.dv] [] (.tup [AK true,A0 0]) [])(w3:cT gl 19 [.sl [],t.dv] [] (.tup [x.dv,A0 e]) []):cT gl 22 [t.dv,A0 wk] [] (.tup [DA.dv,A0 0,A0 e]) []:=by
 have ft:=Tm.fold t;have fy:=Ty.fold y;have cy:=Ty.cells_eq y;have fx:=Tm.fold x;have cx:=Tm.cells_eq x;refine A8 Tryz.func22 ?_;intro X hP u7 hf u9 hn hR u6 u5;refine A4 ?_;refine A3 @ft w1 ?_;refine A4 ?_;refine A3 @fy w2 ?_;refine A4 ?_;refine A3 @ft w3 ?_;refine A7 @he ?_;exact AT (j2 @DA.eq_1 @he)
theorem z5m (t x:Tm)(wk e n:Int)(v:Val)(he:e≠0)(y:Ty)(w1:cT gl 51 [.sl [],t.dv] [] (.tup [y.dv,A0 0]) [])(w2:cT gl 58 [y.dv] [] (.tup [AK true,A0 0]) [])(w3:cT gl 19 [.sl [],t.dv] [] (.tup [x.dv,A0 0]) [])(w4:cT gl 59 [x.dv,A0 wk] [] (.tup [v.dv,A0 n,A0 e]) []):cT gl 22 [t.dv,A0 wk] [] (.tup [DA.dv,A0 0,A0 e]) []:=by
 have ft:=Tm.fold t;have fy:=Ty.fold y;have cy:=Ty.cells_eq y;have fx:=Tm.fold x;have cx:=Tm.cells_eq x;have fv:=Val.fold v;have cv:=Val.cells_eq v;refine A8 Tryz.func22 ?_;intro X hP u7 hf u9 hn hR u6 u5;refine A4 ?_;refine A3 @ft w1 ?_;refine A4 ?_;refine A3 @fy w2 ?_;refine A4 ?_;refine A3 @ft w3 ?_;refine A4 ?_;refine A3 @fx w4 ?_;refine A7 @he ?_;exact AT (j2 @DA.eq_1 @he)
theorem zij (t x:Tm)(wk n k:Int)(v:Val)(y:Ty)(w1:cT gl 51 [.sl [],t.dv] [] (.tup [y.dv,A0 0]) [])(w2:cT gl 58 [y.dv] [] (.tup [AK true,A0 0]) [])(w3:cT gl 19 [.sl [],t.dv] [] (.tup [x.dv,A0 0]) [])(w4:cT gl 59 [x.dv,A0 wk] [] (.tup [(Val.mk 3 0 [] [Val.mk 1 k [] [],v]).dv,A0 n,A0 0]) []):cT gl 22 [t.dv,A0 wk] [] (.tup [v.dv,A0 k,A0 0]) []:=by
 have ft:=Tm.fold t;have fy:=Ty.fold y;have cy:=Ty.cells_eq y;have fx:=Tm.fold x;have cx:=Tm.cells_eq x;have fv:=Val.fold v;have cv:=Val.cells_eq v;have Ry:(Val.mk 3 0 [] [Val.mk 1 k [] [],v]).dv = .agg [A0 3,A0 0,.sl [],.sl [[A0 1,A0 k,.sl [],.sl []],v.cells]]:=rfl;rw[Ry,cv]at w4;refine A8 Tryz.func22 ?_;intro X hP u7 hf u9 hn hR u6 u5;refine A4 ?_;refine A3 @ft w1 ?_;refine A4 ?_;refine A3 @fy w2 ?_;refine A4 ?_;refine A3 @ft w3 ?_;refine A4 ?_;refine A3 @fx w4 ?_;refine A4 ?_;exact BD (j2 @fv @cv)
theorem xN (Bl:ET gl 0=some H1)(t:Tm)(wk:Int)(ht:t.tys)(hc:t.count<=536870912) :
  ∃(v:Val) (n e:Int),cT gl 21 [t.dv,A0 wk] [] (.tup [v.dv,A0 n,A0 e]) []/\cT gl 22 [t.dv,A0 wk] [] (.tup [v.dv,A0 n,A0 e]) []:=by
 have w1:=IF (gl:=gl) Bl t [] sS ht oO;have w2:=H2 (gl:=gl) t [] sS ht oO;rw[List.map_nil]at w1 w2;by_cases he:(t.typeE []).2=0;rotate_left;· exact⟨_,_,_,zd7 t wk _ he _ w1,zd8 t wk _ he _ w2⟩
 obtain⟨a,F,hF,h1,h2,ho,Jz,hs⟩:=WJ he;rw[h1]at w1 w2;have d2:=ZD (gl:=gl) a ho;by_cases hp:a.plain;rotate_left
 ·rw[show decide (a.level=0)=false from decide_eq_false (fun h=>hp ((T.level_plain a).1 h))]at d2;exact⟨_,_,_,z5h t wk _ w1 (gI a hp ho),z5k t wk _ w2 d2⟩
 rw[show decide (a.level=0)=true from decide_eq_true ((T.level_plain a).2 hp)]at d2;have d1:=T9 (gl:=gl) a hp ho;obtain⟨x,e,x1,x2,x3,x4,x5⟩:=gT (gl:=gl) Bl [] t sS ht hc;rw[List.map_nil]at x1 x2;by_cases hx:e=0;rotate_left;· exact⟨_,_,_,z5i t x wk e hx _ w1 d1 x1,z5l t x wk e hx _ w2 d2 x2⟩
 subst hx;obtain⟨v,n,e2,y1,y2,y3⟩:=gU (gl:=gl) Bl x wk x3 oO;by_cases hy:e2=0;rotate_left;· exact⟨_,_,_,z5j t x wk e2 n v hy _ w1 d1 x1 y1,z5m t x wk e2 n v hy _ w2 d2 x2 y2⟩
 subst hy;obtain⟨b,Gx,cc,d,hG,hi,hbp,hbo,hv,-,-⟩:=y3 rfl;have Nx:(A5 ([]:List T) t).2=0/\x=(A5 ([]:List T) t).1:=(x5 rfl).resolve_right (fun h=>h rfl);obtain⟨G,-,-,hT⟩:=VT hF;have hX:=hT Nx.1;have e0:([]:List T).reverse=[]:=rfl;rw[e0,<- Nx.2]at hX;have hb:b=a.wt:=by
  rcases JU hX with q|q
  ·have q:x.inferN []=(a.wt.ty,0):=q;rw[hi]at q;exact T.ty_inj (congrArg Prod.fst q)
  ·have q:(x.inferN []).2=4:=q;rw[hi]at q;exact absurd (show (0:Int)=4 from q) dD
 subst hb;have hvv:v=Val.mk 3 0 [] [Val.mk 1 (Int.ofNat (Prod.fst (Gx ()))) [] [],C5 a.tk (Prod.snd (Gx ()))]:=hv;rw[hvv]at y1 y2;exact⟨_,_,_,zii t x wk n _ _ _ w1 d1 x1 y1,zij t x wk n _ _ _ w2 d2 x2 y2⟩
theorem zik (t:Tm)(wk e n:Int)(v:Val)(he:e≠0)(w:cT gl 57 [t.dv,A0 wk] [] (.tup [v.dv,A0 n,A0 e]) []):cT gl 23 [t.dv,A0 wk] [] (.tup [A0 0,A0 e]) []:=by
 have ft:=Tm.fold t;have fv:=Val.fold v;have cv:=Val.cells_eq v;refine A8 Tryz.func23 ?_;intro X hP u7 hf u9 hn hR u6 u5;refine A4 ?_;refine A3 @ft w ?_;refine A7 @he ?_;exact BD @he
theorem zo6 (t:Tm)(wk n:Int)(k:Nat)(v:Val)(r:DV)(w:cT gl 57 [t.dv,A0 wk] [] (.tup [v.dv,A0 n,A0 0]) [])(wv:∀b,cT gl 60 [BC b,AV,t.dv] [(b,[A0 0])] r [(b,[A0 (k:Int)])])(hr:r.isCell=true)(Fm:D6 r=[r]):cT gl 23 [t.dv,A0 wk] [] (.tup [A0 (k:Int),A0 0]) []:=by
 have ft:=Tm.fold t;have fv:=Val.fold v;have cv:=Val.cells_eq v;refine A8 Tryz.func23 ?_;intro X hP u7 hf u9 hn hR u6 u5;refine A4 ?_;refine A3 @ft w ?_;refine A4 ?_;refine EC 21 (by simp[go_sem];rfl) ?_;intro b hb;simp[go_sem]at hb ⊢;have wv:=wv b;refine A3 (j2 @ft @hr) wv ?_;refine A4 ?_;exact BR
theorem zil (t:Tm)(wk e n:Int)(v:Val)(he:e≠0)(w:cT gl 59 [t.dv,A0 wk] [] (.tup [v.dv,A0 n,A0 e]) []):cT gl 24 [t.dv,A0 wk] [] (.tup [A0 0,A0 e]) []:=by
 have ft:=Tm.fold t;have fv:=Val.fold v;have cv:=Val.cells_eq v;refine A8 Tryz.func24 ?_;intro X hP u7 hf u9 hn hR u6 u5;refine A4 ?_;refine A3 @ft w ?_;refine A7 @he ?_;exact BD @he
theorem zo7 (t:Tm)(wk n:Int)(k:Nat)(v:Val)(r:DV)(w:cT gl 59 [t.dv,A0 wk] [] (.tup [v.dv,A0 n,A0 0]) [])(wv:∀b,cT gl 61 [BC b,t.dv,.sl []] [(b,[A0 0])] r [(b,[A0 (k:Int)])])(hr:r.isCell=false)(Fm:D6 r=D6 r):cT gl 24 [t.dv,A0 wk] [] (.tup [A0 (k:Int),A0 0]) []:=by
 have ft:=Tm.fold t;have fv:=Val.fold v;have cv:=Val.cells_eq v;refine A8 Tryz.func24 ?_;intro X hP u7 hf u9 hn hR u6 u5;refine A4 ?_;refine A3 @ft w ?_;refine A4 ?_;refine EC 21 (by simp[go_sem];rfl) ?_;intro b hb;simp[go_sem]at hb ⊢;have wv:=wv b;refine A3 (j2 @ft @hr) wv ?_;refine A4 ?_;exact BR
theorem xO (Bl:ET gl 0=some H1)(t:Tm)(wk:Int)(ht:t.tys)(hc:t.count<=536870912) :
  ∃(n e:Int),cT gl 23 [t.dv,A0 wk] [] (.tup [A0 n,A0 e]) []/\cT gl 24 [t.dv,A0 wk] [] (.tup [A0 n,A0 e]) []:=by
 obtain⟨v,n,e,y1,y2,y3⟩:=gU (gl:=gl) Bl t wk ht hc;by_cases hy:e=0;rotate_left;· exact⟨_,_,zik t wk e n v hy y1,zil t wk e n v hy y2⟩
 subst hy;obtain⟨a,F,c,d,hF,hi,hp,ho,hv,Dp,hc6⟩:=y3 rfl;obtain⟨k,hk⟩:=znq Dp;have hkc:=jI d _ _ _ _ _ hk;have hs:=G4 hF;have wv:=fun b=>XG (gl:=gl) d 0 b 0 hk oO oO (by simp only[MV.nles]);have hvd:MV.varsD []=AV:=by rw[MV.varsD]
 simp only[hvd,Nat.zero_add]at wv;have hE:KV.ers []=[]:=by simp only[KV.ers]
 obtain⟨V,g1,g2⟩:=zja d t [] _ _ _ (by rw[hE];exact hk);have wr:=fun b=>gK (gl:=gl) d 0 b 0 g1 hs oO oO (by simp only[KV.les]) sS;simp only[Nat.zero_add,List.reverse_nil,List.map_nil]at wr;exact⟨_,_,zo6 t wk n k v _ y1 wv (zA _) (gD _),zo7 t wk n k v _ y2 wr (KV.isCell_dv V) rfl⟩
def tA:Tm:=nT 3 [AY .nat (vT 0),nT 4 []]
theorem zT:Dn [] tA .nat (fun _=>(0:Nat)):=.app (a:=.nat) (.lam F2 (.var .zero)) .zero
theorem ZH:(A5 [] tA).2=0:=dD
theorem zim:(A5 [] tA).1.kind=3:=dD
theorem pK:tA.inferN []=(T.ty .nat,0):=by rfl
theorem zd9:R7 8 tA []=some (.num 0,4,1):=by rfl
theorem zin:NY 40 (A5 [] tA).1 []=some (.both (.num 1) (.num 0),46):=kK
theorem zio:((A5 [] tA).1.typeE []).2=0:=kK
theorem zda:(tA.typeE []).2=0:=dD
theorem xP (Bl:ET gl 0=some H1):cT gl 4 [] [] (AK true) []:=by
 obtain⟨G,hK,hD,hT⟩:=VT zT;have hG:=hT ZH;have g1:Prod.fst (G ())=(1:Nat):=(zd6 hK zd9).symm;have g2:Prod.snd (G ())=(0:Nat):=(hD () () tT:(0:Nat)=_).symm;have hm:PR (T.wt .nat) (G ()) = .both (.num 1) (.num 0):=by
  show MV.both (.num (Prod.fst (G ()))) (.num (Prod.snd (G ())))=_;rw[g1,g2]
 have w2:=z5e (gl:=gl) Bl zT tT F2 dD dD pK ZH hG (c:=46) (d:=40) (by rw[zin,hm]) 500 dD;have Ih:(II (A5 [] tA).1 (C5 (T.wt .nat) (G ())) 46 (500:Nat)).2.2=0:=by
  unfold II;rw[if_pos zio,if_pos dD]
 rw[if_pos Ih,g1,g2]at w2;have e10:(C5 (T.tk .nat) (0:Nat)).dv = .agg [A0 1,A0 0,.sl [],.sl []]:=by rfl
 have e11:A0 (Int.ofNat (1:Nat))=A0 1:=by rfl
 rw[e10,e11]at w2;have w1:=dL (gl:=gl) Bl zT sS sS dD (by simpa using pK);have Gb:M9 [] tA=A5 [] tA:=by unfold M9;rw[if_pos ZH]
 simp only[List.reverse_nil,List.map_nil,Gb]at w1;rw[ZH]at w1;have w3:=zco (gl:=gl) Bl zT dD (0:Nat) tT F2 (c:=4) (k:=1) (d:=8) zd9 500 dD;have Tz:dM tA 4 1 (500:Nat)=(1,0):=by
  unfold dM;rw[if_pos zda,if_pos dD];rfl
 rw[Tz]at w3;have w4:=W3 (gl:=gl) CE CE;have w5:=oZ (gl:=gl) (.fn .nat .nat) (by unfold T.ok;decide);have e5:(DD (.fn .nat .nat)).dv = .agg [A0 4,.sl [[A0 1,.sl []],[A0 3,.sl [[A0 1,.sl []],[A0 1,.sl []]]]]]:=by rfl
 have e6:BS (.fn .nat .nat)=0:=dD;have e7:(T.ty (.fn .nat .nat)).dv = .agg [A0 4,.sl [[A0 1,.sl []],[A0 1,.sl []]]]:=by rfl
 have e8:(Ty.mk 4 [CE,CE]).dv = .agg [A0 4,.sl [[A0 1,.sl []],[A0 1,.sl []]]]:=by rfl
 rw[e5,e6,e7]at w5;have e9:tA.dv = .agg [A0 3,A0 0,A0 0,.sl [],.sl [[A0 2,A0 0,A0 1,.sl [],.sl [[A0 1,A0 0,A0 0,.sl [],.sl []]]],[A0 4,A0 0,A0 0,.sl [],.sl []]]]:=by rfl
 have hk:=zim;rw[e9]at w1 w2 w3;generalize (A5 [] tA).1=x at *;have An:=Tm.cells_eq x;have fx:=Tm.fold x;have hna:CE.dv = .agg [A0 1,.sl []]:=rfl;refine A8 Tryz.func4 ?_;intro X hP u7 hf u9 hn hR u6 u5;refine A4 ?_;refine A3 tT w1 ?_;refine A4 ?_;refine A3 tT w2 ?_;refine A4 ?_;refine A3 tT w3 ?_;refine A4 ?_;refine EW (j2 @hna @e8) w4 w5 ?_;refine A7 (j2 @hk @An) ?_;exact BD @hk
def QS (l:List Int)(p:Nat):(Tm × Ty) × Nat:=(((DC l 3 (EN l p).1 [] (EN l p).2).1,(EN l p).1),(DC l 3 (EN l p).1 [] (EN l p).2).2)
theorem zdb (b:Nat)(l:List Int)(p:Nat)(hl:l.length<=500)(hp:p<=l.length) :
  cT gl 16 [BC b] [(b,DF l p)] (.tup [(QS l p).1.1.dv,(QS l p).1.2.dv]) [(b,DF l (QS l p).2)]:=by
 have w1:=z9e (gl:=gl) b l p hl hp;obtain⟨a,ha,-,Bb⟩:=nM l p;have h1:(EN l p).1.small:=by rw[ha];exact nN oO
 have h2:(EN l p).2<=l.length:=CO (n:=6) hp;have w2:=bN (gl:=gl) b l hl 3 dD (EN l p).1 [] (EN l p).2 h1 sS sS h2;unfold QS;generalize EN l p=d at *;obtain⟨ty,q⟩:=d;simp only at h1 h2 w1 w2 ⊢;generalize DC l 3 ty [] q=d at *;obtain⟨t,q2⟩:=d;simp only[List.map_nil]at w1 w2 ⊢;refine A8 Tryz.func16 ?_;intro X hP u7 hf u9 hn hR u6 u5;have Av:=Ty.fold ty;have Cy:=Tm.fold t;refine A4 ?_;refine A3 @Av w1 ?_;refine A4 ?_;refine A3 @Av w2 ?_;refine A7 (j2 @Cy @Av) ?_;exact AI [(b,DF l q2)] (j2 @Cy @Av)
structure PData (x:Tm)(a:T):Prop where
 plain:a.plain
 size:a.size<=3
 dn:∃F:C3 []->a.V,Dn [] x a F
 infer:x.inferN []=(a.ty,0)
 count:x.count<=1267
theorem pL (l:List Int){p:Nat}(hp:p<=l.length):∃a:T,(QS l p).1.2=a.ty/\PData (QS l p).1.1 a/\(QS l p).2<=l.length:=by
 obtain⟨a,ha,Fe,Bb⟩:=nM l p;have h2:(EN l p).2<=l.length:=CO (n:=6) hp;have Oc:a.ty.small:=nN oO;unfold QS;rw[ha];obtain⟨F,hF⟩:=zas l 3 Oc (g:=[]) sS h2 (G:=[]) rfl rfl;have hi:=HV wQ 3 a.ty [] _ Oc sS h2;have hc:=WE l 3 a.ty [] _ Oc sS h2;exact⟨a,rfl,⟨Fe,Bb,⟨F,hF⟩,hi.2,hc⟩,hi.1⟩
end
end Go.Proofs.YtoniciijokeidaaGreatDoor.Lift
