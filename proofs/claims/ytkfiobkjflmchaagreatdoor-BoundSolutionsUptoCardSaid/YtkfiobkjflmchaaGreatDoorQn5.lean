import Derived.Test.YtkfiobkjflmchaaGreatDoorQn4
import Derived.Test.YtkfiobkjflmchaaGreatDoorProg
set_option maxHeartbeats 8000000
set_option maxRecDepth 100000
set_option linter.unusedSimpArgs false
set_option linter.unusedVariables false
set_option linter.unnecessarySimpa false
namespace Go.Proofs.YtkfiobkjflmchaaGreatDoor.Lift
open Go
section
theorem BK:Tryz.prog.follows .mixedOrders=true:=kK
theorem znx:EE Tryz.prog 3=some (false,1):=kK
theorem zny:b6 Tryz.prog 3=some (.int .i64 (0)):=kK
theorem znz:RI Tryz.prog 3=true:=kK
theorem zo0:EE Tryz.prog 4=some (false,1):=kK
theorem zo1:EH Tryz.prog 4=some [.v (.prim (.bool false))]:=kK
theorem zla:EE Tryz.prog 22=some (false,1):=kK
theorem zlb:E0 Tryz.prog 22=some 1:=kK
theorem zlc:FI Tryz.prog 22=some (1,8):=kK
theorem zld:EE Tryz.prog 27=some (false,1):=kK
theorem zle:E0 Tryz.prog 27=some 2:=kK
theorem zlf:FI Tryz.prog 27=some (2,32):=kK
theorem zlg:EE Tryz.prog 29=some (true,2):=kK
theorem zlh:EH Tryz.prog 29=some [.v (.prim (.int .i64 (0))),.own 0 []]:=kK
theorem zli:DW Tryz.prog 29=some [(0,1),(1,1)]:=kK
theorem zdx:BD Tryz.prog 29 0=some (false,0,1):=kK
theorem zdy:BD Tryz.prog 29 1=some (false,1,1):=kK
theorem zlj:EE Tryz.prog 30=some (false,1):=kK
theorem zlk:E0 Tryz.prog 30=some 5:=kK
theorem zll:FI Tryz.prog 30=some (5,72):=kK
theorem zlm:EE Tryz.prog 31=some (false,1):=kK
theorem zln:E0 Tryz.prog 31=some 5:=kK
theorem zlo:FI Tryz.prog 31=some (5,88):=kK
theorem zlp:EE Tryz.prog 33=some (true,5):=kK
theorem zlq:EH Tryz.prog 33=some [.v (.prim (.int .i64 (0))),.v (.prim (.int .i64 (0))),.own 0 [],.own 0 [],.own 0 []]:=kK
theorem zlr:DW Tryz.prog 33=some [(0,1),(1,2),(3,1),(4,1)]:=kK
theorem zdz:BD Tryz.prog 33 0=some (false,0,1):=kK
theorem ze0:BD Tryz.prog 33 1=some (true,1,2):=kK
theorem ze1:BD Tryz.prog 33 2=some (false,3,1):=kK
theorem ze2:BD Tryz.prog 33 3=some (false,4,1):=kK
theorem zls:EE Tryz.prog 34=some (false,1):=kK
theorem zlt:E0 Tryz.prog 34=some 7:=kK
theorem zlu:FI Tryz.prog 34=some (7,120):=kK
theorem zlv:EE Tryz.prog 36=some (true,7):=kK
theorem zlw:EH Tryz.prog 36=some [.v (.prim (.int .i64 (0))),.v (.prim (.int .i64 (0))),.v (.prim (.int .i64 (0))),.own 0 [],.own 0 [],.own 0 [],.own 0 []]:=kK
theorem zlx:DW Tryz.prog 36=some [(0,1),(1,1),(2,2),(4,1),(5,1),(6,1)]:=kK
theorem ze3:BD Tryz.prog 36 0=some (false,0,1):=kK
theorem ze4:BD Tryz.prog 36 1=some (false,1,1):=kK
theorem ze5:BD Tryz.prog 36 2=some (true,2,2):=kK
theorem ze6:BD Tryz.prog 36 3=some (false,4,1):=kK
theorem ze7:BD Tryz.prog 36 4=some (false,5,1):=kK
theorem ze8:BD Tryz.prog 36 5=some (false,6,1):=kK
theorem zly:EE Tryz.prog 40=some (true,5):=kK
theorem zlz:EH Tryz.prog 40=some [.v (.prim (.int .i64 (0))),.v (.prim (.int .i64 (0))),.v (.prim (.int .i64 (0))),.own 0 [],.own 0 []]:=kK
theorem zm0:DW Tryz.prog 40=some [(0,1),(1,1),(2,2),(4,1)]:=kK
theorem ze9:BD Tryz.prog 40 0=some (false,0,1):=kK
theorem zea:BD Tryz.prog 40 1=some (false,1,1):=kK
theorem zeb:BD Tryz.prog 40 2=some (true,2,2):=kK
theorem zec:BD Tryz.prog 40 3=some (false,4,1):=kK
theorem zm1:EE Tryz.prog 41=some (false,1):=kK
theorem zm2:EH Tryz.prog 41=some [.v (.prim (.int .i64 (0)))]:=kK
theorem zm3:EE Tryz.prog 45=some (true,2):=kK
theorem zm4:EH Tryz.prog 45=some [.own 0 [],.own 0 []]:=kK
theorem zm5:DW Tryz.prog 45=some [(0,1),(1,1)]:=kK
theorem zed:BD Tryz.prog 45 0=some (false,0,1):=kK
theorem zee:BD Tryz.prog 45 1=some (false,1,1):=kK
theorem zm6:EE Tryz.prog 49=some (false,1):=kK
theorem zm7:E0 Tryz.prog 49=some 4:=kK
theorem zm8:FI Tryz.prog 49=some (4,64):=kK
theorem zm9:EE Tryz.prog 51=some (true,4):=kK
theorem zma:EH Tryz.prog 51=some [.v (.prim (.int .i64 (0))),.v (.prim (.int .i64 (0))),.own 0 [],.own 0 []]:=kK
theorem zmb:DW Tryz.prog 51=some [(0,1),(1,1),(2,1),(3,1)]:=kK
theorem zef:BD Tryz.prog 51 0=some (false,0,1):=kK
theorem zeg:BD Tryz.prog 51 1=some (false,1,1):=kK
theorem zeh:BD Tryz.prog 51 2=some (false,2,1):=kK
theorem zei:BD Tryz.prog 51 3=some (false,3,1):=kK
theorem zmc:EH Tryz.prog 59=some [.own 0 [],.v (.prim (.int .i64 (0)))]:=kK
theorem zmd:DW Tryz.prog 59=some [(0,1),(1,1)]:=kK
theorem zej:BD Tryz.prog 59 0=some (false,0,1):=kK
theorem zek:BD Tryz.prog 59 1=some (false,1,1):=kK
theorem zme:EE Tryz.prog 69=some (true,6):=kK
theorem zmf:EH Tryz.prog 69=some [.v (.prim (.int .i64 (0))),.v (.prim (.int .i64 (0))),.own 0 [],.own 0 [],.own 0 [],.own 0 []]:=kK
theorem zmg:DW Tryz.prog 69=some [(0,5),(5,1)]:=kK
theorem zel:BD Tryz.prog 69 0=some (true,0,5):=kK
theorem zem:BD Tryz.prog 69 1=some (false,5,1):=kK
theorem zmh:EH Tryz.prog 79=some [.own 0 [],.own 0 [],.v (.prim (.int .i64 (0)))]:=kK
theorem zmi:DW Tryz.prog 79=some [(0,1),(1,1),(2,1)]:=kK
theorem zen:BD Tryz.prog 79 0=some (false,0,1):=kK
theorem zeo:BD Tryz.prog 79 2=some (false,2,1):=kK
theorem zmj:EE Tryz.prog 81=some (true,4):=kK
theorem zmk:EH Tryz.prog 81=some [.own 0 [],.own 0 [],.own 0 [],.own 0 []]:=kK
theorem zml:DW Tryz.prog 81=some [(0,2),(2,1),(3,1)]:=kK
theorem zep:BD Tryz.prog 81 0=some (true,0,2):=kK
theorem zeq:BD Tryz.prog 81 1=some (false,2,1):=kK
theorem zer:BD Tryz.prog 81 2=some (false,3,1):=kK
theorem zhz:EE Tryz.prog 120=some (true,3):=kK
theorem zi0:EH Tryz.prog 120=some [.own 0 [],.own 0 [],.own 0 []]:=kK
theorem zi1:DW Tryz.prog 120=some [(0,1),(1,1),(2,1)]:=kK
theorem z8o:BD Tryz.prog 120 0=some (false,0,1):=kK
theorem z8p:BD Tryz.prog 120 1=some (false,1,1):=kK
theorem z8q:BD Tryz.prog 120 2=some (false,2,1):=kK
theorem zi2:E0 Tryz.prog 128=some 1:=kK
theorem zi3:FI Tryz.prog 128=some (1,16):=kK
theorem zi4:EE Tryz.prog 130=some (false,1):=kK
theorem zi5:EH Tryz.prog 130=some [.v (.prim .nilIface)]:=kK
theorem zi6:EE Tryz.prog 133=some (false,1):=kK
theorem zi7:EH Tryz.prog 135=some [.v (.prim (.int .i64 (0))),.v (.prim (.int .i64 (0)))]:=kK
theorem zi8:DW Tryz.prog 135=some [(0,1),(1,1)]:=kK
theorem z8r:BD Tryz.prog 135 0=some (false,0,1):=kK
theorem z8s:BD Tryz.prog 135 1=some (false,1,1):=kK
theorem zi9:EE Tryz.prog 145=some (true,3):=kK
theorem zia:EH Tryz.prog 145=some [.v (.prim (.int .i64 (0))),.own 0 [],.v (.prim (.int .i64 (0)))]:=kK
theorem zib:DW Tryz.prog 145=some [(0,2),(2,1)]:=kK
theorem z8t:BD Tryz.prog 145 0=some (true,0,2):=kK
theorem z8u:BD Tryz.prog 145 1=some (false,2,1):=kK
theorem zic:E0 Tryz.prog 148=some 3:=kK
theorem zid:FI Tryz.prog 148=some (3,40):=kK
theorem zie:EE Tryz.prog 178=some (false,1):=kK
theorem zif:EH Tryz.prog 178=some [.v (.prim (.pointer none))]:=kK
theorem zig:jE Tryz.prog 178=true:=kK
theorem zih:b6 Tryz.prog 178=some (.pointer none):=kK
theorem zii:RI Tryz.prog 178=true:=kK
theorem zij:EH Tryz.prog 183=some [.v (.prim (.int .i64 (0))),.v (.prim (.pointer none))]:=kK
theorem zik:DW Tryz.prog 183=some [(0,1),(1,1)]:=kK
theorem z8v:BD Tryz.prog 183 0=some (false,0,1):=kK
theorem z8w:BD Tryz.prog 183 1=some (false,1,1):=kK
theorem zil:b6 Tryz.prog 184=some (.pointer none):=kK
theorem zim:RI Tryz.prog 184=true:=kK
theorem zin:EH Tryz.prog 186=some [.v (.prim .nilIface),.v (.prim .nilIface)]:=kK
theorem zio:DW Tryz.prog 186=some [(0,1),(1,1)]:=kK
theorem z8x:BD Tryz.prog 186 0=some (false,0,1):=kK
theorem z8y:BD Tryz.prog 186 1=some (false,1,1):=kK
theorem ziq:EH Tryz.prog 188=some []:=kK
theorem zir:DW Tryz.prog 188=some []:=kK
theorem zis:RI Tryz.prog 188=true:=kK
theorem zit:EE Tryz.prog 193=some (false,1):=kK
theorem ziu:b6 Tryz.prog 195=some (.pointer none):=kK
theorem ziv:RI Tryz.prog 195=true:=kK
theorem ziw:EH Tryz.prog 197=some [.v (.prim (.int .i64 (0))),.v (.prim (.int .i64 (0))),.v (.prim (.int .i64 (0))),.own 0 [],.own 0 [],.v (.prim (.pointer none))]:=kK
theorem zix:DW Tryz.prog 197=some [(0,5),(5,1)]:=kK
theorem z8z:BD Tryz.prog 197 0=some (true,0,5):=kK
theorem z90:BD Tryz.prog 197 1=some (false,5,1):=kK
theorem ziy:EE Tryz.prog 198=some (true,3):=kK
theorem ziz:EH Tryz.prog 198=some [.v (.prim .nilIface),.v (.prim .nilIface),.v (.prim .nilIface)]:=kK
theorem zj0:E0 Tryz.prog 198=none:=kK
theorem zj1:rY Tryz.prog 198=some (3,1):=kK
theorem zj2:EH Tryz.prog 203=some [.v (.prim .nilIface),.v (.prim (.pointer none))]:=kK
theorem zj3:DW Tryz.prog 203=some [(0,1),(1,1)]:=kK
theorem z91:BD Tryz.prog 203 0=some (false,0,1):=kK
theorem z92:BD Tryz.prog 203 1=some (false,1,1):=kK
theorem zj4:EE Tryz.prog 210=some (true,9):=kK
theorem zj5:EH Tryz.prog 210=some [.v (.prim (.int .i64 (0))),.own 0 [],.v (.prim (.int .i64 (0))),.v (.prim (.int .i64 (0))),.own 0 [],.v (.prim (.int .i64 (0))),.v (.prim (.int .i64 (0))),.own 0 [],.v (.prim (.int .i64 (0)))]:=kK
theorem zj6:E0 Tryz.prog 210=none:=kK
theorem zj7:rY Tryz.prog 210=some (3,3):=kK
theorem zj8:EH Tryz.prog 213=some [.v (.prim (.int .i64 (0)))]:=kK
theorem zj9:DW Tryz.prog 213=some [(0,1)]:=kK
theorem z93:BD Tryz.prog 213 0=some (false,0,1):=kK
theorem zja:EE Tryz.prog 217=some (true,5):=kK
theorem zjb:EH Tryz.prog 217=some [.v (.prim (.int .i64 (0))),.v (.prim (.int .i64 (0))),.v (.prim (.int .i64 (0))),.v (.prim (.bool false)),.v (.prim (.bool false))]:=kK
theorem zjc:DW Tryz.prog 217=some [(0,1),(1,1),(2,1),(3,1),(4,1)]:=kK
theorem z94:BD Tryz.prog 217 0=some (false,0,1):=kK
theorem z95:BD Tryz.prog 217 1=some (false,1,1):=kK
theorem z96:BD Tryz.prog 217 2=some (false,2,1):=kK
theorem z97:BD Tryz.prog 217 3=some (false,3,1):=kK
theorem z98:BD Tryz.prog 217 4=some (false,4,1):=kK
theorem zjd:EE Tryz.prog 235=some (false,1):=kK
theorem zje:E0 Tryz.prog 235=some 1:=kK
theorem zjf:FI Tryz.prog 235=some (1,8):=kK
theorem zjg:E0 Tryz.prog 272=none:=kK
theorem zjh:rY Tryz.prog 272=some (14,1):=kK
attribute [go_sem] znx zny znz zo0 zo1 zla zlb zlc zld zle zlf zlg zlh zli zdx zdy zlj zlk zll zlm zln zlo zlp zlq zlr zdz ze0 ze1 ze2 zls zlt zlu zlv zlw zlx ze3 ze4 ze5 ze6 ze7 ze8 zly zlz zm0 ze9 zea zeb zec zm1 zm2 zm3 zm4 zm5 zed zee zm6 zm7 zm8 zm9 zma zmb zef zeg zeh zei zmc zmd zej zek zme zmf zmg zel zem zmh zmi zen zeo zmj zmk zml zep zeq zer zhz zi0 zi1 z8o z8p z8q zi2 zi3 zi4 zi5 zi6 zi7 zi8 z8r z8s zi9 zia zib z8t z8u zic zid zie zif zig zih zii zij zik z8v z8w zil zim zin zio z8x z8y ziq zir zis zit ziu ziv ziw zix z8z z90 ziy ziz zj0 zj1 zj2 zj3 z91 z92 zj4 zj5 zj6 zj7 zj8 zj9 z93 zja zjb zjc z94 z95 z96 z97 z98 zjd zje zjf zjg zjh
end
section
variable {gl:AB}
abbrev cT (gl:AB):=RC Tryz.prog gl
theorem DF (t:Ty):cT gl 131 [t.dv] [] t.dv []:=by
 induction t using Ty.ind with
 | h t ih=>
 refine A6 Tryz.func131 ?_;intro X hP u6 hf u8 hn hR u5 u4;have htf:t.fit:=(Ty.dv_fit t).1 (u4 _ sS);have hlen:t.args.length<=2147483648:=((Ty.fit_eq t).1 htf).2.1;refine A5 ?_;refine A5 ?_;refine A5 ?_;refine BR ?_
 refine CR [(1003,0)] ?_ ?_ ?_ (CD t.args (fun done rest=>[(.slot 2,.one (.loc 2 0)),(.loc 2,.row [.v (A0 0),.own 0 []]),(.slot 1,.one (.loc 1 0)),(.loc 1,.row [.v (A0 t.kind),.v (.sl (t.args.map Ty.cells))]),
   (.slot 3,.one (.own 1003 (done.map Ty.cells))),(.tok 1003,.tk 2 done.length),(.slot 7,.one (.v (.sl (t.args.map Ty.cells)))),(.slot 8,.one (.v (A0 t.args.length))),(.slot 9,.one (.v (A0 done.length)))]) ?_ ?_)
 ·simp[go_sem]
 ·simp[go_sem]
 ·simp[go_sem]
 ·intro done x rest hL hg u7;have Ac:done.length<t.args.length:=by rw[hL];simp
  refine A5 ?_;refine AQ ?_;refine BZ @hg ?_;refine BR ?_;first|refine B4 [] fun K hK=>?_|refine AU (by rw[hP];exact BK) [] fun K hK=>?_
  refine K0 ?_;refine F8 tT (ih x (uE hg)) ?_;refine I7 ?_;clear hK K;refine A5 ?_;refine GX ?_;refine AA [(1003,17)] tT u7
 ·refine A5 ?_;refine B9 ?_;refine A5 ?_;exact AM
theorem AV (a b:Ty):cT gl 87 [a.dv,b.dv] [] (AR (a.same b)) []:=by
 induction a using Ty.ind generalizing b with
 | h a ih=>
 refine A6 Tryz.func87 ?_;intro X hP u6 hf u8 hn hR u5 u4;have Da:a.fit:=(Ty.dv_fit a).1 (u4 _ sS);have Gt:b.fit:=(Ty.dv_fit b).1 (u4 _ sS);have hla:a.args.length<=2147483648:=((Ty.fit_eq a).1 Da).2.1;have Bw:b.args.length<=2147483648:=((Ty.fit_eq b).1 Gt).2.1;refine A5 ?_;by_cases hk:a.kind=b.kind
 ·refine BZ @hk ?_;by_cases hl:a.args.length=b.args.length
  ·refine BR ?_;refine BN rfl ?_ ?_;· intro h;simp[hl]at h
   intro _;refine A5 ?_;refine BR ?_
   refine CR [] ?_ ?_ ?_ (NG a.args.length (fun i=>∀(j:Nat) (x y:Ty),j<i->a.args[j]? = some x->b.args[j]? = some y->x.same y=true)
    (fun i=>[(.slot 2,.one (.loc 2 0)),(.loc 2,.row [.v (A0 a.kind),.v (.sl (a.args.map Ty.cells))]),(.slot 3,.one (.loc 3 0)),(.loc 3,.row [.v (A0 b.kind),.v (.sl (b.args.map Ty.cells))]),(.slot 22,.one (.v (A0 a.args.length))),(.slot 23,.one (.v (A0 i)))]) (by intro j x y h;omega) ?_ ?_)
   ·simp[go_sem]
   ·simp[go_sem,hk,hl]
   ·simp[go_sem]
   ·intro i hi hI u7;obtain⟨x,hx⟩:∃x,a.args[i]? = some x:=⟨_,uB hi⟩;obtain⟨y,hy⟩:∃y,b.args[i]? = some y:=⟨_,uB oO⟩;refine A5 ?_;refine AQ ?_;refine A5 ?_;refine BR ?_;first|refine B4 [] fun K hK=>?_|refine AU (by rw[hP];exact BK) [] fun K hK=>?_
    refine rW (j2 @hx @hy) ?_;refine F8 tT (ih x (uE hx) y) ?_;refine I7 ?_;clear hK K;by_cases hs:x.same y=true
    ·refine BR ?_;refine BN rfl ?_ ?_;· intro h;simp[hs]at h
     intro _;refine A5 ?_;refine GX ?_;refine AA [] tT (u7 ?_);intro j x' y' hj Cp Fb;by_cases Vh:j=i;· subst Vh;rw[hx]at Cp;rw[hy]at Fb;cases Cp;cases Fb;exact hs
     ·exact hI j x' y' oO Cp Fb
    ·refine BR ?_;refine BN rfl ?_ ?_;rotate_left;· intro h;simp[hs]at h
     intro _;refine A5 ?_;refine EO ?_;simp[go_sem,hP,u6,hn] <;> (try omega);refine Bool.eq_false_iff.2 ?_;intro h;rw[Ty.same_eq,uH,Ty.sames_iff]at h;exact hs (h.2.2 i x y hx hy)
   ·intro hI;refine A5 ?_;refine B9 ?_;refine A5 ?_;refine EO ?_;simp[go_sem,hP,u6,hn] <;> (try omega);rw[Ty.same_eq,uH,Ty.sames_iff];exact⟨by simp[hk],hl,fun i x y hx hy=>hI i x y (uA hx).1 hx hy⟩
  ·refine BR ?_;refine BN rfl ?_ ?_;rotate_left;· intro h;simp at h;omega
   intro _;refine A5 ?_;refine EO ?_;simp[go_sem,hP,u6,hn] <;> (try omega);refine Bool.eq_false_iff.2 ?_;intro h;rw[Ty.same_eq,uH,Ty.sames_iff]at h;exact hl h.2.1
 ·refine BZ @hk ?_;refine BR ?_;refine BN rfl ?_ ?_;rotate_left;· intro h;simp at h
  intro _;refine A5 ?_;refine EO ?_;simp[go_sem,hP,u6,hn] <;> (try omega);simp[Ty.same_eq,hk]
theorem BE:cT gl 108 [] [] (Ty.mk 1 []).dv []:=by
 refine A6 Tryz.func108 ?_;intro X hP u6 hf u8 hn hR u5 u4;refine A5 ?_;refine A5 ?_;exact BI
theorem FF:cT gl 121 [] [] (Ty.mk 2 []).dv []:=by
 refine A6 Tryz.func121 ?_;intro X hP u6 hf u8 hn hR u5 u4;refine A5 ?_;refine A5 ?_;exact BI
theorem OX:cT gl 169 [] [] (Ty.mk 5 []).dv []:=by
 refine A6 Tryz.func169 ?_;intro X hP u6 hf u8 hn hR u5 u4;refine A5 ?_;refine A5 ?_;exact BI
theorem WC (a b:Ty):cT gl 170 [a.dv,b.dv] [] (Ty.mk 3 [a,b]).dv []:=by
 refine A6 Tryz.func170 ?_;intro X hP u6 hf u8 hn hR u5 u4;refine A5 ?_;refine BR ?_;first|refine B4 [] fun K hK=>?_|refine AU (by rw[hP];exact BK) [] fun K hK=>?_
 refine K0 ?_;refine F8 tT (DF a) ?_;refine F8 tT (DF b) ?_;refine I7 ?_;clear hK K;exact BI
theorem Tm.fit_len {t:Tm}(h:t.dv.fit):t.args.length<=2147483648:=((Tm.fit_eq t).1 ((Tm.dv_fit t).1 h)).2.2.2.1
theorem IM {l:List (List DV)}(h:DV.fit (.sl l)):l.length<=2147483648:=by simp[DV.fit,I6]at h;exact h.1
theorem IV (t:Tm):cT gl 109 [t.dv] [] t.dv []:=by
 induction t using Tm.ind with
 | h t ih=>
 refine A6 Tryz.func109 ?_;intro X hP u6 hf u8 hn hR u5 u4;have hlen:=Tm.fit_len (u4 t.dv sS);refine A5 ?_;refine A5 ?_;refine A5 ?_;refine BR ?_;refine AA [(1003,0)] tT (CD (t.args) (fun done rest=>[sV 9 (A0 done.length),sV 8 (A0 t.args.length),sV 7 (.sl (t.args.map Tm.cells)),(.slot 3,.one (.own 1003 (done.map Tm.cells))),(.tok 1003,.tk 5 done.length),sL 2 [.v (A0 0),.v (A0 0),.v (A0 0),.own 0 [],.own 0 []],sP 2,sL 1 [.v (A0 t.kind),.v (A0 t.index),.v (A0 t.type.kind),.v (.sl (t.type.args.map Ty.cells)),.v (.sl (t.args.map Tm.cells))],sP 1]) ?_ ?_)
 ·intro done x rest hL hg u7;have Ac:done.length<t.args.length:=by rw[hL];simp
  refine A5 ?_;refine AQ ?_;refine BZ @hg ?_;refine BR ?_;first|refine B4 [] fun K hK=>?_|refine AU (by rw[hP];exact BK) [] fun K hK=>?_
  refine K0 ?_;refine F8 tT (ih x (uE hg)) ?_;refine I7 ?_;clear hK K;refine A5 ?_;refine GX ?_;refine AA [(1003,17)] tT u7
 ·refine A5 ?_;refine B9 ?_;refine BR ?_;first|refine B4 [] fun K hK=>?_|refine AU (by rw[hP];exact BK) [] fun K hK=>?_
  refine K0 ?_;refine F8 tT (DF t.type) ?_;refine I7 ?_;clear hK K;exact AM
def Tm.count:Tm->Nat
 | .mk _ _ _ l=>1+counts l
where
 counts:List Tm->Nat
  | []=>0
  | a::r=>a.count+counts r
theorem Tm.count_eq (t:Tm):t.count=1+Tm.count.counts t.args:=by cases t;rfl
theorem Tm.counts_append (l m:List Tm):Tm.count.counts (l++m)=Tm.count.counts l+Tm.count.counts m:=by
 induction l with
 | nil=>simp[Tm.count.counts]
 | cons a r ih=>simp[Tm.count.counts,ih];omega
theorem BF (t:Tm)(hc:t.count<=2147483648):cT gl 220 [t.dv] [] (A0 t.count) []:=by
 induction t using Tm.ind with
 | h t ih=>
 refine A6 Tryz.func220 ?_;intro X hP u6 hf u8 hn hR u5 u4;have hlen:=Tm.fit_len (u4 t.dv sS);rw[Tm.count_eq]at hc;refine A5 ?_;refine A5 ?_;refine A5 ?_;refine BR ?_;refine CR [] (by simp[go_sem]) (by simp[go_sem,Tm.count.counts] <;> omega) (by simp[go_sem]) (CD (t.args) (fun done rest=>[sV 9 (A0 done.length),sV 8 (A0 t.args.length),sV 7 (.sl (t.args.map Tm.cells)),sV 3 (A0 (1+Tm.count.counts done:Nat))]) ?_ ?_)
 ·intro done x rest hL hg u7;have Ac:done.length<t.args.length:=by rw[hL];simp
  have Br:Tm.count.counts t.args=Tm.count.counts done+(x.count+Tm.count.counts rest):=by rw[hL,Tm.counts_append];rfl
  refine A5 ?_;refine AQ ?_;refine BZ @hg ?_;refine BR ?_;first|refine B4 [] fun K hK=>?_|refine AU (by rw[hP];exact BK) [] fun K hK=>?_
  refine K0 ?_;refine F8 tT (ih x (uE hg) oO) ?_;refine I7 ?_;clear hK K;refine A5 ?_;repeat (first|refine AN ?_|refine BX ?_|refine B7 ?_|refine CC rfl ?_)
  refine CR [] (by simp[go_sem]) (by simp[go_sem,Tm.counts_append,Tm.count.counts] <;> omega) (by simp[go_sem]) u7
 ·refine A5 ?_;refine B9 ?_;refine A5 ?_;exact AC @Tm.count_eq
theorem BG (k:Int)(l:List Tm):cT gl 42 [A0 k,.sl (l.map Tm.cells)] [] (Tm.mk k 0 (Ty.mk 0 []) l).dv []:=by
 refine A6 Tryz.func42 ?_;intro X hP u6 hf u8 hn hR u5 u4;have hlen:l.length<=2147483648:=by simpa using IM (u4 (.sl (l.map Tm.cells)) sS)
 refine A5 ?_;refine A5 ?_;refine A5 ?_;refine BR ?_;refine AA [(1005,0)] tT (CD (l) (fun done rest=>[sV 10 (A0 done.length),sV 9 (A0 l.length),sV 8 (.sl (l.map Tm.cells)),(.slot 5,.one (.own 1005 (done.map Tm.cells))),(.tok 1005,.tk 5 done.length),sL 4 [.v (A0 0),.v (A0 0),.v (A0 0),.own 0 [],.own 0 []],sP 4,sV 0 (A0 k)]) ?_ ?_)
 ·intro done x rest hL hg u7;have Ac:done.length<l.length:=by rw[hL];simp
  refine A5 ?_;refine AQ ?_;refine BZ @hg ?_;refine BR ?_;first|refine B4 [] fun K hK=>?_|refine AU (by rw[hP];exact BK) [] fun K hK=>?_
  refine K0 ?_;refine F8 tT (IV x) ?_;refine I7 ?_;clear hK K;refine A5 ?_;refine GX ?_;refine AA [(1005,18)] tT u7
 ·refine A5 ?_;refine B9 ?_;refine A5 ?_;exact BI
theorem UG (a b:Tm):cT gl 252 [a.dv,b.dv] [] (AR (a.same b)) []:=by
 induction a using Tm.ind generalizing b with
 | h a ih=>
 refine A6 Tryz.func252 ?_;intro X hP u6 hf u8 hn hR u5 u4;have hla:=Tm.fit_len (u4 a.dv sS);have Bw:=Tm.fit_len (u4 b.dv sS);refine A5 ?_;by_cases hk:a.kind=b.kind
 ·by_cases hi:a.index=b.index
  ·refine BR ?_;first|refine B4 [] fun K hK=>?_|refine AU (by rw[hP];exact BK) [] fun K hK=>?_
   refine rW (j2 @hk @hi) ?_;refine F8 tT (AV a.type b.type) ?_;by_cases ht:a.type.same b.type=true
   ·simp[go_sem,hP,hn,ht];refine I7 ?_;clear hK K;by_cases hl:a.args.length=b.args.length
    ·refine BR ?_;refine BN rfl ?_ ?_;· intro h;simp[hl]at h
     intro _;refine A5 ?_;refine BR ?_;refine AA [] (j3 @hk @hi @hl) (NG (a.args.length) (fun i=>∀(j:Nat) (x y:Tm),j<i->a.args[j]? = some x->b.args[j]? = some y->x.same y=true) (fun i=>[sV 38 (A0 i),sV 37 (A0 a.args.length),sP 3,sL 3 [.v (A0 b.kind),.v (A0 b.index),.v (A0 b.type.kind),.v (.sl (b.type.args.map Ty.cells)),.v (.sl (b.args.map Tm.cells))],sP 2,sL 2 [.v (A0 a.kind),.v (A0 a.index),.v (A0 a.type.kind),.v (.sl (a.type.args.map Ty.cells)),.v (.sl (a.args.map Tm.cells))]]) (by intro j x y h;omega) ?_ ?_)
     ·intro i Ac hI u7;obtain⟨x,hx⟩:∃x,a.args[i]? = some x:=⟨_,uB Ac⟩;obtain⟨y,hy⟩:∃y,b.args[i]? = some y:=⟨_,uB oO⟩;refine A5 ?_;refine AQ ?_;refine A5 ?_;refine BR ?_;first|refine B4 [] fun K hK=>?_|refine AU (by rw[hP];exact BK) [] fun K hK=>?_
      refine rW (j2 @hx @hy) ?_;refine F8 tT (ih x (uE hx) y) ?_;refine I7 ?_;clear hK K;by_cases hs:x.same y=true
      ·refine BR ?_;refine BN rfl ?_ ?_;· intro h;simp[hs]at h
       intro _;refine A5 ?_;refine GX ?_;refine AA [] tT (u7 ?_);intro j x' y' hj Cp Fb;by_cases Vh:j=i;· subst Vh;rw[hx]at Cp;rw[hy]at Fb;cases Cp;cases Fb;exact hs
       ·exact hI j x' y' oO Cp Fb
      ·refine BR ?_;refine BN rfl ?_ ?_;rotate_left;· intro h;simp[hs]at h
       intro _;refine A5 ?_;refine EO ?_;simp[go_sem,hP,u6,hn] <;> (try omega);refine Bool.eq_false_iff.2 ?_;intro h;rw[Tm.same_eq]at h;simp only[uH,Tm.sames_iff]at h;exact hs (h.2.2 i x y hx hy)
     ·intro hI;refine A5 ?_;refine B9 ?_;refine A5 ?_;refine EO ?_;simp[go_sem,hP,u6,hn] <;> (try omega);rw[Tm.same_eq];simp only[uH,Tm.sames_iff];exact⟨⟨⟨by simp[hk],by simp[hi]⟩,ht⟩,hl,fun i x y hx hy=>hI i x y (uA hx).1 hx hy⟩
    ·refine BR ?_;refine BN rfl ?_ ?_;rotate_left;· intro h;simp at h;omega
     intro _;refine A5 ?_;refine EO ?_;simp[go_sem,hP,u6,hn] <;> (try omega);refine Bool.eq_false_iff.2 ?_;intro h;rw[Tm.same_eq]at h;simp only[uH,Tm.sames_iff]at h;exact hl h.2.1
   ·simp[go_sem,hP,hn,ht];refine I7 ?_;clear hK K;refine BR ?_;refine BN rfl ?_ ?_;rotate_left;· intro h;simp at h
    intro _;refine A5 ?_;refine EO ?_;simp[go_sem,hP,u6,hn] <;> (try omega);simp[Tm.same_eq,ht]
  ·refine BZ (j2 @hk @hi) ?_;refine BR ?_;refine BN rfl ?_ ?_;rotate_left;· intro h;simp at h
   intro _;refine A5 ?_;refine EO ?_;simp[go_sem,hP,u6,hn] <;> (try omega);simp[Tm.same_eq,hi]
 ·refine BZ @hk ?_;refine BR ?_;refine BN rfl ?_ ?_;rotate_left;· intro h;simp at h
  intro _;refine A5 ?_;refine EO ?_;simp[go_sem,hP,u6,hn] <;> (try omega);simp[Tm.same_eq,hk]
end
section
def HC (k:Int)(n:Nat):Bool:=(decide (k=1\/k=2\/k=5)&&n==0)||(decide (k=3\/k=4)&&n==2)
namespace Ty
def shape:Ty->Bool
 | .mk k a=>HC k a.length&&shapes a
where
 shapes:List Ty->Bool
  | []=>true
  | a::r=>a.shape&&shapes r
theorem shape_eq (t:Ty):t.shape=(HC t.kind t.args.length&&shape.shapes t.args):=by cases t;rfl
theorem shapes_append (l m:List Ty):shape.shapes (l++m)=(shape.shapes l&&shape.shapes m):=by
 induction l with
 | nil=>simp[shape.shapes]
 | cons a r ih=>simp[shape.shapes,ih,Bool.and_assoc]
theorem shapes_iff (l:List Ty):shape.shapes l=true↔∀a∈l,a.shape=true:=by
 induction l with
 | nil=>simp[shape.shapes]
 | cons a r ih=>simp[shape.shapes,ih]
def count:Ty->Nat
 | .mk _ a=>1+counts a
where
 counts:List Ty->Nat
  | []=>0
  | a::r=>a.count+counts r
theorem count_eq (t:Ty):t.count=1+count.counts t.args:=by cases t;rfl
theorem counts_append (l m:List Ty):count.counts (l++m)=count.counts l+count.counts m:=by
 induction l with
 | nil=>simp[count.counts]
 | cons a r ih=>simp[count.counts,ih];omega
theorem count_mem {l:List Ty}{a:Ty}(h:a∈l):a.count<=count.counts l:=by
 induction l with
 | nil=>cases h
 | cons b r ih=>
  simp only[count.counts];rcases List.mem_cons.1 h with rfl|h;· omega
  ·have:=ih h;omega
def checkN (t:Ty):Int:=if t.shape=true then if 64<t.count then 4 else 0 else 2
def zero (t:Ty):Bool:=decide (t.kind=0)&&decide (t.args.length=0)
end Ty
def AO (k:Int):Int:=
 if k=1\/k=4\/k=7\/k=13 then 0 else if k=2\/k=5\/k=11\/k=12 then 1 else if k=3\/k=8\/k=10 then 2 else if k=6\/k=9 then 3 else -1
def C6 (k:Int)(t:Ty):Bool:=if k=2\/k=6\/k=9 then decide (t.checkN=0) else t.zero
def IN (k i:Int)(t:Ty)(n:Nat):Bool:=decide ((n:Int)=AO k)&&decide (0<=i)&&(decide (k=1)||decide (i=0))&&C6 k t
namespace Tm
def shape:Tm->Bool
 | .mk k i t a=>IN k i t a.length&&shapes a
where
 shapes:List Tm->Bool
  | []=>true
  | a::r=>a.shape&&shapes r
theorem shape_eq (t:Tm):t.shape=(IN t.kind t.index t.type t.args.length&&shape.shapes t.args):=by cases t;rfl
theorem shapes_append (l m:List Tm):shape.shapes (l++m)=(shape.shapes l&&shape.shapes m):=by
 induction l with
 | nil=>simp[shape.shapes]
 | cons a r ih=>simp[shape.shapes,ih,Bool.and_assoc]
theorem shapes_iff (l:List Tm):shape.shapes l=true↔∀a∈l,a.shape=true:=by
 induction l with
 | nil=>simp[shape.shapes]
 | cons a r ih=>simp[shape.shapes,ih]
theorem count_mem {l:List Tm}{a:Tm}(h:a∈l):a.count<=count.counts l:=by
 induction l with
 | nil=>cases h
 | cons b r ih=>
  simp only[count.counts];rcases List.mem_cons.1 h with rfl|h;· omega
  ·have:=ih h;omega
theorem count_pos (t:Tm):1<=t.count:=by rw[count_eq];omega
def tys:Tm->Prop
 | .mk _ _ t a=>t.count<=1073741824/\tyss a
where
 tyss:List Tm->Prop
  | []=>True
  | a::r=>a.tys/\tyss r
theorem z99 (l:List Tm):tys.tyss l↔∀a∈l,a.tys:=by
 induction l with
 | nil=>simp[tys.tyss]
 | cons a r ih=>simp[tys.tyss,ih]
theorem tys_eq (t:Tm):t.tys↔t.type.count<=1073741824/\∀a∈t.args,a.tys:=by cases t;simp only[tys,z99,type,args]
def checkN (t:Tm):Int:=if t.shape=true then if 4096<t.count then 4 else 0 else 2
end Tm
theorem Ty.fit_len {t:Ty}(h:t.dv.fit):t.args.length<=2147483648:=((Ty.fit_eq t).1 ((Ty.dv_fit t).1 h)).2.1
end
section
variable {gl:AB}
abbrev DP (b:Nat):DV:=.prim (.pointer (some ⟨b,0,none⟩))
abbrev CL (l:List Int)(p:Nat):List DV:=[.sl (AH l),A0 p]
def z3x (n k:Int):Int:=(n.tmod k+k).tmod k
theorem z01 (n k:Int)(h:1<=k):0<=z3x n k/\z3x n k<k/\-k<n.tmod k/\n.tmod k<k:=by
 have h1:-k<n.tmod k:=by
  have:=Int.lt_tmod_of_pos n (show 0<k from oO);omega
 have h2:n.tmod k<k:=Int.tmod_lt_of_pos n oO;refine⟨?_,Int.tmod_lt_of_pos _ oO,h1,h2⟩;exact Int.tmod_nonneg _ oO
theorem zji (n k:Int)(h1:1<=k)(h2:k<=2147483648):cT gl 45 [A0 n,A0 k] [] (A0 (z3x n k)) []:=by
 refine A6 Tryz.func45 ?_;intro X hP u6 hf u8 hn hR u5 u4;have hb:=z01 n k h1;unfold z3x at hb;refine A5 ?_;refine BR ?_;first|refine B4 [] fun K hK=>?_|refine AU (by rw[hP];exact BK) [] fun K hK=>?_
 refine K0 ?_;have Ov:¬k=0:=oO;refine⟨⟨Ov,oO⟩,?_⟩;refine⟨oO,⟨Ov,oO⟩,?_⟩;refine I7 ?_;clear hK K;exact AC @z3x.eq_1
theorem z9a (l:List Int):cT gl 5 [.sl (AH l)] [] (AR (decide (l.length<=500))) []:=by
 refine A6 Tryz.func5 ?_;intro X hP u6 hf u8 hn hR u5 u4;refine A5 ?_;refine A5 ?_;exact AM
theorem zjj (l:List Int):Con Tryz.prog gl 6 [.sl (AH l)] [] fun r φ=>∃b,r=DP b/\φ=[(b,CL l 0)]:=by
 refine A6 Tryz.func6 ?_;intro X hP u6 hf u8 hn hR u5 u4;refine A5 ?_;refine A5 ?_;refine FW 5 (by simp[go_sem];rfl) ?_;intro b hb;simp[go_sem];refine RX hP hf u8 (DP b) [(b,CL l 0)] (by simp[go_sem,hP,u6,hn]) (by simp[go_sem]) sS (by rw[hR.1];exact⟨b,rfl,rfl⟩) hR.2
def AD (l:List Int)(p:Nat)(n:Int):Int × Nat:=
 if n<1 then (0,p) else match l[p]? with
  | some x=>(z3x x n,p+1)
  | none=>(0,p)
theorem DY (b:Nat)(l:List Int)(p:Nat)(n:Int)(Ww:n<=2147483648)(hp:p<=2147483648) :
  cT gl 15 [DP b,A0 n] [(b,CL l p)] (A0 (AD l p n).1) [(b,CL l (AD l p n).2)]:=by
 refine A6 Tryz.func15 ?_;intro X hP u6 hf u8 hn hR u5 u4;refine A5 ?_;by_cases Ac:n<1
 ·refine BZ @Ac ?_;refine BR ?_;refine BN rfl ?_ ?_;rotate_left;· intro h;simp at h
  intro _;refine A5 ?_;exact AY [(b,CL l p)] (j2 @AD.eq_1 @Ac)
 ·by_cases hle:l.length<=p
  ·refine BZ (j2 @Ac @hle) ?_;refine BR ?_;refine BN rfl ?_ ?_;rotate_left;· intro h;simp[hle]at h
   intro _;refine A5 ?_;have hg:l[p]? = none:=List.getElem?_eq_none hle;exact AY [(b,CL l p)] (j3 @AD.eq_1 @Ac @hg)
  ·refine BZ (j2 @Ac @hle) ?_;refine BR ?_;refine BN rfl ?_ ?_;· intro h;simp[hle]at h
   intro _;obtain⟨x,hx⟩:∃x,l[p]? = some x:=⟨_,uB oO⟩;have hg:=IU hx;refine BZ @hg ?_;refine A5 ?_;refine BR ?_;first|refine B4 [] fun K hK=>?_|refine AU (by rw[hP];exact BK) [] fun K hK=>?_
   refine K0 ?_;refine F8 tT (zji x n oO Ww) ?_;refine I7 ?_;clear hK K;exact AY [(b,CL l (p+1))] (j3 @AD.eq_1 @Ac @hx)
def KP (k:Int):Int:=if k=3\/k=4 then 2 else 0
theorem cE (t:Ty):cT gl 223 [t.dv] [] (AR t.shape) []:=by
 induction t using Ty.ind with
 | h t ih=>
 refine A6 Tryz.func223 ?_;intro X hP u6 hf u8 hn hR u5 u4;have hlen:=Ty.fit_len (u4 t.dv sS);have hs:=Ty.shape_eq t;refine A5 ?_;refine A5 ?_;refine A5 ?_;repeat (first|refine DA ?_|refine BX ?_|refine AN ?_|refine B7 ?_)
 refine jW (t.kind=1\/t.kind=2\/t.kind=5\/t.kind=3\/t.kind=4) [sV 3 (A0 (KP t.kind)),sL 1 [.v (A0 t.kind),.v (.sl (t.args.map Ty.cells))],sP 1] ?_ ?_
 ·intro Aa;by_cases h1:t.kind=1;· refine CG (wr []) (j2 @KP.eq_1 @h1) @h1 (Aa (by simp[h1]))
  by_cases h2:t.kind=2;· refine CG (wr []) (j2 @KP.eq_1 @h2) @h2 (Aa (by simp[h2]))
  by_cases h3:t.kind=5;· refine CG (wr []) (j2 @KP.eq_1 @h3) @h3 (Aa (by simp[h3]))
  by_cases h4:t.kind=3;· refine CG (wr []) (j2 @KP.eq_1 @h4) @h4 (Aa (by simp[h4]))
  by_cases h5:t.kind=4;· refine CG (wr []) (j2 @KP.eq_1 @h5) @h5 (Aa (by simp[h5]))
  refine A7 (j5 @h1 @h2 @h3 @h4 @h5) ?_;exact AC (j7 @hs @HC.eq_1 @h1 @h2 @h3 @h4 @h5)
 ·intro hk;by_cases hl:(t.args.length:Int)=KP t.kind
  ·have Al:HC t.kind t.args.length=true:=by
    unfold KP at hl;unfold HC;rcases hk with h|h|h|h|h <;> simp[h]at hl ⊢ <;> omega
   refine A7 @hl ?_;refine BR ?_;refine CR [] (by simp[go_sem]) (by simp[go_sem,Ty.shape.shapes] <;> omega) (by simp[go_sem]) (DC (t.args) (fun done=>Ty.shape.shapes done=true) (fun done rest=>[sV 23 (A0 done.length),sV 22 (A0 t.args.length),sV 21 (.sl (t.args.map Ty.cells))]) (rfl) ?_ ?_)
   ·intro done x rest hL hg hI u7;have Ac:done.length<t.args.length:=by rw[hL];simp
    refine A5 ?_;refine AQ ?_;refine BZ @hg ?_;refine A3 @hg (ih x (uE hg)) ?_;by_cases hx:x.shape=true
    ·refine t_n @hx ?_;refine CG (wr []) tT @hx (u7 (by rw[Ty.shapes_append];simp[hI,Ty.shape.shapes,hx]))
    ·refine t_y @hx ?_;refine A7 @hx ?_;have:t.shape=false:=by rw[hs,hL,Ty.shapes_append];simp[Ty.shape.shapes,hx]
     exact AC @this
   ·intro hI;refine A5 ?_;refine B9 ?_;refine A2 ?_;exact AC (j3 @hs @Al @hI)
  ·have Al:HC t.kind t.args.length=false:=by
    unfold KP at hl;unfold HC;rcases hk with h|h|h|h|h <;> simp[h]at hl ⊢ <;> omega
   refine A7 @hl ?_;exact AC (j2 @hs @Al)
theorem fF (t:Ty)(hc:t.count<=2147483648):cT gl 224 [t.dv] [] (A0 t.count) []:=by
 induction t using Ty.ind with
 | h t ih=>
 refine A6 Tryz.func224 ?_;intro X hP u6 hf u8 hn hR u5 u4;have hlen:=Ty.fit_len (u4 t.dv sS);rw[Ty.count_eq]at hc;refine A5 ?_;refine A5 ?_;refine A5 ?_;refine BR ?_;refine CR [] (by simp[go_sem]) (by simp[go_sem,Ty.count.counts] <;> omega) (by simp[go_sem]) (CD (t.args) (fun done rest=>[sV 9 (A0 done.length),sV 8 (A0 t.args.length),sV 7 (.sl (t.args.map Ty.cells)),sV 3 (A0 (1+Ty.count.counts done:Nat))]) ?_ ?_)
 ·intro done x rest hL hg u7;have Ac:done.length<t.args.length:=by rw[hL];simp
  have Br:Ty.count.counts t.args=Ty.count.counts done+(x.count+Ty.count.counts rest):=by rw[hL,Ty.counts_append];rfl
  rw[Ty.counts_append]at u7;refine A5 ?_;refine AQ ?_;refine BZ @hg ?_;refine BR ?_;first|refine B4 [] fun K hK=>?_|refine AU (by rw[hP];exact BK) [] fun K hK=>?_
  refine K0 ?_;refine F8 tT (ih x (uE hg) oO) ?_;refine I7 ?_;clear hK K;refine A5 ?_;repeat (first|refine AN ?_|refine BX ?_|refine B7 ?_|refine CC rfl ?_)
  refine CR [] (by simp[go_sem]) (by simp[go_sem,Ty.count.counts] <;> omega) (by simp[go_sem]) u7
 ·refine A5 ?_;refine B9 ?_;refine A5 ?_;exact AC @Ty.count_eq
theorem LF (t:Ty):cT gl 176 [t.dv] [] (AR t.zero) []:=by
 refine A6 Tryz.func176 ?_;intro X hP u6 hf u8 hn hR u5 u4;refine A5 ?_;by_cases h:t.kind=0
 ·refine BZ @h ?_;exact AC (j2 @Ty.zero.eq_1 @h)
 ·refine BZ @h ?_;exact AC (j2 @Ty.zero.eq_1 @h)
theorem EJ (t:Ty)(hc:t.count<=2147483648):cT gl 174 [t.dv] [] (A0 t.checkN) []:=by
 refine A6 Tryz.func174 ?_;intro X hP u6 hf u8 hn hR u5 u4;refine A5 ?_;refine BR ?_;first|refine B4 [] fun K hK=>?_|refine AU (by rw[hP];exact BK) [] fun K hK=>?_
 refine K0 ?_;refine F8 tT (cE t) ?_;refine I7 ?_;clear hK K;by_cases h:t.shape=true
 ·refine t_n @h ?_;refine BR ?_;first|refine B4 [] fun K hK=>?_|refine AU (by rw[hP];exact BK) [] fun K hK=>?_
  refine K0 ?_;refine F8 tT (fF t hc) ?_;refine I7 ?_;clear hK K;by_cases h2:64<t.count
  ·refine t_y @h2 ?_;refine A5 ?_;exact AC (j3 @Ty.checkN.eq_1 @h @h2)
  ·refine t_n @h2 ?_;refine A5 ?_;exact AC (j3 @Ty.checkN.eq_1 @h @h2)
 ·refine t_y @h ?_;refine A5 ?_;exact AC (j2 @Ty.checkN.eq_1 @h)
def HD:List Ty->Int
 | []=>0
 | t::r=>if t.checkN=0 then HD r else t.checkN
def MP (l:List Ty):Int:=if 16<l.length then 3 else HD l
theorem LG (l m:List Ty)(h:HD l=0):HD (l++m)=HD m:=by
 induction l with
 | nil=>rfl
 | cons a r ih=>
  simp only[HD]at h;split at h;· rename_i ha;simp only[List.cons_append,HD,ha,if_true];exact ih h
  ·rename_i ha;exact absurd h ha
theorem KX (l:List Ty)(hc:∀t∈l,t.count<=2147483648):cT gl 127 [.sl (l.map Ty.cells)] [] (A0 (MP l)) []:=by
 refine A6 Tryz.func127 ?_;intro X hP u6 hf u8 hn hR u5 u4;have hlen:=IM (u4 (.sl (l.map Ty.cells)) sS);simp only[List.length_map]at hlen;by_cases h:16<l.length
 ·refine A7 @h ?_;exact AC (j2 @MP.eq_1 @h)
 ·refine A7 @h ?_;refine BR ?_;refine AA [] tT (DC (l) (fun done=>HD done=0) (fun done rest=>[sV 11 (A0 done.length),sV 10 (A0 l.length),sV 9 (.sl (l.map Ty.cells))]) (rfl) ?_ ?_)
  ·intro done x rest hL hg hI u7;have Ac:done.length<l.length:=by rw[hL];simp
   have hx:=LG done (x::rest) hI;rw[<- hL]at hx;refine A5 ?_;refine AQ ?_;refine BZ @hg ?_;refine A3 @hg (EJ x (hc x (uE hg))) ?_;by_cases Ky:x.checkN=0;· refine CG (wr []) tT @Ky (u7 (by rw[LG done [x] hI];simp[HD,Ky]))
   ·refine A7 @Ky ?_;exact AC (j6 @MP.eq_1 @h @hx @HD.eq_1 @HD.eq_2 @Ky)
  ·intro hI;refine A5 ?_;refine B9 ?_;refine A2 ?_;exact AC (j3 @MP.eq_1 @h @hI)
theorem IW (k:Int):cT gl 225 [A0 k] [] (A0 (AO k)) []:=by
 refine A6 Tryz.func225 ?_;intro X hP u6 hf u8 hn hR u5 u4;by_cases Dt:k=1
 ·refine A7 @Dt ?_;refine EO ?_;simp[go_sem,hP,u6,hn,AO,Dt] <;> (try omega)
 by_cases Bv:k=4
 ·refine A7 @Bv ?_;refine EO ?_;simp[go_sem,hP,u6,hn,AO,Bv] <;> (try omega)
 by_cases Cl:k=7
 ·refine A7 @Cl ?_;refine EO ?_;simp[go_sem,hP,u6,hn,AO,Cl] <;> (try omega)
 by_cases Fu:k=13
 ·refine A7 @Fu ?_;refine EO ?_;simp[go_sem,hP,u6,hn,AO,Fu] <;> (try omega)
 by_cases Mb:k=2
 ·refine A7 @Mb ?_;refine EO ?_;simp[go_sem,hP,u6,hn,AO,Mb] <;> (try omega)
 by_cases Ur:k=5
 ·refine A7 @Ur ?_;refine EO ?_;simp[go_sem,hP,u6,hn,AO,Ur] <;> (try omega)
 by_cases Vi:k=11
 ·refine A7 @Vi ?_;refine EO ?_;simp[go_sem,hP,u6,hn,AO,Vi] <;> (try omega)
 by_cases Vk:k=12
 ·refine A7 @Vk ?_;refine EO ?_;simp[go_sem,hP,u6,hn,AO,Vk] <;> (try omega)
 by_cases Tp:k=3
 ·refine A7 @Tp ?_;refine EO ?_;simp[go_sem,hP,u6,hn,AO,Tp] <;> (try omega)
 by_cases Ue:k=8
 ·refine A7 @Ue ?_;refine EO ?_;simp[go_sem,hP,u6,hn,AO,Ue] <;> (try omega)
 by_cases Ku:k=10
 ·refine A7 @Ku ?_;refine EO ?_;simp[go_sem,hP,u6,hn,AO,Ku] <;> (try omega)
 by_cases Kl:k=6
 ·refine A7 @Kl ?_;refine EO ?_;simp[go_sem,hP,u6,hn,AO,Kl] <;> (try omega)
 by_cases Ks:k=9
 ·refine A7 @Ks ?_;refine EO ?_;simp[go_sem,hP,u6,hn,AO,Ks] <;> (try omega)
 refine A7 (j8 @Dt @Bv @Cl @Fu @Mb @Ur @Vi (j6 @Vk @Tp @Ue @Ku @Kl @Ks)) ?_;refine EO ?_;simp[go_sem,hP,u6,hn,AO,Dt,Bv,Cl,Fu,Mb,Ur,Vi,Vk,Tp,Ue,Ku,Kl,Ks] <;> (try omega)
def K6 (t:Tm):Bool:=decide ((t.args.length:Int)=AO t.kind)&&decide (0<=t.index)&&(decide (t.kind=1)||decide (t.index=0))
theorem K7 (t:Tm)(ht:t.tys):cT gl 177 [t.dv] [] (AR t.shape) []:=by
 induction t using Tm.ind with
 | h t ih=>
 obtain⟨Tw,Ln⟩:=(Tm.tys_eq t).1 ht;refine A6 Tryz.func177 ?_;intro X hP u6 hf u8 hn hR u5 u4;have hlen:=Tm.fit_len (u4 t.dv sS);have hs:=Tm.shape_eq t;refine A5 ?_;repeat (first|refine DA ?_|refine BX ?_|refine AN ?_|refine B7 ?_)
 refine z8h [sV 26 (AR (!K6 t)),sL 1 [.v (A0 t.kind),.v (A0 t.index),.v (A0 t.type.kind),.v (.sl (t.type.args.map Ty.cells)),.v (.sl (t.args.map Tm.cells))],sP 1] ?_ ?_
 ·intro Aa;by_cases hA:(t.args.length:Int)=AO t.kind
  ·by_cases hB:t.index<0
   ·refine A3 (j2 @hA @hB) (IW t.kind) ?_;refine GX ?_;refine AA [] (j3 @K6.eq_1 @hA @hB) Aa
   ·by_cases hC:t.kind=1
    ·refine A3 (j3 @hA @hB @hC) (IW t.kind) ?_;refine GX ?_;refine AA [] (j4 @K6.eq_1 @hA @hB @hC) Aa
    ·by_cases hD:t.index=0
     ·refine A3 (j4 @hA @hB @hC @hD) (IW t.kind) ?_;refine GX ?_;refine AA [] (j5 @K6.eq_1 @hA @hB @hC @hD) Aa
     ·refine A3 (j4 @hA @hB @hC @hD) (IW t.kind) ?_;refine GX ?_;refine AA [] (j5 @K6.eq_1 @hA @hB @hC @hD) Aa
  ·refine A3 @hA (IW t.kind) ?_;refine GX ?_;refine AA [] (j2 @K6.eq_1 @hA) Aa
 ·by_cases Ee:K6 t=true
  ·have hk:IN t.kind t.index t.type t.args.length=C6 t.kind t.type:=by
    simp only[K6,uH,decide_eq_true_eq]at Ee;simp[IN,Ee]
   refine t_n @Ee ?_;refine A5 ?_;repeat (first|refine DA ?_|refine BX ?_|refine AN ?_|refine B7 ?_)
   refine jW (C6 t.kind t.type=true) [sL 1 [.v (A0 t.kind),.v (A0 t.index),.v (A0 t.type.kind),.v (.sl (t.type.args.map Ty.cells)),.v (.sl (t.args.map Tm.cells))],sP 1] ?_ ?_
   ·intro Aa;by_cases k2:t.kind=2
    ·refine A7 @k2 ?_;refine A3 tT (EJ t.type oO) ?_;by_cases hc:t.type.checkN=0;· refine CG (wr []) @k2 (j2 @k2 @hc) (Aa (by simp[C6,k2,hc]))
     ·have hz:C6 t.kind t.type=false:=by simp[C6,k2,hc]
      refine A7 @hc ?_;exact AC (j3 @hs @hk @hz)
    by_cases k6:t.kind=6
    ·refine A7 @k6 ?_;refine A3 tT (EJ t.type oO) ?_;by_cases hc:t.type.checkN=0;· refine CG (wr []) @k6 (j2 @k6 @hc) (Aa (by simp[C6,k6,hc]))
     ·have hz:C6 t.kind t.type=false:=by simp[C6,k6,hc]
      refine A7 @hc ?_;exact AC (j3 @hs @hk @hz)
    by_cases k9:t.kind=9
    ·refine A7 @k9 ?_;refine A3 tT (EJ t.type oO) ?_;by_cases hc:t.type.checkN=0;· refine CG (wr []) @k9 (j2 @k9 @hc) (Aa (by simp[C6,k9,hc]))
     ·have hz:C6 t.kind t.type=false:=by simp[C6,k9,hc]
      refine A7 @hc ?_;exact AC (j3 @hs @hk @hz)
    refine A7 (j3 @k2 @k6 @k9) ?_;refine A3 tT (LF t.type) ?_;by_cases hc:t.type.zero=true;· refine CG (wr []) tT @hc (Aa (by simp[C6,k2,k6,k9,hc]))
    ·have hz:C6 t.kind t.type=false:=by simp[C6,k2,k6,k9,hc]
     refine A7 @hc ?_;exact AC (j3 @hs @hk @hz)
   ·intro Al;refine A2 ?_;refine BR ?_;refine CR [] (by simp[go_sem]) (by simp[go_sem,Tm.shape.shapes] <;> omega) (by simp[go_sem]) (DC (t.args) (fun done=>Tm.shape.shapes done=true) (fun done rest=>[sV 44 (A0 done.length),sV 43 (A0 t.args.length),sV 42 (.sl (t.args.map Tm.cells))]) (rfl) ?_ ?_)
    ·intro done x rest hL hg hI u7;have Ac:done.length<t.args.length:=by rw[hL];simp
     refine A5 ?_;refine AQ ?_;refine BZ @hg ?_;refine A3 @hg (ih x (uE hg) (Ln x (uE hg))) ?_;by_cases hx:x.shape=true;· refine CG (wr []) tT @hx (u7 (by rw[Tm.shapes_append];simp[hI,Tm.shape.shapes,hx]))
     ·refine A7 @hx ?_;have:t.shape=false:=by rw[hs,hL,Tm.shapes_append];simp[Tm.shape.shapes,hx]
      exact AC @this
    ·intro hI;refine A5 ?_;refine B9 ?_;refine A2 ?_;exact AC (j4 @hs @hk @Al @hI)
  ·have hk:IN t.kind t.index t.type t.args.length=false:=by
    simp only[K6,uH,decide_eq_true_eq]at Ee;simp only[IN];cases hh:(decide ((t.args.length:Int)=AO t.kind)&&decide (0<=t.index)&&(decide (t.kind=1)||decide (t.index=0))) with
    | true=>exact absurd (by simpa using hh) Ee
    | false=>rfl
   refine A7 @Ee ?_;exact AC (j2 @hs @hk)
theorem G9 (t:Tm)(ht:t.tys)(hc:t.count<=2147483648):cT gl 196 [t.dv] [] (A0 t.checkN) []:=by
 refine A6 Tryz.func196 ?_;intro X hP u6 hf u8 hn hR u5 u4;refine A2 ?_;refine A3 tT (K7 t ht) ?_;by_cases h:t.shape=true
 ·refine A7 @h ?_;refine A3 tT (BF t hc) ?_;by_cases h2:4096<t.count
  ·refine A7 @h2 ?_;exact AC (j3 @Tm.checkN.eq_1 @h @h2)
  ·refine A7 @h2 ?_;exact AC (j3 @Tm.checkN.eq_1 @h @h2)
 ·refine A7 @h ?_;exact AC (j2 @Tm.checkN.eq_1 @h)
def IL:List (List DV):=AH [0,0,1,2,0,1,3,0,2,3,2,1,1,0]
def GM (k:Int):Bool:=decide (1<=k)&&decide (k<=13)
theorem WD (k:Int):GM k=decide (0<=AO k):=by
 unfold GM AO;by_cases h:1<=k/\k<=13
 ·have:k=1\/k=2\/k=3\/k=4\/k=5\/k=6\/k=7\/k=8\/k=9\/k=10\/k=11\/k=12\/k=13:=oO;rcases this with rfl|rfl|rfl|rfl|rfl|rfl|rfl|rfl|rfl|rfl|rfl|rfl|rfl <;> decide
 ·rw[if_neg oO,if_neg oO,if_neg oO,if_neg oO]
  simp;omega
theorem z9b (Cj:FQ gl 0=some IL)(k:Int):cT gl 244 [A0 k] [] (.tup [A0 (if GM k=true then AO k else 0),AR (GM k)]) []:=by
 refine A6 Tryz.func244 ?_;intro X hP u6 hf u8 hn hR u5 u4;have hk:=Cj;simp only[IL,AH,List.map]at hk;by_cases Dt:k=1
 ·refine A7 (j2 @Dt @hk) ?_;refine EO ?_;simp[go_sem,hP,u6,hn,GM,AO,Dt] <;> (try omega)
 by_cases Bv:k=2
 ·refine A7 (j2 @Bv @hk) ?_;refine EO ?_;simp[go_sem,hP,u6,hn,GM,AO,Bv] <;> (try omega)
 by_cases Cl:k=3
 ·refine A7 (j2 @Cl @hk) ?_;refine EO ?_;simp[go_sem,hP,u6,hn,GM,AO,Cl] <;> (try omega)
 by_cases Fu:k=4
 ·refine A7 (j2 @Fu @hk) ?_;refine EO ?_;simp[go_sem,hP,u6,hn,GM,AO,Fu] <;> (try omega)
 by_cases Mb:k=5
 ·refine A7 (j2 @Mb @hk) ?_;refine EO ?_;simp[go_sem,hP,u6,hn,GM,AO,Mb] <;> (try omega)
 by_cases Ur:k=6
 ·refine A7 (j2 @Ur @hk) ?_;refine EO ?_;simp[go_sem,hP,u6,hn,GM,AO,Ur] <;> (try omega)
 by_cases Vi:k=7
 ·refine A7 (j2 @Vi @hk) ?_;refine EO ?_;simp[go_sem,hP,u6,hn,GM,AO,Vi] <;> (try omega)
 by_cases Vk:k=8
 ·refine A7 (j2 @Vk @hk) ?_;refine EO ?_;simp[go_sem,hP,u6,hn,GM,AO,Vk] <;> (try omega)
 by_cases Tp:k=9
 ·refine A7 (j2 @Tp @hk) ?_;refine EO ?_;simp[go_sem,hP,u6,hn,GM,AO,Tp] <;> (try omega)
 by_cases Ue:k=10
 ·refine A7 (j2 @Ue @hk) ?_;refine EO ?_;simp[go_sem,hP,u6,hn,GM,AO,Ue] <;> (try omega)
 by_cases Ku:k=11
 ·refine A7 (j2 @Ku @hk) ?_;refine EO ?_;simp[go_sem,hP,u6,hn,GM,AO,Ku] <;> (try omega)
 by_cases Kl:k=12
 ·refine A7 (j2 @Kl @hk) ?_;refine EO ?_;simp[go_sem,hP,u6,hn,GM,AO,Kl] <;> (try omega)
 by_cases Ks:k=13
 ·refine A7 (j2 @Ks @hk) ?_;refine EO ?_;simp[go_sem,hP,u6,hn,GM,AO,Ks] <;> (try omega)
 by_cases La:k<1
 ·have:GM k=false:=by simp[GM];omega
  refine A7 @La ?_;exact AC @this
 ·have Jb:14<=k:=oO;have:GM k=false:=by simp[GM];omega
  refine A7 (j2 @La @Jb) ?_;exact AC @this
theorem z9c (k:Int):cT gl 245 [A0 k] [] (AR (decide (k=2)||decide (k=6)||decide (k=9))) []:=by
 refine A6 Tryz.func245 ?_;intro X hP u6 hf u8 hn hR u5 u4;by_cases Dt:k=2
 ·refine A7 @Dt ?_;refine EO ?_;simp[go_sem,hP,u6,hn,Dt] <;> (try omega)
 by_cases Bv:k=6
 ·refine A7 @Bv ?_;refine EO ?_;simp[go_sem,hP,u6,hn,Bv] <;> (try omega)
 by_cases Cl:k=9
 ·refine A7 @Cl ?_;refine EO ?_;simp[go_sem,hP,u6,hn,Cl] <;> (try omega)
 refine A7 (j3 @Dt @Bv @Cl) ?_;refine EO ?_;simp[go_sem,hP,u6,hn,Dt,Bv,Cl] <;> (try omega)
theorem z3y (t:Ty):cT gl 246 [t.dv] [] (AR t.zero) []:=by
 refine A6 Tryz.func246 ?_;intro X hP u6 hf u8 hn hR u5 u4;by_cases h:t.kind=0
 ·refine A7 @h ?_;exact AC (j2 @Ty.zero.eq_1 @h)
 ·refine A7 @h ?_;exact AC (j2 @Ty.zero.eq_1 @h)
def Ty.nodesR (t:Ty):DV:=.tup [A0 (if t.shape=true then t.count else 0:Nat),AR t.shape]
theorem WE (t:Ty)(hc:t.count<=2147483648):cT gl 241 [t.dv] [] t.nodesR []:=by
 induction t using Ty.ind with
 | h t ih=>
 rw[Ty.count_eq]at hc;refine A6 Tryz.func241 ?_;intro X hP u6 hf u8 hn hR u5 u4;have hlen:=Ty.fit_len (u4 t.dv sS);have hs:=Ty.shape_eq t;have no:t.shape=false->t.nodesR = .tup [A0 0,AR false]:=fun h=>by simp[Ty.nodesR,h]
 refine A5 ?_;refine A5 ?_;refine A5 ?_;repeat (first|refine DA ?_|refine BX ?_|refine AN ?_|refine B7 ?_)
 refine jW (t.kind=1\/t.kind=2\/t.kind=5\/t.kind=3\/t.kind=4) [sV 4 (A0 (KP t.kind)),sL 1 [.v (A0 t.kind),.v (.sl (t.args.map Ty.cells))],sP 1] ?_ ?_
 ·intro Aa;by_cases h1:t.kind=1;· refine CG (wr []) (j2 @KP.eq_1 @h1) @h1 (Aa (by simp[h1]))
  by_cases h2:t.kind=2;· refine CG (wr []) (j2 @KP.eq_1 @h2) @h2 (Aa (by simp[h2]))
  by_cases h3:t.kind=5;· refine CG (wr []) (j2 @KP.eq_1 @h3) @h3 (Aa (by simp[h3]))
  by_cases h4:t.kind=3;· refine CG (wr []) (j2 @KP.eq_1 @h4) @h4 (Aa (by simp[h4]))
  by_cases h5:t.kind=4;· refine CG (wr []) (j2 @KP.eq_1 @h5) @h5 (Aa (by simp[h5]))
  have hz:=no (by rw[hs];simp[HC,h1,h2,h3,h4,h5]);refine A7 (j5 @h1 @h2 @h3 @h4 @h5) ?_;exact AC @hz
 ·intro hk;by_cases hl:(t.args.length:Int)=KP t.kind
  ·have Al:HC t.kind t.args.length=true:=by
    unfold KP at hl;unfold HC;rcases hk with h|h|h|h|h <;> simp[h]at hl ⊢ <;> omega
   refine A7 @hl ?_;refine BR ?_;refine CR [] (by simp[go_sem]) (by simp[go_sem,Ty.count.counts] <;> omega) (by simp[go_sem]) (DC (t.args) (fun done=>Ty.shape.shapes done=true) (fun done rest=>[sV 5 (A0 (1+Ty.count.counts done:Nat)),sV 27 (A0 done.length),sV 26 (A0 t.args.length),sV 25 (.sl (t.args.map Ty.cells))]) (rfl) ?_ ?_)
   ·intro done x rest hL hg hI u7;have Ac:done.length<t.args.length:=by rw[hL];simp
    have Br:Ty.count.counts t.args=Ty.count.counts done+(x.count+Ty.count.counts rest):=by rw[hL,Ty.counts_append];rfl
    rw[Ty.counts_append]at u7;refine A5 ?_;refine AQ ?_;refine BZ @hg ?_;by_cases hx:x.shape=true
    ·refine A3 (j3 @hg @Ty.nodesR.eq_1 @hx) (ih x (uE hg) oO) ?_;repeat (first|(refine CR [] (by simp[go_sem]) (by simp[go_sem,Ty.count.counts] <;> omega) (by simp[go_sem]) (u7 (by rw[Ty.shapes_append];simp[hI,Ty.shape.shapes,hx])))|refine DA ?_|refine BX ?_|refine C4 ?_|refine AN ?_|refine B7 ?_|refine CC rfl ?_|((first|refine B4 [] fun K hK=>?_|refine AU (by rw[hP];exact BK) [] fun K hK=>?_);simp[go_sem,hP,u6,hn,hx];(repeat (refine⟨oO,?_⟩));(first|refine hK _ ?_|refine⟨by rfl,hK _ ?_⟩);clear hK K)|refine BN rfl (fun _=>?_) (fun hq=>False.elim (by first|(simp[hx];done)|(simp[hx];omega)|(simp[hx]at hq;done)|(simp[hx]at hq;omega)))|refine BN rfl (fun hq=>False.elim (by first|(simp[hx];done)|(simp[hx];omega)|(simp[hx]at hq;done)|(simp[hx]at hq;omega))) (fun _=>?_))
    ·have hz:=no (by rw[hs,hL,Ty.shapes_append];simp[Ty.shape.shapes,hx]);refine A3 (j3 @hg @Ty.nodesR.eq_1 @hx) (ih x (uE hg) oO) ?_;refine A7 @hx ?_;exact AC @hz
   ·intro hI;have hz:t.nodesR = .tup [A0 t.count,AR true]:=by simp[Ty.nodesR,hs,Al,hI]
    refine A5 ?_;refine B9 ?_;refine A2 ?_;exact AC (j2 @hz @Ty.count_eq)
  ·have hz:=no (by
    rw[hs];have:HC t.kind t.args.length=false:=by
     unfold KP at hl;unfold HC;rcases hk with h|h|h|h|h <;> simp[h]at hl ⊢ <;> omega
    simp[this])
   refine A7 @hl ?_;exact AC @hz
theorem K8 (t:Ty)(hc:t.count<=2147483648):cT gl 205 [t.dv] [] (.tup [A0 (if t.checkN=0 then t.count else 0:Nat),A0 t.checkN]) []:=by
 refine A6 Tryz.func205 ?_;intro X hP u6 hf u8 hn hR u5 u4;refine A2 ?_;by_cases h:t.shape=true
 ·refine A3 (j2 @Ty.nodesR.eq_1 @h) (WE t hc) ?_;by_cases h2:64<t.count
  ·refine A7 (j2 @h @h2) ?_;exact AC (j3 @Ty.checkN.eq_1 @h @h2)
  ·refine A7 (j2 @h @h2) ?_;exact AC (j3 @Ty.checkN.eq_1 @h @h2)
 ·refine A3 (j2 @Ty.nodesR.eq_1 @h) (WE t hc) ?_;refine A7 @h ?_;exact AC (j2 @Ty.checkN.eq_1 @h)
def MQ (t:Tm):Bool:=GM t.kind&&decide ((t.args.length:Int)=AO t.kind)&&decide (0<=t.index)&&(decide (t.index=0)||decide (t.kind=1))
theorem wK (t:Tm):MQ t=K6 t:=by
 unfold MQ K6;rw[WD];cases h:decide ((t.args.length:Int)=AO t.kind) with
 | false=>simp
 | true=>
  have h1:(t.args.length:Int)=AO t.kind:=by simpa using h
  have:decide (0<=AO t.kind)=true:=by simp;omega
  rw[this];cases decide (0<=t.index) <;> cases decide (t.index=0) <;> cases decide (t.kind=1) <;> rfl
def Tm.nodesR (t:Tm):DV:=.tup [A0 (if t.shape=true then t.count else 0:Nat),AR t.shape]
theorem WF (Cj:FQ gl 0=some IL)(t:Tm)(ht:t.tys)(hc:t.count<=2147483648):cT gl 210 [t.dv] [] t.nodesR []:=by
 induction t using Tm.ind with
 | h t ih=>
 obtain⟨Tw,Ln⟩:=(Tm.tys_eq t).1 ht;rw[Tm.count_eq]at hc;refine A6 Tryz.func210 ?_;intro X hP u6 hf u8 hn hR u5 u4;have hlen:=Tm.fit_len (u4 t.dv sS);have hs:=Tm.shape_eq t;have no:t.shape=false->t.nodesR = .tup [A0 0,AR false]:=fun h=>by simp[Tm.nodesR,h]
 refine A2 ?_;refine A3 tT (z9b Cj t.kind) ?_;repeat (first|refine DA ?_|refine BX ?_|refine AN ?_|refine B7 ?_)
 refine z8h [sV 42 (AR (!MQ t)),sL 1 [.v (A0 t.kind),.v (A0 t.index),.v (A0 t.type.kind),.v (.sl (t.type.args.map Ty.cells)),.v (.sl (t.args.map Tm.cells))],sP 1] ?_ ?_
 ·intro Aa;by_cases h0:GM t.kind=true
  ·by_cases hA:(t.args.length:Int)=AO t.kind
   ·by_cases hB:t.index<0
    ·refine BZ (j3 @h0 @hA @hB) ?_;refine GX ?_;refine AA [] (j4 @MQ.eq_1 @h0 @hA @hB) Aa
    ·by_cases hD:t.index=0
     ·refine BZ (j4 @h0 @hA @hB @hD) ?_;refine GX ?_;refine AA [] (j5 @MQ.eq_1 @h0 @hA @hB @hD) Aa
     ·by_cases hC:t.kind=1
      ·have h01:GM 1=true:=rfl;refine BZ (j6 @h0 @hA @hB @hD @hC @h01) ?_;refine GX ?_;refine AA [] (j7 @MQ.eq_1 @h0 @hA @hB @hD @hC @h01) Aa
      ·refine BZ (j5 @h0 @hA @hB @hD @hC) ?_;refine GX ?_;refine AA [] (j6 @MQ.eq_1 @h0 @hA @hB @hD @hC) Aa
   ·refine BZ (j2 @h0 @hA) ?_;refine GX ?_;refine AA [] (j3 @MQ.eq_1 @h0 @hA) Aa
  ·refine BZ @h0 ?_;refine GX ?_;refine AA [] (j2 @MQ.eq_1 @h0) Aa
 ·rw[wK];by_cases Ee:K6 t=true
  ·have hk:IN t.kind t.index t.type t.args.length=C6 t.kind t.type:=by
    simp only[K6,uH,decide_eq_true_eq]at Ee;simp[IN,Ee]
   refine t_n @Ee ?_;refine A3 tT (z9c t.kind) ?_;repeat (first|refine DA ?_|refine BX ?_|refine AN ?_|refine B7 ?_)
   refine jW (C6 t.kind t.type=true) [sL 1 [.v (A0 t.kind),.v (A0 t.index),.v (A0 t.type.kind),.v (.sl (t.type.args.map Ty.cells)),.v (.sl (t.args.map Tm.cells))],sP 1] ?_ ?_
   ·intro Aa;by_cases k2:t.kind=2
    ·refine A7 @k2 ?_;refine A3 tT (K8 t.type oO) ?_;by_cases hc:t.type.checkN=0;· refine CG (wr []) @k2 (j2 @k2 @hc) (Aa (by simp[C6,k2,hc]))
     ·have hz:=no (by rw[hs,hk];simp[C6,k2,hc]);refine A7 @hc ?_;exact AC @hz
    by_cases k6:t.kind=6
    ·refine A7 @k6 ?_;refine A3 tT (K8 t.type oO) ?_;by_cases hc:t.type.checkN=0;· refine CG (wr []) @k6 (j2 @k6 @hc) (Aa (by simp[C6,k6,hc]))
     ·have hz:=no (by rw[hs,hk];simp[C6,k6,hc]);refine A7 @hc ?_;exact AC @hz
    by_cases k9:t.kind=9
    ·refine A7 @k9 ?_;refine A3 tT (K8 t.type oO) ?_;by_cases hc:t.type.checkN=0;· refine CG (wr []) @k9 (j2 @k9 @hc) (Aa (by simp[C6,k9,hc]))
     ·have hz:=no (by rw[hs,hk];simp[C6,k9,hc]);refine A7 @hc ?_;exact AC @hz
    refine A7 (j3 @k2 @k6 @k9) ?_;refine A3 tT (z3y t.type) ?_;by_cases hc:t.type.zero=true;· refine CG (wr []) tT @hc (Aa (by simp[C6,k2,k6,k9,hc]))
    ·have hz:=no (by rw[hs,hk];simp[C6,k2,k6,k9,hc]);refine A7 @hc ?_;exact AC @hz
   ·intro Al;refine A2 ?_;refine BR ?_;refine CR [] (by simp[go_sem]) (by simp[go_sem,Tm.count.counts] <;> omega) (by simp[go_sem]) (DC (t.args) (fun done=>Tm.shape.shapes done=true) (fun done rest=>[sV 8 (A0 (1+Tm.count.counts done:Nat)),sV 61 (A0 done.length),sV 60 (A0 t.args.length),sV 59 (.sl (t.args.map Tm.cells))]) (rfl) ?_ ?_)
    ·intro done x rest hL hg hI u7;have Ac:done.length<t.args.length:=by rw[hL];simp
     have Br:Tm.count.counts t.args=Tm.count.counts done+(x.count+Tm.count.counts rest):=by rw[hL,Tm.counts_append];rfl
     rw[Tm.counts_append]at u7;refine A5 ?_;refine AQ ?_;refine BZ @hg ?_;by_cases hx:x.shape=true
     ·refine A3 (j3 @hg @Tm.nodesR.eq_1 @hx) (ih x (uE hg) (Ln x (uE hg)) oO) ?_;repeat (first|(refine CR [] (by simp[go_sem]) (by simp[go_sem,Tm.count.counts] <;> omega) (by simp[go_sem]) (u7 (by rw[Tm.shapes_append];simp[hI,Tm.shape.shapes,hx])))|refine DA ?_|refine BX ?_|refine C4 ?_|refine AN ?_|refine B7 ?_|refine CC rfl ?_|((first|refine B4 [] fun K hK=>?_|refine AU (by rw[hP];exact BK) [] fun K hK=>?_);simp[go_sem,hP,u6,hn,hx];(repeat (refine⟨oO,?_⟩));(first|refine hK _ ?_|refine⟨by rfl,hK _ ?_⟩);clear hK K)|refine BN rfl (fun _=>?_) (fun hq=>False.elim (by first|(simp[hx];done)|(simp[hx];omega)|(simp[hx]at hq;done)|(simp[hx]at hq;omega)))|refine BN rfl (fun hq=>False.elim (by first|(simp[hx];done)|(simp[hx];omega)|(simp[hx]at hq;done)|(simp[hx]at hq;omega))) (fun _=>?_))
     ·have hz:=no (by rw[hs,hL,Tm.shapes_append];simp[Tm.shape.shapes,hx]);refine A3 (j3 @hg @Tm.nodesR.eq_1 @hx) (ih x (uE hg) (Ln x (uE hg)) oO) ?_;refine A7 @hx ?_;exact AC @hz
    ·intro hI;have hz:t.nodesR = .tup [A0 t.count,AR true]:=by simp[Tm.nodesR,hs,hk,Al,hI]
     refine A5 ?_;refine B9 ?_;refine A2 ?_;exact AC (j2 @hz @Tm.count_eq)
  ·have hk:IN t.kind t.index t.type t.args.length=false:=by
    simp only[K6,uH,decide_eq_true_eq]at Ee;simp only[IN];cases hh:(decide ((t.args.length:Int)=AO t.kind)&&decide (0<=t.index)&&(decide (t.kind=1)||decide (t.index=0))) with
    | true=>exact absurd (by simpa using hh) Ee
    | false=>rfl
   have hz:=no (by rw[hs,hk];rfl);refine A7 @Ee ?_;exact AC @hz
theorem CO {l:List Int}{p:Nat}{n:Int}(h:p<=l.length):(AD l p n).2<=l.length:=by
 unfold AD;split;· exact h
 ·split
  ·rename_i x hx;have:=(uA hx).1;simp only;omega
  ·exact h
theorem DQ {l:List Int}{p:Nat}{n:Int}(h:1<=n):0<=(AD l p n).1/\(AD l p n).1<n:=by
 unfold AD;rw[if_neg oO];split
 ·rename_i x hx;have:=z01 x n h;exact⟨this.1,this.2.1⟩
 ·exact⟨sS,by simp;omega⟩
def OH (l:List Int)(p:Nat):Nat->List Int × Nat
 | 0=>([],p)
 | n+1=>((AD l p 4).1::(OH l (AD l p 4).2 n).1,(OH l (AD l p 4).2 n).2)
def GY (l:List Int):Ty->Nat->Val × Nat
 | .mk k ts,p=>
  if k=1 then (Val.mk 1 (AD l p 5).1 [] [],(AD l p 5).2)
  else if k=2 then (Val.mk 2 0 (OH l (AD l p 4).2 (AD l p 4).1.toNat).1 [],(OH l (AD l p 4).2 (AD l p 4).1.toNat).2)
  else if k=3 then (Val.mk 3 0 [] (mkVals ts p).1,(mkVals ts p).2)
  else (Val.mk 4 0 [] [],p)
where
 mkVals:List Ty->Nat->List Val × Nat
  | [],p=>([],p)
  | t::r,p=>((GY l t p).1::(mkVals r (GY l t p).2).1,(mkVals r (GY l t p).2).2)
def Ty.plain:Ty->Prop
 | .mk k ts=>(k=3->ts.length=2)/\plains ts
where
 plains:List Ty->Prop
  | []=>True
  | t::r=>t.plain/\plains r
theorem Ty.plains_iff (ts:List Ty):Ty.plain.plains ts↔∀a∈ts,a.plain:=by
 induction ts with
 | nil=>simp[Ty.plain.plains]
 | cons a r ih=>simp[Ty.plain.plains,ih]
theorem Ty.plain_eq (t:Ty):t.plain↔(t.kind=3->t.args.length=2)/\∀a∈t.args,a.plain:=by
 cases t with
 | mk k ts=>simp only[Ty.plain,Ty.plains_iff,Ty.kind,Ty.args]
theorem PA (l:List Int)(t:Ty)(p:Nat):GY l t p =
  if t.kind=1 then (Val.mk 1 (AD l p 5).1 [] [],(AD l p 5).2)
  else if t.kind=2 then (Val.mk 2 0 (OH l (AD l p 4).2 (AD l p 4).1.toNat).1 [],(OH l (AD l p 4).2 (AD l p 4).1.toNat).2)
  else if t.kind=3 then (Val.mk 3 0 [] (GY.mkVals l t.args p).1,(GY.mkVals l t.args p).2)
  else (Val.mk 4 0 [] [],p):=by
 cases t;rfl
theorem oD {l:List Int}:∀{n p:Nat},p<=l.length->(OH l p n).2<=l.length
 | 0,_,h=>h
 | n+1,_,h=>oD (n:=n) (CO h)
theorem z9d {l:List Int}(t:Ty):∀{p:Nat},p<=l.length->(GY l t p).2<=l.length:=by
 induction t using Ty.ind with
 | h t ih=>
 intro p hp;have hs:∀ts:List Ty,(∀a∈ts,a∈t.args)->∀p,p<=l.length->(GY.mkVals l ts p).2<=l.length:=by
  intro ts
  induction ts with
  | nil=>intro _ p hp;exact hp
  | cons a r Dk=>intro h p hp;exact Dk (fun b hb=>h b (List.mem_cons_of_mem _ hb)) _ (ih a (h a sS) hp)
 rw[PA];split;· exact CO hp
 ·split;· exact oD (CO hp)
  ·split;· exact hs t.args (fun _ h=>h) p hp
   ·exact hp
theorem z9e (t:Ty)(b:Nat)(l:List Int)(p:Nat)(hl:l.length<=500)(hp:p<=l.length)(ht:t.plain) :
  cT gl 11 [DP b,t.dv] [(b,CL l p)] (GY l t p).1.dv [(b,CL l (GY l t p).2)]:=by
 induction t using Ty.ind generalizing p with
 | h t ih=>
 refine A6 Tryz.func11 ?_;intro X hP u6 hf u8 hn hR u5 u4;have hp5:=CO (n:=5) hp;have hp4:=CO (n:=4) hp;rw[PA]at hR;refine A5 ?_;refine A5 ?_;by_cases h1:t.kind=1
 ·rw[if_pos h1]at hR;refine BZ @h1 ?_;refine BR ?_;refine BN rfl ?_ ?_;rotate_left;· intro h;simp at h
  intro _;refine BR ?_;first|refine B4 [] fun K hK=>?_|refine AU (by rw[hP];exact BK) [] fun K hK=>?_
  refine K0 ?_;refine F8 tT (DY b l p 5 dD oO) ?_;refine I7 ?_;clear hK K;exact AY [(b,CL l (AD l p 5).2)] tT
 rw[if_neg h1]at hR;by_cases h2:t.kind=2
 ·rw[if_pos h2]at hR;have Xp:=DQ (l:=l) (p:=p) (n:=4) dD;obtain⟨r0,Il⟩:∃r0:Nat,(AD l p 4).1=r0:=⟨(AD l p 4).1.toNat,oO⟩;rw[Il,Int.toNat_natCast]at hR;rw[Il]at Xp;refine BZ @h2 ?_;refine BR ?_;refine BN rfl ?_ ?_;· intro h;simp at h
  intro _;refine BZ @h2 ?_;refine BR ?_;refine BN rfl ?_ ?_;rotate_left;· intro h;simp at h
  intro _;refine A5 ?_;refine BR ?_;first|refine B4 [] fun K hK=>?_|refine AU (by rw[hP];exact BK) [] fun K hK=>?_
  refine K0 ?_;refine F8 tT (DY b l p 4 dD oO) ?_;refine I7 ?_;clear hK K;refine BR ?_
  refine CR [(1005,0)] (by simp[go_sem]) (by simp[go_sem,Il,AK]) (by simp[go_sem]) (E6 (fun x:List Int × Nat × Nat=>x.2.1<=l.length/\(x.1++(OH l x.2.1 x.2.2).1,(OH l x.2.1 x.2.2).2)=OH l (AD l p 4).2 r0/\x.1.length+x.2.2<=4)
   (fun x=>[(.slot 6,.one (.v (A0 x.2.2))),(.heap b,.row [.v (.sl (AH l)),.v (A0 x.2.1)]),(.loc 5,.row [.v (A0 2),.v (A0 0),.own 1005 (AH x.1),.own 0 []]),(.tok 1005,.tk 1 x.1.length),(.slot 5,.one (.loc 5 0)),(.loc 4,.row [.v (A0 0),.v (A0 0),.own 0 [],.own 0 []]),(.slot 4,.one (.loc 4 0)),(.slot 0,.one (.v (DP b)))])
   (fun x=>x.2.2) ([],(AD l p 4).2,r0) ⟨hp4,sS,by simp;omega⟩ ?_)
  rintro⟨acc,q,r⟩ ⟨i1,i2,i3⟩ Dk;simp only at i1 i2 i3;cases r with
  | zero=>
   simp only[OH,List.append_nil]at i2;refine A5 ?_;refine BR ?_;refine BN rfl ?_ ?_;· intro h;simp at h
   intro _;refine A5 ?_;exact AY [(b,CL l q)] (i2).symm
  | succ r=>
   have hq:=CO (n:=4) i1;refine A5 ?_;refine AQ ?_;refine BR ?_;first|refine B4 [] fun K hK=>?_|refine AU (by rw[hP];exact BK) [] fun K hK=>?_
   refine K0 ?_;refine F8 tT (DY b l q 4 dD oO) ?_;refine I7 ?_;clear hK K;refine A5 ?_;refine GX ?_;refine AA [(1005,28)] (j2 @XP @AK) (Dk (acc++[(AD l q 4).1],(AD l q 4).2,r) ⟨hq,by rw[<- i2];simp[OH],by simp;omega⟩ sS)
 rw[if_neg h2]at hR;by_cases h3:t.kind=3
 ·rw[if_pos h3]at hR;obtain⟨Tw,Ln⟩:=(Ty.plain_eq t).1 ht
  obtain⟨x,y,Er⟩:∃x y,t.args=[x,y]:=by
   have:=Tw h3
   match h:t.args,this with
   | [x,y],_=>exact⟨x,y,rfl⟩
  have hpx:=z9d (l:=l) x hp;refine BZ @h3 ?_;refine B9 ?_;refine BZ @h3 ?_;refine B9 ?_;refine BZ @h3 ?_;refine AQ ?_;refine BR ?_;first|refine B4 [] fun K hK=>?_|refine AU (by rw[hP];exact BK) [] fun K hK=>?_
  refine rW @Er ?_;refine F8 @Er (ih x (by simp[Er]) p hp (Ln x (by simp[Er]))) ?_;refine F8 @Er (ih y (by simp[Er]) _ hpx (Ln y (by simp[Er]))) ?_;refine I7 ?_;clear hK K;refine BR ?_;first|refine RX hP hf u8 _ ([(b,CL l (GY l y (GY l x p).2).2)]) (by first|(simp[go_sem,hP,u6,hn,Er,GY.mkVals];done)|(simp[go_sem,hP,u6,hn,Er,GY.mkVals];rfl)) (by simp[go_sem,hP,u6,hn,Er,GY.mkVals]) sS ?_ hR.2|refine z8i hP hf u8 _ ([(b,CL l (GY l y (GY l x p).2).2)]) (by first|(simp[go_sem,hP,u6,hn,Er,GY.mkVals];done)|(simp[go_sem,hP,u6,hn,Er,GY.mkVals];rfl)) (by simp[go_sem,hP,u6,hn,Er,GY.mkVals]) sS ?_ hR.2
  rw[hR.1];refine⟨?_,by simp[Er,GY.mkVals]⟩;try simp[Er,GY.mkVals]
  try all_goals exact RH
 rw[if_neg h3]at hR;refine BZ @h1 ?_;refine B9 ?_;refine BZ @h2 ?_;refine B9 ?_;refine BZ @h3 ?_;refine B9 ?_;refine A5 ?_;exact AY [(b,CL l p)] tT
theorem Val.fit_args {t:Val}(h:t.dv.fit):t.args.length<=2147483648:=((Val.fit_eq t).1 ((Val.dv_fit t).1 h)).2.2.2.1
theorem Val.fit_list {t:Val}(h:t.dv.fit):t.list.length<=2147483648:=((Val.fit_eq t).1 ((Val.dv_fit t).1 h)).2.2.1.1
theorem z9f (k:Int)(l:List Tm):cT gl 262 [A0 k,.sl (l.map Tm.cells)] [] (Tm.mk k 0 (Ty.mk 0 []) l).dv []:=by
 refine A6 Tryz.func262 ?_;intro X hP u6 hf u8 hn hR u5 u4;refine A5 ?_;refine A5 ?_;exact BI
def CV:Nat->Tm
 | 0=>Tm.mk 4 0 (Ty.mk 0 []) []
 | n+1=>Tm.mk 5 0 (Ty.mk 0 []) [CV n]
def oE (n:Int):Int:=min n 4096+1
def Val.okB (v:Val):Bool:=
 if v.kind=1 then decide (0<=v.num)&&decide (v.list.length=0)&&decide (v.args.length=0)
 else if v.kind=2 then decide (v.num=0)&&!v.list.any (fun n=>decide (n<0))&&decide (v.args.length=0)
 else if v.kind=3 then decide (v.num=0)&&decide (v.list.length=0)&&decide (v.args.length=2)
 else if v.kind=4 then decide (v.num=0)&&decide (v.list.length=0)&&decide (v.args.length=0)
 else false
theorem oF (n:Int):cT gl 208 [A0 n] [] (AR (decide (n<0))) []:=by
 refine A6 Tryz.func208 ?_;intro X hP u6 hf u8 hn hR u5 u4;refine A5 ?_;refine A5 ?_;exact AM
abbrev fnv (f:Nat):DV:=.prim (.func (.func f) #[] #[])
def kC (l:List Int):Int:=match l.findIdx? (fun n=>decide (n<0)) with
 | some k=>k
 | none=>-1
theorem oG (l:List Int):cT gl 243 [.sl (AH l),fnv 208] [] (A0 (kC l)) []:=by
 refine A6 Tryz.func243 ?_;intro X hP u6 hf u8 hn hR u5 u4;have hlen:l.length<=2147483648:=by simpa [AH] using IM (u4 (.sl (AH l)) sS)
 refine A5 ?_;refine A5 ?_;refine BR ?_;refine AA [] tT (NG (l.length) (fun i=>∀(j:Nat) (x:Int),j<i->l[j]? = some x->0<=x) (fun i=>[sV 8 (A0 i),sV 7 (A0 l.length),sV 6 (.sl (AH l)),sV 0 (.sl (AH l)),sV 1 (fnv 208)]) (by intro j x h;omega) ?_ ?_)
 ·intro i Ac hI u7;obtain⟨x,hx⟩:∃x,l[i]? = some x:=⟨_,uB Ac⟩;have hg:=IU hx;refine A5 ?_;refine AQ ?_;refine A5 ?_;refine BR ?_;first|refine B4 [] fun K hK=>?_|refine AU (by rw[hP];exact BK) [] fun K hK=>?_
  refine rW @hg ?_;repeat (refine⟨oO,?_⟩)
  refine XM hP u6 (oF x) (by simp[go_sem]) (by simp[go_sem,hP,u6,hn]) rfl (by simp[go_sem]) sS (by rw[hn];exact uF rfl) ?_;simp[go_sem,hP,u6,hn];refine I7 ?_;clear hK K;by_cases Vs:x<0
  ·refine BR ?_;refine BN rfl ?_ ?_;rotate_left;· intro h;simp[Vs]at h
   intro _;refine A5 ?_;refine EO ?_;simp[go_sem,hP,u6,hn] <;> (try omega);unfold kC;have:l.findIdx? (fun n=>decide (n<0))=some i:=by
    rw[List.findIdx?_eq_some_iff_getElem];obtain⟨h1,h2⟩:=uA hx;refine⟨h1,by simp[h2,Vs],fun j hj=>?_⟩;have:=hI j l[j] hj (uB oO)
    simp;omega
   rw[this]
  ·refine BR ?_;refine BN rfl ?_ ?_;· intro h;simp[Vs]at h
   intro _;refine A5 ?_;refine GX ?_;refine AA [] tT (u7 ?_);intro j y hj hy;by_cases Vh:j=i;· subst Vh;rw[hx]at hy;cases hy;omega
   ·exact hI j y oO hy
 ·intro hI;refine A5 ?_;refine B9 ?_;refine A5 ?_;refine EO ?_;simp[go_sem,hP,u6,hn] <;> (try omega);unfold kC;have:l.findIdx? (fun n=>decide (n<0))=none:=by
   rw[List.findIdx?_eq_none_iff];intro x hx;obtain⟨i,hi,rfl⟩:=List.mem_iff_getElem.1 hx;have:=hI i l[i] hi (uB hi)
   simp;omega
  rw[this]
theorem oH (l:List Int):cT gl 209 [.sl (AH l),fnv 208] [] (AR (l.any (fun n=>decide (n<0)))) []:=by
 refine A6 Tryz.func209 ?_;intro X hP u6 hf u8 hn hR u5 u4;refine A5 ?_;refine BR ?_;first|refine B4 [] fun K hK=>?_|refine AU (by rw[hP];exact BK) [] fun K hK=>?_
 refine K0 ?_;refine F8 tT (oG l) ?_;refine I7 ?_;clear hK K;refine EO ?_;simp[go_sem,hP,u6,hn] <;> (try omega);unfold kC;cases h:l.findIdx? (fun n=>decide (n<0)) with
 | none=>
  rw[List.findIdx?_eq_none_iff]at h;have:l.any (fun n=>decide (n<0))=false:=by
   rw[List.any_eq_false];intro x hx;simp[h x hx]
  simp only[this];decide
 | some k=>
  obtain⟨h1,h2,-⟩:=List.findIdx?_eq_some_iff_getElem.1 h;have:l.any (fun n=>decide (n<0))=true:=by
   rw[List.any_eq_true];exact⟨_,List.getElem_mem h1,h2⟩
  simp[this]
def Val.nodesN:Val->Int × Bool
 | .mk k n l a=>nodesL a (1,Val.okB (.mk k n l a))
where
 nodesL:List Val->Int × Bool->Int × Bool
  | [],p=>p
  | a::r,p=>if p.2 then nodesL r (p.1+(Val.nodesN a).1,(Val.nodesN a).2) else p
theorem Val.nodesN_eq (v:Val):v.nodesN=nodesN.nodesL v.args (1,v.okB):=by cases v;simp[nodesN,args]
theorem Val.nodesL_no (l:List Val)(n:Int):nodesN.nodesL l (n,false)=(n,false):=by cases l <;> simp[nodesN.nodesL]
theorem Val.nodesL_append (l m:List Val)(p:Int × Bool):nodesN.nodesL (l++m) p=nodesN.nodesL m (nodesN.nodesL l p):=by
 induction l generalizing p with
 | nil=>simp[nodesN.nodesL]
 | cons a r ih=>
  obtain⟨n,ok⟩:=p;cases ok with
  | true=>simp[nodesN.nodesL,ih]
  | false=>simp[nodesL_no]
def Val.count:Val->Nat
 | .mk _ _ _ a=>1+counts a
where
 counts:List Val->Nat
  | []=>0
  | a::r=>a.count+counts r
theorem Val.count_eq (t:Val):t.count=1+Val.count.counts t.args:=by cases t;simp[count,args]
theorem Val.counts_append (l m:List Val):Val.count.counts (l++m)=Val.count.counts l+Val.count.counts m:=by
 induction l with
 | nil=>simp[Val.count.counts]
 | cons a r ih=>simp[Val.count.counts,ih];omega
theorem Val.nodesL_le {v:Val}(ih:∀a∈v.args,0<=a.nodesN.1/\a.nodesN.1<=a.count)(l:List Val):(∀a∈l,a∈v.args)->∀(n:Int) (ok:Bool),n<=(nodesN.nodesL l (n,ok)).1/\(nodesN.nodesL l (n,ok)).1<=n+Val.count.counts l:=by
 induction l with
 | nil=>intro _ n ok;simp[nodesN.nodesL,Val.count.counts]
 | cons a r Dk=>
  intro h n ok;have h1:=ih a (h a sS);cases ok with
  | false=>simp[nodesL_no,Val.count.counts];omega
  | true=>
   have h2:=Dk (fun b hb=>h b (List.mem_cons_of_mem _ hb)) (n+a.nodesN.1) a.nodesN.2;simp only[nodesN.nodesL,if_true,Val.count.counts];omega
theorem Val.nodes_le (v:Val):0<=v.nodesN.1/\v.nodesN.1<=v.count:=by
 induction v using Val.ind with
 | h v ih=>
 have:=Val.nodesL_le ih v.args (fun _ h=>h) 1 v.okB;rw[nodesN_eq,count_eq];omega
theorem z9g (v:Val)(hc:v.count<=2147483648):cT gl 152 [v.dv] [] (.tup [A0 v.nodesN.1,AR v.nodesN.2]) []:=by
 induction v using Val.ind with
 | h v ih=>
 refine A6 Tryz.func152 ?_;intro X hP u6 hf u8 hn hR u5 u4;have Jk:=Val.fit_args (u4 v.dv sS);have Jy:=Val.fit_list (u4 v.dv sS);rw[Val.count_eq]at hc;refine A5 ?_;refine A5 ?_;refine A5 ?_;refine A5 ?_;repeat (first|refine DA ?_|refine BX ?_|refine AN ?_|refine B7 ?_)
 refine z8h [sV 5 (AR v.okB),sL 1 [.v (A0 v.kind),.v (A0 v.num),.v (.sl (AH v.list)),.v (.sl (v.args.map Val.cells))],sP 1] ?_ ?_
 ·intro Aa;by_cases h1:v.kind=1
  ·refine BZ @h1 ?_;refine AQ ?_;by_cases q1:0<=v.num
   ·by_cases q2:v.list.length=0
    ·refine BZ (j3 @h1 @q1 @q2) ?_;refine GX ?_;refine AA [] (j4 @Val.okB.eq_1 @h1 @q1 @q2) Aa
    ·refine BZ (j3 @h1 @q1 @q2) ?_;refine GX ?_;refine AA [] (j4 @Val.okB.eq_1 @h1 @q1 @q2) Aa
   ·refine BZ (j2 @h1 @q1) ?_;refine GX ?_;refine AA [] (j3 @Val.okB.eq_1 @h1 @q1) Aa
  by_cases h2:v.kind=2
  ·refine BZ @h2 ?_;refine B9 ?_;refine BZ @h2 ?_;refine AQ ?_;by_cases q1:v.num=0
   ·refine BR ?_;first|refine B4 [] fun K hK=>?_|refine AU (by rw[hP];exact BK) [] fun K hK=>?_
    refine rW (j2 @h2 @q1) ?_;refine F8 tT (oH v.list) ?_;by_cases q2:v.list.any (fun n=>decide (n<0))=true
    ·simp[go_sem,hP,hn,q2];refine I7 ?_;clear hK K;refine GX ?_;refine AA [] (j4 @Val.okB.eq_1 @h2 @q1 @q2) Aa
    ·simp only[Bool.not_eq_true]at q2;simp[go_sem,hP,hn,q2];refine I7 ?_;clear hK K;refine GX ?_;refine AA [] (j4 @Val.okB.eq_1 @h2 @q1 @q2) Aa
   ·refine BZ (j2 @h2 @q1) ?_;refine GX ?_;refine AA [] (j3 @Val.okB.eq_1 @h2 @q1) Aa
  by_cases h3:v.kind=3
  ·refine BZ @h3 ?_;refine B9 ?_;refine BZ @h3 ?_;refine B9 ?_;refine BZ @h3 ?_;refine AQ ?_;by_cases q1:v.num=0
   ·by_cases q2:v.list.length=0
    ·refine BZ (j3 @h3 @q1 @q2) ?_;refine GX ?_;refine AA [] (j4 @Val.okB.eq_1 @h3 @q1 @q2) Aa
    ·refine BZ (j3 @h3 @q1 @q2) ?_;refine GX ?_;refine AA [] (j4 @Val.okB.eq_1 @h3 @q1 @q2) Aa
   ·refine BZ (j2 @h3 @q1) ?_;refine GX ?_;refine AA [] (j3 @Val.okB.eq_1 @h3 @q1) Aa
  by_cases h4:v.kind=4
  ·refine BZ @h4 ?_;refine B9 ?_;refine BZ @h4 ?_;refine B9 ?_;refine BZ @h4 ?_;refine B9 ?_;refine BZ @h4 ?_;refine AQ ?_;by_cases q1:v.num=0
   ·by_cases q2:v.list.length=0
    ·refine BZ (j3 @h4 @q1 @q2) ?_;refine GX ?_;refine AA [] (j4 @Val.okB.eq_1 @h4 @q1 @q2) Aa
    ·refine BZ (j3 @h4 @q1 @q2) ?_;refine GX ?_;refine AA [] (j4 @Val.okB.eq_1 @h4 @q1 @q2) Aa
   ·refine BZ (j2 @h4 @q1) ?_;refine GX ?_;refine AA [] (j3 @Val.okB.eq_1 @h4 @q1) Aa
  refine BZ @h1 ?_;refine B9 ?_;refine BZ @h2 ?_;refine B9 ?_;refine BZ @h3 ?_;refine B9 ?_;refine BZ @h4 ?_;refine B9 ?_;refine GX ?_;refine AA [] (j5 @Val.okB.eq_1 @h1 @h2 @h3 @h4) Aa
 ·refine A5 ?_;refine A5 ?_;refine BR ?_;refine CR [] (by simp[go_sem]) (by simp[go_sem,Val.nodesN.nodesL] <;> omega) (by simp[go_sem]) (CD (v.args) (fun done rest=>[sV 84 (A0 done.length),sV 83 (A0 v.args.length),sV 82 (.sl (v.args.map Val.cells)),sV 6 (A0 (Val.nodesN.nodesL done (1,v.okB)).1),sV 5 (AR (Val.nodesN.nodesL done (1,v.okB)).2)]) ?_ ?_)
  ·intro done x rest hL hg u7;have Ac:done.length<v.args.length:=by rw[hL];simp
   have Br:Val.count.counts v.args=Val.count.counts done+(x.count+Val.count.counts rest):=by rw[hL,Val.counts_append];rfl
   have hb:=Val.nodesL_le (v:=v) (fun a _=>Val.nodes_le a) done (fun a ha=>by rw[hL];simp[ha]) 1 v.okB;have hx:=Val.nodes_le x;obtain⟨n,ok,hp⟩:∃n ok,Val.nodesN.nodesL done (1,v.okB)=(n,ok):=⟨_,_,rfl⟩;rw[hp]at hb;simp only[Val.nodesL_append,hp]at u7 ⊢;refine A5 ?_;refine AQ ?_;refine BZ @hg ?_;cases ok with
   | false=>
    refine A5 ?_;refine AQ ?_;refine A5 ?_;exact AC (j5 @Val.nodesN_eq @hL @Val.nodesL_append @hp @Val.nodesL_no)
   | true=>
    refine A5 ?_;refine B9 ?_;refine A5 ?_;refine BR ?_;first|refine B4 [] fun K hK=>?_|refine AU (by rw[hP];exact BK) [] fun K hK=>?_
    refine K0 ?_;refine F8 tT (ih x (uE hg) oO) ?_;refine I7 ?_;clear hK K;refine A5 ?_;refine A5 ?_;repeat (first|refine AN ?_|refine BX ?_|refine B7 ?_|refine CC rfl ?_)
    refine CR [] (by simp[go_sem]) (by simp[go_sem,Val.nodesN.nodesL] <;> omega) (by simp[go_sem]) u7
  ·refine A5 ?_;refine B9 ?_;refine A5 ?_;exact AC @Val.nodesN_eq
theorem WG (v:Val)(hc:v.count<=2147483648):cT gl 99 [v.dv] [] (A0 (if v.nodesN.2=true then if v.nodesN.1 > 64 then 4 else 0 else 2)) []:=by
 refine A6 Tryz.func99 ?_;intro X hP u6 hf u8 hn hR u5 u4;refine A5 ?_;refine BR ?_;first|refine B4 [] fun K hK=>?_|refine AU (by rw[hP];exact BK) [] fun K hK=>?_
 refine K0 ?_;refine F8 tT (z9g v hc) ?_;refine I7 ?_;clear hK K;obtain⟨n,ok,hp⟩:∃n ok,v.nodesN=(n,ok):=⟨_,_,rfl⟩;simp only[hp];cases ok with
 | false=>
  refine A5 ?_;refine AQ ?_;refine A5 ?_;exact AC @hp
 | true=>
  refine A5 ?_;refine B9 ?_;by_cases h:64<n
  ·refine BZ @h ?_;refine AQ ?_;refine A5 ?_;exact AC (j2 @hp @h)
  ·refine BZ @h ?_;refine B9 ?_;refine A5 ?_;exact AC (j2 @hp @h)
theorem kD (Cj:FQ gl 0=some IL)(t:Tm)(ht:t.tys)(hc:t.count<=2147483648):cT gl 153 [t.dv] [] (.tup [A0 (if t.checkN=0 then t.count else 0:Nat),A0 t.checkN]) []:=by
 refine A6 Tryz.func153 ?_;intro X hP u6 hf u8 hn hR u5 u4;refine A2 ?_;by_cases h:t.shape=true
 ·refine A3 (j2 @Tm.nodesR.eq_1 @h) (WF Cj t ht hc) ?_;by_cases h2:4096<t.count
  ·refine A7 (j2 @h @h2) ?_;exact AC (j3 @Tm.checkN.eq_1 @h @h2)
  ·refine A7 (j2 @h @h2) ?_;exact AC (j3 @Tm.checkN.eq_1 @h @h2)
 ·refine A3 (j2 @Tm.nodesR.eq_1 @h) (WF Cj t ht hc) ?_;refine A7 @h ?_;exact AC (j2 @Tm.checkN.eq_1 @h)
theorem LH (Cj:FQ gl 0=some IL)(t:Tm)(ht:t.tys)(hc:t.count<=2147483648):cT gl 103 [t.dv] [] (A0 t.checkN) []:=by
 refine A6 Tryz.func103 ?_;intro X hP u6 hf u8 hn hR u5 u4;refine A2 ?_;refine A3 tT (kD Cj t ht hc) ?_;refine A2 ?_;exact AM
def S6:Val:=Val.mk 0 0 [] []
theorem zes:cT gl 202 [] [] (Ty.mk 2 []).dv []:=by
 refine A6 Tryz.func202 ?_;intro X hP u6 hf u8 hn hR u5 u4;refine A2 ?_;exact BI
theorem V1:cT gl 203 [] [] (Ty.mk 1 []).dv []:=by
 refine A6 Tryz.func203 ?_;intro X hP u6 hf u8 hn hR u5 u4;refine A2 ?_;exact BI
def Val.tyN:Val->Ty
 | .mk k _ _ a=>if k=2 then Ty.mk 2 [] else if k=4 then Ty.mk 5 [] else if k=3 then Ty.mk 3 (tys a) else Ty.mk 1 []
where
 tys:List Val->List Ty
  | []=>[]
  | a::r=>a.tyN::tys r
theorem Val.tys_map (l:List Val):tyN.tys l=l.map Val.tyN:=by
 induction l with
 | nil=>rfl
 | cons a r ih=>simp[tyN.tys,ih]
theorem Val.tyN_eq (v:Val):v.tyN=if v.kind=2 then Ty.mk 2 [] else if v.kind=4 then Ty.mk 5 [] else if v.kind=3 then Ty.mk 3 (v.args.map Val.tyN) else Ty.mk 1 []:=by
 cases v;rw[tyN,tys_map];rfl
def z9h:List Int->Int->Int × Bool
 | [],n=>(n,false)
 | x::r,n=>if 4096<n+(1+oE x) then (n+(1+oE x),true) else z9h r (n+(1+oE x))
def Val.lengthN:Val->Int
 | .mk k n l a=>
  if k=1 then lengths a (oE n)
  else if k=2 then (if (z9h l 1).2=true then (z9h l 1).1 else lengths a (z9h l 1).1)
  else lengths a 1
where
 lengths:List Val->Int->Int
  | [],n=>n
  | a::r,n=>lengths r (n+a.lengthN)
def Val.pos (v:Val):Prop:=0<=v.num/\∀n∈v.list,(0:Int)<=n
def Val.allPos:Val->Prop
 | .mk k n l a=>Val.pos (.mk k n l a)/\poss a
where
 poss:List Val->Prop
  | []=>True
  | a::r=>a.allPos/\poss r
theorem Val.poss_iff (l:List Val):allPos.poss l↔∀a∈l,a.allPos:=by
 induction l with
 | nil=>simp[allPos.poss]
 | cons a r ih=>simp[allPos.poss,ih]
theorem Val.allPos_eq (v:Val):v.allPos↔v.pos/\∀a∈v.args,a.allPos:=by
 cases v;simp only[allPos,poss_iff,args]
def Val.head (v:Val):Int:=if v.kind=1 then oE v.num else if v.kind=2 then (z9h v.list 1).1 else 1
theorem oI (l:List Int):Con Tryz.prog gl 145 [.sl (AH l)] [] fun r φ=>∃b,r = .prim (.func (.func 204) #[] #[.pointer (some ⟨b,0,none⟩)])/\φ=[(b,[.sl (AH l)])]:=by
 refine A6 Tryz.func145 ?_;intro X hP u6 hf u8 hn hR u5 u4;refine A5 ?_;refine FW 1 (by simp[go_sem];rfl) ?_;intro b hb;simp[go_sem];refine A5 ?_;refine BR ?_;refine RX hP hf u8 (.prim (.func (.func 204) #[] #[.pointer (some ⟨b,0,none⟩)])) [(b,[.sl (AH l)])] (by simp[go_sem,hP,u6,hn]) (by simp[go_sem]) sS (by rw[hR.1];exact⟨b,rfl,rfl⟩) hR.2
def zgf (P:Program)(gl:AB)(l:List Int)(φ:Nat->BS)(Stop:BS->Loop->Prop)(lp:Nat)(r:Loop)(D0:Nat->Nat->Prop)(w0:World):Prop:=
 ∀(i:Nat) (x:Int),l[i]? = some x->YC P gl D0 w0 lp r [A0 i,A0 x] (φ (i+1)) fun b Ag r'=>if b=true then Ag=φ i/\r' = r else Stop Ag r'
theorem z3z (l:List Int)(hlen:l.length<=2147483648)(b0:Nat)(φ:Nat->BS)(Bb:∀i,(φ i).map (·.1)=(φ 0).map (·.1))(Aw:((φ 0).map (·.1)).Nodup)(Ey:b0∉(φ 0).map (·.1)){Stop:BS->Loop->Prop}(Jp:∀ψ r',Stop ψ r'->ψ.map (·.1)=(φ 0).map (·.1))(lp:Nat)(r:Loop)(Kp:r.params.size=2) :
  ItC Tryz.prog gl 204 [.prim (.func (.yield lp) #[] #[]),DP b0] ((b0,[.sl (AH l)])::φ l.length) lp r (zgf Tryz.prog gl l φ Stop lp r) (fun Ag r'=>(Ag=(b0,[.sl (AH l)])::φ 0/\r' = r)\/∃ψ,Ag=(b0,[.sl (AH l)])::ψ/\Stop ψ r'):=by
 refine XN Tryz.func204 rfl kK (uF rfl) ?_;intro X hP u6 hf u8 hn Cw u5 u4 Vv hY;simp only[List.map_cons,List.mem_cons,not_or,Bb]at Vv;obtain⟨Bw,Hj⟩:=Vv;have Ca:∀(i:Nat) (A:St),(∀m v,(m,v)∈A->∀b∈(φ 0).map (·.1),m≠.heap b)->BW (get (A++DO (φ i))) (φ i):=fun i A h=>S4 (by rw[Bb];exact Aw) (by rw[Bb];exact h);simp only[UZ,entry,MH,DO,List.map_cons,List.map_nil,List.cons_append,List.nil_append];refine BZ @Bw ?_;refine BR ?_;refine jZ (A':=[(.slot 3,.one (.v (A0 ((l.length:Int) - 1 - (0:Nat))))),(.slot 0,.one (.v (.prim (.func (.yield lp) #[] #[])))),(.slot 1,.one (.v (DP b0))),(.heap lp,.ob r),(.heap b0,.row [.v (.sl (AH l))])]) (A:=[_,_,_,_,_,_,_,_]) ?_ ?_ ?_
 ·intro m v h;simp only[List.mem_cons,List.not_mem_nil,or_false,uD]at h;rcases h with⟨rfl,rfl⟩|⟨rfl,rfl⟩|⟨rfl,rfl⟩|⟨rfl,rfl⟩|⟨rfl,rfl⟩ <;> simp[go_sem,Bw]
 ·simp only[List.cons_append,List.nil_append];refine NG (X:=X) l.length (fun _=>True) (fun j=>(.slot 3,.one (.v (A0 ((l.length:Int) - 1 - (j:Nat)))))::(.slot 0,.one (.v (.prim (.func (.yield lp) #[] #[]))))::(.slot 1,.one (.v (DP b0)))::(.heap lp,.ob r)::(.heap b0,.row [.v (.sl (AH l))])::DO (φ (l.length - j))) tT ?_ ?_
  ·intro j hj _ u7;obtain⟨i,hi⟩:∃i:Nat,l.length=j+1+i:=⟨l.length - (j+1),oO⟩;have Oe:(l.length:Int) - 1 - (j:Nat)=(i:Nat):=oO;have Iu:l.length - j=i+1:=oO;have hi3:l.length - (j+1)=i:=oO;have hx:l[i]? = some l[i]:=uB oO;rw[Oe,Iu];rw[hi3]at u7;generalize l[i]=x at hx;have Kg:=IU hx;refine A5 ?_;refine AQ ?_;refine BR ?_;first|refine B4 [] fun K hK=>?_|refine AU (by rw[hP];exact BK) [] fun K hK=>?_
   refine rW (j2 @Bw @Kg) ?_;repeat (refine⟨oO,?_⟩)
   refine V0 (by simp[go_sem]) hP u6 (hY i x hx) Kp (by simp[go_sem]) rfl ?_ (by rw[Bb];exact Aw) (by simp[go_sem]) (by rw[hn];exact uF rfl) [(.slot 3,.one (.v (A0 (i:Nat)))),(.slot 0,.one (.v (.prim (.func (.yield lp) #[] #[])))),(.slot 1,.one (.v (DP b0))),(.heap b0,.row [.v (.sl (AH l))])] ?_ ?_ ?_
   ·repeat (first|refine JQ ?_|refine JR (by rw[Bb];assumption) ?_)
    exact JS (by rw[Bb];exact Aw)
   ·intro m v h;simp only[List.mem_cons,List.not_mem_nil,or_false,uD]at h;rw[Bb];rcases h with⟨rfl,rfl⟩|⟨rfl,rfl⟩|⟨rfl,rfl⟩|⟨rfl,rfl⟩;· simp[go_sem]
    ·simp[go_sem]
    ·simp[go_sem]
    ·refine⟨by simp[go_sem,Bw],sS,by simp;exact fun e=>Bw e.symm,fun b hb e=>?_⟩;cases e;exact Ey hb
   ·intro b Ag r' h;have:Ag.map (·.1)=(φ 0).map (·.1):=by
     split at h;· rw[h.1,Bb]
     ·exact Jp _ _ h
    rw[this];exact⟨Aw,Hj⟩
   ·intro b Ag r' h _;simp only[List.cons_append,List.nil_append];cases b with
    | true=>
     simp only[if_true]at h;obtain⟨rfl,rfl⟩:=h;simp[go_sem,hP,u6,hn];refine I7 ?_;clear hK K;refine B9 ?_;refine A5 ?_;refine BR ?_;refine jZ (A':=[(.slot 3,.one (.v (A0 ((l.length:Int) - 1 - (j+1:Nat))))),(.slot 0,.one (.v (.prim (.func (.yield lp) #[] #[])))),(.slot 1,.one (.v (DP b0))),(.heap lp,.ob r'),(.heap b0,.row [.v (.sl (AH l))])]) (A:=[_,_,_,_,_,_,_,_,_]) ?_ (u7 tT) ?_
     ·intro m v h;simp only[List.mem_cons,List.not_mem_nil,or_false,uD]at h;rcases h with⟨rfl,rfl⟩|⟨rfl,rfl⟩|⟨rfl,rfl⟩|⟨rfl,rfl⟩|⟨rfl,rfl⟩ <;> simp[go_sem,Bw];omega
     ·intro m v h;simp only[List.mem_cons,List.not_mem_nil,or_false,uD]at h;rw[Bb];intro b hb;rcases h with⟨rfl,rfl⟩|⟨rfl,rfl⟩|⟨rfl,rfl⟩|⟨rfl,rfl⟩|⟨rfl,rfl⟩|⟨rfl,rfl⟩|⟨rfl,rfl⟩|⟨rfl,rfl⟩|⟨rfl,rfl⟩ <;> first|(simp;done)|(intro e;cases e;first|exact Ey hb|exact Hj hb)
    | false=>
     simp only[Bool.false_eq_true,if_false]at h;have Bu:=Jp _ _ h;simp[go_sem,hP,u6,hn];refine I7 ?_;clear hK K;refine AQ ?_;refine BR ?_;refine W3 Cw (φ:=(b0,[.sl (AH l)])::Ag) (q:=r') (r:=.tup []) (by rw[hP,hf,u8];exact Tryz.func204) (by rw[u8];simp[go_sem]) (B8 ?_ ?_) ?_ ?_ (.inr ⟨Ag,rfl,h⟩) W2;· simp[go_sem,Bw]
     ·repeat (first|refine JQ ?_|refine JR (by rw[Bu];assumption) ?_)
      exact JS (by rw[Bu];exact Aw)
     ·simp only[List.map_cons,List.nodup_cons,Bu];exact⟨Ey,Aw⟩
     ·simp[go_sem,Bw]
  ·intro _;refine A5 ?_;refine B9 ?_;refine BR ?_;refine W3 Cw (φ:=(b0,[.sl (AH l)])::φ 0) (q:=r) (r:=.tup []) (by rw[hP,hf,u8];exact Tryz.func204) (by rw[u8];simp[go_sem]) (B8 ?_ ?_) ?_ ?_ (.inl ⟨rfl,rfl⟩) RP;· simp[go_sem,Bw]
   ·repeat (first|refine JQ ?_|refine JR (by assumption) ?_)
    exact JS Aw
   ·simp only[List.map_cons,List.nodup_cons];exact⟨Ey,Aw⟩
   ·simp[go_sem,Bw]
 ·intro m v h;simp only[List.mem_cons,List.not_mem_nil,or_false,uD]at h;rw[Bb];intro b hb;rcases h with⟨rfl,rfl⟩|⟨rfl,rfl⟩|⟨rfl,rfl⟩|⟨rfl,rfl⟩|⟨rfl,rfl⟩|⟨rfl,rfl⟩|⟨rfl,rfl⟩|⟨rfl,rfl⟩ <;> first|(simp;done)|(intro e;cases e;first|exact Ey hb|exact Hj hb)
def zjk (l:List Int):Tm:=l.foldr (fun x t=>Tm.mk 8 0 (Ty.mk 0 []) [CV x.toNat,t]) (Tm.mk 7 0 (Ty.mk 0 []) [])
def Val.termN:Val->Tm
 | .mk k n l a=>
  if k=2 then zjk l else if k=4 then Tm.mk 13 0 (Ty.mk 0 []) [] else if k=3 then Tm.mk 10 0 (Ty.mk 0 []) (terms a) else CV n.toNat
where
 terms:List Val->List Tm
  | []=>[]
  | a::r=>a.termN::terms r
def Val.two:Val->Prop
 | .mk k _ _ a=>(k=3->a.length=2)/\twos a
where
 twos:List Val->Prop
  | []=>True
  | a::r=>a.two/\twos r
theorem Val.twos_iff (l:List Val):two.twos l↔∀a∈l,a.two:=by
 induction l with
 | nil=>simp[two.twos]
 | cons a r ih=>simp[two.twos,ih]
theorem Val.two_eq (v:Val):v.two↔(v.kind=3->v.args.length=2)/\∀a∈v.args,a.two:=by
 cases v;simp only[two,twos_iff,kind,args]
theorem Val.nodesL_ok {l:List Val}{n:Int}{ok:Bool}(h:(nodesN.nodesL l (n,ok)).2=true):ok=true/\∀a∈l,a.nodesN.2=true:=by
 induction l generalizing n ok with
 | nil=>simp[nodesN.nodesL]at h;exact⟨h,sS⟩
 | cons a r ih=>
  cases ok with
  | false=>rw[nodesL_no]at h;cases h
  | true=>
   simp only[nodesN.nodesL,if_true]at h;obtain⟨h1,h2⟩:=ih h;exact⟨rfl,by simpa using ⟨h1,h2⟩⟩
theorem Val.ok_all (v:Val)(h:v.nodesN.2=true):v.allPos/\v.two:=by
 induction v using Val.ind with
 | h v ih=>
 rw[nodesN_eq]at h;obtain⟨h1,h2⟩:=nodesL_ok h;rw[allPos_eq,two_eq];have Cn:v.pos/\(v.kind=3->v.args.length=2):=by
  unfold okB at h1;unfold pos;split at h1
  ·rename_i hk;simp at h1;simp[hk,h1]
  ·split at h1
   ·rename_i hk;simp at h1;simp[hk];obtain⟨⟨q1,q2⟩,q3⟩:=h1;rw[q1];exact⟨oO,fun n hn=>by have:=q2 n hn;omega⟩
   ·split at h1;· simp at h1;simp[h1]
    ·split at h1;· rename_i hk;simp at h1;simp[h1,hk]
     ·cases h1
 exact⟨⟨Cn.1,fun a ha=>(ih a ha (h2 a ha)).1⟩,Cn.2,fun a ha=>(ih a ha (h2 a ha)).2⟩
def AI:Tm:=Tm.mk 0 0 (Ty.mk 0 []) []
def Val.checkN (v:Val):Int:=if v.nodesN.2=true then if v.nodesN.1 > 64 then 4 else 0 else 2
def Val.flat (v:Val):Prop:=
 v.args=[]/\((v.kind=1/\0<=v.num/\v.num<=4/\v.list=[])\/(v.kind=2/\v.num=0/\v.list.length<=3/\∀x∈v.list,0<=x/\x<=3)\/(v.kind=4/\v.num=0/\v.list=[]))
def Val.good (v:Val):Prop:=v.flat\/∃a b,v=Val.mk 3 0 [] [a,b]/\a.flat/\b.flat
end
section
def AE:Ty:=Ty.mk 0 []
def Ty.arg (t:Ty)(i:Nat):Ty:=t.args.getD i AE
def Ty.ok (t:Ty):Prop:=t.shape=true/\t.count<=64
theorem Ty.checkN_iff (t:Ty):t.checkN=0↔t.ok:=by
 unfold Ty.checkN Ty.ok;split
 ·split;· rename_i h;simp;omega
  ·rename_i h;simp;constructor <;> first|assumption|omega
 ·rename_i h;simp[h]
def XQ (t:Ty):Ty × Int:=if t.checkN=0 then (t,0) else (AE,4)
theorem XR (t:Ty)(h:(XQ t).2=0):(XQ t).1.ok/\XQ t=(t,0):=by
 unfold XQ at h ⊢;split;· rename_i h2;exact⟨(Ty.checkN_iff t).1 h2,rfl⟩
 ·rename_i h2;rw[if_neg h2]at h;cases h
def CA (k:Int)(ty:Ty)(l:List Ty):Ty × Int:=
 if k=2 then XQ (Ty.mk 4 [ty,l.getD 0 AE])
 else if k=3 then if (l.getD 0 AE).kind=4/\((l.getD 0 AE).arg 0).same (l.getD 1 AE)=true then ((l.getD 0 AE).arg 1,0) else (AE,7)
 else if k=4 then (Ty.mk 1 [],0)
 else if k=5 then if (l.getD 0 AE).same (Ty.mk 1 [])=true then (Ty.mk 1 [],0) else (AE,7)
 else if k=6 then if (l.getD 0 AE).same ty=true/\(l.getD 1 AE).same (Ty.mk 4 [Ty.mk 1 [],Ty.mk 4 [ty,ty]])=true/\(l.getD 2 AE).same (Ty.mk 1 [])=true then (ty,0) else (AE,7)
 else if k=7 then (Ty.mk 2 [],0)
 else if k=8 then if (l.getD 0 AE).same (Ty.mk 1 [])=true/\(l.getD 1 AE).same (Ty.mk 2 [])=true then (Ty.mk 2 [],0) else (AE,7)
 else if k=9 then if (l.getD 0 AE).same ty=true/\(l.getD 1 AE).same (Ty.mk 4 [Ty.mk 1 [],Ty.mk 4 [Ty.mk 2 [],Ty.mk 4 [ty,ty]]])=true/\(l.getD 2 AE).same (Ty.mk 2 [])=true then (ty,0) else (AE,7)
 else if k=10 then XQ (Ty.mk 3 [l.getD 0 AE,l.getD 1 AE])
 else if k=11 then if (l.getD 0 AE).kind=3 then ((l.getD 0 AE).arg 0,0) else (AE,7)
 else if k=12 then if (l.getD 0 AE).kind=3 then ((l.getD 0 AE).arg 1,0) else (AE,7)
 else (Ty.mk 5 [],0)
namespace Tm
def inferN:Tm->List Ty->Ty × Int
 | .mk k i ty a,g=>
  if k=1 then if (g.length:Int)<=i then (AE,6) else (g.getD (g.length - 1 - i.toNat) AE,0)
  else if (infers a (if k=2 then g++[ty] else g)).2=0 then CA k ty (infers a (if k=2 then g++[ty] else g)).1
  else (AE,(infers a (if k=2 then g++[ty] else g)).2)
where
 infers:List Tm->List Ty->List Ty × Int
  | [],_=>([],0)
  | a::r,g=>if (a.inferN g).2=0 then if (infers r g).2=0 then ((a.inferN g).1::(infers r g).1,0) else ([],(infers r g).2) else ([],(a.inferN g).2)
theorem inferN_eq (t:Tm)(g:List Ty):t.inferN g =
  if t.kind=1 then if (g.length:Int)<=t.index then (AE,6) else (g.getD (g.length - 1 - t.index.toNat) AE,0)
  else if (inferN.infers t.args (if t.kind=2 then g++[t.type] else g)).2=0 then CA t.kind t.type (inferN.infers t.args (if t.kind=2 then g++[t.type] else g)).1
  else (AE,(inferN.infers t.args (if t.kind=2 then g++[t.type] else g)).2):=by
 cases t;rw[inferN];rfl
theorem infers_snoc (l:List Tm)(x:Tm)(g:List Ty)(h:(inferN.infers l g).2=0)(hx:(x.inferN g).2=0) :
  inferN.infers (l++[x]) g=((inferN.infers l g).1++[(x.inferN g).1],0):=by
 induction l with
 | nil=>simp[inferN.infers,hx]
 | cons a r ih=>
  simp only[inferN.infers]at h;by_cases ha:(a.inferN g).2=0
  ·by_cases hr:(inferN.infers r g).2=0;· simp[inferN.infers,ha,hr,ih hr]
   ·simp[ha,hr]at h
  ·simp[ha]at h
theorem infers_stop (l:List Tm)(x:Tm)(m:List Tm)(g:List Ty)(h:(inferN.infers l g).2=0)(hx:¬(x.inferN g).2=0) :
  inferN.infers (l++x::m) g=([],(x.inferN g).2):=by
 induction l with
 | nil=>simp[inferN.infers,hx]
 | cons a r ih=>
  simp only[inferN.infers]at h;by_cases ha:(a.inferN g).2=0
  ·by_cases hr:(inferN.infers r g).2=0;· simp[inferN.infers,ha,ih hr,hx]
   ·simp[ha,hr]at h
  ·simp[ha]at h
theorem infers_all (l:List Tm)(g:List Ty)(h:(inferN.infers l g).2=0) :
  (inferN.infers l g).1.length=l.length/\∀(i:Nat) (x:Tm),l[i]? = some x->(x.inferN g).2=0/\(inferN.infers l g).1[i]? = some (x.inferN g).1:=by
 induction l with
 | nil=>simp[inferN.infers]
 | cons a r ih=>
  simp only[inferN.infers]at h ⊢;by_cases ha:(a.inferN g).2=0
  ·by_cases hr:(inferN.infers r g).2=0
   ·simp only[ha,hr,if_true];obtain⟨h1,h2⟩:=ih hr;refine⟨by simp[h1],?_⟩;intro i x hx;cases i with
    | zero=>simp at hx;subst hx;exact⟨ha,sS⟩
    | succ i=>simp at hx;simpa using h2 i x hx
   ·simp[ha,hr]at h
  ·simp[ha]at h
end Tm
theorem Ty.ok_arg {t:Ty}(h:t.ok){a:Ty}(ha:a∈t.args):a.ok:=by
 obtain⟨h1,h2⟩:=h;rw[Ty.shape_eq,uH,Ty.shapes_iff]at h1;have:=Ty.count_mem ha;rw[Ty.count_eq]at h2;exact⟨h1.2 a ha,oO⟩
theorem Ty.ok_two {t:Ty}(h:t.ok)(hk:t.kind=3\/t.kind=4):t.args.length=2:=by
 obtain⟨h1,h2⟩:=h;rw[Ty.shape_eq,uH]at h1;rcases hk with hk|hk <;> simpa [HC,hk] using h1.1
theorem Ty.ok_args {t:Ty}(h:t.ok)(hk:t.kind=3\/t.kind=4):∃a b,t.args=[a,b]/\a.ok/\b.ok/\t.arg 0=a/\t.arg 1=b:=by
 have h2:=Ty.ok_two h hk
 match ha:t.args,h2 with
 | [a,b],_=>exact⟨a,b,rfl,Ty.ok_arg h (by rw[ha];simp),Ty.ok_arg h (by rw[ha];simp),by simp[Ty.arg,ha],by simp[Ty.arg,ha]⟩
theorem kE:(Ty.mk 1 []).ok:=⟨rfl,dD⟩
theorem aH:(Ty.mk 2 []).ok:=⟨rfl,dD⟩
theorem z02:(Ty.mk 5 []).ok:=⟨rfl,dD⟩
theorem Tm.shape_node {t:Tm}(h:t.shape=true):((t.args.length:Int)=AO t.kind)/\0<=t.index/\(t.kind=1\/t.index=0)/\(if t.kind=2\/t.kind=6\/t.kind=9 then t.type.ok else t.type.zero=true)/\∀a∈t.args,a.shape=true:=by
 rw[Tm.shape_eq,uH,Tm.shapes_iff]at h;obtain⟨h1,h2⟩:=h;simp only[IN,uH,Bool.or_eq_true,decide_eq_true_eq,C6]at h1;refine⟨h1.1.1.1,h1.1.1.2,h1.1.2,?_,h2⟩;by_cases hk:t.kind=2\/t.kind=6\/t.kind=9;· rw[if_pos hk]at h1 ⊢;exact (Ty.checkN_iff _).1 (by simpa using h1.2)
 ·rw[if_neg hk]at h1 ⊢;exact h1.2
theorem Tm.inferN_ok (t:Tm)(g:List Ty)(ht:t.shape=true)(hg:∀x∈g,x.ok)(h:(t.inferN g).2=0):(t.inferN g).1.ok:=by
 induction t using Tm.ind generalizing g with
 | h t ih=>
 obtain⟨ha,hi,hv,Al,hs⟩:=Tm.shape_node ht;rw[inferN_eq]at h ⊢;by_cases h1:t.kind=1
 ·rw[if_pos h1]at h ⊢;by_cases h2:(g.length:Int)<=t.index;· rw[if_pos h2]at h;cases h
  ·rw[if_neg h2];have:g.length - 1 - t.index.toNat<g.length:=oO;simp only[List.getD_eq_getElem?_getD,uB this,Option.getD_some];exact hg _ (List.getElem_mem _)
 ·rw[if_neg h1]at h ⊢;generalize Uk:(if t.kind=2 then g++[t.type] else g)=g' at h ⊢;have Fs:∀x∈g',x.ok:=by
   subst Uk;split
   ·rename_i h2;intro x hx;rcases List.mem_append.1 hx with hx|hx;· exact hg x hx
    ·rw[List.mem_singleton.1 hx];rwa [if_pos (.inl h2)]at Al
   ·exact hg
  by_cases h2:(inferN.infers t.args g').2=0
  ·rw[if_pos h2]at h ⊢;obtain⟨hl,hx⟩:=infers_all _ _ h2;have key:∀i:Nat,i<t.args.length->((inferN.infers t.args g').1.getD i AE).ok:=by
    intro i hi;obtain⟨x1,x2⟩:=hx i t.args[i] (uB hi);rw[List.getD_eq_getElem?_getD,x2,Option.getD_some];exact ih _ (List.getElem_mem _) g' (hs _ (List.getElem_mem _)) Fs x1
   generalize (inferN.infers t.args g').1=l at h key ⊢;unfold CA at h ⊢;by_cases hk:t.kind=2
   ·rw[if_pos hk]at h ⊢;exact (XR _ h).1
   rw[if_neg hk]at h ⊢;by_cases hk:t.kind=3
   ·rw[if_pos hk]at h ⊢;by_cases hx:(l.getD 0 AE).kind=4/\((l.getD 0 AE).arg 0).same (l.getD 1 AE)=true
    ·rw[if_pos hx]at h ⊢;obtain⟨a,b,e,oa,ob,e0,e1⟩:=Ty.ok_args (key 0 (by rw[hk]at ha;simp[AO]at ha;omega)) (.inr hx.1);rw[e1];exact ob
    ·rw[if_neg hx]at h;cases h
   rw[if_neg hk]at h ⊢;by_cases hk:t.kind=4
   ·rw[if_pos hk]at h ⊢;exact kE
   rw[if_neg hk]at h ⊢;by_cases hk:t.kind=5
   ·rw[if_pos hk]at h ⊢;by_cases hx:(l.getD 0 AE).same (Ty.mk 1 [])=true
    ·rw[if_pos hx]at h ⊢;exact kE
    ·rw[if_neg hx]at h;cases h
   rw[if_neg hk]at h ⊢;by_cases hk:t.kind=6
   ·rw[if_pos hk]at h ⊢;by_cases hx:(l.getD 0 AE).same t.type=true/\(l.getD 1 AE).same (Ty.mk 4 [Ty.mk 1 [],Ty.mk 4 [t.type,t.type]])=true/\(l.getD 2 AE).same (Ty.mk 1 [])=true
    ·rw[if_pos hx]at h ⊢
     rwa [if_pos (.inr (.inl hk))]at Al
    ·rw[if_neg hx]at h;cases h
   rw[if_neg hk]at h ⊢;by_cases hk:t.kind=7
   ·rw[if_pos hk]at h ⊢;exact aH
   rw[if_neg hk]at h ⊢;by_cases hk:t.kind=8
   ·rw[if_pos hk]at h ⊢;by_cases hx:(l.getD 0 AE).same (Ty.mk 1 [])=true/\(l.getD 1 AE).same (Ty.mk 2 [])=true
    ·rw[if_pos hx]at h ⊢;exact aH
    ·rw[if_neg hx]at h;cases h
   rw[if_neg hk]at h ⊢;by_cases hk:t.kind=9
   ·rw[if_pos hk]at h ⊢;by_cases hx:(l.getD 0 AE).same t.type=true/\(l.getD 1 AE).same (Ty.mk 4 [Ty.mk 1 [],Ty.mk 4 [Ty.mk 2 [],Ty.mk 4 [t.type,t.type]]])=true/\(l.getD 2 AE).same (Ty.mk 2 [])=true
    ·rw[if_pos hx]at h ⊢
     rwa [if_pos (.inr (.inr hk))]at Al
    ·rw[if_neg hx]at h;cases h
   rw[if_neg hk]at h ⊢;by_cases hk:t.kind=10
   ·rw[if_pos hk]at h ⊢;exact (XR _ h).1
   rw[if_neg hk]at h ⊢;by_cases hk:t.kind=11
   ·rw[if_pos hk]at h ⊢;by_cases hx:(l.getD 0 AE).kind=3
    ·rw[if_pos hx]at h ⊢;obtain⟨a,b,e,oa,ob,e0,e1⟩:=Ty.ok_args (key 0 (by rw[hk]at ha;simp[AO]at ha;omega)) (.inl hx);rw[e0];exact oa
    ·rw[if_neg hx]at h;cases h
   rw[if_neg hk]at h ⊢;by_cases hk:t.kind=12
   ·rw[if_pos hk]at h ⊢;by_cases hx:(l.getD 0 AE).kind=3
    ·rw[if_pos hx]at h ⊢;obtain⟨a,b,e,oa,ob,e0,e1⟩:=Ty.ok_args (key 0 (by rw[hk]at ha;simp[AO]at ha;omega)) (.inl hx);rw[e1];exact ob
    ·rw[if_neg hx]at h;cases h
   rw[if_neg hk]at h ⊢;exact z02
  ·rw[if_neg h2]at h;exact absurd h h2
end
section
variable {gl:AB}
theorem wM (v:Val)(ht:v.two):cT gl 144 [v.dv] [] v.tyN.dv []:=by
 induction v using Val.ind with
 | h v ih=>
 obtain⟨Tw,Ln⟩:=(Val.two_eq v).1 ht;refine A6 Tryz.func144 ?_;intro X hP u6 hf u8 hn hR u5 u4;by_cases h2:v.kind=2
 ·have hr:v.tyN=Ty.mk 2 []:=by rw[Val.tyN_eq];simp[h2]
  refine A7 @h2 ?_;refine A3 @h2 zes ?_;exact AT @hr
 by_cases h4:v.kind=4
 ·have hr:v.tyN=Ty.mk 5 []:=by rw[Val.tyN_eq];simp[h4]
  refine A7 @h4 ?_;exact AT @hr
 by_cases h3:v.kind=3
 ·have Vb:=Tw h3
  match u9:v.args,Vb with
  | [x,y],_=>
  have hx:x∈v.args:=by rw[u9];simp
  have hy:y∈v.args:=by rw[u9];simp
  have hr:v.tyN=Ty.mk 3 [x.tyN,y.tyN]:=by rw[Val.tyN_eq];simp[h3,u9]
  refine A7 @h3 ?_;refine BL (j2 @h3 @u9) (ih x hx (Ln x hx)) (ih y hy (Ln y hy)) ?_;exact AT @hr
 have hr:v.tyN=Ty.mk 1 []:=by rw[Val.tyN_eq];simp[h2,h3,h4]
 refine A7 (j3 @h2 @h3 @h4) ?_;refine A3 @h2 V1 ?_;exact AT @hr
def Val.typeE (v:Val):Ty × Int:=if v.checkN≠0 then (AE,v.checkN) else (v.tyN,0)
theorem z9i (v:Val)(hc:v.count<=1048576):cT gl 92 [v.dv] [] (.tup [v.typeE.1.dv,A0 v.typeE.2]) []:=by
 refine A6 Tryz.func92 ?_;intro X hP u6 hf u8 hn hR u5 u4;refine A2 ?_;have Zz:(if v.nodesN.2=true then if v.nodesN.1 > 64 then 4 else 0 else 2)=v.checkN:=rfl;have Hv:=WG (gl:=gl) v oO;rw[Zz]at Hv;refine A3 tT Hv ?_;by_cases h:v.checkN=0
 ·have Ee:v.nodesN.2=true:=by
   unfold Val.checkN at h;split at h
   ·assumption
   ·cases h
  obtain⟨ha,ht⟩:=v.ok_all Ee;refine A7 @h ?_;refine A3 tT (wM v ht) ?_;exact AT (j2 @Val.typeE.eq_1 @h)
 ·refine A7 @h ?_;exact AT (j3 @Val.typeE.eq_1 @h @AE.eq_1)
end
end Go.Proofs.YtkfiobkjflmchaaGreatDoor.Lift
