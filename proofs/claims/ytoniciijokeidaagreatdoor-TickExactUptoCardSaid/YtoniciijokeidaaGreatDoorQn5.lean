import Derived.Test.YtoniciijokeidaaGreatDoorQn4
import Derived.Test.YtoniciijokeidaaGreatDoorProg
set_option maxHeartbeats 8000000
set_option maxRecDepth 100000
set_option linter.unusedSimpArgs false
set_option linter.unusedVariables false
set_option linter.unnecessarySimpa false
namespace Go.Proofs.YtoniciijokeidaaGreatDoor.Lift
open Go
section
theorem AZ:Tryz.prog.follows .mixedOrders=true:=kK
theorem zs7:E9 Tryz.prog 3=some (false,1):=kK
theorem zs8:ZL Tryz.prog 3=some (.int .i64 (0)):=kK
theorem zs9:RE Tryz.prog 3=true:=kK
theorem zsa:E9 Tryz.prog 4=some (false,1):=kK
theorem zsb:DK Tryz.prog 4=some [.v (.prim (.bool false))]:=kK
theorem zp7:E9 Tryz.prog 22=some (false,1):=kK
theorem zp8:DB Tryz.prog 22=some 1:=kK
theorem zp9:DW Tryz.prog 22=some (1,8):=kK
theorem zpa:E9 Tryz.prog 23=some (false,1):=kK
theorem zpb:DB Tryz.prog 23=some 2:=kK
theorem zpc:DW Tryz.prog 23=some (2,32):=kK
theorem zpd:E9 Tryz.prog 25=some (true,2):=kK
theorem zpe:DK Tryz.prog 25=some [.v (.prim (.int .i64 (0))),.own 0 []]:=kK
theorem zpf:CU Tryz.prog 25=some [(0,1),(1,1)]:=kK
theorem zfp:BG Tryz.prog 25 0=some (false,0,1):=kK
theorem zfq:BG Tryz.prog 25 1=some (false,1,1):=kK
theorem zpg:E9 Tryz.prog 26=some (false,1):=kK
theorem zph:DB Tryz.prog 26=some 5:=kK
theorem zpi:DW Tryz.prog 26=some (5,72):=kK
theorem zpj:E9 Tryz.prog 28=some (true,5):=kK
theorem zpk:DK Tryz.prog 28=some [.v (.prim (.int .i64 (0))),.v (.prim (.int .i64 (0))),.v (.prim (.int .i64 (0))),.own 0 [],.own 0 []]:=kK
theorem zpl:CU Tryz.prog 28=some [(0,1),(1,1),(2,2),(4,1)]:=kK
theorem zfr:BG Tryz.prog 28 0=some (false,0,1):=kK
theorem zfs:BG Tryz.prog 28 1=some (false,1,1):=kK
theorem zft:BG Tryz.prog 28 2=some (true,2,2):=kK
theorem zfu:BG Tryz.prog 28 3=some (false,4,1):=kK
theorem zpm:E9 Tryz.prog 32=some (true,1):=kK
theorem zpn:DK Tryz.prog 32=some [.v (.prim (.int .i64 (0)))]:=kK
theorem zpo:CU Tryz.prog 32=some [(0,1)]:=kK
theorem zfv:BG Tryz.prog 32 0=some (false,0,1):=kK
theorem zpp:E9 Tryz.prog 40=some (false,1):=kK
theorem zpq:DK Tryz.prog 40=some [.v (.prim (.int .i64 (0)))]:=kK
theorem zpr:DB Tryz.prog 47=some 1:=kK
theorem zps:DW Tryz.prog 47=some (1,24):=kK
theorem zpt:E9 Tryz.prog 51=some (false,1):=kK
theorem zpu:DB Tryz.prog 51=some 4:=kK
theorem zpv:DW Tryz.prog 51=some (4,64):=kK
theorem zpw:E9 Tryz.prog 53=some (true,4):=kK
theorem zpx:DK Tryz.prog 53=some [.v (.prim (.int .i64 (0))),.v (.prim (.int .i64 (0))),.own 0 [],.own 0 []]:=kK
theorem zpy:CU Tryz.prog 53=some [(0,1),(1,1),(2,1),(3,1)]:=kK
theorem zfw:BG Tryz.prog 53 0=some (false,0,1):=kK
theorem zfx:BG Tryz.prog 53 1=some (false,1,1):=kK
theorem zfy:BG Tryz.prog 53 2=some (false,2,1):=kK
theorem zfz:BG Tryz.prog 53 3=some (false,3,1):=kK
theorem zpz:DK Tryz.prog 64=some [.own 0 [],.v (.prim (.int .i64 (0)))]:=kK
theorem zq0:CU Tryz.prog 64=some [(0,1),(1,1)]:=kK
theorem zg0:BG Tryz.prog 64 0=some (false,0,1):=kK
theorem zg1:BG Tryz.prog 64 1=some (false,1,1):=kK
theorem zq1:DK Tryz.prog 80=some [.v (.prim (.int .i64 (0)))]:=kK
theorem zq2:CU Tryz.prog 80=some [(0,1)]:=kK
theorem zg2:BG Tryz.prog 80 0=some (false,0,1):=kK
theorem zq3:E9 Tryz.prog 83=some (false,1):=kK
theorem zq4:DK Tryz.prog 86=some [.own 0 [],.own 0 [],.v (.prim (.int .i64 (0)))]:=kK
theorem zq5:CU Tryz.prog 86=some [(0,1),(1,1),(2,1)]:=kK
theorem zg3:BG Tryz.prog 86 2=some (false,2,1):=kK
theorem zq6:DK Tryz.prog 88=some [.v (.prim (.pointer none))]:=kK
theorem zq7:CU Tryz.prog 88=some [(0,1)]:=kK
theorem zg4:BG Tryz.prog 88 0=some (false,0,1):=kK
theorem zq8:DK Tryz.prog 97=some [.v (.prim (.int .i64 (0)))]:=kK
theorem zq9:CU Tryz.prog 97=some [(0,1)]:=kK
theorem zg5:BG Tryz.prog 97 0=some (false,0,1):=kK
theorem zqa:E9 Tryz.prog 98=some (false,1):=kK
theorem zkn:DK Tryz.prog 102=some [.v (.prim (.int .i64 (0)))]:=kK
theorem zko:CU Tryz.prog 102=some [(0,1)]:=kK
theorem z8g:BG Tryz.prog 102 0=some (false,0,1):=kK
theorem zkp:E9 Tryz.prog 103=some (false,1):=kK
theorem zkq:DB Tryz.prog 103=some 11:=kK
theorem zkr:DW Tryz.prog 103=some (11,184):=kK
theorem zks:E9 Tryz.prog 105=some (true,11):=kK
theorem zkt:DK Tryz.prog 105=some [.v (.prim (.int .i64 (0))),.v (.prim (.int .i64 (0))),.own 0 [],.own 0 [],.own 0 [],.v (.prim (.int .i64 (0))),.v (.prim (.int .i64 (0))),.v (.prim (.int .i64 (0))),.own 0 [],.own 0 [],.own 0 []]:=kK
theorem zku:CU Tryz.prog 105=some [(0,4),(4,1),(5,5),(10,1)]:=kK
theorem z8h:BG Tryz.prog 105 0=some (true,0,4):=kK
theorem z8i:BG Tryz.prog 105 1=some (false,4,1):=kK
theorem z8j:BG Tryz.prog 105 2=some (true,5,5):=kK
theorem z8k:BG Tryz.prog 105 3=some (false,10,1):=kK
theorem zkv:E9 Tryz.prog 118=some (true,3):=kK
theorem zkw:DK Tryz.prog 118=some [.v (.prim (.int .i64 (0))),.own 0 [],.v (.prim (.int .i64 (0)))]:=kK
theorem zkx:CU Tryz.prog 118=some [(0,2),(2,1)]:=kK
theorem z8l:BG Tryz.prog 118 0=some (true,0,2):=kK
theorem z8m:BG Tryz.prog 118 1=some (false,2,1):=kK
theorem zky:DB Tryz.prog 121=some 3:=kK
theorem zkz:DW Tryz.prog 121=some (3,40):=kK
theorem zl0:E9 Tryz.prog 140=some (false,1):=kK
theorem zl1:E9 Tryz.prog 141=some (false,1):=kK
theorem zl2:E9 Tryz.prog 142=some (false,1):=kK
theorem zl3:eB Tryz.prog 142=true:=kK
theorem zl4:DK Tryz.prog 143=some [.v (.prim (.pointer none)),.v (.prim (.pointer none))]:=kK
theorem zl5:DB Tryz.prog 143=none:=kK
theorem zl6:kQ Tryz.prog 143=some (2,1):=kK
theorem zl7:CU Tryz.prog 143=some [(0,1),(1,1)]:=kK
theorem zl8:DK Tryz.prog 145=some [.v (.prim (.int .i64 (0))),.v (.prim (.pointer none)),.v (.prim (.pointer none)),.v (.prim (.pointer none)),.v (.prim (.pointer none)),.v (.prim (.pointer none))]:=kK
theorem zl9:CU Tryz.prog 145=some [(0,1),(1,1),(2,2),(4,1),(5,1)]:=kK
theorem z8n:BG Tryz.prog 145 0=some (false,0,1):=kK
theorem z8o:BG Tryz.prog 145 1=some (false,1,1):=kK
theorem z8p:BG Tryz.prog 145 2=some (true,2,2):=kK
theorem z8q:BG Tryz.prog 145 3=some (false,4,1):=kK
theorem z8r:BG Tryz.prog 145 4=some (false,5,1):=kK
theorem zla:DK Tryz.prog 147=some [.v (.prim (.pointer none)),.v (.prim (.pointer none))]:=kK
theorem zlb:CU Tryz.prog 147=some [(0,1),(1,1)]:=kK
theorem z8s:BG Tryz.prog 147 0=some (false,0,1):=kK
theorem z8t:BG Tryz.prog 147 1=some (false,1,1):=kK
theorem zlc:DB Tryz.prog 148=some 1:=kK
theorem zld:DW Tryz.prog 148=some (1,8):=kK
theorem zle:DK Tryz.prog 151=some [.v (.prim (.int .i64 (0))),.v (.prim (.pointer none))]:=kK
theorem zlf:CU Tryz.prog 151=some [(0,1),(1,1)]:=kK
theorem z8u:BG Tryz.prog 151 0=some (false,0,1):=kK
theorem z8v:BG Tryz.prog 151 1=some (false,1,1):=kK
theorem zlg:DB Tryz.prog 152=some 1:=kK
theorem zlh:DW Tryz.prog 152=some (1,8):=kK
theorem zli:E9 Tryz.prog 160=some (true,9):=kK
theorem zlj:DK Tryz.prog 160=some [.v (.prim (.int .i64 (0))),.own 0 [],.v (.prim (.int .i64 (0))),.v (.prim (.int .i64 (0))),.own 0 [],.v (.prim (.int .i64 (0))),.v (.prim (.int .i64 (0))),.own 0 [],.v (.prim (.int .i64 (0)))]:=kK
theorem zlk:DB Tryz.prog 160=none:=kK
theorem zll:kQ Tryz.prog 160=some (3,3):=kK
theorem zlm:DB Tryz.prog 169=some 1:=kK
theorem zln:DW Tryz.prog 169=some (1,16):=kK
theorem zlo:E9 Tryz.prog 171=some (false,1):=kK
theorem zlp:DK Tryz.prog 171=some [.v (.prim .nilIface)]:=kK
theorem zlq:E9 Tryz.prog 173=some (false,1):=kK
theorem zlr:DK Tryz.prog 175=some [.v (.prim (.int .i64 (0))),.v (.prim (.int .i64 (0)))]:=kK
theorem zls:CU Tryz.prog 175=some [(0,1),(1,1)]:=kK
theorem z8w:BG Tryz.prog 175 0=some (false,0,1):=kK
theorem z8x:BG Tryz.prog 175 1=some (false,1,1):=kK
theorem zlt:DK Tryz.prog 182=some [.v (.prim (.int .i64 (0))),.v (.prim (.int .i64 (0))),.v (.prim (.bool false))]:=kK
theorem zlu:CU Tryz.prog 182=some [(0,1),(1,1),(2,1)]:=kK
theorem z8y:BG Tryz.prog 182 0=some (false,0,1):=kK
theorem z8z:BG Tryz.prog 182 1=some (false,1,1):=kK
theorem z90:BG Tryz.prog 182 2=some (false,2,1):=kK
theorem zlv:E9 Tryz.prog 183=some (false,1):=kK
theorem zlw:DB Tryz.prog 183=some 9:=kK
theorem zlx:DW Tryz.prog 183=some (9,152):=kK
theorem zly:E9 Tryz.prog 185=some (true,9):=kK
theorem zlz:DK Tryz.prog 185=some [.v (.prim (.int .i64 (0))),.own 0 [],.own 0 [],.v (.prim (.int .i64 (0))),.v (.prim (.int .i64 (0))),.v (.prim (.int .i64 (0))),.own 0 [],.own 0 [],.own 0 []]:=kK
theorem zm0:CU Tryz.prog 185=some [(0,1),(1,1),(2,1),(3,5),(8,1)]:=kK
theorem z91:BG Tryz.prog 185 0=some (false,0,1):=kK
theorem z92:BG Tryz.prog 185 1=some (false,1,1):=kK
theorem z93:BG Tryz.prog 185 2=some (false,2,1):=kK
theorem z94:BG Tryz.prog 185 3=some (true,3,5):=kK
theorem z95:BG Tryz.prog 185 4=some (false,8,1):=kK
theorem zm1:E9 Tryz.prog 199=some (false,1):=kK
theorem zm2:DK Tryz.prog 199=some [.v (.prim (.pointer none))]:=kK
theorem zm3:eB Tryz.prog 199=true:=kK
theorem zm4:ZL Tryz.prog 199=some (.pointer none):=kK
theorem zm5:RE Tryz.prog 199=true:=kK
theorem zm6:DK Tryz.prog 204=some [.v (.prim (.int .i64 (0))),.v (.prim (.pointer none))]:=kK
theorem zm7:CU Tryz.prog 204=some [(0,1),(1,1)]:=kK
theorem z96:BG Tryz.prog 204 0=some (false,0,1):=kK
theorem z97:BG Tryz.prog 204 1=some (false,1,1):=kK
theorem zm8:ZL Tryz.prog 205=some (.pointer none):=kK
theorem zm9:RE Tryz.prog 205=true:=kK
theorem zma:DK Tryz.prog 207=some [.v (.prim .nilIface),.v (.prim .nilIface)]:=kK
theorem zmb:CU Tryz.prog 207=some [(0,1),(1,1)]:=kK
theorem z98:BG Tryz.prog 207 0=some (false,0,1):=kK
theorem z99:BG Tryz.prog 207 1=some (false,1,1):=kK
theorem zmc:DK Tryz.prog 209=some []:=kK
theorem zmd:CU Tryz.prog 209=some []:=kK
theorem zme:RE Tryz.prog 209=true:=kK
theorem zmf:E9 Tryz.prog 210=some (false,1):=kK
theorem zmg:ZL Tryz.prog 212=some (.pointer none):=kK
theorem zmh:RE Tryz.prog 212=true:=kK
theorem zmi:DK Tryz.prog 214=some [.v (.prim (.int .i64 (0))),.v (.prim (.int .i64 (0))),.v (.prim (.int .i64 (0))),.own 0 [],.own 0 [],.v (.prim (.pointer none))]:=kK
theorem zmj:CU Tryz.prog 214=some [(0,5),(5,1)]:=kK
theorem z9a:BG Tryz.prog 214 0=some (true,0,5):=kK
theorem z9b:BG Tryz.prog 214 1=some (false,5,1):=kK
theorem zmk:E9 Tryz.prog 215=some (true,3):=kK
theorem zml:DK Tryz.prog 215=some [.v (.prim .nilIface),.v (.prim .nilIface),.v (.prim .nilIface)]:=kK
theorem zmm:DB Tryz.prog 215=none:=kK
theorem zmn:kQ Tryz.prog 215=some (3,1):=kK
theorem zmo:DK Tryz.prog 220=some [.v (.prim .nilIface),.v (.prim (.pointer none))]:=kK
theorem zmp:CU Tryz.prog 220=some [(0,1),(1,1)]:=kK
theorem z9c:BG Tryz.prog 220 0=some (false,0,1):=kK
theorem z9d:BG Tryz.prog 220 1=some (false,1,1):=kK
theorem zmq:E9 Tryz.prog 227=some (false,1):=kK
theorem zmr:DB Tryz.prog 227=some 1:=kK
theorem zms:DW Tryz.prog 227=some (1,8):=kK
theorem zmt:DB Tryz.prog 233=none:=kK
theorem zmu:kQ Tryz.prog 233=some (14,1):=kK
attribute [go_sem] zs7 zs8 zs9 zsa zsb zp7 zp8 zp9 zpa zpb zpc zpd zpe zpf zfp zfq zpg zph zpi zpj zpk zpl zfr zfs zft zfu zpm zpn zpo zfv zpp zpq zpr zps zpt zpu zpv zpw zpx zpy zfw zfx zfy zfz zpz zq0 zg0 zg1 zq1 zq2 zg2 zq3 zq4 zq5 zg3 zq6 zq7 zg4 zq8 zq9 zg5 zqa zkn zko z8g zkp zkq zkr zks zkt zku z8h z8i z8j z8k zkv zkw zkx z8l z8m zky zkz zl0 zl1 zl2 zl3 zl4 zl5 zl6 zl7 zl8 zl9 z8n z8o z8p z8q z8r zla zlb z8s z8t zlc zld zle zlf z8u z8v zlg zlh zli zlj zlk zll zlm zln zlo zlp zlq zlr zls z8w z8x zlt zlu z8y z8z z90 zlv zlw zlx zly zlz zm0 z91 z92 z93 z94 z95 zm1 zm2 zm3 zm4 zm5 zm6 zm7 z96 z97 zm8 zm9 zma zmb z98 z99 zmc zmd zme zmf zmg zmh zmi zmj z9a z9b zmk zml zmm zmn zmo zmp z9c z9d zmq zmr zms zmt zmu
end
section
variable {gl:AF}
abbrev cT (gl:AF):=U8 Tryz.prog gl
theorem EH (t:Ty):cT gl 64 [t.dv] [] t.dv []:=by
 induction t using Ty.ind with
 | h t ih=>
 refine A8 Tryz.func64 ?_;intro X hP u7 hf u9 hn hR u6 u5;have htf:t.fit:=(Ty.dv_fit t).1 (u5 _ sS);have hlen:t.args.length<=2147483648:=((Ty.fit_eq t).1 htf).2.1;refine A2 ?_;refine A2 ?_;refine A2 ?_;refine BK ?_
 refine GH [(1003,0)] ?_ ?_ ?_ (FE t.args (fun done rest=>[(.slot 2,.one (.loc 2 0)),(.loc 2,.row [.v (A0 0),.own 0 []]),(.slot 1,.one (.loc 1 0)),(.loc 1,.row [.v (A0 t.kind),.v (.sl (t.args.map Ty.cells))]),
   (.slot 3,.one (.own 1003 (done.map Ty.cells))),(.tok 1003,.tk 2 done.length),(.slot 7,.one (.v (.sl (t.args.map Ty.cells)))),(.slot 8,.one (.v (A0 t.args.length))),(.slot 9,.one (.v (A0 done.length)))]) ?_ ?_)
 ·simp[go_sem]
 ·simp[go_sem]
 ·simp[go_sem]
 ·intro done x rest hL hg Aa;have Ag:done.length<t.args.length:=by rw[hL];simp
  refine A2 ?_;refine AE ?_;refine AX @hg ?_;refine BK ?_;first|refine AQ [] fun K hK=>?_|refine AL (by rw[hP];exact AZ) [] fun K hK=>?_
  refine KI ?_;refine FF tT (ih x (uE hg)) ?_;refine F1 ?_;clear hK K;refine A2 ?_;refine K0 ?_;refine AC [(1003,17)] tT Aa
 ·refine A2 ?_;refine B6 ?_;refine A2 ?_;exact BR
theorem BB (a b:Ty):cT gl 15 [a.dv,b.dv] [] (AK (a.same b)) []:=by
 induction a using Ty.ind generalizing b with
 | h a ih=>
 refine A8 Tryz.func15 ?_;intro X hP u7 hf u9 hn hR u6 u5;have Cy:a.fit:=(Ty.dv_fit a).1 (u5 _ sS);have Ky:b.fit:=(Ty.dv_fit b).1 (u5 _ sS);have Og:a.args.length<=2147483648:=((Ty.fit_eq a).1 Cy).2.1;have Bc:b.args.length<=2147483648:=((Ty.fit_eq b).1 Ky).2.1;refine A2 ?_;by_cases hk:a.kind=b.kind
 ·refine AX @hk ?_;by_cases hl:a.args.length=b.args.length
  ·refine BK ?_;refine BN rfl ?_ ?_;· intro h;simp[hl]at h
   intro _;refine A2 ?_;refine BK ?_
   refine GH [] ?_ ?_ ?_ (FD a.args.length (fun i=>∀(j:Nat) (x y:Ty),j<i->a.args[j]? = some x->b.args[j]? = some y->x.same y=true)
    (fun i=>[(.slot 2,.one (.loc 2 0)),(.loc 2,.row [.v (A0 a.kind),.v (.sl (a.args.map Ty.cells))]),(.slot 3,.one (.loc 3 0)),(.loc 3,.row [.v (A0 b.kind),.v (.sl (b.args.map Ty.cells))]),(.slot 22,.one (.v (A0 a.args.length))),(.slot 23,.one (.v (A0 i)))]) (by intro j x y h;omega) ?_ ?_)
   ·simp[go_sem]
   ·simp[go_sem,hk,hl]
   ·simp[go_sem]
   ·intro i hi hI Aa;obtain⟨x,hx⟩:∃x,a.args[i]? = some x:=⟨_,uB hi⟩;obtain⟨y,hy⟩:∃y,b.args[i]? = some y:=⟨_,uB oO⟩;refine A2 ?_;refine AE ?_;refine A2 ?_;refine BK ?_;first|refine AQ [] fun K hK=>?_|refine AL (by rw[hP];exact AZ) [] fun K hK=>?_
    refine QY (j2 @hx @hy) ?_;refine FF tT (ih x (uE hx) y) ?_;refine F1 ?_;clear hK K;by_cases hs:x.same y=true
    ·refine BK ?_;refine BN rfl ?_ ?_;· intro h;simp[hs]at h
     intro _;refine A2 ?_;refine K0 ?_;refine AC [] tT (Aa ?_);intro j x' y' hj Cp Dm;by_cases Ng:j=i;· subst Ng;rw[hx]at Cp;rw[hy]at Dm;cases Cp;cases Dm;exact hs
     ·exact hI j x' y' oO Cp Dm
    ·refine BK ?_;refine BN rfl ?_ ?_;rotate_left;· intro h;simp[hs]at h
     intro _;refine A2 ?_;refine IL ?_;simp[go_sem,hP,u7,hn] <;> (try omega);refine Bool.eq_false_iff.2 ?_;intro h;rw[Ty.same_eq,uH,Ty.sames_iff]at h;exact hs (h.2.2 i x y hx hy)
   ·intro hI;refine A2 ?_;refine B6 ?_;refine A2 ?_;refine IL ?_;simp[go_sem,hP,u7,hn] <;> (try omega);rw[Ty.same_eq,uH,Ty.sames_iff];exact⟨by simp[hk],hl,fun i x y hx hy=>hI i x y (uA hx).1 hx hy⟩
  ·refine BK ?_;refine BN rfl ?_ ?_;rotate_left;· intro h;simp at h;omega
   intro _;refine A2 ?_;refine IL ?_;simp[go_sem,hP,u7,hn] <;> (try omega);refine Bool.eq_false_iff.2 ?_;intro h;rw[Ty.same_eq,uH,Ty.sames_iff]at h;exact hl h.2.1
 ·refine AX @hk ?_;refine BK ?_;refine BN rfl ?_ ?_;rotate_left;· intro h;simp at h
  intro _;refine A2 ?_;refine IL ?_;simp[go_sem,hP,u7,hn] <;> (try omega);simp[Ty.same_eq,hk]
theorem BM:cT gl 30 [] [] (Ty.mk 1 []).dv []:=by
 refine A8 Tryz.func30 ?_;intro X hP u7 hf u9 hn hR u6 u5;refine A2 ?_;refine A2 ?_;exact B9
theorem EI:cT gl 31 [] [] (Ty.mk 2 []).dv []:=by
 refine A8 Tryz.func31 ?_;intro X hP u7 hf u9 hn hR u6 u5;refine A2 ?_;refine A2 ?_;exact B9
theorem IT:cT gl 32 [] [] (Ty.mk 5 []).dv []:=by
 refine A8 Tryz.func32 ?_;intro X hP u7 hf u9 hn hR u6 u5;refine A2 ?_;refine A2 ?_;exact B9
theorem K6 (a b:Ty):cT gl 33 [a.dv,b.dv] [] (Ty.mk 3 [a,b]).dv []:=by
 refine A8 Tryz.func33 ?_;intro X hP u7 hf u9 hn hR u6 u5;refine A2 ?_;refine BK ?_;first|refine AQ [] fun K hK=>?_|refine AL (by rw[hP];exact AZ) [] fun K hK=>?_
 refine KI ?_;refine FF tT (EH a) ?_;refine FF tT (EH b) ?_;refine F1 ?_;clear hK K;exact B9
theorem Tm.fit_len {t:Tm}(h:t.dv.fit):t.args.length<=2147483648:=((Tm.fit_eq t).1 ((Tm.dv_fit t).1 h)).2.2.2.1
theorem K7 {l:List (List DV)}(h:DV.fit (.sl l)):l.length<=2147483648:=by simp[DV.fit,HL]at h;exact h.1
theorem eK (t:Tm):cT gl 71 [t.dv] [] t.dv []:=by
 induction t using Tm.ind with
 | h t ih=>
 refine A8 Tryz.func71 ?_;intro X hP u7 hf u9 hn hR u6 u5;have hlen:=Tm.fit_len (u5 t.dv sS);refine A2 ?_;refine A2 ?_;refine A2 ?_;refine BK ?_;refine AC [(1003,0)] tT (FE (t.args) (fun done rest=>[sV 9 (A0 done.length),sV 8 (A0 t.args.length),sV 7 (.sl (t.args.map Tm.cells)),(.slot 3,.one (.own 1003 (done.map Tm.cells))),(.tok 1003,.tk 5 done.length),sL 2 [.v (A0 0),.v (A0 0),.v (A0 0),.own 0 [],.own 0 []],sP 2,sL 1 [.v (A0 t.kind),.v (A0 t.index),.v (A0 t.type.kind),.v (.sl (t.type.args.map Ty.cells)),.v (.sl (t.args.map Tm.cells))],sP 1]) ?_ ?_)
 ·intro done x rest hL hg Aa;have Ag:done.length<t.args.length:=by rw[hL];simp
  refine A2 ?_;refine AE ?_;refine AX @hg ?_;refine BK ?_;first|refine AQ [] fun K hK=>?_|refine AL (by rw[hP];exact AZ) [] fun K hK=>?_
  refine KI ?_;refine FF tT (ih x (uE hg)) ?_;refine F1 ?_;clear hK K;refine A2 ?_;refine K0 ?_;refine AC [(1003,17)] tT Aa
 ·refine A2 ?_;refine B6 ?_;refine BK ?_;first|refine AQ [] fun K hK=>?_|refine AL (by rw[hP];exact AZ) [] fun K hK=>?_
  refine KI ?_;refine FF tT (EH t.type) ?_;refine F1 ?_;clear hK K;exact BR
def Tm.count:Tm->Nat
 | .mk _ _ _ l=>1+counts l
where
 counts:List Tm->Nat
  | []=>0
  | a::r=>a.count+counts r
theorem Tm.count_eq (t:Tm):t.count=1+Tm.count.counts t.args:=by cases t;rfl
theorem Tm.counts_append (l m:List Tm):Tm.count.counts (l++m)=Tm.count.counts l+Tm.count.counts m:=by
 induction l with
 | nil=>simp[Tm.count.counts]
 | cons a r ih=>simp[Tm.count.counts,ih];omega
theorem aP (t:Tm)(hc:t.count<=2147483648):cT gl 103 [t.dv] [] (A0 t.count) []:=by
 induction t using Tm.ind with
 | h t ih=>
 refine A8 Tryz.func103 ?_;intro X hP u7 hf u9 hn hR u6 u5;have hlen:=Tm.fit_len (u5 t.dv sS);rw[Tm.count_eq]at hc;refine A2 ?_;refine A2 ?_;refine A2 ?_;refine BK ?_;refine GH [] (by simp[go_sem]) (by simp[go_sem,Tm.count.counts] <;> omega) (by simp[go_sem]) (FE (t.args) (fun done rest=>[sV 9 (A0 done.length),sV 8 (A0 t.args.length),sV 7 (.sl (t.args.map Tm.cells)),sV 3 (A0 (1+Tm.count.counts done:Nat))]) ?_ ?_)
 ·intro done x rest hL hg Aa;have Ag:done.length<t.args.length:=by rw[hL];simp
  have An:Tm.count.counts t.args=Tm.count.counts done+(x.count+Tm.count.counts rest):=by rw[hL,Tm.counts_append];rfl
  refine A2 ?_;refine AE ?_;refine AX @hg ?_;refine BK ?_;first|refine AQ [] fun K hK=>?_|refine AL (by rw[hP];exact AZ) [] fun K hK=>?_
  refine KI ?_;refine FF tT (ih x (uE hg) oO) ?_;refine F1 ?_;clear hK K;refine A2 ?_;repeat (first|refine AR ?_|refine C7 ?_|refine BH ?_|refine CL rfl ?_)
  refine GH [] (by simp[go_sem]) (by simp[go_sem,Tm.counts_append,Tm.count.counts] <;> omega) (by simp[go_sem]) Aa
 ·refine A2 ?_;refine B6 ?_;refine A2 ?_;exact BD @Tm.count_eq
theorem CP (k:Int)(l:List Tm):cT gl 42 [A0 k,.sl (l.map Tm.cells)] [] (Tm.mk k 0 (Ty.mk 0 []) l).dv []:=by
 refine A8 Tryz.func42 ?_;intro X hP u7 hf u9 hn hR u6 u5;have hlen:l.length<=2147483648:=by simpa using K7 (u5 (.sl (l.map Tm.cells)) sS)
 refine A2 ?_;refine A2 ?_;refine A2 ?_;refine BK ?_;refine AC [(1005,0)] tT (FE (l) (fun done rest=>[sV 10 (A0 done.length),sV 9 (A0 l.length),sV 8 (.sl (l.map Tm.cells)),(.slot 5,.one (.own 1005 (done.map Tm.cells))),(.tok 1005,.tk 5 done.length),sL 4 [.v (A0 0),.v (A0 0),.v (A0 0),.own 0 [],.own 0 []],sP 4,sV 0 (A0 k)]) ?_ ?_)
 ·intro done x rest hL hg Aa;have Ag:done.length<l.length:=by rw[hL];simp
  refine A2 ?_;refine AE ?_;refine AX @hg ?_;refine BK ?_;first|refine AQ [] fun K hK=>?_|refine AL (by rw[hP];exact AZ) [] fun K hK=>?_
  refine KI ?_;refine FF tT (eK x) ?_;refine F1 ?_;clear hK K;refine A2 ?_;refine K0 ?_;refine AC [(1005,18)] tT Aa
 ·refine A2 ?_;refine B6 ?_;refine A2 ?_;exact B9
theorem eL (a b:Tm):cT gl 20 [a.dv,b.dv] [] (AK (a.same b)) []:=by
 induction a using Tm.ind generalizing b with
 | h a ih=>
 refine A8 Tryz.func20 ?_;intro X hP u7 hf u9 hn hR u6 u5;have Og:=Tm.fit_len (u5 a.dv sS);have Bc:=Tm.fit_len (u5 b.dv sS);refine A2 ?_;by_cases hk:a.kind=b.kind
 ·by_cases hi:a.index=b.index
  ·refine BK ?_;first|refine AQ [] fun K hK=>?_|refine AL (by rw[hP];exact AZ) [] fun K hK=>?_
   refine QY (j2 @hk @hi) ?_;refine FF tT (BB a.type b.type) ?_;by_cases ht:a.type.same b.type=true
   ·simp[go_sem,hP,hn,ht];refine F1 ?_;clear hK K;by_cases hl:a.args.length=b.args.length
    ·refine BK ?_;refine BN rfl ?_ ?_;· intro h;simp[hl]at h
     intro _;refine A2 ?_;refine BK ?_;refine AC [] (j3 @hk @hi @hl) (FD (a.args.length) (fun i=>∀(j:Nat) (x y:Tm),j<i->a.args[j]? = some x->b.args[j]? = some y->x.same y=true) (fun i=>[sV 38 (A0 i),sV 37 (A0 a.args.length),sP 3,sL 3 [.v (A0 b.kind),.v (A0 b.index),.v (A0 b.type.kind),.v (.sl (b.type.args.map Ty.cells)),.v (.sl (b.args.map Tm.cells))],sP 2,sL 2 [.v (A0 a.kind),.v (A0 a.index),.v (A0 a.type.kind),.v (.sl (a.type.args.map Ty.cells)),.v (.sl (a.args.map Tm.cells))]]) (by intro j x y h;omega) ?_ ?_)
     ·intro i Ag hI Aa;obtain⟨x,hx⟩:∃x,a.args[i]? = some x:=⟨_,uB Ag⟩;obtain⟨y,hy⟩:∃y,b.args[i]? = some y:=⟨_,uB oO⟩;refine A2 ?_;refine AE ?_;refine A2 ?_;refine BK ?_;first|refine AQ [] fun K hK=>?_|refine AL (by rw[hP];exact AZ) [] fun K hK=>?_
      refine QY (j2 @hx @hy) ?_;refine FF tT (ih x (uE hx) y) ?_;refine F1 ?_;clear hK K;by_cases hs:x.same y=true
      ·refine BK ?_;refine BN rfl ?_ ?_;· intro h;simp[hs]at h
       intro _;refine A2 ?_;refine K0 ?_;refine AC [] tT (Aa ?_);intro j x' y' hj Cp Dm;by_cases Ng:j=i;· subst Ng;rw[hx]at Cp;rw[hy]at Dm;cases Cp;cases Dm;exact hs
       ·exact hI j x' y' oO Cp Dm
      ·refine BK ?_;refine BN rfl ?_ ?_;rotate_left;· intro h;simp[hs]at h
       intro _;refine A2 ?_;refine IL ?_;simp[go_sem,hP,u7,hn] <;> (try omega);refine Bool.eq_false_iff.2 ?_;intro h;rw[Tm.same_eq]at h;simp only[uH,Tm.sames_iff]at h;exact hs (h.2.2 i x y hx hy)
     ·intro hI;refine A2 ?_;refine B6 ?_;refine A2 ?_;refine IL ?_;simp[go_sem,hP,u7,hn] <;> (try omega);rw[Tm.same_eq];simp only[uH,Tm.sames_iff];exact⟨⟨⟨by simp[hk],by simp[hi]⟩,ht⟩,hl,fun i x y hx hy=>hI i x y (uA hx).1 hx hy⟩
    ·refine BK ?_;refine BN rfl ?_ ?_;rotate_left;· intro h;simp at h;omega
     intro _;refine A2 ?_;refine IL ?_;simp[go_sem,hP,u7,hn] <;> (try omega);refine Bool.eq_false_iff.2 ?_;intro h;rw[Tm.same_eq]at h;simp only[uH,Tm.sames_iff]at h;exact hl h.2.1
   ·simp[go_sem,hP,hn,ht];refine F1 ?_;clear hK K;refine BK ?_;refine BN rfl ?_ ?_;rotate_left;· intro h;simp at h
    intro _;refine A2 ?_;refine IL ?_;simp[go_sem,hP,u7,hn] <;> (try omega);simp[Tm.same_eq,ht]
  ·refine AX (j2 @hk @hi) ?_;refine BK ?_;refine BN rfl ?_ ?_;rotate_left;· intro h;simp at h
   intro _;refine A2 ?_;refine IL ?_;simp[go_sem,hP,u7,hn] <;> (try omega);simp[Tm.same_eq,hi]
 ·refine AX @hk ?_;refine BK ?_;refine BN rfl ?_ ?_;rotate_left;· intro h;simp at h
  intro _;refine A2 ?_;refine IL ?_;simp[go_sem,hP,u7,hn] <;> (try omega);simp[Tm.same_eq,hk]
abbrev BC (b:Nat):DV:=.prim (.pointer (some ⟨b,0,none⟩))
abbrev DF (l:List Int)(p:Nat):List DV:=[.sl (AP l),A0 p]
def z38 (n k:Int):Int:=(n.tmod k+k).tmod k
theorem xZ (n k:Int)(h:1<=k):0<=z38 n k/\z38 n k<k/\-k<n.tmod k/\n.tmod k<k:=by
 have h1:-k<n.tmod k:=by
  have:=Int.lt_tmod_of_pos n (show 0<k from oO);omega
 have h2:n.tmod k<k:=Int.tmod_lt_of_pos n oO;refine⟨?_,Int.tmod_lt_of_pos _ oO,h1,h2⟩;exact Int.tmod_nonneg _ oO
theorem zmv (n k:Int)(h1:1<=k)(h2:k<=2147483648):cT gl 63 [A0 n,A0 k] [] (A0 (z38 n k)) []:=by
 refine A8 Tryz.func63 ?_;intro X hP u7 hf u9 hn hR u6 u5;have hb:=xZ n k h1;unfold z38 at hb;refine A2 ?_;refine BK ?_;first|refine AQ [] fun K hK=>?_|refine AL (by rw[hP];exact AZ) [] fun K hK=>?_
 refine KI ?_;have Jq:¬k=0:=oO;refine⟨⟨Jq,oO⟩,?_⟩;refine⟨oO,⟨Jq,oO⟩,?_⟩;refine F1 ?_;clear hK K;exact BD @z38.eq_1
theorem iO (l:List Int):cT gl 5 [.sl (AP l)] [] (AK (decide (l.length<=500))) []:=by
 refine A8 Tryz.func5 ?_;intro X hP u7 hf u9 hn hR u6 u5;refine A2 ?_;refine A2 ?_;exact BR
theorem zmw (l:List Int):Con Tryz.prog gl 10 [.sl (AP l)] [] fun r φ=>∃b,r=BC b/\φ=[(b,DF l 0)]:=by
 refine A8 Tryz.func10 ?_;intro X hP u7 hf u9 hn hR u6 u5;refine A2 ?_;refine A2 ?_;refine EC 5 (by simp[go_sem];rfl) ?_;intro b hb;simp[go_sem];refine WZ hP hf u9 (BC b) [(b,DF l 0)] (by simp[go_sem,hP,u7,hn]) (by simp[go_sem]) sS (by rw[hR.1];exact⟨b,rfl,rfl⟩) hR.2
def AW (l:List Int)(p:Nat)(n:Int):Int × Nat:=
 if n<1 then (0,p) else match l[p]? with
  | some x=>(z38 x n,p+1)
  | none=>(0,p)
theorem FJ (b:Nat)(l:List Int)(p:Nat)(n:Int)(Qc:n<=2147483648)(hp:p<=2147483648) :
  cT gl 29 [BC b,A0 n] [(b,DF l p)] (A0 (AW l p n).1) [(b,DF l (AW l p n).2)]:=by
 refine A8 Tryz.func29 ?_;intro X hP u7 hf u9 hn hR u6 u5;refine A2 ?_;by_cases Ag:n<1
 ·refine AX @Ag ?_;refine BK ?_;refine BN rfl ?_ ?_;rotate_left;· intro h;simp at h
  intro _;refine A2 ?_;exact AI [(b,DF l p)] (j2 @AW.eq_1 @Ag)
 ·by_cases hle:l.length<=p
  ·refine AX (j2 @Ag @hle) ?_;refine BK ?_;refine BN rfl ?_ ?_;rotate_left;· intro h;simp[hle]at h
   intro _;refine A2 ?_;have hg:l[p]? = none:=List.getElem?_eq_none hle;exact AI [(b,DF l p)] (j3 @AW.eq_1 @Ag @hg)
  ·refine AX (j2 @Ag @hle) ?_;refine BK ?_;refine BN rfl ?_ ?_;· intro h;simp[hle]at h
   intro _;obtain⟨x,hx⟩:∃x,l[p]? = some x:=⟨_,uB oO⟩;have hg:=IS hx;refine AX @hg ?_;refine A2 ?_;refine BK ?_;first|refine AQ [] fun K hK=>?_|refine AL (by rw[hP];exact AZ) [] fun K hK=>?_
   refine KI ?_;refine FF tT (zmv x n oO Qc) ?_;refine F1 ?_;clear hK K;exact AI [(b,DF l (p+1))] (j3 @AW.eq_1 @Ag @hx)
theorem CO {l:List Int}{p:Nat}{n:Int}(h:p<=l.length):(AW l p n).2<=l.length:=by
 unfold AW;split;· exact h
 ·split
  ·rename_i x hx;have:=(uA hx).1;simp only;omega
  ·exact h
theorem EM {l:List Int}{p:Nat}{n:Int}(h:1<=n):0<=(AW l p n).1/\(AW l p n).1<n:=by
 unfold AW;rw[if_neg oO];split
 ·rename_i x hx;have:=xZ x n h;exact⟨this.1,this.2.1⟩
 ·exact⟨sS,by simp;omega⟩
def EN (l:List Int)(p:Nat):Ty × Nat:=
 let k:=(AW l p 6).1
 (if k=0\/k=1 then Ty.mk 1 [] else if k=2 then Ty.mk 2 [] else if k=3 then Ty.mk 5 [] else if k=4 then Ty.mk 3 [Ty.mk 1 [],Ty.mk 2 []] else Ty.mk 3 [Ty.mk 1 [],Ty.mk 1 []],(AW l p 6).2)
theorem z9e (b:Nat)(l:List Int)(p:Nat)(hl:l.length<=500)(hp:p<=l.length) :
  cT gl 39 [BC b] [(b,DF l p)] (EN l p).1.dv [(b,DF l (EN l p).2)]:=by
 refine A8 Tryz.func39 ?_;intro X hP u7 hf u9 hn hR u6 u5;have Ef:=CO (n:=6) hp;refine A2 ?_;refine BK ?_;first|refine AQ [] fun K hK=>?_|refine AL (by rw[hP];exact AZ) [] fun K hK=>?_
 refine KI ?_;refine FF tT (FJ b l p 6 dD oO) ?_;refine F1 ?_;clear hK K;have Vc:=EM (l:=l) (p:=p) (n:=6) dD;generalize hd:AW l p 6=d at *;obtain⟨k,q⟩:=d;by_cases h0:k=0
 ·refine AX @h0 ?_;refine BK ?_;refine BN rfl ?_ ?_;rotate_left;· intro h;simp at h
  intro _;refine BK ?_;refine BN rfl ?_ ?_;rotate_left;· intro h;simp at h
  intro _;refine BK ?_;first|refine AQ [] fun K hK=>?_|refine AL (by rw[hP];exact AZ) [] fun K hK=>?_
  refine KI ?_;refine FF tT (BM) ?_;refine F1 ?_;clear hK K;exact AI [(b,DF l q)] (j3 @EN.eq_1 @hd @h0)
 by_cases h1:k=1
 ·refine AX @h1 ?_;refine BK ?_;refine BN rfl ?_ ?_;· intro h;simp at h
  intro _;refine AX @h1 ?_;refine BK ?_;refine BN rfl ?_ ?_;rotate_left;· intro h;simp at h
  intro _;refine BK ?_;first|refine AQ [] fun K hK=>?_|refine AL (by rw[hP];exact AZ) [] fun K hK=>?_
  refine KI ?_;refine FF tT (BM) ?_;refine F1 ?_;clear hK K;exact AI [(b,DF l q)] (j3 @EN.eq_1 @hd @h1)
 by_cases h2:k=2
 ·refine AX @h2 ?_;refine BK ?_;refine BN rfl ?_ ?_;· intro h;simp at h
  intro _;refine AX @h2 ?_;refine BK ?_;refine BN rfl ?_ ?_;· intro h;simp at h
  intro _;refine AX @h2 ?_;refine BK ?_;refine BN rfl ?_ ?_;rotate_left;· intro h;simp at h
  intro _;refine BK ?_;first|refine AQ [] fun K hK=>?_|refine AL (by rw[hP];exact AZ) [] fun K hK=>?_
  refine KI ?_;refine FF tT (EI) ?_;refine F1 ?_;clear hK K;exact AI [(b,DF l q)] (j3 @EN.eq_1 @hd @h2)
 by_cases h3:k=3
 ·refine AX @h3 ?_;refine BK ?_;refine BN rfl ?_ ?_;· intro h;simp at h
  intro _;refine AX @h3 ?_;refine BK ?_;refine BN rfl ?_ ?_;· intro h;simp at h
  intro _;refine AX @h3 ?_;refine BK ?_;refine BN rfl ?_ ?_;· intro h;simp at h
  intro _;refine AX @h3 ?_;refine BK ?_;refine BN rfl ?_ ?_;rotate_left;· intro h;simp at h
  intro _;refine BK ?_;first|refine AQ [] fun K hK=>?_|refine AL (by rw[hP];exact AZ) [] fun K hK=>?_
  refine KI ?_;refine FF tT (IT) ?_;refine F1 ?_;clear hK K;exact AI [(b,DF l q)] (j3 @EN.eq_1 @hd @h3)
 by_cases h4:k=4
 ·refine AX @h4 ?_;refine BK ?_;refine BN rfl ?_ ?_;· intro h;simp at h
  intro _;refine AX @h4 ?_;refine BK ?_;refine BN rfl ?_ ?_;· intro h;simp at h
  intro _;refine AX @h4 ?_;refine BK ?_;refine BN rfl ?_ ?_;· intro h;simp at h
  intro _;refine AX @h4 ?_;refine BK ?_;refine BN rfl ?_ ?_;· intro h;simp at h
  intro _;refine AX @h4 ?_;refine BK ?_;refine BN rfl ?_ ?_;rotate_left;· intro h;simp at h
  intro _;refine BK ?_;first|refine AQ [] fun K hK=>?_|refine AL (by rw[hP];exact AZ) [] fun K hK=>?_
  refine KI ?_;refine FF tT (BM) ?_;refine FF tT (EI) ?_;refine FF tT (K6 (Ty.mk 1 []) (Ty.mk 2 [])) ?_;refine F1 ?_;clear hK K;exact AI [(b,DF l q)] (j3 @EN.eq_1 @hd @h4)
 ·have h5:k=5:=by simp at Vc;omega
  refine AX @h5 ?_;refine BK ?_;refine BN rfl ?_ ?_;· intro h;simp at h
  intro _;refine AX @h5 ?_;refine BK ?_;refine BN rfl ?_ ?_;· intro h;simp at h
  intro _;refine AX @h5 ?_;refine BK ?_;refine BN rfl ?_ ?_;· intro h;simp at h
  intro _;refine AX @h5 ?_;refine BK ?_;refine BN rfl ?_ ?_;· intro h;simp at h
  intro _;refine AX @h5 ?_;refine BK ?_;refine BN rfl ?_ ?_;· intro h;simp at h
  intro _;refine BK ?_;first|refine AQ [] fun K hK=>?_|refine AL (by rw[hP];exact AZ) [] fun K hK=>?_
  refine KI ?_;refine FF tT (BM) ?_;refine FF tT (BM) ?_;refine FF tT (K6 (Ty.mk 1 []) (Ty.mk 1 [])) ?_;refine F1 ?_;clear hK K;exact AI [(b,DF l q)] (j3 @EN.eq_1 @hd @h5)
theorem Val.fit_args {t:Val}(h:t.dv.fit):t.args.length<=2147483648:=((Val.fit_eq t).1 ((Val.dv_fit t).1 h)).2.2.2.1
theorem Val.fit_list {t:Val}(h:t.dv.fit):t.list.length<=2147483648:=((Val.fit_eq t).1 ((Val.dv_fit t).1 h)).2.2.1.1
theorem zqb (k:Int)(l:List Tm):cT gl 161 [A0 k,.sl (l.map Tm.cells)] [] (Tm.mk k 0 (Ty.mk 0 []) l).dv []:=by
 refine A8 Tryz.func161 ?_;intro X hP u7 hf u9 hn hR u6 u5;refine A2 ?_;refine A2 ?_;exact B9
def IU:Nat->Tm
 | 0=>Tm.mk 4 0 (Ty.mk 0 []) []
 | n+1=>Tm.mk 5 0 (Ty.mk 0 []) [IU n]
def mS (n:Int):Int:=min n 4096+1
def Val.okB (v:Val):Bool:=
 if v.kind=1 then decide (0<=v.num)&&decide (v.list.length=0)&&decide (v.args.length=0)
 else if v.kind=2 then decide (v.num=0)&&!v.list.any (fun n=>decide (n<0))&&decide (v.args.length=0)
 else if v.kind=3 then decide (v.num=0)&&decide (v.list.length=0)&&decide (v.args.length=2)
 else if v.kind=4 then decide (v.num=0)&&decide (v.list.length=0)&&decide (v.args.length=0)
 else false
theorem mT (n:Int):cT gl 187 [A0 n] [] (AK (decide (n<0))) []:=by
 refine A8 Tryz.func187 ?_;intro X hP u7 hf u9 hn hR u6 u5;refine A2 ?_;refine A2 ?_;exact BR
abbrev fnv (f:Nat):DV:=.prim (.func (.func f) #[] #[])
def iP (l:List Int):Int:=match l.findIdx? (fun n=>decide (n<0)) with
 | some k=>k
 | none=>-1
theorem mU (l:List Int):cT gl 190 [.sl (AP l),fnv 187] [] (A0 (iP l)) []:=by
 refine A8 Tryz.func190 ?_;intro X hP u7 hf u9 hn hR u6 u5;have hlen:l.length<=2147483648:=by simpa [AP] using K7 (u5 (.sl (AP l)) sS)
 refine A2 ?_;refine A2 ?_;refine BK ?_;refine AC [] tT (FD (l.length) (fun i=>∀(j:Nat) (x:Int),j<i->l[j]? = some x->0<=x) (fun i=>[sV 8 (A0 i),sV 7 (A0 l.length),sV 6 (.sl (AP l)),sV 0 (.sl (AP l)),sV 1 (fnv 187)]) (by intro j x h;omega) ?_ ?_)
 ·intro i Ag hI Aa;obtain⟨x,hx⟩:∃x,l[i]? = some x:=⟨_,uB Ag⟩;have hg:=IS hx;refine A2 ?_;refine AE ?_;refine A2 ?_;refine BK ?_;first|refine AQ [] fun K hK=>?_|refine AL (by rw[hP];exact AZ) [] fun K hK=>?_
  refine QY @hg ?_;repeat (refine⟨oO,?_⟩)
  refine z2s hP u7 (mT x) (by simp[go_sem]) (by simp[go_sem,hP,u7,hn]) rfl (by simp[go_sem]) sS (by rw[hn];exact uF rfl) ?_;simp[go_sem,hP,u7,hn];refine F1 ?_;clear hK K;by_cases Mb:x<0
  ·refine BK ?_;refine BN rfl ?_ ?_;rotate_left;· intro h;simp[Mb]at h
   intro _;refine A2 ?_;refine IL ?_;simp[go_sem,hP,u7,hn] <;> (try omega);unfold iP;have:l.findIdx? (fun n=>decide (n<0))=some i:=by
    rw[List.findIdx?_eq_some_iff_getElem];obtain⟨h1,h2⟩:=uA hx;refine⟨h1,by simp[h2,Mb],fun j hj=>?_⟩;have:=hI j l[j] hj (uB oO)
    simp;omega
   rw[this]
  ·refine BK ?_;refine BN rfl ?_ ?_;· intro h;simp[Mb]at h
   intro _;refine A2 ?_;refine K0 ?_;refine AC [] tT (Aa ?_);intro j y hj hy;by_cases Ng:j=i;· subst Ng;rw[hx]at hy;cases hy;omega
   ·exact hI j y oO hy
 ·intro hI;refine A2 ?_;refine B6 ?_;refine A2 ?_;refine IL ?_;simp[go_sem,hP,u7,hn] <;> (try omega);unfold iP;have:l.findIdx? (fun n=>decide (n<0))=none:=by
   rw[List.findIdx?_eq_none_iff];intro x hx;obtain⟨i,hi,rfl⟩:=List.mem_iff_getElem.1 hx;have:=hI i l[i] hi (uB hi)
   simp;omega
  rw[this]
theorem mV (l:List Int):cT gl 188 [.sl (AP l),fnv 187] [] (AK (l.any (fun n=>decide (n<0)))) []:=by
 refine A8 Tryz.func188 ?_;intro X hP u7 hf u9 hn hR u6 u5;refine A2 ?_;refine BK ?_;first|refine AQ [] fun K hK=>?_|refine AL (by rw[hP];exact AZ) [] fun K hK=>?_
 refine KI ?_;refine FF tT (mU l) ?_;refine F1 ?_;clear hK K;refine IL ?_;simp[go_sem,hP,u7,hn] <;> (try omega);unfold iP;cases h:l.findIdx? (fun n=>decide (n<0)) with
 | none=>
  rw[List.findIdx?_eq_none_iff]at h;have:l.any (fun n=>decide (n<0))=false:=by
   rw[List.any_eq_false];intro x hx;simp[h x hx]
  simp only[this];decide
 | some k=>
  obtain⟨h1,h2,-⟩:=List.findIdx?_eq_some_iff_getElem.1 h;have:l.any (fun n=>decide (n<0))=true:=by
   rw[List.any_eq_true];exact⟨_,List.getElem_mem h1,h2⟩
  simp[this]
def Val.nodesN:Val->Int × Bool
 | .mk k n l a=>nodesL a (1,Val.okB (.mk k n l a))
where
 nodesL:List Val->Int × Bool->Int × Bool
  | [],p=>p
  | a::r,p=>if p.2 then nodesL r (p.1+(Val.nodesN a).1,(Val.nodesN a).2) else p
theorem Val.nodesN_eq (v:Val):v.nodesN=nodesN.nodesL v.args (1,v.okB):=by cases v;simp[nodesN,args]
theorem Val.nodesL_no (l:List Val)(n:Int):nodesN.nodesL l (n,false)=(n,false):=by cases l <;> simp[nodesN.nodesL]
theorem Val.nodesL_append (l m:List Val)(p:Int × Bool):nodesN.nodesL (l++m) p=nodesN.nodesL m (nodesN.nodesL l p):=by
 induction l generalizing p with
 | nil=>simp[nodesN.nodesL]
 | cons a r ih=>
  obtain⟨n,ok⟩:=p;cases ok with
  | true=>simp[nodesN.nodesL,ih]
  | false=>simp[nodesL_no]
def Val.count:Val->Nat
 | .mk _ _ _ a=>1+counts a
where
 counts:List Val->Nat
  | []=>0
  | a::r=>a.count+counts r
theorem Val.count_eq (t:Val):t.count=1+Val.count.counts t.args:=by cases t;simp[count,args]
theorem Val.counts_append (l m:List Val):Val.count.counts (l++m)=Val.count.counts l+Val.count.counts m:=by
 induction l with
 | nil=>simp[Val.count.counts]
 | cons a r ih=>simp[Val.count.counts,ih];omega
theorem Val.nodesL_le {v:Val}(ih:∀a∈v.args,0<=a.nodesN.1/\a.nodesN.1<=a.count)(l:List Val):(∀a∈l,a∈v.args)->∀(n:Int) (ok:Bool),n<=(nodesN.nodesL l (n,ok)).1/\(nodesN.nodesL l (n,ok)).1<=n+Val.count.counts l:=by
 induction l with
 | nil=>intro _ n ok;simp[nodesN.nodesL,Val.count.counts]
 | cons a r Fy=>
  intro h n ok;have h1:=ih a (h a sS);cases ok with
  | false=>simp[nodesL_no,Val.count.counts];omega
  | true=>
   have h2:=Fy (fun b hb=>h b (List.mem_cons_of_mem _ hb)) (n+a.nodesN.1) a.nodesN.2;simp only[nodesN.nodesL,if_true,Val.count.counts];omega
theorem Val.nodes_le (v:Val):0<=v.nodesN.1/\v.nodesN.1<=v.count:=by
 induction v using Val.ind with
 | h v ih=>
 have:=Val.nodesL_le ih v.args (fun _ h=>h) 1 v.okB;rw[nodesN_eq,count_eq];omega
theorem z9f (v:Val)(hc:v.count<=2147483648):cT gl 182 [v.dv] [] (.tup [A0 v.nodesN.1,AK v.nodesN.2]) []:=by
 induction v using Val.ind with
 | h v ih=>
 refine A8 Tryz.func182 ?_;intro X hP u7 hf u9 hn hR u6 u5;have Fu:=Val.fit_args (u5 v.dv sS);have Gf:=Val.fit_list (u5 v.dv sS);rw[Val.count_eq]at hc;refine A2 ?_;refine A2 ?_;refine A2 ?_;refine A2 ?_;repeat (first|refine DI ?_|refine C7 ?_|refine AR ?_|refine BH ?_)
 refine z88 [sV 5 (AK v.okB),sL 1 [.v (A0 v.kind),.v (A0 v.num),.v (.sl (AP v.list)),.v (.sl (v.args.map Val.cells))],sP 1] ?_ ?_
 ·intro Ac;by_cases h1:v.kind=1
  ·refine AX @h1 ?_;refine AE ?_;by_cases q1:0<=v.num
   ·by_cases q2:v.list.length=0
    ·refine AX (j3 @h1 @q1 @q2) ?_;refine K0 ?_;refine AC [] (j4 @Val.okB.eq_1 @h1 @q1 @q2) Ac
    ·refine AX (j3 @h1 @q1 @q2) ?_;refine K0 ?_;refine AC [] (j4 @Val.okB.eq_1 @h1 @q1 @q2) Ac
   ·refine AX (j2 @h1 @q1) ?_;refine K0 ?_;refine AC [] (j3 @Val.okB.eq_1 @h1 @q1) Ac
  by_cases h2:v.kind=2
  ·refine AX @h2 ?_;refine B6 ?_;refine AX @h2 ?_;refine AE ?_;by_cases q1:v.num=0
   ·refine BK ?_;first|refine AQ [] fun K hK=>?_|refine AL (by rw[hP];exact AZ) [] fun K hK=>?_
    refine QY (j2 @h2 @q1) ?_;refine FF tT (mV v.list) ?_;by_cases q2:v.list.any (fun n=>decide (n<0))=true
    ·simp[go_sem,hP,hn,q2];refine F1 ?_;clear hK K;refine K0 ?_;refine AC [] (j4 @Val.okB.eq_1 @h2 @q1 @q2) Ac
    ·simp only[Bool.not_eq_true]at q2;simp[go_sem,hP,hn,q2];refine F1 ?_;clear hK K;refine K0 ?_;refine AC [] (j4 @Val.okB.eq_1 @h2 @q1 @q2) Ac
   ·refine AX (j2 @h2 @q1) ?_;refine K0 ?_;refine AC [] (j3 @Val.okB.eq_1 @h2 @q1) Ac
  by_cases h3:v.kind=3
  ·refine AX @h3 ?_;refine B6 ?_;refine AX @h3 ?_;refine B6 ?_;refine AX @h3 ?_;refine AE ?_;by_cases q1:v.num=0
   ·by_cases q2:v.list.length=0
    ·refine AX (j3 @h3 @q1 @q2) ?_;refine K0 ?_;refine AC [] (j4 @Val.okB.eq_1 @h3 @q1 @q2) Ac
    ·refine AX (j3 @h3 @q1 @q2) ?_;refine K0 ?_;refine AC [] (j4 @Val.okB.eq_1 @h3 @q1 @q2) Ac
   ·refine AX (j2 @h3 @q1) ?_;refine K0 ?_;refine AC [] (j3 @Val.okB.eq_1 @h3 @q1) Ac
  by_cases h4:v.kind=4
  ·refine AX @h4 ?_;refine B6 ?_;refine AX @h4 ?_;refine B6 ?_;refine AX @h4 ?_;refine B6 ?_;refine AX @h4 ?_;refine AE ?_;by_cases q1:v.num=0
   ·by_cases q2:v.list.length=0
    ·refine AX (j3 @h4 @q1 @q2) ?_;refine K0 ?_;refine AC [] (j4 @Val.okB.eq_1 @h4 @q1 @q2) Ac
    ·refine AX (j3 @h4 @q1 @q2) ?_;refine K0 ?_;refine AC [] (j4 @Val.okB.eq_1 @h4 @q1 @q2) Ac
   ·refine AX (j2 @h4 @q1) ?_;refine K0 ?_;refine AC [] (j3 @Val.okB.eq_1 @h4 @q1) Ac
  refine AX @h1 ?_;refine B6 ?_;refine AX @h2 ?_;refine B6 ?_;refine AX @h3 ?_;refine B6 ?_;refine AX @h4 ?_;refine B6 ?_;refine K0 ?_;refine AC [] (j5 @Val.okB.eq_1 @h1 @h2 @h3 @h4) Ac
 ·refine A2 ?_;refine A2 ?_;refine BK ?_;refine GH [] (by simp[go_sem]) (by simp[go_sem,Val.nodesN.nodesL] <;> omega) (by simp[go_sem]) (FE (v.args) (fun done rest=>[sV 84 (A0 done.length),sV 83 (A0 v.args.length),sV 82 (.sl (v.args.map Val.cells)),sV 6 (A0 (Val.nodesN.nodesL done (1,v.okB)).1),sV 5 (AK (Val.nodesN.nodesL done (1,v.okB)).2)]) ?_ ?_)
  ·intro done x rest hL hg Aa;have Ag:done.length<v.args.length:=by rw[hL];simp
   have An:Val.count.counts v.args=Val.count.counts done+(x.count+Val.count.counts rest):=by rw[hL,Val.counts_append];rfl
   have hb:=Val.nodesL_le (v:=v) (fun a _=>Val.nodes_le a) done (fun a ha=>by rw[hL];simp[ha]) 1 v.okB;have hx:=Val.nodes_le x;obtain⟨n,ok,hp⟩:∃n ok,Val.nodesN.nodesL done (1,v.okB)=(n,ok):=⟨_,_,rfl⟩;rw[hp]at hb;simp only[Val.nodesL_append,hp]at Aa ⊢;refine A2 ?_;refine AE ?_;refine AX @hg ?_;cases ok with
   | false=>
    refine A2 ?_;refine AE ?_;refine A2 ?_;exact BD (j5 @Val.nodesN_eq @hL @Val.nodesL_append @hp @Val.nodesL_no)
   | true=>
    refine A2 ?_;refine B6 ?_;refine A2 ?_;refine BK ?_;first|refine AQ [] fun K hK=>?_|refine AL (by rw[hP];exact AZ) [] fun K hK=>?_
    refine KI ?_;refine FF tT (ih x (uE hg) oO) ?_;refine F1 ?_;clear hK K;refine A2 ?_;refine A2 ?_;repeat (first|refine AR ?_|refine C7 ?_|refine BH ?_|refine CL rfl ?_)
    refine GH [] (by simp[go_sem]) (by simp[go_sem,Val.nodesN.nodesL] <;> omega) (by simp[go_sem]) Aa
  ·refine A2 ?_;refine B6 ?_;refine A2 ?_;exact BD @Val.nodesN_eq
theorem z9g (v:Val)(hc:v.count<=2147483648):cT gl 165 [v.dv] [] (A0 (if v.nodesN.2=true then if v.nodesN.1 > 64 then 4 else 0 else 2)) []:=by
 refine A8 Tryz.func165 ?_;intro X hP u7 hf u9 hn hR u6 u5;refine A2 ?_;refine BK ?_;first|refine AQ [] fun K hK=>?_|refine AL (by rw[hP];exact AZ) [] fun K hK=>?_
 refine KI ?_;refine FF tT (z9f v hc) ?_;refine F1 ?_;clear hK K;obtain⟨n,ok,hp⟩:∃n ok,v.nodesN=(n,ok):=⟨_,_,rfl⟩;simp only[hp];cases ok with
 | false=>
  refine A2 ?_;refine AE ?_;refine A2 ?_;exact BD @hp
 | true=>
  refine A2 ?_;refine B6 ?_;by_cases h:64<n
  ·refine AX @h ?_;refine AE ?_;refine A2 ?_;exact BD (j2 @hp @h)
  ·refine AX @h ?_;refine B6 ?_;refine A2 ?_;exact BD (j2 @hp @h)
end
section
def HD (k:Int)(n:Nat):Bool:=(decide (k=1\/k=2\/k=5)&&n==0)||(decide (k=3\/k=4)&&n==2)
namespace Ty
def shape:Ty->Bool
 | .mk k a=>HD k a.length&&shapes a
where
 shapes:List Ty->Bool
  | []=>true
  | a::r=>a.shape&&shapes r
theorem shape_eq (t:Ty):t.shape=(HD t.kind t.args.length&&shape.shapes t.args):=by cases t;rfl
theorem shapes_append (l m:List Ty):shape.shapes (l++m)=(shape.shapes l&&shape.shapes m):=by
 induction l with
 | nil=>simp[shape.shapes]
 | cons a r ih=>simp[shape.shapes,ih,Bool.and_assoc]
theorem shapes_iff (l:List Ty):shape.shapes l=true↔∀a∈l,a.shape=true:=by
 induction l with
 | nil=>simp[shape.shapes]
 | cons a r ih=>simp[shape.shapes,ih]
def count:Ty->Nat
 | .mk _ a=>1+counts a
where
 counts:List Ty->Nat
  | []=>0
  | a::r=>a.count+counts r
theorem count_eq (t:Ty):t.count=1+count.counts t.args:=by cases t;rfl
theorem counts_append (l m:List Ty):count.counts (l++m)=count.counts l+count.counts m:=by
 induction l with
 | nil=>simp[count.counts]
 | cons a r ih=>simp[count.counts,ih];omega
theorem count_mem {l:List Ty}{a:Ty}(h:a∈l):a.count<=count.counts l:=by
 induction l with
 | nil=>cases h
 | cons b r ih=>
  simp only[count.counts];rcases List.mem_cons.1 h with rfl|h;· omega
  ·have:=ih h;omega
def checkN (t:Ty):Int:=if t.shape=true then if 64<t.count then 4 else 0 else 2
def zero (t:Ty):Bool:=decide (t.kind=0)&&decide (t.args.length=0)
end Ty
def B5 (k:Int):Int:=
 if k=1\/k=4\/k=7\/k=13 then 0 else if k=2\/k=5\/k=11\/k=12 then 1 else if k=3\/k=8\/k=10 then 2 else if k=6\/k=9 then 3 else -1
def C4 (k:Int)(t:Ty):Bool:=if k=2\/k=6\/k=9 then decide (t.checkN=0) else t.zero
def IM (k i:Int)(t:Ty)(n:Nat):Bool:=decide ((n:Int)=B5 k)&&decide (0<=i)&&(decide (k=1)||decide (i=0))&&C4 k t
namespace Tm
def shape:Tm->Bool
 | .mk k i t a=>IM k i t a.length&&shapes a
where
 shapes:List Tm->Bool
  | []=>true
  | a::r=>a.shape&&shapes r
theorem shape_eq (t:Tm):t.shape=(IM t.kind t.index t.type t.args.length&&shape.shapes t.args):=by cases t;rfl
theorem shapes_append (l m:List Tm):shape.shapes (l++m)=(shape.shapes l&&shape.shapes m):=by
 induction l with
 | nil=>simp[shape.shapes]
 | cons a r ih=>simp[shape.shapes,ih,Bool.and_assoc]
theorem shapes_iff (l:List Tm):shape.shapes l=true↔∀a∈l,a.shape=true:=by
 induction l with
 | nil=>simp[shape.shapes]
 | cons a r ih=>simp[shape.shapes,ih]
theorem count_mem {l:List Tm}{a:Tm}(h:a∈l):a.count<=count.counts l:=by
 induction l with
 | nil=>cases h
 | cons b r ih=>
  simp only[count.counts];rcases List.mem_cons.1 h with rfl|h;· omega
  ·have:=ih h;omega
theorem count_pos (t:Tm):1<=t.count:=by rw[count_eq];omega
def tys:Tm->Prop
 | .mk _ _ t a=>t.count<=1073741824/\tyss a
where
 tyss:List Tm->Prop
  | []=>True
  | a::r=>a.tys/\tyss r
theorem z9h (l:List Tm):tys.tyss l↔∀a∈l,a.tys:=by
 induction l with
 | nil=>simp[tys.tyss]
 | cons a r ih=>simp[tys.tyss,ih]
theorem tys_eq (t:Tm):t.tys↔t.type.count<=1073741824/\∀a∈t.args,a.tys:=by cases t;simp only[tys,z9h,type,args]
def checkN (t:Tm):Int:=if t.shape=true then if 4096<t.count then 4 else 0 else 2
end Tm
theorem Ty.fit_len {t:Ty}(h:t.dv.fit):t.args.length<=2147483648:=((Ty.fit_eq t).1 ((Ty.dv_fit t).1 h)).2.1
end
section
variable {gl:AF}
def KR (k:Int):Int:=if k=3\/k=4 then 2 else 0
theorem aQ (t:Ty):cT gl 68 [t.dv] [] (AK t.shape) []:=by
 induction t using Ty.ind with
 | h t ih=>
 refine A8 Tryz.func68 ?_;intro X hP u7 hf u9 hn hR u6 u5;have hlen:=Ty.fit_len (u5 t.dv sS);have hs:=Ty.shape_eq t;refine A2 ?_;refine A2 ?_;refine A2 ?_;repeat (first|refine DI ?_|refine C7 ?_|refine AR ?_|refine BH ?_)
 refine iJ (t.kind=1\/t.kind=2\/t.kind=5\/t.kind=3\/t.kind=4) [sV 3 (A0 (KR t.kind)),sL 1 [.v (A0 t.kind),.v (.sl (t.args.map Ty.cells))],sP 1] ?_ ?_
 ·intro Ac;by_cases h1:t.kind=1;· refine CR (wr []) (j2 @KR.eq_1 @h1) @h1 (Ac (by simp[h1]))
  by_cases h2:t.kind=2;· refine CR (wr []) (j2 @KR.eq_1 @h2) @h2 (Ac (by simp[h2]))
  by_cases h3:t.kind=5;· refine CR (wr []) (j2 @KR.eq_1 @h3) @h3 (Ac (by simp[h3]))
  by_cases h4:t.kind=3;· refine CR (wr []) (j2 @KR.eq_1 @h4) @h4 (Ac (by simp[h4]))
  by_cases h5:t.kind=4;· refine CR (wr []) (j2 @KR.eq_1 @h5) @h5 (Ac (by simp[h5]))
  refine A7 (j5 @h1 @h2 @h3 @h4 @h5) ?_;exact BD (j7 @hs @HD.eq_1 @h1 @h2 @h3 @h4 @h5)
 ·intro hk;by_cases hl:(t.args.length:Int)=KR t.kind
  ·have Be:HD t.kind t.args.length=true:=by
    unfold KR at hl;unfold HD;rcases hk with h|h|h|h|h <;> simp[h]at hl ⊢ <;> omega
   refine A7 @hl ?_;refine BK ?_;refine GH [] (by simp[go_sem]) (by simp[go_sem,Ty.shape.shapes] <;> omega) (by simp[go_sem]) (O8 (t.args) (fun done=>Ty.shape.shapes done=true) (fun done rest=>[sV 23 (A0 done.length),sV 22 (A0 t.args.length),sV 21 (.sl (t.args.map Ty.cells))]) (rfl) ?_ ?_)
   ·intro done x rest hL hg hI Aa;have Ag:done.length<t.args.length:=by rw[hL];simp
    refine A2 ?_;refine AE ?_;refine AX @hg ?_;refine A3 @hg (ih x (uE hg)) ?_;by_cases hx:x.shape=true
    ·refine QZ @hx ?_;refine CR (wr []) tT @hx (Aa (by rw[Ty.shapes_append];simp[hI,Ty.shape.shapes,hx]))
    ·refine t_y @hx ?_;refine A7 @hx ?_;have:t.shape=false:=by rw[hs,hL,Ty.shapes_append];simp[Ty.shape.shapes,hx]
     exact BD @this
   ·intro hI;refine A2 ?_;refine B6 ?_;refine A4 ?_;exact BD (j3 @hs @Be @hI)
  ·have Be:HD t.kind t.args.length=false:=by
    unfold KR at hl;unfold HD;rcases hk with h|h|h|h|h <;> simp[h]at hl ⊢ <;> omega
   refine A7 @hl ?_;exact BD (j2 @hs @Be)
theorem eM (t:Ty)(hc:t.count<=2147483648):cT gl 69 [t.dv] [] (A0 t.count) []:=by
 induction t using Ty.ind with
 | h t ih=>
 refine A8 Tryz.func69 ?_;intro X hP u7 hf u9 hn hR u6 u5;have hlen:=Ty.fit_len (u5 t.dv sS);rw[Ty.count_eq]at hc;refine A2 ?_;refine A2 ?_;refine A2 ?_;refine BK ?_;refine GH [] (by simp[go_sem]) (by simp[go_sem,Ty.count.counts] <;> omega) (by simp[go_sem]) (FE (t.args) (fun done rest=>[sV 9 (A0 done.length),sV 8 (A0 t.args.length),sV 7 (.sl (t.args.map Ty.cells)),sV 3 (A0 (1+Ty.count.counts done:Nat))]) ?_ ?_)
 ·intro done x rest hL hg Aa;have Ag:done.length<t.args.length:=by rw[hL];simp
  have An:Ty.count.counts t.args=Ty.count.counts done+(x.count+Ty.count.counts rest):=by rw[hL,Ty.counts_append];rfl
  rw[Ty.counts_append]at Aa;refine A2 ?_;refine AE ?_;refine AX @hg ?_;refine BK ?_;first|refine AQ [] fun K hK=>?_|refine AL (by rw[hP];exact AZ) [] fun K hK=>?_
  refine KI ?_;refine FF tT (ih x (uE hg) oO) ?_;refine F1 ?_;clear hK K;refine A2 ?_;repeat (first|refine AR ?_|refine C7 ?_|refine BH ?_|refine CL rfl ?_)
  refine GH [] (by simp[go_sem]) (by simp[go_sem,Ty.count.counts] <;> omega) (by simp[go_sem]) Aa
 ·refine A2 ?_;refine B6 ?_;refine A2 ?_;exact BD @Ty.count_eq
theorem eN (t:Ty):cT gl 137 [t.dv] [] (AK t.zero) []:=by
 refine A8 Tryz.func137 ?_;intro X hP u7 hf u9 hn hR u6 u5;refine A2 ?_;by_cases h:t.kind=0
 ·refine AX @h ?_;exact BD (j2 @Ty.zero.eq_1 @h)
 ·refine AX @h ?_;exact BD (j2 @Ty.zero.eq_1 @h)
theorem DX (t:Ty)(hc:t.count<=2147483648):cT gl 37 [t.dv] [] (A0 t.checkN) []:=by
 refine A8 Tryz.func37 ?_;intro X hP u7 hf u9 hn hR u6 u5;refine A2 ?_;refine BK ?_;first|refine AQ [] fun K hK=>?_|refine AL (by rw[hP];exact AZ) [] fun K hK=>?_
 refine KI ?_;refine FF tT (aQ t) ?_;refine F1 ?_;clear hK K;by_cases h:t.shape=true
 ·refine QZ @h ?_;refine BK ?_;first|refine AQ [] fun K hK=>?_|refine AL (by rw[hP];exact AZ) [] fun K hK=>?_
  refine KI ?_;refine FF tT (eM t hc) ?_;refine F1 ?_;clear hK K;by_cases h2:64<t.count
  ·refine t_y @h2 ?_;refine A2 ?_;exact BD (j3 @Ty.checkN.eq_1 @h @h2)
  ·refine QZ @h2 ?_;refine A2 ?_;exact BD (j3 @Ty.checkN.eq_1 @h @h2)
 ·refine t_y @h ?_;refine A2 ?_;exact BD (j2 @Ty.checkN.eq_1 @h)
end
section
variable {gl:AF}
namespace Ty
def tot:Ty->Nat
 | .mk _ a=>1+tots a
where
 tots:List Ty->Nat
  | []=>0
  | a::r=>a.tot+tots r
def cntN:Ty->Int->Int
 | .mk _ a,m=>cnts a (1) m
where
 cnts:List Ty->Int->Int->Int
  | [],n,_=>n
  | a::r,n,m=>if n<=m then cnts r (n+a.cntN (m - n)) m else n
theorem tot_eq (t:Ty):t.tot=1+tot.tots t.args:=by cases t;rfl
theorem tots_append (l r:List Ty):tot.tots (l++r)=tot.tots l+tot.tots r:=by
 induction l with
 | nil=>simp[tot.tots]
 | cons a l ih=>simp[tot.tots,ih];omega
theorem tot_mem {l:List Ty}{a:Ty}(h:a∈l):a.tot<=tot.tots l:=by
 induction l with
 | nil=>cases h
 | cons b r ih=>
  simp only[tot.tots];rcases List.mem_cons.1 h with rfl|h;· omega
  ·have:=ih h;omega
theorem cntN_eq (t:Ty)(m:Int):t.cntN m=cntN.cnts t.args (1) m:=by cases t;rfl
theorem cnts_stop (r:List Ty)(n m:Int)(h:¬n<=m):cntN.cnts r n m=n:=by cases r <;> simp[cntN.cnts,h]
theorem cnts_append (l r:List Ty)(n m:Int):cntN.cnts (l++r) n m=cntN.cnts r (cntN.cnts l n m) m:=by
 induction l generalizing n with
 | nil=>rfl
 | cons a l ih=>
  simp only[List.cons_append,cntN.cnts];split;· exact ih _
  ·rename_i h;rw[cnts_stop _ _ _ h]
theorem cnts_key {l:List Ty}(h:∀a∈l,∀m:Int,1<=a.cntN m/\a.cntN m<=a.tot/\(a.cntN m<=m->a.cntN m=a.tot))(m:Int):∀n:Int,n<=cntN.cnts l n m/\cntN.cnts l n m<=n+tot.tots l/\(cntN.cnts l n m<=m->cntN.cnts l n m=n+tot.tots l):=by
 induction l with
 | nil=>intro n;simp[cntN.cnts,tot.tots]
 | cons a r Fy=>
  intro n;obtain⟨a1,a2,a3⟩:=h a sS (m - n);obtain⟨b1,b2,b3⟩:=Fy (fun b hb=>h b (List.mem_cons_of_mem _ hb)) (n+a.cntN (m - n));simp only[cntN.cnts,tot.tots];split
  ·refine⟨oO,oO,fun hm=>?_⟩;have:=b3 hm;have:=a3 oO;omega
  ·exact⟨oO,oO,oO⟩
theorem cnt_bd (t:Ty):∀m:Int,1<=t.cntN m/\t.cntN m<=t.tot/\(t.cntN m<=m->t.cntN m=t.tot):=by
 induction t using Ty.ind with
 | h t ih=>
 intro m;have h0:1<=(1:Int)/\(1:Int)<=(1:Nat)/\((1:Int)<=m->(1:Int)=(1:Nat)):=by
  exact⟨oO,oO,oO⟩
 obtain⟨k1,k2,k3⟩:=cnts_key ih m (1);rw[cntN_eq,tot_eq];refine⟨oO,oO,fun h=>?_⟩;have:=k3 h;have:=h0.2.2 oO;omega
theorem cnts_bd (l:List Ty)(n m:Int):n<=cntN.cnts l n m/\cntN.cnts l n m<=n+tot.tots l:=by
 obtain⟨h1,h2,-⟩:=cnts_key (fun a _=>cnt_bd a) m n (l:=l);exact⟨h1,h2⟩
end Ty
theorem VH (t:Ty)(m:Int)(hm:-1<=m/\m<=1000000)(hc:t.tot<=1073741824):cT gl 27 [t.dv,A0 m] [] (A0 (t.cntN m)) []:=by
 induction t using Ty.ind generalizing m with
 | h t ih=>
 refine A8 Tryz.func27 ?_;intro X hP u7 hf u9 hn hR u6 u5;have Dg:=Ty.tot_eq t;have hlen:=Ty.fit_len (u5 t.dv sS);refine A4 ?_;refine BK ?_;refine GH [] (by simp[go_sem]) (by simp[go_sem,Ty.cntN.cnts] <;> omega) (by simp[go_sem]) (FE (t.args) (fun done rest=>[sV 6 (A0 done.length),sV 5 (A0 (Ty.cntN.cnts done (1) m)),sV 1 (A0 m),sL 2 [.v (A0 t.kind),.v (.sl (t.args.map Ty.cells))],sP 2,sV 4 (A0 0)]) ?_ ?_)
 ·intro done x rest hL Aq Aa;have Ag:done.length<t.args.length:=by rw[hL];simp
  have Dd:=uE Aq;have An:=Ty.tot_mem Dd;have Mk:=Ty.cnts_append done (x::rest) (1) m;have Ei:=Ty.tots_append done (x::rest);rw[<- hL]at Mk Ei;have Hs:=Ty.cnts_append done [x] (1) m;simp only[Ty.cntN.cnts]at Hs;have Vy:=Ty.cnts_bd done (1) m;generalize Mq:Ty.cntN.cnts done (1) m=n0 at *;by_cases hle:n0<=m
  ·rw[if_pos hle]at Hs;have hbx:=Ty.cnt_bd x (m - n0);refine A7 (j2 @Ag @hle) ?_;refine A3 @Aq (ih x Dd (m - n0) oO oO) ?_;refine CR (wr []) @Hs tT Aa
  ·rw[Ty.cnts_stop _ _ _ hle]at Mk;refine A7 (j2 @Ag @hle) ?_;exact BD (j2 @Ty.cntN_eq @Mk)
 ·have Vy:=Ty.cnts_bd t.args (1) m;refine A4 ?_;exact BD @Ty.cntN_eq
namespace Tm
def tot:Tm->Nat
 | .mk _ _ y a=>1+y.tot+tots a
where
 tots:List Tm->Nat
  | []=>0
  | a::r=>a.tot+tots r
def cntN:Tm->Int->Int
 | .mk _ _ y a,m=>cnts a (1+y.cntN (m - 1)) m
where
 cnts:List Tm->Int->Int->Int
  | [],n,_=>n
  | a::r,n,m=>if n<=m then cnts r (n+a.cntN (m - n)) m else n
theorem tot_eq (t:Tm):t.tot=1+t.type.tot+tot.tots t.args:=by cases t;rfl
theorem tots_append (l r:List Tm):tot.tots (l++r)=tot.tots l+tot.tots r:=by
 induction l with
 | nil=>simp[tot.tots]
 | cons a l ih=>simp[tot.tots,ih];omega
theorem tot_mem {l:List Tm}{a:Tm}(h:a∈l):a.tot<=tot.tots l:=by
 induction l with
 | nil=>cases h
 | cons b r ih=>
  simp only[tot.tots];rcases List.mem_cons.1 h with rfl|h;· omega
  ·have:=ih h;omega
theorem cntN_eq (t:Tm)(m:Int):t.cntN m=cntN.cnts t.args (1+t.type.cntN (m - 1)) m:=by cases t;rfl
theorem cnts_stop (r:List Tm)(n m:Int)(h:¬n<=m):cntN.cnts r n m=n:=by cases r <;> simp[cntN.cnts,h]
theorem cnts_append (l r:List Tm)(n m:Int):cntN.cnts (l++r) n m=cntN.cnts r (cntN.cnts l n m) m:=by
 induction l generalizing n with
 | nil=>rfl
 | cons a l ih=>
  simp only[List.cons_append,cntN.cnts];split;· exact ih _
  ·rename_i h;rw[cnts_stop _ _ _ h]
theorem cnts_key {l:List Tm}(h:∀a∈l,∀m:Int,1<=a.cntN m/\a.cntN m<=a.tot/\(a.cntN m<=m->a.cntN m=a.tot))(m:Int):∀n:Int,n<=cntN.cnts l n m/\cntN.cnts l n m<=n+tot.tots l/\(cntN.cnts l n m<=m->cntN.cnts l n m=n+tot.tots l):=by
 induction l with
 | nil=>intro n;simp[cntN.cnts,tot.tots]
 | cons a r Fy=>
  intro n;obtain⟨a1,a2,a3⟩:=h a sS (m - n);obtain⟨b1,b2,b3⟩:=Fy (fun b hb=>h b (List.mem_cons_of_mem _ hb)) (n+a.cntN (m - n));simp only[cntN.cnts,tot.tots];split
  ·refine⟨oO,oO,fun hm=>?_⟩;have:=b3 hm;have:=a3 oO;omega
  ·exact⟨oO,oO,oO⟩
theorem cnt_bd (t:Tm):∀m:Int,1<=t.cntN m/\t.cntN m<=t.tot/\(t.cntN m<=m->t.cntN m=t.tot):=by
 induction t using Tm.ind with
 | h t ih=>
 intro m;have h0:1<=(1+t.type.cntN (m - 1):Int)/\(1+t.type.cntN (m - 1):Int)<=(1+t.type.tot:Nat)/\((1+t.type.cntN (m - 1):Int)<=m->(1+t.type.cntN (m - 1):Int)=(1+t.type.tot:Nat)):=by
  have:=Ty.cnt_bd t.type (m - 1);exact⟨oO,oO,oO⟩
 obtain⟨k1,k2,k3⟩:=cnts_key ih m (1+t.type.cntN (m - 1));rw[cntN_eq,tot_eq];refine⟨oO,oO,fun h=>?_⟩;have:=k3 h;have:=h0.2.2 oO;omega
theorem cnts_bd (l:List Tm)(n m:Int):n<=cntN.cnts l n m/\cntN.cnts l n m<=n+tot.tots l:=by
 obtain⟨h1,h2,-⟩:=cnts_key (fun a _=>cnt_bd a) m n (l:=l);exact⟨h1,h2⟩
end Tm
theorem iQ (t:Tm)(m:Int)(hm:0<=m/\m<=1000000)(hc:t.tot<=1073741824):cT gl 28 [t.dv,A0 m] [] (A0 (t.cntN m)) []:=by
 induction t using Tm.ind generalizing m with
 | h t ih=>
 refine A8 Tryz.func28 ?_;intro X hP u7 hf u9 hn hR u6 u5;have Dg:=Tm.tot_eq t;have hlen:=Tm.fit_len (u5 t.dv sS);have Be:=Ty.cnt_bd t.type (m - 1);refine A4 ?_;refine A3 tT (VH t.type (m - 1) oO oO) ?_;refine A4 ?_;refine BK ?_;refine GH [] (by simp[go_sem]) (by simp[go_sem,Tm.cntN.cnts] <;> omega) (by simp[go_sem]) (FE (t.args) (fun done rest=>[sV 6 (A0 done.length),sV 5 (A0 (Tm.cntN.cnts done (1+t.type.cntN (m - 1)) m)),sV 1 (A0 m),sL 2 [.v (A0 t.kind),.v (A0 t.index),.v (A0 t.type.kind),.v (.sl (t.type.args.map Ty.cells)),.v (.sl (t.args.map Tm.cells))],sP 2,sV 4 (A0 0)]) ?_ ?_)
 ·intro done x rest hL Aq Aa;have Ag:done.length<t.args.length:=by rw[hL];simp
  have Dd:=uE Aq;have An:=Tm.tot_mem Dd;have Mk:=Tm.cnts_append done (x::rest) (1+t.type.cntN (m - 1)) m;have Ei:=Tm.tots_append done (x::rest);rw[<- hL]at Mk Ei;have Hs:=Tm.cnts_append done [x] (1+t.type.cntN (m - 1)) m;simp only[Tm.cntN.cnts]at Hs;have Vy:=Tm.cnts_bd done (1+t.type.cntN (m - 1)) m;generalize Mq:Tm.cntN.cnts done (1+t.type.cntN (m - 1)) m=n0 at *;by_cases hle:n0<=m
  ·rw[if_pos hle]at Hs;have hbx:=Tm.cnt_bd x (m - n0);refine A7 (j2 @Ag @hle) ?_;refine A3 @Aq (ih x Dd (m - n0) oO oO) ?_;refine CR (wr []) @Hs tT Aa
  ·rw[Tm.cnts_stop _ _ _ hle]at Mk;refine A7 (j2 @Ag @hle) ?_;exact BD (j2 @Tm.cntN_eq @Mk)
 ·have Vy:=Tm.cnts_bd t.args (1+t.type.cntN (m - 1)) m;refine A4 ?_;exact BD @Tm.cntN_eq
namespace Val
def tot:Val->Nat
 | .mk _ _ l a=>1+l.length+tots a
where
 tots:List Val->Nat
  | []=>0
  | a::r=>a.tot+tots r
def cntN:Val->Int->Int
 | .mk _ _ l a,m=>cnts a (1+l.length) m
where
 cnts:List Val->Int->Int->Int
  | [],n,_=>n
  | a::r,n,m=>if n<=m then cnts r (n+a.cntN (m - n)) m else n
theorem tot_eq (t:Val):t.tot=1+t.list.length+tot.tots t.args:=by cases t;rfl
theorem tots_append (l r:List Val):tot.tots (l++r)=tot.tots l+tot.tots r:=by
 induction l with
 | nil=>simp[tot.tots]
 | cons a l ih=>simp[tot.tots,ih];omega
theorem tot_mem {l:List Val}{a:Val}(h:a∈l):a.tot<=tot.tots l:=by
 induction l with
 | nil=>cases h
 | cons b r ih=>
  simp only[tot.tots];rcases List.mem_cons.1 h with rfl|h;· omega
  ·have:=ih h;omega
theorem cntN_eq (t:Val)(m:Int):t.cntN m=cntN.cnts t.args (1+t.list.length) m:=by cases t;rfl
theorem cnts_stop (r:List Val)(n m:Int)(h:¬n<=m):cntN.cnts r n m=n:=by cases r <;> simp[cntN.cnts,h]
theorem cnts_append (l r:List Val)(n m:Int):cntN.cnts (l++r) n m=cntN.cnts r (cntN.cnts l n m) m:=by
 induction l generalizing n with
 | nil=>rfl
 | cons a l ih=>
  simp only[List.cons_append,cntN.cnts];split;· exact ih _
  ·rename_i h;rw[cnts_stop _ _ _ h]
theorem cnts_key {l:List Val}(h:∀a∈l,∀m:Int,1<=a.cntN m/\a.cntN m<=a.tot/\(a.cntN m<=m->a.cntN m=a.tot))(m:Int):∀n:Int,n<=cntN.cnts l n m/\cntN.cnts l n m<=n+tot.tots l/\(cntN.cnts l n m<=m->cntN.cnts l n m=n+tot.tots l):=by
 induction l with
 | nil=>intro n;simp[cntN.cnts,tot.tots]
 | cons a r Fy=>
  intro n;obtain⟨a1,a2,a3⟩:=h a sS (m - n);obtain⟨b1,b2,b3⟩:=Fy (fun b hb=>h b (List.mem_cons_of_mem _ hb)) (n+a.cntN (m - n));simp only[cntN.cnts,tot.tots];split
  ·refine⟨oO,oO,fun hm=>?_⟩;have:=b3 hm;have:=a3 oO;omega
  ·exact⟨oO,oO,oO⟩
theorem cnt_bd (t:Val):∀m:Int,1<=t.cntN m/\t.cntN m<=t.tot/\(t.cntN m<=m->t.cntN m=t.tot):=by
 induction t using Val.ind with
 | h t ih=>
 intro m;have h0:1<=(1+t.list.length:Int)/\(1+t.list.length:Int)<=(1+t.list.length:Nat)/\((1+t.list.length:Int)<=m->(1+t.list.length:Int)=(1+t.list.length:Nat)):=by
  exact⟨oO,oO,oO⟩
 obtain⟨k1,k2,k3⟩:=cnts_key ih m (1+t.list.length);rw[cntN_eq,tot_eq];refine⟨oO,oO,fun h=>?_⟩;have:=k3 h;have:=h0.2.2 oO;omega
theorem cnts_bd (l:List Val)(n m:Int):n<=cntN.cnts l n m/\cntN.cnts l n m<=n+tot.tots l:=by
 obtain⟨h1,h2,-⟩:=cnts_key (fun a _=>cnt_bd a) m n (l:=l);exact⟨h1,h2⟩
end Val
theorem Ty.tot_count (t:Ty):t.tot=t.count:=by
 induction t using Ty.ind with
 | h t ih=>
 have key:∀l:List Ty,(∀a∈l,a.tot=a.count)->Ty.tot.tots l=Ty.count.counts l:=by
  intro l
  induction l with
  | nil=>intro _;rfl
  | cons a r Fy=>intro h;simp only[Ty.tot.tots,Ty.count.counts,h a sS,Fy fun b hb=>h b (List.mem_cons_of_mem _ hb)]
 rw[Ty.tot_eq,Ty.count_eq,key t.args ih]
theorem Tm.tot_count (t:Tm):t.count<=t.tot/\(t.tot<=1073741824->t.tys):=by
 induction t using Tm.ind with
 | h t ih=>
 have key:∀l:List Tm,(∀a∈l,a.count<=a.tot)->Tm.count.counts l<=Tm.tot.tots l:=by
  intro l
  induction l with
  | nil=>intro _;exact Nat.le_refl _
  | cons a r Fy=>
   intro h;have h1:=h a sS;have h2:=Fy fun b hb=>h b (List.mem_cons_of_mem _ hb);simp only[Tm.tot.tots,Tm.count.counts];omega
 have h1:=key t.args fun a ha=>(ih a ha).1;have h2:=Ty.tot_count t.type;rw[Tm.tot_eq,Tm.count_eq];refine⟨oO,fun h=>(Tm.tys_eq t).2 ⟨oO,fun a ha=>(ih a ha).2 ?_⟩⟩;have:=Tm.tot_mem ha;omega
end
section
variable {gl:AF}
def HU:List Ty->Int
 | []=>0
 | t::r=>if t.checkN=0 then HU r else t.checkN
def OM (l:List Ty):Int:=if 16<l.length then 3 else HU l
theorem LI (l m:List Ty)(h:HU l=0):HU (l++m)=HU m:=by
 induction l with
 | nil=>rfl
 | cons a r ih=>
  simp only[HU]at h;split at h;· rename_i ha;simp only[List.cons_append,HU,ha,if_true];exact ih h
  ·rename_i ha;exact absurd h ha
theorem X0 (l:List Ty)(hc:∀t∈l,t.count<=2147483648):cT gl 95 [.sl (l.map Ty.cells)] [] (A0 (OM l)) []:=by
 refine A8 Tryz.func95 ?_;intro X hP u7 hf u9 hn hR u6 u5;have hlen:=K7 (u5 (.sl (l.map Ty.cells)) sS);simp only[List.length_map]at hlen;by_cases h:16<l.length
 ·refine A7 @h ?_;exact BD (j2 @OM.eq_1 @h)
 ·refine A7 @h ?_;refine BK ?_;refine AC [] tT (O8 (l) (fun done=>HU done=0) (fun done rest=>[sV 11 (A0 done.length),sV 10 (A0 l.length),sV 9 (.sl (l.map Ty.cells))]) (rfl) ?_ ?_)
  ·intro done x rest hL hg hI Aa;have Ag:done.length<l.length:=by rw[hL];simp
   have hx:=LI done (x::rest) hI;rw[<- hL]at hx;refine A2 ?_;refine AE ?_;refine AX @hg ?_;refine A3 @hg (DX x (hc x (uE hg))) ?_;by_cases Mn:x.checkN=0;· refine CR (wr []) tT @Mn (Aa (by rw[LI done [x] hI];simp[HU,Mn]))
   ·refine A7 @Mn ?_;exact BD (j6 @OM.eq_1 @h @hx @HU.eq_1 @HU.eq_2 @Mn)
  ·intro hI;refine A2 ?_;refine B6 ?_;refine A4 ?_;exact BD (j3 @OM.eq_1 @h @hI)
theorem IV (k:Int):cT gl 136 [A0 k] [] (A0 (B5 k)) []:=by
 refine A8 Tryz.func136 ?_;intro X hP u7 hf u9 hn hR u6 u5;by_cases Cb:k=1
 ·refine A7 @Cb ?_;refine IL ?_;simp[go_sem,hP,u7,hn,B5,Cb] <;> (try omega)
 by_cases Bg:k=4
 ·refine A7 @Bg ?_;refine IL ?_;simp[go_sem,hP,u7,hn,B5,Bg] <;> (try omega)
 by_cases By:k=7
 ·refine A7 @By ?_;refine IL ?_;simp[go_sem,hP,u7,hn,B5,By] <;> (try omega)
 by_cases Fa:k=13
 ·refine A7 @Fa ?_;refine IL ?_;simp[go_sem,hP,u7,hn,B5,Fa] <;> (try omega)
 by_cases Oi:k=2
 ·refine A7 @Oi ?_;refine IL ?_;simp[go_sem,hP,u7,hn,B5,Oi] <;> (try omega)
 by_cases Ui:k=5
 ·refine A7 @Ui ?_;refine IL ?_;simp[go_sem,hP,u7,hn,B5,Ui] <;> (try omega)
 by_cases Uu:k=11
 ·refine A7 @Uu ?_;refine IL ?_;simp[go_sem,hP,u7,hn,B5,Uu] <;> (try omega)
 by_cases Ur:k=12
 ·refine A7 @Ur ?_;refine IL ?_;simp[go_sem,hP,u7,hn,B5,Ur] <;> (try omega)
 by_cases Wj:k=3
 ·refine A7 @Wj ?_;refine IL ?_;simp[go_sem,hP,u7,hn,B5,Wj] <;> (try omega)
 by_cases Qw:k=8
 ·refine A7 @Qw ?_;refine IL ?_;simp[go_sem,hP,u7,hn,B5,Qw] <;> (try omega)
 by_cases Mi:k=10
 ·refine A7 @Mi ?_;refine IL ?_;simp[go_sem,hP,u7,hn,B5,Mi] <;> (try omega)
 by_cases Mc:k=6
 ·refine A7 @Mc ?_;refine IL ?_;simp[go_sem,hP,u7,hn,B5,Mc] <;> (try omega)
 by_cases Lq:k=9
 ·refine A7 @Lq ?_;refine IL ?_;simp[go_sem,hP,u7,hn,B5,Lq] <;> (try omega)
 refine A7 (j8 @Cb @Bg @By @Fa @Oi @Ui @Uu (j6 @Ur @Wj @Qw @Mi @Mc @Lq)) ?_;refine IL ?_;simp[go_sem,hP,u7,hn,B5,Cb,Bg,By,Fa,Oi,Ui,Uu,Ur,Wj,Qw,Mi,Mc,Lq] <;> (try omega)
def K8 (t:Tm):Bool:=decide ((t.args.length:Int)=B5 t.kind)&&decide (0<=t.index)&&(decide (t.kind=1)||decide (t.index=0))
theorem aR (t:Tm)(ht:t.tys):cT gl 102 [t.dv] [] (AK t.shape) []:=by
 induction t using Tm.ind with
 | h t ih=>
 obtain⟨ht1,Vj⟩:=(Tm.tys_eq t).1 ht;refine A8 Tryz.func102 ?_;intro X hP u7 hf u9 hn hR u6 u5;have hlen:=Tm.fit_len (u5 t.dv sS);have hs:=Tm.shape_eq t;refine A2 ?_;repeat (first|refine DI ?_|refine C7 ?_|refine AR ?_|refine BH ?_)
 refine z88 [sV 26 (AK (!K8 t)),sL 1 [.v (A0 t.kind),.v (A0 t.index),.v (A0 t.type.kind),.v (.sl (t.type.args.map Ty.cells)),.v (.sl (t.args.map Tm.cells))],sP 1] ?_ ?_
 ·intro Ac;by_cases hA:(t.args.length:Int)=B5 t.kind
  ·by_cases hB:t.index<0
   ·refine A3 (j2 @hA @hB) (IV t.kind) ?_;refine K0 ?_;refine AC [] (j3 @K8.eq_1 @hA @hB) Ac
   ·by_cases hC:t.kind=1
    ·refine A3 (j3 @hA @hB @hC) (IV t.kind) ?_;refine K0 ?_;refine AC [] (j4 @K8.eq_1 @hA @hB @hC) Ac
    ·by_cases hD:t.index=0
     ·refine A3 (j4 @hA @hB @hC @hD) (IV t.kind) ?_;refine K0 ?_;refine AC [] (j5 @K8.eq_1 @hA @hB @hC @hD) Ac
     ·refine A3 (j4 @hA @hB @hC @hD) (IV t.kind) ?_;refine K0 ?_;refine AC [] (j5 @K8.eq_1 @hA @hB @hC @hD) Ac
  ·refine A3 @hA (IV t.kind) ?_;refine K0 ?_;refine AC [] (j2 @K8.eq_1 @hA) Ac
 ·by_cases Ej:K8 t=true
  ·have hk:IM t.kind t.index t.type t.args.length=C4 t.kind t.type:=by
    simp only[K8,uH,decide_eq_true_eq]at Ej;simp[IM,Ej]
   refine QZ @Ej ?_;refine A2 ?_;repeat (first|refine DI ?_|refine C7 ?_|refine AR ?_|refine BH ?_)
   refine iJ (C4 t.kind t.type=true) [sL 1 [.v (A0 t.kind),.v (A0 t.index),.v (A0 t.type.kind),.v (.sl (t.type.args.map Ty.cells)),.v (.sl (t.args.map Tm.cells))],sP 1] ?_ ?_
   ·intro Ac;by_cases k2:t.kind=2
    ·refine A7 @k2 ?_;refine A3 tT (DX t.type oO) ?_;by_cases hc:t.type.checkN=0;· refine CR (wr []) @k2 (j2 @k2 @hc) (Ac (by simp[C4,k2,hc]))
     ·have hz:C4 t.kind t.type=false:=by simp[C4,k2,hc]
      refine A7 @hc ?_;exact BD (j3 @hs @hk @hz)
    by_cases k6:t.kind=6
    ·refine A7 @k6 ?_;refine A3 tT (DX t.type oO) ?_;by_cases hc:t.type.checkN=0;· refine CR (wr []) @k6 (j2 @k6 @hc) (Ac (by simp[C4,k6,hc]))
     ·have hz:C4 t.kind t.type=false:=by simp[C4,k6,hc]
      refine A7 @hc ?_;exact BD (j3 @hs @hk @hz)
    by_cases k9:t.kind=9
    ·refine A7 @k9 ?_;refine A3 tT (DX t.type oO) ?_;by_cases hc:t.type.checkN=0;· refine CR (wr []) @k9 (j2 @k9 @hc) (Ac (by simp[C4,k9,hc]))
     ·have hz:C4 t.kind t.type=false:=by simp[C4,k9,hc]
      refine A7 @hc ?_;exact BD (j3 @hs @hk @hz)
    refine A7 (j3 @k2 @k6 @k9) ?_;refine A3 tT (eN t.type) ?_;by_cases hc:t.type.zero=true;· refine CR (wr []) tT @hc (Ac (by simp[C4,k2,k6,k9,hc]))
    ·have hz:C4 t.kind t.type=false:=by simp[C4,k2,k6,k9,hc]
     refine A7 @hc ?_;exact BD (j3 @hs @hk @hz)
   ·intro Be;refine A4 ?_;refine BK ?_;refine GH [] (by simp[go_sem]) (by simp[go_sem,Tm.shape.shapes] <;> omega) (by simp[go_sem]) (O8 (t.args) (fun done=>Tm.shape.shapes done=true) (fun done rest=>[sV 44 (A0 done.length),sV 43 (A0 t.args.length),sV 42 (.sl (t.args.map Tm.cells))]) (rfl) ?_ ?_)
    ·intro done x rest hL hg hI Aa;have Ag:done.length<t.args.length:=by rw[hL];simp
     refine A2 ?_;refine AE ?_;refine AX @hg ?_;refine A3 @hg (ih x (uE hg) (Vj x (uE hg))) ?_;by_cases hx:x.shape=true;· refine CR (wr []) tT @hx (Aa (by rw[Tm.shapes_append];simp[hI,Tm.shape.shapes,hx]))
     ·refine A7 @hx ?_;have:t.shape=false:=by rw[hs,hL,Tm.shapes_append];simp[Tm.shape.shapes,hx]
      exact BD @this
    ·intro hI;refine A2 ?_;refine B6 ?_;refine A4 ?_;exact BD (j4 @hs @hk @Be @hI)
  ·have hk:IM t.kind t.index t.type t.args.length=false:=by
    simp only[K8,uH,decide_eq_true_eq]at Ej;simp only[IM];cases hh:(decide ((t.args.length:Int)=B5 t.kind)&&decide (0<=t.index)&&(decide (t.kind=1)||decide (t.index=0))) with
    | true=>exact absurd (by simpa using hh) Ej
    | false=>rfl
   refine A7 @Ej ?_;exact BD (j2 @hs @hk)
theorem RY (t:Tm)(ht:t.tys)(hc:t.count<=2147483648):cT gl 55 [t.dv] [] (A0 t.checkN) []:=by
 refine A8 Tryz.func55 ?_;intro X hP u7 hf u9 hn hR u6 u5;refine A4 ?_;refine A3 tT (aR t ht) ?_;by_cases h:t.shape=true
 ·refine A7 @h ?_;refine A3 tT (aP t hc) ?_;by_cases h2:4096<t.count
  ·refine A7 @h2 ?_;exact BD (j3 @Tm.checkN.eq_1 @h @h2)
  ·refine A7 @h2 ?_;exact BD (j3 @Tm.checkN.eq_1 @h @h2)
 ·refine A7 @h ?_;exact BD (j2 @Tm.checkN.eq_1 @h)
def H1:List (List DV):=AP [0,0,1,2,0,1,3,0,2,3,2,1,1,0]
def GI (k:Int):Bool:=decide (1<=k)&&decide (k<=13)
theorem VI (k:Int):GI k=decide (0<=B5 k):=by
 unfold GI B5;by_cases h:1<=k/\k<=13
 ·have:k=1\/k=2\/k=3\/k=4\/k=5\/k=6\/k=7\/k=8\/k=9\/k=10\/k=11\/k=12\/k=13:=oO;rcases this with rfl|rfl|rfl|rfl|rfl|rfl|rfl|rfl|rfl|rfl|rfl|rfl|rfl <;> decide
 ·rw[if_neg oO,if_neg oO,if_neg oO,if_neg oO]
  simp;omega
theorem z9i (Bl:ET gl 0=some H1)(k:Int):cT gl 174 [A0 k] [] (.tup [A0 (if GI k=true then B5 k else 0),AK (GI k)]) []:=by
 refine A8 Tryz.func174 ?_;intro X hP u7 hf u9 hn hR u6 u5;have hk:=Bl;simp only[H1,AP,List.map]at hk;by_cases Cb:k=1
 ·refine A7 (j2 @Cb @hk) ?_;refine IL ?_;simp[go_sem,hP,u7,hn,GI,B5,Cb] <;> (try omega)
 by_cases Bg:k=2
 ·refine A7 (j2 @Bg @hk) ?_;refine IL ?_;simp[go_sem,hP,u7,hn,GI,B5,Bg] <;> (try omega)
 by_cases By:k=3
 ·refine A7 (j2 @By @hk) ?_;refine IL ?_;simp[go_sem,hP,u7,hn,GI,B5,By] <;> (try omega)
 by_cases Fa:k=4
 ·refine A7 (j2 @Fa @hk) ?_;refine IL ?_;simp[go_sem,hP,u7,hn,GI,B5,Fa] <;> (try omega)
 by_cases Oi:k=5
 ·refine A7 (j2 @Oi @hk) ?_;refine IL ?_;simp[go_sem,hP,u7,hn,GI,B5,Oi] <;> (try omega)
 by_cases Ui:k=6
 ·refine A7 (j2 @Ui @hk) ?_;refine IL ?_;simp[go_sem,hP,u7,hn,GI,B5,Ui] <;> (try omega)
 by_cases Uu:k=7
 ·refine A7 (j2 @Uu @hk) ?_;refine IL ?_;simp[go_sem,hP,u7,hn,GI,B5,Uu] <;> (try omega)
 by_cases Ur:k=8
 ·refine A7 (j2 @Ur @hk) ?_;refine IL ?_;simp[go_sem,hP,u7,hn,GI,B5,Ur] <;> (try omega)
 by_cases Wj:k=9
 ·refine A7 (j2 @Wj @hk) ?_;refine IL ?_;simp[go_sem,hP,u7,hn,GI,B5,Wj] <;> (try omega)
 by_cases Qw:k=10
 ·refine A7 (j2 @Qw @hk) ?_;refine IL ?_;simp[go_sem,hP,u7,hn,GI,B5,Qw] <;> (try omega)
 by_cases Mi:k=11
 ·refine A7 (j2 @Mi @hk) ?_;refine IL ?_;simp[go_sem,hP,u7,hn,GI,B5,Mi] <;> (try omega)
 by_cases Mc:k=12
 ·refine A7 (j2 @Mc @hk) ?_;refine IL ?_;simp[go_sem,hP,u7,hn,GI,B5,Mc] <;> (try omega)
 by_cases Lq:k=13
 ·refine A7 (j2 @Lq @hk) ?_;refine IL ?_;simp[go_sem,hP,u7,hn,GI,B5,Lq] <;> (try omega)
 by_cases Im:k<1
 ·have:GI k=false:=by simp[GI];omega
  refine A7 @Im ?_;exact BD @this
 ·have La:14<=k:=oO;have:GI k=false:=by simp[GI];omega
  refine A7 (j2 @Im @La) ?_;exact BD @this
theorem z9j (k:Int):cT gl 175 [A0 k] [] (AK (decide (k=2)||decide (k=6)||decide (k=9))) []:=by
 refine A8 Tryz.func175 ?_;intro X hP u7 hf u9 hn hR u6 u5;by_cases Cb:k=2
 ·refine A7 @Cb ?_;refine IL ?_;simp[go_sem,hP,u7,hn,Cb] <;> (try omega)
 by_cases Bg:k=6
 ·refine A7 @Bg ?_;refine IL ?_;simp[go_sem,hP,u7,hn,Bg] <;> (try omega)
 by_cases By:k=9
 ·refine A7 @By ?_;refine IL ?_;simp[go_sem,hP,u7,hn,By] <;> (try omega)
 refine A7 (j3 @Cb @Bg @By) ?_;refine IL ?_;simp[go_sem,hP,u7,hn,Cb,Bg,By] <;> (try omega)
theorem z39 (t:Ty):cT gl 176 [t.dv] [] (AK t.zero) []:=by
 refine A8 Tryz.func176 ?_;intro X hP u7 hf u9 hn hR u6 u5;by_cases h:t.kind=0
 ·refine A7 @h ?_;exact BD (j2 @Ty.zero.eq_1 @h)
 ·refine A7 @h ?_;exact BD (j2 @Ty.zero.eq_1 @h)
def Ty.nodesR (t:Ty):DV:=.tup [A0 (if t.shape=true then t.count else 0:Nat),AK t.shape]
theorem VJ (t:Ty)(hc:t.count<=2147483648):cT gl 110 [t.dv] [] t.nodesR []:=by
 induction t using Ty.ind with
 | h t ih=>
 rw[Ty.count_eq]at hc;refine A8 Tryz.func110 ?_;intro X hP u7 hf u9 hn hR u6 u5;have hlen:=Ty.fit_len (u5 t.dv sS);have hs:=Ty.shape_eq t;have no:t.shape=false->t.nodesR = .tup [A0 0,AK false]:=fun h=>by simp[Ty.nodesR,h]
 refine A2 ?_;refine A2 ?_;refine A2 ?_;repeat (first|refine DI ?_|refine C7 ?_|refine AR ?_|refine BH ?_)
 refine iJ (t.kind=1\/t.kind=2\/t.kind=5\/t.kind=3\/t.kind=4) [sV 4 (A0 (KR t.kind)),sL 1 [.v (A0 t.kind),.v (.sl (t.args.map Ty.cells))],sP 1] ?_ ?_
 ·intro Ac;by_cases h1:t.kind=1;· refine CR (wr []) (j2 @KR.eq_1 @h1) @h1 (Ac (by simp[h1]))
  by_cases h2:t.kind=2;· refine CR (wr []) (j2 @KR.eq_1 @h2) @h2 (Ac (by simp[h2]))
  by_cases h3:t.kind=5;· refine CR (wr []) (j2 @KR.eq_1 @h3) @h3 (Ac (by simp[h3]))
  by_cases h4:t.kind=3;· refine CR (wr []) (j2 @KR.eq_1 @h4) @h4 (Ac (by simp[h4]))
  by_cases h5:t.kind=4;· refine CR (wr []) (j2 @KR.eq_1 @h5) @h5 (Ac (by simp[h5]))
  have hz:=no (by rw[hs];simp[HD,h1,h2,h3,h4,h5]);refine A7 (j5 @h1 @h2 @h3 @h4 @h5) ?_;exact BD @hz
 ·intro hk;by_cases hl:(t.args.length:Int)=KR t.kind
  ·have Be:HD t.kind t.args.length=true:=by
    unfold KR at hl;unfold HD;rcases hk with h|h|h|h|h <;> simp[h]at hl ⊢ <;> omega
   refine A7 @hl ?_;refine BK ?_;refine GH [] (by simp[go_sem]) (by simp[go_sem,Ty.count.counts] <;> omega) (by simp[go_sem]) (O8 (t.args) (fun done=>Ty.shape.shapes done=true) (fun done rest=>[sV 5 (A0 (1+Ty.count.counts done:Nat)),sV 27 (A0 done.length),sV 26 (A0 t.args.length),sV 25 (.sl (t.args.map Ty.cells))]) (rfl) ?_ ?_)
   ·intro done x rest hL hg hI Aa;have Ag:done.length<t.args.length:=by rw[hL];simp
    have An:Ty.count.counts t.args=Ty.count.counts done+(x.count+Ty.count.counts rest):=by rw[hL,Ty.counts_append];rfl
    rw[Ty.counts_append]at Aa;refine A2 ?_;refine AE ?_;refine AX @hg ?_;by_cases hx:x.shape=true
    ·refine A3 (j3 @hg @Ty.nodesR.eq_1 @hx) (ih x (uE hg) oO) ?_;repeat (first|(refine GH [] (by simp[go_sem]) (by simp[go_sem,Ty.count.counts] <;> omega) (by simp[go_sem]) (Aa (by rw[Ty.shapes_append];simp[hI,Ty.shape.shapes,hx])))|refine DI ?_|refine C7 ?_|refine CB ?_|refine AR ?_|refine BH ?_|refine CL rfl ?_|((first|refine AQ [] fun K hK=>?_|refine AL (by rw[hP];exact AZ) [] fun K hK=>?_);simp[go_sem,hP,u7,hn,hx];(repeat (refine⟨oO,?_⟩));(first|refine hK _ ?_|refine⟨by rfl,hK _ ?_⟩);clear hK K)|refine BN rfl (fun _=>?_) (fun hq=>False.elim (by first|(simp[hx];done)|(simp[hx];omega)|(simp[hx]at hq;done)|(simp[hx]at hq;omega)))|refine BN rfl (fun hq=>False.elim (by first|(simp[hx];done)|(simp[hx];omega)|(simp[hx]at hq;done)|(simp[hx]at hq;omega))) (fun _=>?_))
    ·have hz:=no (by rw[hs,hL,Ty.shapes_append];simp[Ty.shape.shapes,hx]);refine A3 (j3 @hg @Ty.nodesR.eq_1 @hx) (ih x (uE hg) oO) ?_;refine A7 @hx ?_;exact BD @hz
   ·intro hI;have hz:t.nodesR = .tup [A0 t.count,AK true]:=by simp[Ty.nodesR,hs,Be,hI]
    refine A2 ?_;refine B6 ?_;refine A4 ?_;exact BD (j2 @hz @Ty.count_eq)
  ·have hz:=no (by
    rw[hs];have:HD t.kind t.args.length=false:=by
     unfold KR at hl;unfold HD;rcases hk with h|h|h|h|h <;> simp[h]at hl ⊢ <;> omega
    simp[this])
   refine A7 @hl ?_;exact BD @hz
theorem K9 (t:Ty)(hc:t.count<=2147483648):cT gl 65 [t.dv] [] (.tup [A0 (if t.checkN=0 then t.count else 0:Nat),A0 t.checkN]) []:=by
 refine A8 Tryz.func65 ?_;intro X hP u7 hf u9 hn hR u6 u5;refine A4 ?_;by_cases h:t.shape=true
 ·refine A3 (j2 @Ty.nodesR.eq_1 @h) (VJ t hc) ?_;by_cases h2:64<t.count
  ·refine A7 (j2 @h @h2) ?_;exact BD (j3 @Ty.checkN.eq_1 @h @h2)
  ·refine A7 (j2 @h @h2) ?_;exact BD (j3 @Ty.checkN.eq_1 @h @h2)
 ·refine A3 (j2 @Ty.nodesR.eq_1 @h) (VJ t hc) ?_;refine A7 @h ?_;exact BD (j2 @Ty.checkN.eq_1 @h)
def MM (t:Tm):Bool:=GI t.kind&&decide ((t.args.length:Int)=B5 t.kind)&&decide (0<=t.index)&&(decide (t.index=0)||decide (t.kind=1))
theorem tE (t:Tm):MM t=K8 t:=by
 unfold MM K8;rw[VI];cases h:decide ((t.args.length:Int)=B5 t.kind) with
 | false=>simp
 | true=>
  have h1:(t.args.length:Int)=B5 t.kind:=by simpa using h
  have:decide (0<=B5 t.kind)=true:=by simp;omega
  rw[this];cases decide (0<=t.index) <;> cases decide (t.index=0) <;> cases decide (t.kind=1) <;> rfl
def Tm.nodesR (t:Tm):DV:=.tup [A0 (if t.shape=true then t.count else 0:Nat),AK t.shape]
theorem VK (Bl:ET gl 0=some H1)(t:Tm)(ht:t.tys)(hc:t.count<=2147483648):cT gl 151 [t.dv] [] t.nodesR []:=by
 induction t using Tm.ind with
 | h t ih=>
 obtain⟨ht1,Vj⟩:=(Tm.tys_eq t).1 ht;rw[Tm.count_eq]at hc;refine A8 Tryz.func151 ?_;intro X hP u7 hf u9 hn hR u6 u5;have hlen:=Tm.fit_len (u5 t.dv sS);have hs:=Tm.shape_eq t;have no:t.shape=false->t.nodesR = .tup [A0 0,AK false]:=fun h=>by simp[Tm.nodesR,h]
 refine A4 ?_;refine A3 tT (z9i Bl t.kind) ?_;repeat (first|refine DI ?_|refine C7 ?_|refine AR ?_|refine BH ?_)
 refine z88 [sV 42 (AK (!MM t)),sL 1 [.v (A0 t.kind),.v (A0 t.index),.v (A0 t.type.kind),.v (.sl (t.type.args.map Ty.cells)),.v (.sl (t.args.map Tm.cells))],sP 1] ?_ ?_
 ·intro Ac;by_cases h0:GI t.kind=true
  ·by_cases hA:(t.args.length:Int)=B5 t.kind
   ·by_cases hB:t.index<0
    ·refine AX (j3 @h0 @hA @hB) ?_;refine K0 ?_;refine AC [] (j4 @MM.eq_1 @h0 @hA @hB) Ac
    ·by_cases hD:t.index=0
     ·refine AX (j4 @h0 @hA @hB @hD) ?_;refine K0 ?_;refine AC [] (j5 @MM.eq_1 @h0 @hA @hB @hD) Ac
     ·by_cases hC:t.kind=1
      ·have Wr:GI 1=true:=rfl;refine AX (j6 @h0 @hA @hB @hD @hC @Wr) ?_;refine K0 ?_;refine AC [] (j7 @MM.eq_1 @h0 @hA @hB @hD @hC @Wr) Ac
      ·refine AX (j5 @h0 @hA @hB @hD @hC) ?_;refine K0 ?_;refine AC [] (j6 @MM.eq_1 @h0 @hA @hB @hD @hC) Ac
   ·refine AX (j2 @h0 @hA) ?_;refine K0 ?_;refine AC [] (j3 @MM.eq_1 @h0 @hA) Ac
  ·refine AX @h0 ?_;refine K0 ?_;refine AC [] (j2 @MM.eq_1 @h0) Ac
 ·rw[tE];by_cases Ej:K8 t=true
  ·have hk:IM t.kind t.index t.type t.args.length=C4 t.kind t.type:=by
    simp only[K8,uH,decide_eq_true_eq]at Ej;simp[IM,Ej]
   refine QZ @Ej ?_;refine A3 tT (z9j t.kind) ?_;repeat (first|refine DI ?_|refine C7 ?_|refine AR ?_|refine BH ?_)
   refine iJ (C4 t.kind t.type=true) [sL 1 [.v (A0 t.kind),.v (A0 t.index),.v (A0 t.type.kind),.v (.sl (t.type.args.map Ty.cells)),.v (.sl (t.args.map Tm.cells))],sP 1] ?_ ?_
   ·intro Ac;by_cases k2:t.kind=2
    ·refine A7 @k2 ?_;refine A3 tT (K9 t.type oO) ?_;by_cases hc:t.type.checkN=0;· refine CR (wr []) @k2 (j2 @k2 @hc) (Ac (by simp[C4,k2,hc]))
     ·have hz:=no (by rw[hs,hk];simp[C4,k2,hc]);refine A7 @hc ?_;exact BD @hz
    by_cases k6:t.kind=6
    ·refine A7 @k6 ?_;refine A3 tT (K9 t.type oO) ?_;by_cases hc:t.type.checkN=0;· refine CR (wr []) @k6 (j2 @k6 @hc) (Ac (by simp[C4,k6,hc]))
     ·have hz:=no (by rw[hs,hk];simp[C4,k6,hc]);refine A7 @hc ?_;exact BD @hz
    by_cases k9:t.kind=9
    ·refine A7 @k9 ?_;refine A3 tT (K9 t.type oO) ?_;by_cases hc:t.type.checkN=0;· refine CR (wr []) @k9 (j2 @k9 @hc) (Ac (by simp[C4,k9,hc]))
     ·have hz:=no (by rw[hs,hk];simp[C4,k9,hc]);refine A7 @hc ?_;exact BD @hz
    refine A7 (j3 @k2 @k6 @k9) ?_;refine A3 tT (z39 t.type) ?_;by_cases hc:t.type.zero=true;· refine CR (wr []) tT @hc (Ac (by simp[C4,k2,k6,k9,hc]))
    ·have hz:=no (by rw[hs,hk];simp[C4,k2,k6,k9,hc]);refine A7 @hc ?_;exact BD @hz
   ·intro Be;refine A4 ?_;refine BK ?_;refine GH [] (by simp[go_sem]) (by simp[go_sem,Tm.count.counts] <;> omega) (by simp[go_sem]) (O8 (t.args) (fun done=>Tm.shape.shapes done=true) (fun done rest=>[sV 8 (A0 (1+Tm.count.counts done:Nat)),sV 61 (A0 done.length),sV 60 (A0 t.args.length),sV 59 (.sl (t.args.map Tm.cells))]) (rfl) ?_ ?_)
    ·intro done x rest hL hg hI Aa;have Ag:done.length<t.args.length:=by rw[hL];simp
     have An:Tm.count.counts t.args=Tm.count.counts done+(x.count+Tm.count.counts rest):=by rw[hL,Tm.counts_append];rfl
     rw[Tm.counts_append]at Aa;refine A2 ?_;refine AE ?_;refine AX @hg ?_;by_cases hx:x.shape=true
     ·refine A3 (j3 @hg @Tm.nodesR.eq_1 @hx) (ih x (uE hg) (Vj x (uE hg)) oO) ?_;repeat (first|(refine GH [] (by simp[go_sem]) (by simp[go_sem,Tm.count.counts] <;> omega) (by simp[go_sem]) (Aa (by rw[Tm.shapes_append];simp[hI,Tm.shape.shapes,hx])))|refine DI ?_|refine C7 ?_|refine CB ?_|refine AR ?_|refine BH ?_|refine CL rfl ?_|((first|refine AQ [] fun K hK=>?_|refine AL (by rw[hP];exact AZ) [] fun K hK=>?_);simp[go_sem,hP,u7,hn,hx];(repeat (refine⟨oO,?_⟩));(first|refine hK _ ?_|refine⟨by rfl,hK _ ?_⟩);clear hK K)|refine BN rfl (fun _=>?_) (fun hq=>False.elim (by first|(simp[hx];done)|(simp[hx];omega)|(simp[hx]at hq;done)|(simp[hx]at hq;omega)))|refine BN rfl (fun hq=>False.elim (by first|(simp[hx];done)|(simp[hx];omega)|(simp[hx]at hq;done)|(simp[hx]at hq;omega))) (fun _=>?_))
     ·have hz:=no (by rw[hs,hL,Tm.shapes_append];simp[Tm.shape.shapes,hx]);refine A3 (j3 @hg @Tm.nodesR.eq_1 @hx) (ih x (uE hg) (Vj x (uE hg)) oO) ?_;refine A7 @hx ?_;exact BD @hz
    ·intro hI;have hz:t.nodesR = .tup [A0 t.count,AK true]:=by simp[Tm.nodesR,hs,hk,Be,hI]
     refine A2 ?_;refine B6 ?_;refine A4 ?_;exact BD (j2 @hz @Tm.count_eq)
  ·have hk:IM t.kind t.index t.type t.args.length=false:=by
    simp only[K8,uH,decide_eq_true_eq]at Ej;simp only[IM];cases hh:(decide ((t.args.length:Int)=B5 t.kind)&&decide (0<=t.index)&&(decide (t.kind=1)||decide (t.index=0))) with
    | true=>exact absurd (by simpa using hh) Ej
    | false=>rfl
   have hz:=no (by rw[hs,hk];rfl);refine A7 @Ej ?_;exact BD @hz
theorem iR (Bl:ET gl 0=some H1)(t:Tm)(ht:t.tys)(hc:t.count<=2147483648):cT gl 115 [t.dv] [] (.tup [A0 (if t.checkN=0 then t.count else 0:Nat),A0 t.checkN]) []:=by
 refine A8 Tryz.func115 ?_;intro X hP u7 hf u9 hn hR u6 u5;refine A4 ?_;by_cases h:t.shape=true
 ·refine A3 (j2 @Tm.nodesR.eq_1 @h) (VK Bl t ht hc) ?_;by_cases h2:4096<t.count
  ·refine A7 (j2 @h @h2) ?_;exact BD (j3 @Tm.checkN.eq_1 @h @h2)
  ·refine A7 (j2 @h @h2) ?_;exact BD (j3 @Tm.checkN.eq_1 @h @h2)
 ·refine A3 (j2 @Tm.nodesR.eq_1 @h) (VK Bl t ht hc) ?_;refine A7 @h ?_;exact BD (j2 @Tm.checkN.eq_1 @h)
theorem ON (Bl:ET gl 0=some H1)(t:Tm)(ht:t.tys)(hc:t.count<=2147483648):cT gl 77 [t.dv] [] (A0 t.checkN) []:=by
 refine A8 Tryz.func77 ?_;intro X hP u7 hf u9 hn hR u6 u5;refine A4 ?_;refine A3 tT (iR Bl t ht hc) ?_;refine A4 ?_;exact BR
def DA:Val:=Val.mk 0 0 [] []
theorem zg6:cT gl 179 [] [] (Ty.mk 2 []).dv []:=by
 refine A8 Tryz.func179 ?_;intro X hP u7 hf u9 hn hR u6 u5;refine A4 ?_;exact B9
theorem X1:cT gl 178 [] [] (Ty.mk 1 []).dv []:=by
 refine A8 Tryz.func178 ?_;intro X hP u7 hf u9 hn hR u6 u5;refine A4 ?_;exact B9
def Val.tyN:Val->Ty
 | .mk k _ _ a=>if k=2 then Ty.mk 2 [] else if k=4 then Ty.mk 5 [] else if k=3 then Ty.mk 3 (tys a) else Ty.mk 1 []
where
 tys:List Val->List Ty
  | []=>[]
  | a::r=>a.tyN::tys r
theorem Val.tys_map (l:List Val):tyN.tys l=l.map Val.tyN:=by
 induction l with
 | nil=>rfl
 | cons a r ih=>simp[tyN.tys,ih]
theorem Val.tyN_eq (v:Val):v.tyN=if v.kind=2 then Ty.mk 2 [] else if v.kind=4 then Ty.mk 5 [] else if v.kind=3 then Ty.mk 3 (v.args.map Val.tyN) else Ty.mk 1 []:=by
 cases v;rw[tyN,tys_map];rfl
def z9k:List Int->Int->Int × Bool
 | [],n=>(n,false)
 | x::r,n=>if 4096<n+(1+mS x) then (n+(1+mS x),true) else z9k r (n+(1+mS x))
def Val.lengthN:Val->Int
 | .mk k n l a=>
  if k=1 then lengths a (mS n)
  else if k=2 then (if (z9k l 1).2=true then (z9k l 1).1 else lengths a (z9k l 1).1)
  else lengths a 1
where
 lengths:List Val->Int->Int
  | [],n=>n
  | a::r,n=>lengths r (n+a.lengthN)
def Val.pos (v:Val):Prop:=0<=v.num/\∀n∈v.list,(0:Int)<=n
def Val.allPos:Val->Prop
 | .mk k n l a=>Val.pos (.mk k n l a)/\poss a
where
 poss:List Val->Prop
  | []=>True
  | a::r=>a.allPos/\poss r
theorem Val.poss_iff (l:List Val):allPos.poss l↔∀a∈l,a.allPos:=by
 induction l with
 | nil=>simp[allPos.poss]
 | cons a r ih=>simp[allPos.poss,ih]
theorem Val.allPos_eq (v:Val):v.allPos↔v.pos/\∀a∈v.args,a.allPos:=by
 cases v;simp only[allPos,poss_iff,args]
def Val.head (v:Val):Int:=if v.kind=1 then mS v.num else if v.kind=2 then (z9k v.list 1).1 else 1
theorem mW (l:List Int):Con Tryz.prog gl 167 [.sl (AP l)] [] fun r φ=>∃b,r = .prim (.func (.func 183) #[] #[.pointer (some ⟨b,0,none⟩)])/\φ=[(b,[.sl (AP l)])]:=by
 refine A8 Tryz.func167 ?_;intro X hP u7 hf u9 hn hR u6 u5;refine A2 ?_;refine EC 1 (by simp[go_sem];rfl) ?_;intro b hb;simp[go_sem];refine A2 ?_;refine BK ?_;refine WZ hP hf u9 (.prim (.func (.func 183) #[] #[.pointer (some ⟨b,0,none⟩)])) [(b,[.sl (AP l)])] (by simp[go_sem,hP,u7,hn]) (by simp[go_sem]) sS (by rw[hR.1];exact⟨b,rfl,rfl⟩) hR.2
def zix (P:Program)(gl:AF)(l:List Int)(φ:Nat->BU)(Stop:BU->Loop->Prop)(lp:Nat)(r:Loop)(D0:Nat->Nat->Prop)(w0:World):Prop:=
 ∀(i:Nat) (x:Int),l[i]? = some x->YC P gl D0 w0 lp r [A0 i,A0 x] (φ (i+1)) fun b Ae r'=>if b=true then Ae=φ i/\r' = r else Stop Ae r'
theorem z3a (l:List Int)(hlen:l.length<=2147483648)(b0:Nat)(φ:Nat->BU)(Bd:∀i,(φ i).map (·.1)=(φ 0).map (·.1))(Ai:((φ 0).map (·.1)).Nodup)(Da:b0∉(φ 0).map (·.1)){Stop:BU->Loop->Prop}(Kx:∀ψ r',Stop ψ r'->ψ.map (·.1)=(φ 0).map (·.1))(lp:Nat)(r:Loop)(Ka:r.params.size=2) :
  ItC Tryz.prog gl 183 [.prim (.func (.yield lp) #[] #[]),BC b0] ((b0,[.sl (AP l)])::φ l.length) lp r (zix Tryz.prog gl l φ Stop lp r) (fun Ae r'=>(Ae=(b0,[.sl (AP l)])::φ 0/\r' = r)\/∃ψ,Ae=(b0,[.sl (AP l)])::ψ/\Stop ψ r'):=by
 refine SQ Tryz.func183 rfl kK (uF rfl) ?_;intro X hP u7 hf u9 hn Ft u6 u5 Rf hY;simp only[List.map_cons,List.mem_cons,not_or,Bd]at Rf;obtain⟨Bc,Iv⟩:=Rf;have Ip:∀(i:Nat) (A:St),(∀m v,(m,v)∈A->∀b∈(φ 0).map (·.1),m≠.heap b)->BP (get (A++D9 (φ i))) (φ i):=fun i A h=>RW (by rw[Bd];exact Ai) (by rw[Bd];exact h);simp only[RU,OY,QX,D9,List.map_cons,List.map_nil,List.cons_append,List.nil_append];refine AX @Bc ?_;refine BK ?_;refine iM (A':=[(.slot 3,.one (.v (A0 ((l.length:Int) - 1 - (0:Nat))))),(.slot 0,.one (.v (.prim (.func (.yield lp) #[] #[])))),(.slot 1,.one (.v (BC b0))),(.heap lp,.ob r),(.heap b0,.row [.v (.sl (AP l))])]) (A:=[_,_,_,_,_,_,_,_]) ?_ ?_ ?_
 ·intro m v h;simp only[List.mem_cons,List.not_mem_nil,or_false,uD]at h;rcases h with⟨rfl,rfl⟩|⟨rfl,rfl⟩|⟨rfl,rfl⟩|⟨rfl,rfl⟩|⟨rfl,rfl⟩ <;> simp[go_sem,Bc]
 ·simp only[List.cons_append,List.nil_append];refine FD (X:=X) l.length (fun _=>True) (fun j=>(.slot 3,.one (.v (A0 ((l.length:Int) - 1 - (j:Nat)))))::(.slot 0,.one (.v (.prim (.func (.yield lp) #[] #[]))))::(.slot 1,.one (.v (BC b0)))::(.heap lp,.ob r)::(.heap b0,.row [.v (.sl (AP l))])::D9 (φ (l.length - j))) tT ?_ ?_
  ·intro j hj _ Aa;obtain⟨i,hi⟩:∃i:Nat,l.length=j+1+i:=⟨l.length - (j+1),oO⟩;have Lt:(l.length:Int) - 1 - (j:Nat)=(i:Nat):=oO;have Jt:l.length - j=i+1:=oO;have hi3:l.length - (j+1)=i:=oO;have hx:l[i]? = some l[i]:=uB oO;rw[Lt,Jt];rw[hi3]at Aa;generalize l[i]=x at hx;have Hi:=IS hx;refine A2 ?_;refine AE ?_;refine BK ?_;first|refine AQ [] fun K hK=>?_|refine AL (by rw[hP];exact AZ) [] fun K hK=>?_
   refine QY (j2 @Bc @Hi) ?_;repeat (refine⟨oO,?_⟩)
   refine Q7 (by simp[go_sem]) hP u7 (hY i x hx) Ka (by simp[go_sem]) rfl ?_ (by rw[Bd];exact Ai) (by simp[go_sem]) (by rw[hn];exact uF rfl) [(.slot 3,.one (.v (A0 (i:Nat)))),(.slot 0,.one (.v (.prim (.func (.yield lp) #[] #[])))),(.slot 1,.one (.v (BC b0))),(.heap b0,.row [.v (.sl (AP l))])] ?_ ?_ ?_
   ·repeat (first|refine JO ?_|refine JP (by rw[Bd];assumption) ?_)
    exact JQ (by rw[Bd];exact Ai)
   ·intro m v h;simp only[List.mem_cons,List.not_mem_nil,or_false,uD]at h;rw[Bd];rcases h with⟨rfl,rfl⟩|⟨rfl,rfl⟩|⟨rfl,rfl⟩|⟨rfl,rfl⟩;· simp[go_sem]
    ·simp[go_sem]
    ·simp[go_sem]
    ·refine⟨by simp[go_sem,Bc],sS,by simp;exact fun e=>Bc e.symm,fun b hb e=>?_⟩;cases e;exact Da hb
   ·intro b Ae r' h;have:Ae.map (·.1)=(φ 0).map (·.1):=by
     split at h;· rw[h.1,Bd]
     ·exact Kx _ _ h
    rw[this];exact⟨Ai,Iv⟩
   ·intro b Ae r' h _;simp only[List.cons_append,List.nil_append];cases b with
    | true=>
     simp only[if_true]at h;obtain⟨rfl,rfl⟩:=h;simp[go_sem,hP,u7,hn];refine F1 ?_;clear hK K;refine B6 ?_;refine A2 ?_;refine BK ?_;refine iM (A':=[(.slot 3,.one (.v (A0 ((l.length:Int) - 1 - (j+1:Nat))))),(.slot 0,.one (.v (.prim (.func (.yield lp) #[] #[])))),(.slot 1,.one (.v (BC b0))),(.heap lp,.ob r'),(.heap b0,.row [.v (.sl (AP l))])]) (A:=[_,_,_,_,_,_,_,_,_]) ?_ (Aa tT) ?_
     ·intro m v h;simp only[List.mem_cons,List.not_mem_nil,or_false,uD]at h;rcases h with⟨rfl,rfl⟩|⟨rfl,rfl⟩|⟨rfl,rfl⟩|⟨rfl,rfl⟩|⟨rfl,rfl⟩ <;> simp[go_sem,Bc];omega
     ·intro m v h;simp only[List.mem_cons,List.not_mem_nil,or_false,uD]at h;rw[Bd];intro b hb;rcases h with⟨rfl,rfl⟩|⟨rfl,rfl⟩|⟨rfl,rfl⟩|⟨rfl,rfl⟩|⟨rfl,rfl⟩|⟨rfl,rfl⟩|⟨rfl,rfl⟩|⟨rfl,rfl⟩|⟨rfl,rfl⟩ <;> first|(simp;done)|(intro e;cases e;first|exact Da hb|exact Iv hb)
    | false=>
     simp only[Bool.false_eq_true,if_false]at h;have Bw:=Kx _ _ h;simp[go_sem,hP,u7,hn];refine F1 ?_;clear hK K;refine AE ?_;refine BK ?_;refine SO Ft (φ:=(b0,[.sl (AP l)])::Ae) (q:=r') (r:=.tup []) (by rw[hP,hf,u9];exact Tryz.func183) (by rw[u9];simp[go_sem]) (AO ?_ ?_) ?_ ?_ (.inr ⟨Ae,rfl,h⟩) V4;· simp[go_sem,Bc]
     ·repeat (first|refine JO ?_|refine JP (by rw[Bw];assumption) ?_)
      exact JQ (by rw[Bw];exact Ai)
     ·simp only[List.map_cons,List.nodup_cons,Bw];exact⟨Da,Ai⟩
     ·simp[go_sem,Bc]
  ·intro _;refine A2 ?_;refine B6 ?_;refine BK ?_;refine SO Ft (φ:=(b0,[.sl (AP l)])::φ 0) (q:=r) (r:=.tup []) (by rw[hP,hf,u9];exact Tryz.func183) (by rw[u9];simp[go_sem]) (AO ?_ ?_) ?_ ?_ (.inl ⟨rfl,rfl⟩) V5;· simp[go_sem,Bc]
   ·repeat (first|refine JO ?_|refine JP (by assumption) ?_)
    exact JQ Ai
   ·simp only[List.map_cons,List.nodup_cons];exact⟨Da,Ai⟩
   ·simp[go_sem,Bc]
 ·intro m v h;simp only[List.mem_cons,List.not_mem_nil,or_false,uD]at h;rw[Bd];intro b hb;rcases h with⟨rfl,rfl⟩|⟨rfl,rfl⟩|⟨rfl,rfl⟩|⟨rfl,rfl⟩|⟨rfl,rfl⟩|⟨rfl,rfl⟩|⟨rfl,rfl⟩|⟨rfl,rfl⟩ <;> first|(simp;done)|(intro e;cases e;first|exact Da hb|exact Iv hb)
def zmx (l:List Int):Tm:=l.foldr (fun x t=>Tm.mk 8 0 (Ty.mk 0 []) [IU x.toNat,t]) (Tm.mk 7 0 (Ty.mk 0 []) [])
def Val.termN:Val->Tm
 | .mk k n l a=>
  if k=2 then zmx l else if k=4 then Tm.mk 13 0 (Ty.mk 0 []) [] else if k=3 then Tm.mk 10 0 (Ty.mk 0 []) (terms a) else IU n.toNat
where
 terms:List Val->List Tm
  | []=>[]
  | a::r=>a.termN::terms r
def Val.two:Val->Prop
 | .mk k _ _ a=>(k=3->a.length=2)/\twos a
where
 twos:List Val->Prop
  | []=>True
  | a::r=>a.two/\twos r
theorem Val.twos_iff (l:List Val):two.twos l↔∀a∈l,a.two:=by
 induction l with
 | nil=>simp[two.twos]
 | cons a r ih=>simp[two.twos,ih]
theorem Val.two_eq (v:Val):v.two↔(v.kind=3->v.args.length=2)/\∀a∈v.args,a.two:=by
 cases v;simp only[two,twos_iff,kind,args]
theorem Val.nodesL_ok {l:List Val}{n:Int}{ok:Bool}(h:(nodesN.nodesL l (n,ok)).2=true):ok=true/\∀a∈l,a.nodesN.2=true:=by
 induction l generalizing n ok with
 | nil=>simp[nodesN.nodesL]at h;exact⟨h,sS⟩
 | cons a r ih=>
  cases ok with
  | false=>rw[nodesL_no]at h;cases h
  | true=>
   simp only[nodesN.nodesL,if_true]at h;obtain⟨h1,h2⟩:=ih h;exact⟨rfl,by simpa using ⟨h1,h2⟩⟩
theorem Val.ok_all (v:Val)(h:v.nodesN.2=true):v.allPos/\v.two:=by
 induction v using Val.ind with
 | h v ih=>
 rw[nodesN_eq]at h;obtain⟨h1,h2⟩:=nodesL_ok h;rw[allPos_eq,two_eq];have Dw:v.pos/\(v.kind=3->v.args.length=2):=by
  unfold okB at h1;unfold pos;split at h1
  ·rename_i hk;simp at h1;simp[hk,h1]
  ·split at h1
   ·rename_i hk;simp at h1;simp[hk];obtain⟨⟨q1,q2⟩,q3⟩:=h1;rw[q1];exact⟨oO,fun n hn=>by have:=q2 n hn;omega⟩
   ·split at h1;· simp at h1;simp[h1]
    ·split at h1;· rename_i hk;simp at h1;simp[h1,hk]
     ·cases h1
 exact⟨⟨Dw.1,fun a ha=>(ih a ha (h2 a ha)).1⟩,Dw.2,fun a ha=>(ih a ha (h2 a ha)).2⟩
def AA:Tm:=Tm.mk 0 0 (Ty.mk 0 []) []
def Val.checkN (v:Val):Int:=if v.nodesN.2=true then if v.nodesN.1 > 64 then 4 else 0 else 2
end
section
def A9:Ty:=Ty.mk 0 []
def Ty.arg (t:Ty)(i:Nat):Ty:=t.args.getD i A9
def Ty.ok (t:Ty):Prop:=t.shape=true/\t.count<=64
theorem Ty.checkN_iff (t:Ty):t.checkN=0↔t.ok:=by
 unfold Ty.checkN Ty.ok;split
 ·split;· rename_i h;simp;omega
  ·rename_i h;simp;constructor <;> first|assumption|omega
 ·rename_i h;simp[h]
def X2 (t:Ty):Ty × Int:=if t.checkN=0 then (t,0) else (A9,4)
theorem X3 (t:Ty)(h:(X2 t).2=0):(X2 t).1.ok/\X2 t=(t,0):=by
 unfold X2 at h ⊢;split;· rename_i h2;exact⟨(Ty.checkN_iff t).1 h2,rfl⟩
 ·rename_i h2;rw[if_neg h2]at h;cases h
def CD (k:Int)(ty:Ty)(l:List Ty):Ty × Int:=
 if k=2 then X2 (Ty.mk 4 [ty,l.getD 0 A9])
 else if k=3 then if (l.getD 0 A9).kind=4/\((l.getD 0 A9).arg 0).same (l.getD 1 A9)=true then ((l.getD 0 A9).arg 1,0) else (A9,7)
 else if k=4 then (Ty.mk 1 [],0)
 else if k=5 then if (l.getD 0 A9).same (Ty.mk 1 [])=true then (Ty.mk 1 [],0) else (A9,7)
 else if k=6 then if (l.getD 0 A9).same ty=true/\(l.getD 1 A9).same (Ty.mk 4 [Ty.mk 1 [],Ty.mk 4 [ty,ty]])=true/\(l.getD 2 A9).same (Ty.mk 1 [])=true then (ty,0) else (A9,7)
 else if k=7 then (Ty.mk 2 [],0)
 else if k=8 then if (l.getD 0 A9).same (Ty.mk 1 [])=true/\(l.getD 1 A9).same (Ty.mk 2 [])=true then (Ty.mk 2 [],0) else (A9,7)
 else if k=9 then if (l.getD 0 A9).same ty=true/\(l.getD 1 A9).same (Ty.mk 4 [Ty.mk 1 [],Ty.mk 4 [Ty.mk 2 [],Ty.mk 4 [ty,ty]]])=true/\(l.getD 2 A9).same (Ty.mk 2 [])=true then (ty,0) else (A9,7)
 else if k=10 then X2 (Ty.mk 3 [l.getD 0 A9,l.getD 1 A9])
 else if k=11 then if (l.getD 0 A9).kind=3 then ((l.getD 0 A9).arg 0,0) else (A9,7)
 else if k=12 then if (l.getD 0 A9).kind=3 then ((l.getD 0 A9).arg 1,0) else (A9,7)
 else (Ty.mk 5 [],0)
namespace Tm
def inferN:Tm->List Ty->Ty × Int
 | .mk k i ty a,g=>
  if k=1 then if (g.length:Int)<=i then (A9,6) else (g.getD (g.length - 1 - i.toNat) A9,0)
  else if (infers a (if k=2 then g++[ty] else g)).2=0 then CD k ty (infers a (if k=2 then g++[ty] else g)).1
  else (A9,(infers a (if k=2 then g++[ty] else g)).2)
where
 infers:List Tm->List Ty->List Ty × Int
  | [],_=>([],0)
  | a::r,g=>if (a.inferN g).2=0 then if (infers r g).2=0 then ((a.inferN g).1::(infers r g).1,0) else ([],(infers r g).2) else ([],(a.inferN g).2)
theorem inferN_eq (t:Tm)(g:List Ty):t.inferN g =
  if t.kind=1 then if (g.length:Int)<=t.index then (A9,6) else (g.getD (g.length - 1 - t.index.toNat) A9,0)
  else if (inferN.infers t.args (if t.kind=2 then g++[t.type] else g)).2=0 then CD t.kind t.type (inferN.infers t.args (if t.kind=2 then g++[t.type] else g)).1
  else (A9,(inferN.infers t.args (if t.kind=2 then g++[t.type] else g)).2):=by
 cases t;rw[inferN];rfl
theorem infers_snoc (l:List Tm)(x:Tm)(g:List Ty)(h:(inferN.infers l g).2=0)(hx:(x.inferN g).2=0) :
  inferN.infers (l++[x]) g=((inferN.infers l g).1++[(x.inferN g).1],0):=by
 induction l with
 | nil=>simp[inferN.infers,hx]
 | cons a r ih=>
  simp only[inferN.infers]at h;by_cases ha:(a.inferN g).2=0
  ·by_cases hr:(inferN.infers r g).2=0;· simp[inferN.infers,ha,hr,ih hr]
   ·simp[ha,hr]at h
  ·simp[ha]at h
theorem infers_stop (l:List Tm)(x:Tm)(m:List Tm)(g:List Ty)(h:(inferN.infers l g).2=0)(hx:¬(x.inferN g).2=0) :
  inferN.infers (l++x::m) g=([],(x.inferN g).2):=by
 induction l with
 | nil=>simp[inferN.infers,hx]
 | cons a r ih=>
  simp only[inferN.infers]at h;by_cases ha:(a.inferN g).2=0
  ·by_cases hr:(inferN.infers r g).2=0;· simp[inferN.infers,ha,ih hr,hx]
   ·simp[ha,hr]at h
  ·simp[ha]at h
theorem infers_all (l:List Tm)(g:List Ty)(h:(inferN.infers l g).2=0) :
  (inferN.infers l g).1.length=l.length/\∀(i:Nat) (x:Tm),l[i]? = some x->(x.inferN g).2=0/\(inferN.infers l g).1[i]? = some (x.inferN g).1:=by
 induction l with
 | nil=>simp[inferN.infers]
 | cons a r ih=>
  simp only[inferN.infers]at h ⊢;by_cases ha:(a.inferN g).2=0
  ·by_cases hr:(inferN.infers r g).2=0
   ·simp only[ha,hr,if_true];obtain⟨h1,h2⟩:=ih hr;refine⟨by simp[h1],?_⟩;intro i x hx;cases i with
    | zero=>simp at hx;subst hx;exact⟨ha,sS⟩
    | succ i=>simp at hx;simpa using h2 i x hx
   ·simp[ha,hr]at h
  ·simp[ha]at h
end Tm
theorem Ty.ok_arg {t:Ty}(h:t.ok){a:Ty}(ha:a∈t.args):a.ok:=by
 obtain⟨h1,h2⟩:=h;rw[Ty.shape_eq,uH,Ty.shapes_iff]at h1;have:=Ty.count_mem ha;rw[Ty.count_eq]at h2;exact⟨h1.2 a ha,oO⟩
theorem Ty.ok_two {t:Ty}(h:t.ok)(hk:t.kind=3\/t.kind=4):t.args.length=2:=by
 obtain⟨h1,h2⟩:=h;rw[Ty.shape_eq,uH]at h1;rcases hk with hk|hk <;> simpa [HD,hk] using h1.1
theorem Ty.ok_args {t:Ty}(h:t.ok)(hk:t.kind=3\/t.kind=4):∃a b,t.args=[a,b]/\a.ok/\b.ok/\t.arg 0=a/\t.arg 1=b:=by
 have h2:=Ty.ok_two h hk
 match ha:t.args,h2 with
 | [a,b],_=>exact⟨a,b,rfl,Ty.ok_arg h (by rw[ha];simp),Ty.ok_arg h (by rw[ha];simp),by simp[Ty.arg,ha],by simp[Ty.arg,ha]⟩
theorem iS:(Ty.mk 1 []).ok:=⟨rfl,dD⟩
theorem Z9:(Ty.mk 2 []).ok:=⟨rfl,dD⟩
theorem yA:(Ty.mk 5 []).ok:=⟨rfl,dD⟩
theorem Tm.shape_node {t:Tm}(h:t.shape=true):((t.args.length:Int)=B5 t.kind)/\0<=t.index/\(t.kind=1\/t.index=0)/\(if t.kind=2\/t.kind=6\/t.kind=9 then t.type.ok else t.type.zero=true)/\∀a∈t.args,a.shape=true:=by
 rw[Tm.shape_eq,uH,Tm.shapes_iff]at h;obtain⟨h1,h2⟩:=h;simp only[IM,uH,Bool.or_eq_true,decide_eq_true_eq,C4]at h1;refine⟨h1.1.1.1,h1.1.1.2,h1.1.2,?_,h2⟩;by_cases hk:t.kind=2\/t.kind=6\/t.kind=9;· rw[if_pos hk]at h1 ⊢;exact (Ty.checkN_iff _).1 (by simpa using h1.2)
 ·rw[if_neg hk]at h1 ⊢;exact h1.2
theorem Tm.inferN_ok (t:Tm)(g:List Ty)(ht:t.shape=true)(hg:∀x∈g,x.ok)(h:(t.inferN g).2=0):(t.inferN g).1.ok:=by
 induction t using Tm.ind generalizing g with
 | h t ih=>
 obtain⟨ha,hi,hv,Be,hs⟩:=Tm.shape_node ht;rw[inferN_eq]at h ⊢;by_cases h1:t.kind=1
 ·rw[if_pos h1]at h ⊢;by_cases h2:(g.length:Int)<=t.index;· rw[if_pos h2]at h;cases h
  ·rw[if_neg h2];have:g.length - 1 - t.index.toNat<g.length:=oO;simp only[List.getD_eq_getElem?_getD,uB this,Option.getD_some];exact hg _ (List.getElem_mem _)
 ·rw[if_neg h1]at h ⊢;generalize Un:(if t.kind=2 then g++[t.type] else g)=g' at h ⊢;have Hd:∀x∈g',x.ok:=by
   subst Un;split
   ·rename_i h2;intro x hx;rcases List.mem_append.1 hx with hx|hx;· exact hg x hx
    ·rw[List.mem_singleton.1 hx];rwa [if_pos (.inl h2)]at Be
   ·exact hg
  by_cases h2:(inferN.infers t.args g').2=0
  ·rw[if_pos h2]at h ⊢;obtain⟨hl,hx⟩:=infers_all _ _ h2;have key:∀i:Nat,i<t.args.length->((inferN.infers t.args g').1.getD i A9).ok:=by
    intro i hi;obtain⟨x1,x2⟩:=hx i t.args[i] (uB hi);rw[List.getD_eq_getElem?_getD,x2,Option.getD_some];exact ih _ (List.getElem_mem _) g' (hs _ (List.getElem_mem _)) Hd x1
   generalize (inferN.infers t.args g').1=l at h key ⊢;unfold CD at h ⊢;by_cases hk:t.kind=2
   ·rw[if_pos hk]at h ⊢;exact (X3 _ h).1
   rw[if_neg hk]at h ⊢;by_cases hk:t.kind=3
   ·rw[if_pos hk]at h ⊢;by_cases hx:(l.getD 0 A9).kind=4/\((l.getD 0 A9).arg 0).same (l.getD 1 A9)=true
    ·rw[if_pos hx]at h ⊢;obtain⟨a,b,e,oa,ob,e0,e1⟩:=Ty.ok_args (key 0 (by rw[hk]at ha;simp[B5]at ha;omega)) (.inr hx.1);rw[e1];exact ob
    ·rw[if_neg hx]at h;cases h
   rw[if_neg hk]at h ⊢;by_cases hk:t.kind=4
   ·rw[if_pos hk]at h ⊢;exact iS
   rw[if_neg hk]at h ⊢;by_cases hk:t.kind=5
   ·rw[if_pos hk]at h ⊢;by_cases hx:(l.getD 0 A9).same (Ty.mk 1 [])=true
    ·rw[if_pos hx]at h ⊢;exact iS
    ·rw[if_neg hx]at h;cases h
   rw[if_neg hk]at h ⊢;by_cases hk:t.kind=6
   ·rw[if_pos hk]at h ⊢;by_cases hx:(l.getD 0 A9).same t.type=true/\(l.getD 1 A9).same (Ty.mk 4 [Ty.mk 1 [],Ty.mk 4 [t.type,t.type]])=true/\(l.getD 2 A9).same (Ty.mk 1 [])=true
    ·rw[if_pos hx]at h ⊢
     rwa [if_pos (.inr (.inl hk))]at Be
    ·rw[if_neg hx]at h;cases h
   rw[if_neg hk]at h ⊢;by_cases hk:t.kind=7
   ·rw[if_pos hk]at h ⊢;exact Z9
   rw[if_neg hk]at h ⊢;by_cases hk:t.kind=8
   ·rw[if_pos hk]at h ⊢;by_cases hx:(l.getD 0 A9).same (Ty.mk 1 [])=true/\(l.getD 1 A9).same (Ty.mk 2 [])=true
    ·rw[if_pos hx]at h ⊢;exact Z9
    ·rw[if_neg hx]at h;cases h
   rw[if_neg hk]at h ⊢;by_cases hk:t.kind=9
   ·rw[if_pos hk]at h ⊢;by_cases hx:(l.getD 0 A9).same t.type=true/\(l.getD 1 A9).same (Ty.mk 4 [Ty.mk 1 [],Ty.mk 4 [Ty.mk 2 [],Ty.mk 4 [t.type,t.type]]])=true/\(l.getD 2 A9).same (Ty.mk 2 [])=true
    ·rw[if_pos hx]at h ⊢
     rwa [if_pos (.inr (.inr hk))]at Be
    ·rw[if_neg hx]at h;cases h
   rw[if_neg hk]at h ⊢;by_cases hk:t.kind=10
   ·rw[if_pos hk]at h ⊢;exact (X3 _ h).1
   rw[if_neg hk]at h ⊢;by_cases hk:t.kind=11
   ·rw[if_pos hk]at h ⊢;by_cases hx:(l.getD 0 A9).kind=3
    ·rw[if_pos hx]at h ⊢;obtain⟨a,b,e,oa,ob,e0,e1⟩:=Ty.ok_args (key 0 (by rw[hk]at ha;simp[B5]at ha;omega)) (.inl hx);rw[e0];exact oa
    ·rw[if_neg hx]at h;cases h
   rw[if_neg hk]at h ⊢;by_cases hk:t.kind=12
   ·rw[if_pos hk]at h ⊢;by_cases hx:(l.getD 0 A9).kind=3
    ·rw[if_pos hx]at h ⊢;obtain⟨a,b,e,oa,ob,e0,e1⟩:=Ty.ok_args (key 0 (by rw[hk]at ha;simp[B5]at ha;omega)) (.inl hx);rw[e1];exact ob
    ·rw[if_neg hx]at h;cases h
   rw[if_neg hk]at h ⊢;exact yA
  ·rw[if_neg h2]at h;exact absurd h h2
end
section
variable {gl:AF}
theorem tF (v:Val)(ht:v.two):cT gl 166 [v.dv] [] v.tyN.dv []:=by
 induction v using Val.ind with
 | h v ih=>
 obtain⟨ht1,Vj⟩:=(Val.two_eq v).1 ht;refine A8 Tryz.func166 ?_;intro X hP u7 hf u9 hn hR u6 u5;by_cases h2:v.kind=2
 ·have hr:v.tyN=Ty.mk 2 []:=by rw[Val.tyN_eq];simp[h2]
  refine A7 @h2 ?_;refine A3 @h2 zg6 ?_;exact AT @hr
 by_cases h4:v.kind=4
 ·have hr:v.tyN=Ty.mk 5 []:=by rw[Val.tyN_eq];simp[h4]
  refine A7 @h4 ?_;exact AT @hr
 by_cases h3:v.kind=3
 ·have Xw:=ht1 h3
  match u8:v.args,Xw with
  | [x,y],_=>
  have hx:x∈v.args:=by rw[u8];simp
  have hy:y∈v.args:=by rw[u8];simp
  have hr:v.tyN=Ty.mk 3 [x.tyN,y.tyN]:=by rw[Val.tyN_eq];simp[h3,u8]
  refine A7 @h3 ?_;refine EW (j2 @h3 @u8) (ih x hx (Vj x hx)) (ih y hy (Vj y hy)) ?_;exact AT @hr
 have hr:v.tyN=Ty.mk 1 []:=by rw[Val.tyN_eq];simp[h2,h3,h4]
 refine A7 (j3 @h2 @h3 @h4) ?_;refine A3 @h2 X1 ?_;exact AT @hr
def Val.typeE (v:Val):Ty × Int:=if v.checkN≠0 then (A9,v.checkN) else (v.tyN,0)
theorem z9l (v:Val)(hc:v.count<=1048576):cT gl 139 [v.dv] [] (.tup [v.typeE.1.dv,A0 v.typeE.2]) []:=by
 refine A8 Tryz.func139 ?_;intro X hP u7 hf u9 hn hR u6 u5;refine A4 ?_;have Nr:(if v.nodesN.2=true then if v.nodesN.1 > 64 then 4 else 0 else 2)=v.checkN:=rfl;have Rj:=z9g (gl:=gl) v oO;rw[Nr]at Rj;refine A3 tT Rj ?_;by_cases h:v.checkN=0
 ·have Ej:v.nodesN.2=true:=by
   unfold Val.checkN at h;split at h
   ·assumption
   ·cases h
  obtain⟨ha,ht⟩:=v.ok_all Ej;refine A7 @h ?_;refine A3 tT (tF v ht) ?_;exact AT (j2 @Val.typeE.eq_1 @h)
 ·refine A7 @h ?_;exact AT (j3 @Val.typeE.eq_1 @h @A9.eq_1)
theorem OP (a b:List Int)(ha:a.length<=2147483648)(hb:b.length<=2147483648):cT gl 62 [.sl (AP a),.sl (AP b)] [] (AK (decide (a=b))) []:=by
 refine A8 Tryz.func62 ?_;intro X hP u7 hf u9 hn hR u6 u5;by_cases hl:a.length=b.length
 ·refine A7 @hl ?_;refine BK ?_;refine AC [] @hl (FD (a.length) (fun i=>∀(j:Nat) (x y:Int),j<i->a[j]? = some x->b[j]? = some y->x=y) (fun i=>[sV 13 (A0 i),sV 12 (A0 a.length),sV 0 (.sl (AP a)),sV 1 (.sl (AP b))]) (by intro j x y h;omega) ?_ ?_)
  ·intro i Ag hI Aa;obtain⟨x,hx⟩:∃x,a[i]? = some x:=⟨_,uB Ag⟩;obtain⟨y,hy⟩:∃y,b[i]? = some y:=⟨_,uB oO⟩;have gx:=IS hx;have gy:=IS hy;refine A2 ?_;refine AE ?_;by_cases hs:x=y
   ·refine CR (wr []) tT (j3 @gx @gy @hs) (Aa ?_);intro j x' y' hj Cp Dm;by_cases Ng:j=i;· subst Ng;rw[hx]at Cp;rw[hy]at Dm;cases Cp;cases Dm;exact hs
    ·exact hI j x' y' oO Cp Dm
   ·have Ba:a≠b:=fun e=>by subst e;rw[hx]at hy;cases hy;exact hs rfl
    refine A7 (j3 @gx @gy @hs) ?_;exact BD @Ba
  ·intro hI;have he:a=b:=List.ext_getElem hl fun i h1 h2=>hI i _ _ h1 (uB h1) (uB h2);refine A2 ?_;refine B6 ?_;refine A4 ?_;exact BD @he
 ·have Ba:a≠b:=fun e=>hl (by rw[e]);refine A7 @hl ?_;exact BD @Ba
end
end Go.Proofs.YtoniciijokeidaaGreatDoor.Lift
