import Derived.Test.YtkfiobkjflmchaaGreatDoorQn2
import Derived.Orders
set_option maxHeartbeats 8000000
set_option maxRecDepth 100000
set_option linter.unusedSimpArgs false
set_option linter.unusedVariables false
set_option linter.unnecessarySimpa false
namespace Go.Proofs.YtkfiobkjflmchaaGreatDoor.Lift
open Go
section
def HT (X:Ctx)(s:St)(dst:Option Tmp)(r:Option (Prop × SV)):Option (Prop × St):=
 match dst,r with
 | some d,some (c,y)=>some (c/\d<X.n,CM s (.slot d) (.one y))
 | none,some (c,_)=>some (c,s)
 | _,none=>none
def TG (X:Ctx)(s:St)(dst:Option Tmp)(r:Option (List SV)):Option (Prop × St):=
 match dst,r with
 | some d,some cs=>if ES cs&&D6 d s&&!EC d cs then some (d<X.n,CM (CM s (.slot d) (.one (.loc d 0))) (.loc d) (.row cs)) else none
 | _,_=>none
def fX (X:Ctx)(s:St)(dst:Option Tmp)(r:Option SV):Option (Prop × St):=
 match dst,r with
 | some d,some y=>if ES (BV y)&&D6 d s&&!G8 d y then some (d<X.n,CM (CM s (.slot d) (.one (.loc d 0))) (.loc d) (.row (BV y))) else none
 | _,_=>none
def OC (s:St)(lay:Option (Bool × Nat))(p x:Option SV):Option (Prop × St):=
 match p,lay,x with
 | some (.loc k off),some (_,n),some y=>
  match get s (.loc k) with
  | some (.row cs)=>if ES (BV y) then some ((BV y).length=n/\off+n<=cs.length,CM s (.loc k) (.row (put cs off (BV y)))) else none
  | _=>none
 | some (.v (.prim (.pointer (some ⟨b,off,none⟩)))),some (_,n),some y=>
  match get s (.heap b),XG (BV y) with
  | some (.row cs),some ys=>if ES ys then some (ys.length=n/\off+n<=cs.length,CM s (.heap b) (.row (put cs off ys))) else none
  | _,_=>none
 | _,_,_=>none
def fY (X:Ctx)(s:St)(dst:Option Tmp)(len:Nat)(e:Option (Nat × Nat))(r:Option (List (List DV))):Option (Prop × St):=
 match dst,e,r with
 | some d,some (E,_),some els=>some (d<X.n/\els.length=len/\len * E<=16777216/\len<=I6,CM s (.slot d) (.one (.v (.sl els))))
 | _,_,_=>none
def P4 (X:Ctx)(s:St)(dst:Option Tmp)(e:Option (Nat × Nat))(e2:Bool)(x:Option SV)(y:Option (List (List DV))):Option (Prop × St):=
 match dst,e,x,y with
 | some d,some (E,B),some (.own t els),some ys=>
  if e2&&D7 d s&&d != 0 then
   some (d<X.n/\(0<B/\B<=1024)/\MM (get s) t E els.length/\els.length+ys.length<=I6/\(∀e∈els,e.length=E)/\(∀e∈ys,e.length=E),
    CM (CM (QZ s (.tok t)) (.slot d) (.one (.own d (els++ys)))) (.tok d) (.tk E (els.length+ys.length)))
  else none
 | _,_,_,_=>none
def P5 (X:Ctx)(s:St)(dst:Option Tmp)(e:Option Nat)(x:Option (List (List DV)))(lo hi m:Option Int)(Xh:Bool):Option (Prop × St):=
 match dst,e,x,lo,hi,m with
 | some d,some E,some els,some l,some h,some k=>
  if D7 d s&&d != 0&&Xh then
   some (d<X.n/\0<=l/\l<=h/\h<=els.length/\h=k/\(∀e∈els,e.length=E),
    CM (CM (QZ s (.tok 0)) (.slot d) (.one (.own d ((els.take h.toNat).drop l.toNat)))) (.tok d) (.tk E (h.toNat - l.toNat)))
  else none
 | _,_,_,_,_,_=>none
def M6 (Ab:List Nat)(dst:Option Tmp):Bool:=
 match dst with
 | some d=>I9 d Ab
 | none=>false
def CY (c:Call):Option (Operand × Operand × TypeId × TypeId):=
 match c.callee,c.args.toList,c.argTypes.toList with
 | .builtin .append,[x,y],[t,t2]=>some (x,y,t,t2)
 | _,_,_=>none
def z17 (X:Ctx)(s:St)(x:Operand)(hi:Option Operand):Option Int:=
 match (CS X (get s) x).bind LN with
 | some els=>EZ X (get s) els.length hi
 | none=>none
def AZ (X:Ctx)(Ab:List Nat)(s:St)(o:Oper):Option (Prop × St):=
 if M6 Ab o.dst then none else
 match o.op with
 | .alloc t=>TG X s o.dst (EH X.P t)
 | .box _ x=>fX X s o.dst (CS X (get s) x)
 | .store t p x=>if o.dst.isNone then OC s (EE X.P t) (CS X (get s) p) (CS X (get s) x) else none
 | .buildSlice t len parts=>
  match FI X.P t with
  | some (E,B)=>fY X s o.dst len (some (E,B)) (HA X (get s) E 0 parts.toList)
  | none=>none
 | .slice t x lo hi (some m)=>P5 X s o.dst (E0 X.P t) ((CS X (get s) x).bind LN) (EZ X (get s) 0 lo) (z17 X s x hi) (EZ X (get s) 0 (some m)) hi.isSome
 | .call c=>
  match CY c with
  | some (x,y,t,t2)=>P4 X s o.dst (FI X.P t) (E0 X.P t2).isSome (CS X (get s) x) ((CS X (get s) y).bind LN)
  | none=>HT X s o.dst (GP X (get s) o)
 | _=>HT X s o.dst (GP X (get s) o)
section
variable {X:Ctx}{s:St}{k:List Item}
theorem bL {o:Oper}{c:Prop}{s':St}(h:HT X s o.dst (GP X (get s) o)=some (c,s'))(hc:c):ED X s o s':=by
 unfold HT at h;split at h
 ·rename_i d c' y hd hp;cases h;exact z11 hp hc.1 hd hc.2
 ·rename_i c' y hd hp;cases h;exact bA hp hc hd
 ·cases h
theorem YO {Ab:List Nat}{o:Oper}{c:Prop}{s':St}(h:AZ X Ab s o=some (c,s'))(hc:c):ED X s o s':=by
 unfold AZ at h;split at h;· cases h
 ·split at h
  ·rename_i t ho;unfold TG at h;split at h
   ·rename_i d cs hd hz;split at h
    ·rename_i hb;cases h;simp only[uH]at hb;exact bB ho hd hc hz hb.1.1 hb.1.2
    ·cases h
   ·cases h
  ·rename_i t x ho;unfold fX at h;split at h
   ·rename_i d y hd hy;split at h
    ·rename_i hb;cases h;simp only[uH,Bool.not_eq_true']at hb;exact mI ho hd hc hy hb.1.1 hb.1.2 hb.2
    ·cases h
   ·cases h
  ·rename_i t p x ho;split at h
   ·rename_i Ci;have hd:o.dst=none:=by simpa using Ci
    unfold OC at h;split at h
    ·rename_i k' off agg n y hp hl hy;split at h
     ·rename_i cs hg;split at h
      ·rename_i hb;cases h;exact RL ho hd hp hg hl hy hc hb
      ·cases h
     ·cases h
    ·rename_i b off agg n y hp hl hy;split at h
     ·rename_i cs ys hg Ic;split at h
      ·rename_i hb;cases h;exact R2 ho hd hp hg hl hy Ic hc hb
      ·cases h
     ·cases h
    ·cases h
   ·cases h
  ·rename_i t len parts ho;split at h
   ·rename_i E B he;unfold fY at h;split at h
    ·rename_i d E' B' els hd Qk Ie;cases Qk;cases h;exact R4 ho hd hc.1 he Ie hc.2
    ·cases h
   ·cases h
  ·rename_i t x lo hi m ho;unfold P5 at h;split at h
   ·rename_i d E els l h' k' hd hE hx La Jb hm;split at h
    ·rename_i hb;cases h;simp only[uH,bne_iff_ne,ne_eq]at hb;unfold z17 at Jb;rw[hx]at Jb;exact YL ho hd hc.1 hb.1.2 hb.1.1 hE hx La Jb hm hb.2 hc.2
    ·cases h
   ·cases h
  ·rename_i c' ho;split at h
   ·rename_i x y t t2 Ll;have Em:c' = { callee:=.builtin .append,args:=#[x,y],argTypes:=#[t,t2] }:=by
     unfold CY at Ll;split at Ll
     ·rename_i h1 h2 h3;cases Ll;cases c';simp only at h1 h2 h3;rw[h1,GL h2,GL h3]
     ·cases Ll
    subst Em;unfold P4 at h;split at h
    ·rename_i d E B t' els ys hd he hx hy;split at h
     ·rename_i hb;cases h;simp only[uH,bne_iff_ne,ne_eq]at hb;exact YK ho hd hc.1 hb.2 hb.1.2 he hc.2.1 hb.1.1 hx hy hc.2.2.1 hc.2.2.2.1 hc.2.2.2.2.1 hc.2.2.2.2.2
     ·cases h
    ·cases h
   ·exact bL h hc
  ·exact bL h hc
def W6 (ops:Array Oper)(o:Oper):Option (Option (Nat × Bool)):=
 match o.guard with
 | none=>some none
 | some (j,want)=>match (ops[j]?).bind (·.dst) with
  | some d=>some (some (d,want))
  | none=>none
def vc (X:Ctx)(Ab:List Nat)(ops:Array Oper):List Oper->St->(St->Prop)->Prop
 | [],s,K=>K s
 | o::l,s,K=>
  match W6 ops o with
  | some none=>
   match AZ X Ab s o with
   | some (c,s')=>c/\vc X Ab ops l s' K
   | none=>VL X ops (o::l) s K
  | some (some (dj,want))=>
   match get s (.slot dj) with
   | some (.one (.v (.prim (.bool b))))=>
    dj<X.n/\(b=want->match AZ X Ab (CM s (.slot dj) (.one (.v (.prim (.bool want))))) o with
     | some (c,s')=>c/\vc X Ab ops l s' K
     | none=>VL X ops (o::l) (CM s (.slot dj) (.one (.v (.prim (.bool want))))) K) /\
    (b = !want->match o.dst with
     | some d=>d<X.n/\vc X Ab ops l (CM (CM s (.slot dj) (.one (.v (.prim (.bool (!want)))))) (.slot d) f0) K
     | none=>False)
   | some (.one (.v (.tup [])))=>match o.dst with
    | some d=>d<X.n/\vc X Ab ops l (CM s (.slot d) f0) K
    | none=>False
   | _=>False
  | none=>False
theorem z67 {ops:Array Oper}{l:List Oper}{s s':St}{K:St->Prop}(h:∀m,get s' m=get s m)(hv:VL X ops l s' K):VL X ops l s K:=
 fun n hn G a w R=>hv n hn G a w (R.congr h)
theorem CU {Ab:List Nat}{ops:Array Oper}{K:St->Prop}:∀{l:List Oper} {s:St},vc X Ab ops l s K->VL X ops l s K
 | [],s,h=>zgs h
 | o::l,s,h=>by
  unfold vc at h;split at h
  ·rename_i hg;have Wx:o.guard=none:=by
    unfold W6 at hg;split at hg
    ·assumption
    ·split at hg <;> cases hg
   split at h
   ·rename_i c s' hs;exact OA Wx (YO hs h.1) (CU h.2)
   ·exact h
  ·rename_i dj want hg;have Wx:∃j,o.guard=some (j,want)/\(ops[j]?).bind (·.dst)=some dj:=by
    unfold W6 at hg;split at hg;· cases hg
    ·rename_i j w' hq;split at hg
     ·rename_i d hd;cases hg;exact⟨j,hq,hd⟩
     ·cases hg
   obtain⟨j,Fp,Le⟩:=Wx;split at h
   ·rename_i b hb;obtain⟨hdj,h1,h2⟩:=h;have hcg:∀c,b=c->∀m,get (CM s (.slot dj) (.one (.v (.prim (.bool c))))) m=get s m:=by
     rintro c rfl m;rw[BM];split
     ·subst_vars;exact hb.symm
     ·rfl
    by_cases Kb:b=want
    ·have h3:=h1 Kb;split at h3
     ·rename_i c s' hs;have Zy:∃d,True:=⟨0,trivial⟩;intro n hn G a w R;obtain⟨k1,k2⟩:=EQ hn;have hv:=(BJ (R.holds _ _ hb)).1;have Ac:dj<a.tmps.size:=by rw[R.size];exact hdj
      have Dd:a.tmps[dj]? = some (.bool b):=by
       have h3:a.tmps.getD dj undef=a.tmps[dj]:=by simp[Ac]
       rw[uG Ac,<- h3,hv]
      have hy:yielded ops a.tmps j=some b:=by
       unfold yielded;rw[Le];simp[Dd]
      simp only[List.length_cons,List.range'_succ,wpOpsIn,k1,Region.wanted,Fp,hy,Kb,beq_self_eq_true,if_true];exact (YO hs h3.1 G a w (R.congr (hcg _ Kb)) _ _ fun G' a' w' R'=>CU h3.2 (n+1) k2 G' a' w' R')
     ·exact z67 (hcg _ Kb) h3
    ·have Lr:b = !want:=by cases b <;> cases want <;> simp_all
     have h3:=h2 Lr;split at h3
     ·rename_i d hd;exact z64 Fp Le hdj hb (fun e=>absurd e Kb) hd h3.1 (fun _=>CU h3.2)
     ·exact h3.elim
   ·rename_i hb;split at h
    ·rename_i d hd;exact z13 Fp Le hb hd h.1 (CU h.2)
    ·exact h.elim
   ·exact h.elim
  ·exact h.elim
theorem B4 {id:Nat}{ops:Array Oper}(Ab:List Nat)(h:∀K:St->Prop,(∀s',W X k s'->K s')->vc X Ab ops ops.toList s K):W X (.code (.region id ops false)::k) s:=
 z66 fun K hK=>CU (h K hK)
theorem z68 {Ab:List Nat}{ops:Array Oper}{o:Oper}{l:List Oper}{K:St->Prop}{f:FuncId}{args:Array Operand}{Bo:Array TypeId}(ho:o.op = .call { callee:=.value (.func f),args:=args,argTypes:=Bo })(hg:o.guard=none)
  {ds:List DV} (u9:GK X (get s) args.toList=some ds) {P:Program} {gl:AB} (hP:X.P=P) (u6:X.gl=gl) {φ Ag:BS} {r:DV} (hc:RC P gl f ds φ r Ag) (Bb:BW (get s) φ) (Aw:(φ.map (·.1)).Nodup) {d:Nat} (hd:o.dst=some d) (Ci:d<X.n)
  (h:vc X Ab ops l (D8 (DX (CM s (.slot d) (.one (.v r))) φ) Ag) K):VL X ops (o::l) s K:=
 OA hg (MN ho u9 (by rw[hP,u6];exact hc) Bb Aw hd Ci) (CU h)
end
end
section
abbrev A0 (n:Int):DV:=.prim (.int .i64 n)
abbrev AR (b:Bool):DV:=.prim (.bool b)
theorem zbs (l:Loc):get [] l=none:=rfl
theorem z69 (l:Loc)(v:LV)(r:St):get ((l,v)::r) l=some v:=by simp[get]
theorem z18 {l m:Loc}(v:LV)(r:St)(h:m≠l):get ((m,v)::r) l=get r l:=by simp[get,h]
theorem zbt (l:Loc):QZ [] l=[]:=rfl
theorem z6a (l:Loc)(v:LV)(r:St):QZ ((l,v)::r) l=QZ r l:=by simp[QZ]
theorem z19 {l m:Loc}(v:LV)(r:St)(h:m≠l):QZ ((m,v)::r) l=(m,v)::QZ r l:=by simp[QZ,h]
theorem zgt (s:St)(l:Loc)(v:LV):CM s l v=(l,v)::QZ s l:=rfl
theorem z6b (d:Nat):I9 d []=false:=rfl
theorem z1a (d x:Nat)(r:List Nat):I9 d (x::r)=(d==x||I9 d r):=rfl
def OD:Option LV->Option SV
 | some (.one x)=>some x
 | _=>none
theorem sA (x:SV):OD (some (.one x))=some x:=rfl
section
variable {X:Ctx}{s:St}{g:Rd}
theorem zbu (t:Nat):CS X g (.tmp t)=OD (g (.slot t)):=by
 unfold CS OD;rfl
theorem z1b (v:Value):CS X g (.const v)=JH v:=rfl
def evG:Option (List (List DV))->Option SV
 | some (e::r)=>some (.dp (e::r) 0 0)
 | _=>none
theorem z6c (e:List DV)(r:List (List DV)):evG (some (e::r))=some (.dp (e::r) 0 0):=rfl
theorem sC (b:Nat):CS X g (.global b)=evG (FQ X.gl b):=by
 unfold CS evG;rfl
theorem z6d (f:Nat):CS X g (.func f)=some (.v (.prim (.func (.func f) #[] #[]))):=rfl
theorem sD:JH (.slice none 0 0)=some (.own 0 []):=rfl
theorem sE {k:IntKind}{n:Int}(h:C9 k n):JH (.int k n)=some (.v (.prim (.int k n))):=by simp[JH,aX,h]
theorem mL (b:Bool):JH (.bool b)=some (.v (.prim (.bool b))):=rfl
theorem f9 (b:ByteArray):JH (.string b)=some (.v (.prim (.string b))):=rfl
theorem bM:JH .nilFunc=some (.v (.prim .nilFunc)):=rfl
theorem ZQ:JH .nilIface=some (.v (.prim .nilIface)):=rfl
theorem sF (a:Option Addr):JH (.pointer a)=some (.v (.prim (.pointer a))):=rfl
theorem sG (a:Option Nat):JH (.map a)=some (.v (.prim (.map a))):=rfl
theorem zkk (x:DV):f8 (.v x)=some x:=rfl
theorem zgu (cs:List DV)(ns:List Nat):f8 (.ag cs ns)=some (.agg cs):=rfl
theorem zbv (t:Nat)(els:List (List DV)):f8 (.own t els)=some (.sl els):=rfl
theorem z6e:JZ []=some []:=rfl
theorem zgv (x:DV)(r:List SV):JZ (.v x::r)=(JZ r).map (x::·):=by
 simp only[JZ,f8];cases JZ r <;> rfl
theorem z6f (t:Nat)(els:List (List DV))(r:List SV):JZ (.own t els::r)=(JZ r).map (.sl els::·):=by
 simp only[JZ,f8];cases JZ r <;> rfl
theorem zbw (els:List (List DV))(i:Nat):f8 (.dp els i 0)=(els[i]?).map .ref:=rfl
theorem z1c (els:List (List DV))(i o:Nat):BV (.dp els i o)=[.dp els i o]:=rfl
theorem z1d (k:Nat)(els:List (List DV))(i o:Nat)(r:List SV):GO k (.dp els i o::r)=GO (k+1) r:=rfl
theorem sH (cs:List DV):DN (.agg cs)=cs:=rfl
theorem mM (v:Value):DN (.prim v)=[.prim v]:=rfl
theorem z1e (e:List (List DV)):DN (.sl e)=[.sl e]:=rfl
theorem sI (cs:List DV):DN (.ref cs)=[.ref cs]:=rfl
theorem jK (t:TypeId)(x:DV):DN (.iface t x)=[.iface t x]:=rfl
theorem z6g (x:DV):BV (.v x)=(DN x).map .v:=rfl
theorem sJ (t:Nat)(els:List (List DV)):BV (.own t els)=[.own t els]:=rfl
theorem sK (k off:Nat):BV (.loc k off)=[.loc k off]:=rfl
theorem z1f (cs:List DV)(ns:List Nat):BV (.ag cs ns)=zS ns 0 cs:=rfl
theorem zbx (ns:List Nat)(k:Nat):zS ns k []=[]:=rfl
def agB (b:Bool)(d:DV):SV:=if b then .own 0 [] else .v d
theorem zkl (d:DV):agB true d = .own 0 []:=rfl
theorem zkm (d:DV):agB false d = .v d:=rfl
theorem z6h (ns:List Nat)(k:Nat)(d:DV)(r:List DV):zS ns k (d::r)=agB (I9 k ns) d::zS ns (k+1) r:=rfl
theorem sM (k:Nat):GO k []=[]:=rfl
theorem sN (k:Nat)(r:List SV):GO k (.own 0 []::r)=k::GO (k+1) r:=rfl
theorem mN (k t:Nat)(e:List (List DV))(r:List SV):GO k (.own (t+1) e::r)=GO (k+1) r:=by
 rw[GO];rintro h1;cases h1
theorem z6i (k:Nat)(x:DV)(r:List SV):GO k (.v x::r)=GO (k+1) r:=rfl
theorem sO (k j o:Nat)(r:List SV):GO k (.loc j o::r)=GO (k+1) r:=rfl
theorem z1g (d:Nat)(cs:List DV)(ns:List Nat):G8 d (.ag cs ns)=false:=rfl
theorem z1h (d:Nat)(cs:List DV)(ns:List Nat):M4 d (.ag cs ns)=false:=rfl
theorem zby (e:List (List DV)):LN (.v (.sl e))=some e:=rfl
theorem z6j (q:Option Addr)(n c:Nat):LN (.v (.prim (.slice q n c)))=none:=rfl
theorem z6k (t:Nat)(e:List (List DV)):LN (.own t e)=some e:=rfl
theorem z1i (v:Value):DV.isCell (.prim v)=true:=rfl
theorem zbz (e:List (List DV)):DV.isCell (.sl e)=true:=rfl
theorem z6l (cs:List DV):DV.isCell (.ref cs)=true:=rfl
theorem sQ (t:TypeId)(x:DV):DV.isCell (.iface t x)=true:=rfl
theorem zc0 (x:DV):SV.isCell (.v x)=x.isCell:=rfl
theorem z1j (k o:Nat):SV.isCell (.loc k o)=true:=rfl
theorem z6m (e:List (List DV))(k o:Nat):SV.isCell (.dp e k o)=true:=rfl
theorem z1k (t:Nat)(e:List (List DV)):SV.isCell (.own t e)=true:=rfl
theorem z1l:JO []=true:=rfl
theorem sR (x:DV)(r:List DV):JO (x::r)=(x.isCell&&JO r):=rfl
theorem sU:ES []=true:=rfl
theorem mO (x:SV)(r:List SV):ES (x::r)=(x.isCell&&ES r):=rfl
theorem z6n (d:Nat)(x:DV):G8 d (.v x)=false:=rfl
theorem sW (d k o:Nat):G8 d (.loc k o)=(k==d):=rfl
theorem z1m (d:Nat)(e:List (List DV))(k o:Nat):G8 d (.dp e k o)=false:=rfl
theorem sX (d t:Nat)(e:List (List DV)):G8 d (.own t e)=false:=rfl
theorem z6o (d:Nat)(x:DV):M4 d (.v x)=false:=rfl
theorem sY (d k o:Nat):M4 d (.loc k o)=false:=rfl
theorem z1n (d:Nat)(e:List (List DV))(k o:Nat):M4 d (.dp e k o)=false:=rfl
theorem sZ (d t:Nat)(e:List (List DV)):M4 d (.own t e)=(t==d):=rfl
theorem t0 (d:Nat):EC d []=false:=rfl
theorem mP (d:Nat)(x:SV)(r:List SV):EC d (x::r)=(G8 d x||EC d r):=rfl
theorem t6 (d:Nat):NA d []=false:=rfl
theorem mQ (d:Nat)(x:SV)(r:List SV):NA d (x::r)=(M4 d x||NA d r):=rfl
theorem t7 (d:Nat):D6 d []=true:=rfl
theorem mR (d n:Nat)(x:SV)(r:St):D6 d ((.slot n,.one x)::r)=(!G8 d x&&D6 d r):=by simp[D6]
theorem t8 (d n:Nat)(cs:List SV)(r:St):D6 d ((.loc n,.row cs)::r)=(n != d&&!EC d cs&&D6 d r):=by simp[D6]
theorem mS (d n:Nat)(cs:List SV)(r:St):D6 d ((.heap n,.row cs)::r)=(!EC d cs&&D6 d r):=by simp[D6]
theorem z1o (d n:Nat)(q:List (Int × DV))(r:St):D6 d ((.heap n,.mp q)::r)=D6 d r:=by simp[D6]
theorem z1p (d n:Nat)(q:List (Int × DV))(r:St):D7 d ((.heap n,.mp q)::r)=D7 d r:=by simp[D7]
theorem z1q (d n:Nat)(q:Ob)(r:St):D6 d ((.heap n,.ob q)::r)=D6 d r:=by simp[D6]
theorem z1r (d n:Nat)(q:Ob)(r:St):D7 d ((.heap n,.ob q)::r)=D7 d r:=by simp[D7]
theorem t9 (d n E l:Nat)(r:St):D6 d ((.tok n,.tk E l)::r)=D6 d r:=by simp[D6]
theorem tA (d:Nat):D7 d []=true:=rfl
theorem mT (d n:Nat)(x:SV)(r:St):D7 d ((.slot n,.one x)::r)=(!M4 d x&&D7 d r):=by simp[D7]
theorem tB (d n:Nat)(cs:List SV)(r:St):D7 d ((.loc n,.row cs)::r)=(!NA d cs&&D7 d r):=by simp[D7]
theorem mU (d n:Nat)(cs:List SV)(r:St):D7 d ((.heap n,.row cs)::r)=(!NA d cs&&D7 d r):=by simp[D7]
theorem tC (d n E l:Nat)(r:St):D7 d ((.tok n,.tk E l)::r)=(n != d&&D7 d r):=by simp[D7]
theorem z6p (cs xs:List SV):put cs 0 xs=xs++cs.drop xs.length:=by simp[put]
theorem z6q (c:SV)(r xs:List SV)(n:Nat):put (c::r) (n+1) xs=c::put r n xs:=by simp[put]
def ZR (X:Ctx)(Ab:List Nat)(ops:Array Oper)(l:List Oper)(K:St->Prop)(o:Oper)(s:St):Option (Prop × St)->Prop
 | some (c,s')=>c/\vc X Ab ops l s' K
 | none=>VL X ops (o::l) s K
theorem zgw (Ab:List Nat)(ops:Array Oper)(K:St->Prop):vc X Ab ops [] s K=K s:=by simp[vc]
theorem zkn (Ab:List Nat)(ops:Array Oper)(l:List Oper)(K:St->Prop)(d:Option Tmp)(op:Op)(ty:TypeId)(pos:String)(af:Array Edge) :
  vc X Ab ops (⟨d,op,ty,pos,af,none⟩::l) s K=ZR X Ab ops l K ⟨d,op,ty,pos,af,none⟩ s (AZ X Ab s ⟨d,op,ty,pos,af,none⟩):=by
 simp only[vc,W6,ZR];all_goals (cases AZ X Ab s ⟨d,op,ty,pos,af,none⟩ <;> rfl)
theorem z6r (Ab:List Nat)(ops:Array Oper)(l:List Oper)(K:St->Prop)(o:Oper)(c:Prop)(s':St):ZR X Ab ops l K o s (some (c,s'))=(c/\vc X Ab ops l s' K):=rfl
def gsl (ops:Array Oper)(j:Nat):Option Nat:=(ops[j]?).bind (·.dst)
def vcG (X:Ctx)(Ab:List Nat)(ops:Array Oper)(l:List Oper)(K:St->Prop)(o:Oper)(s:St)(want:Bool)(dj:Nat):Option SV->Prop
 | some (.v (.prim (.bool b)))=>
  dj<X.n/\(b=want->ZR X Ab ops l K o (CM s (.slot dj) (.one (.v (.prim (.bool want))))) (AZ X Ab (CM s (.slot dj) (.one (.v (.prim (.bool want))))) o)) /\
   (b = !want->match o.dst with
    | some d=>d<X.n/\vc X Ab ops l (CM (CM s (.slot dj) (.one (.v (.prim (.bool (!want)))))) (.slot d) f0) K
    | none=>False)
 | some (.v (.tup []))=>match o.dst with
  | some d=>d<X.n/\vc X Ab ops l (CM s (.slot d) f0) K
  | none=>False
 | _=>False
def zgy (X:Ctx)(Ab:List Nat)(ops:Array Oper)(l:List Oper)(K:St->Prop)(o:Oper)(s:St)(want:Bool):Option Nat->Prop
 | some dj=>vcG X Ab ops l K o s want dj (OD (get s (.slot dj)))
 | none=>False
theorem z1s (Ab:List Nat)(ops:Array Oper)(l:List Oper)(K:St->Prop)(o:Oper)(w:Bool)(dj:Nat):zgy X Ab ops l K o s w (some dj)=vcG X Ab ops l K o s w dj (OD (get s (.slot dj))):=rfl
theorem zko (Ab:List Nat)(ops:Array Oper)(l:List Oper)(K:St->Prop)(d:Option Tmp)(op:Op)(ty:TypeId)(pos:String)(af:Array Edge)(j:Nat)(w:Bool) :
  vc X Ab ops (⟨d,op,ty,pos,af,some (j,w)⟩::l) s K=zgy X Ab ops l K ⟨d,op,ty,pos,af,some (j,w)⟩ s w (gsl ops j):=by
 simp only[vc,W6,gsl];cases h:(ops[j]?).bind (·.dst) with
 | none=>rfl
 | some dj=>
  simp only[zgy];have e:get s (.slot dj)=get s (.slot dj):=rfl;generalize get s (.slot dj)=u at *;unfold vcG OD ZR;cases u with
  | none=>rfl
  | some u=>cases u with
   | row=>rfl
   | tk=>rfl
   | ob=>rfl
   | mp=>rfl
   | one x=>cases x with
    | v y=>cases y with
     | prim q=>cases q <;> first|rfl|(apply propext;constructor <;> (intro h;exact h))
     | tup cs=>cases cs <;> rfl
     | _=>rfl
    | _=>rfl
theorem z1t (Ab:List Nat)(ops:Array Oper)(l:List Oper)(K:St->Prop)(o:Oper)(dj:Nat) :
  vcG X Ab ops l K o s true dj (some (.v (.prim (.bool true))))=(dj<X.n/\ZR X Ab ops l K o (CM s (.slot dj) (.one (.v (.prim (.bool true))))) (AZ X Ab (CM s (.slot dj) (.one (.v (.prim (.bool true))))) o)):=by
 simp[vcG]
theorem z1u (Ab:List Nat)(ops:Array Oper)(l:List Oper)(K:St->Prop)(o:Oper)(dj:Nat) :
  vcG X Ab ops l K o s false dj (some (.v (.prim (.bool false))))=(dj<X.n/\ZR X Ab ops l K o (CM s (.slot dj) (.one (.v (.prim (.bool false))))) (AZ X Ab (CM s (.slot dj) (.one (.v (.prim (.bool false))))) o)):=by
 simp[vcG]
theorem z6s (Ab:List Nat)(ops:Array Oper)(l:List Oper)(K:St->Prop)(d:Tmp)(op:Op)(ty:TypeId)(pos:String)(af:Array Edge)(gd:Option (Nat × Bool))(dj:Nat) :
  vcG X Ab ops l K ⟨some d,op,ty,pos,af,gd⟩ s true dj (some (.v (.prim (.bool false))))=(dj<X.n/\d<X.n/\vc X Ab ops l (CM (CM s (.slot dj) (.one (.v (.prim (.bool false))))) (.slot d) f0) K):=by
 simp[vcG]
theorem z6t (Ab:List Nat)(ops:Array Oper)(l:List Oper)(K:St->Prop)(d:Tmp)(op:Op)(ty:TypeId)(pos:String)(af:Array Edge)(gd:Option (Nat × Bool))(dj:Nat) :
  vcG X Ab ops l K ⟨some d,op,ty,pos,af,gd⟩ s false dj (some (.v (.prim (.bool true))))=(dj<X.n/\d<X.n/\vc X Ab ops l (CM (CM s (.slot dj) (.one (.v (.prim (.bool true))))) (.slot d) f0) K):=by
 simp[vcG]
theorem zgz (Ab:List Nat)(ops:Array Oper)(l:List Oper)(K:St->Prop)(d:Tmp)(op:Op)(ty:TypeId)(pos:String)(af:Array Edge)(gd:Option (Nat × Bool))(w:Bool)(dj:Nat) :
  vcG X Ab ops l K ⟨some d,op,ty,pos,af,gd⟩ s w dj (some (.v (.tup [])))=(d<X.n/\vc X Ab ops l (CM s (.slot d) f0) K):=rfl
def ND (b:Bool)(r:Option (Prop × St)):Option (Prop × St):=if b then none else r
theorem z1v (r:Option (Prop × St)):ND false r=r:=rfl
theorem z1w (d:Nat)(c:Prop)(y:SV):HT X s (some d) (some (c,y))=some (c/\d<X.n,CM s (.slot d) (.one y)):=rfl
theorem z1x (c:Prop)(y:SV):HT X s none (some (c,y))=some (c,s):=rfl
def tru:Option SV->Option (Prop × SV)
 | some y=>some (True,y)
 | none=>none
theorem z6u (y:SV):tru (some y)=some (True,y):=rfl
theorem aE (o:Option SV):o.map (True,·)=tru o:=by cases o <;> rfl
def z6v (c x y:Option SV):Option (Prop × SV):=
 match c with
 | some (.v (.prim (.bool true)))=>tru x
 | some (.v (.prim (.bool false)))=>tru y
 | _=>none
theorem zc2 (x y:Option SV):z6v (some (.v (.prim (.bool true)))) x y=tru x:=rfl
theorem zc3 (x y:Option SV):z6v (some (.v (.prim (.bool false)))) x y=tru y:=rfl
def tD (P:Program)(op:BinOp)(t:TypeId)(x y:Option SV):Option (Prop × SV):=
 match x,y with
 | some (.v (.prim (.int k a))),some (.v (.prim (.int k' b)))=>if k=k' then MF op k a b else none
 | some (.v (.prim (.bool a))),some (.v (.prim (.bool b)))=>
  if zR P t then
   match op with
   | .eql=>some (True,.v (.prim (.bool (a==b))))
   | .neq=>some (True,.v (.prim (.bool (!(a==b)))))
   | _=>none
  else none
 | some (.v (.ref _)),some (.v (.prim (.pointer none)))=>if jE P t then mB op false else none
 | some (.v (.prim (.pointer none))),some (.v (.prim (.pointer none)))=>if jE P t then mB op true else none
 | _,_=>none
theorem z1y {P:Program}{t:TypeId}(h:jE P t=true)(cs:List DV):tD P .neq t (some (.v (.ref cs))) (some (.v (.prim (.pointer none))))=some (True,.v (.prim (.bool true))):=by simp[tD,h,mB]
theorem z1z {P:Program}{t:TypeId}(h:jE P t=true):tD P .neq t (some (.v (.prim (.pointer none)))) (some (.v (.prim (.pointer none))))=some (True,.v (.prim (.bool false))):=by simp[tD,h,mB]
theorem z6w (P:Program)(op:BinOp)(t:TypeId)(k:IntKind)(a b:Int):tD P op t (some (.v (.prim (.int k a)))) (some (.v (.prim (.int k b))))=MF op k a b:=by simp[tD]
theorem z20 (k:IntKind)(a b:Int):MF .add k a b=some (C9 k (a+b),.v (.prim (.int k (a+b)))):=rfl
theorem z21 (k:IntKind)(a b:Int):MF .sub k a b=some (C9 k (a - b),.v (.prim (.int k (a - b)))):=rfl
theorem z22 (k:IntKind)(a b:Int):MF .mul k a b=some (C9 k (a * b),.v (.prim (.int k (a * b)))):=rfl
theorem z23 (k:IntKind)(a b:Int):MF .rem k a b=some (b≠0/\C9 k (a.tmod b),.v (.prim (.int k (a.tmod b)))):=rfl
theorem z24 (k:IntKind)(a b:Int):MF .quo k a b=some (b≠0/\C9 k (a.tdiv b),.v (.prim (.int k (a.tdiv b)))):=rfl
theorem z25 (k:IntKind)(a b:Int):MF .eql k a b=some (True,.v (.prim (.bool (decide (a=b))))):=rfl
theorem z26 (k:IntKind)(a b:Int):MF .neq k a b=some (True,.v (.prim (.bool (!decide (a=b))))):=rfl
theorem z27 (k:IntKind)(a b:Int):MF .lss k a b=some (True,.v (.prim (.bool (decide (a<b))))):=rfl
theorem z28 (k:IntKind)(a b:Int):MF .leq k a b=some (True,.v (.prim (.bool (decide (a<=b))))):=rfl
theorem z29 (k:IntKind)(a b:Int):MF .gtr k a b=some (True,.v (.prim (.bool (decide (b<a))))):=rfl
theorem z2a (k:IntKind)(a b:Int):MF .geq k a b=some (True,.v (.prim (.bool (decide (b<=a))))):=rfl
def unV (op:UnOp)(x:Option SV):Option (Prop × SV):=
 match op,x with
 | .not,some (.v (.prim (.bool b)))=>some (True,.v (.prim (.bool (!b))))
 | .neg,some (.v (.prim (.int k n)))=>some (C9 k (0 - n),.v (.prim (.int k (0 - n))))
 | _,_=>none
theorem zc4 (b:Bool):unV .not (some (.v (.prim (.bool b))))=some (True,.v (.prim (.bool (!b)))):=rfl
theorem zc5 (k:IntKind)(n:Int):unV .neg (some (.v (.prim (.int k n))))=some (C9 k (0 - n),.v (.prim (.int k (0 - n)))):=rfl
def exC (o:Option DV):Option (Prop × SV):=o.map fun c=>(True,.v c)
theorem z6x (c:DV):exC (some c)=some (True,.v c):=rfl
def exV (x:Option SV)(i:Nat):Option (Prop × SV):=
 match x with
 | some (.v (.tup cs))=>exC cs[i]?
 | _=>none
theorem z6y (cs:List DV)(i:Nat):exV (some (.v (.tup cs))) i=exC cs[i]?:=rfl
def faV (f:Option (Bool × Nat × Nat))(x:Option SV):Option (Prop × SV):=
 match f,x with
 | some (_,Bl,_),some (.loc k off)=>some (True,.loc k (off+Bl))
 | some (_,Bl,_),some (.dp els i off)=>some (True,.dp els i (off+Bl))
 | some (_,Bl,_),some (.v (.prim (.pointer (some ⟨b,off,none⟩))))=>some (True,.v (.prim (.pointer (some ⟨b,off+Bl,none⟩))))
 | some (_,Bl,_),some (.v (.ref cs))=>some (True,.dp [cs] 0 Bl)
 | _,_=>none
theorem zc6 (b:Bool)(n Bl:Nat)(cs:List DV):faV (some (b,Bl,n)) (some (.v (.ref cs)))=some (True,.dp [cs] 0 Bl):=rfl
theorem zc7 (b:Bool)(n Bl k off:Nat):faV (some (b,Bl,n)) (some (.loc k off))=some (True,.loc k (off+Bl)):=rfl
theorem zh0 (b:Bool)(n Bl i off:Nat)(els:List (List DV)):faV (some (b,Bl,n)) (some (.dp els i off))=some (True,.dp els i (off+Bl)):=rfl
theorem zc8 (b:Bool)(n Bl k off:Nat):faV (some (b,Bl,n)) (some (.v (.prim (.pointer (some ⟨k,off,none⟩)))))=some (True,.v (.prim (.pointer (some ⟨k,off+Bl,none⟩)))):=rfl
def fdC (y:DV)(o:Option DV):Option (Prop × SV):=o.map fun c=>(y.isAgg=true,.v c)
theorem z6z (y c:DV):fdC y (some c)=some (y.isAgg=true,.v c):=rfl
def fdV (f:Option (Bool × Nat × Nat))(x:Option SV):Option (Prop × SV):=
 match f,x with
 | some (agg,off,n),some (.v y)=>fdC y (MG (DN y) agg off n)
 | _,_=>none
theorem z70 (agg:Bool)(off n:Nat)(y:DV):fdV (some (agg,off,n)) (some (.v y))=fdC y (MG (DN y) agg off n):=rfl
theorem z2b (cs:List DV)(off n:Nat):MG cs false off n=cs[off]?:=rfl
def rdA (n:Nat)(ds:List DV):Option DV:=if ds.length=n then some (.agg ds) else none
theorem z71 {n:Nat}{ds:List DV}(h:ds.length=n):rdA n ds=some (.agg ds):=by simp[rdA,h]
theorem z2c (cs:List DV)(off n:Nat):MG cs true off n=rdA n ((cs.drop off).take n):=rfl
theorem z2d (cs:List DV):DV.isAgg (.agg cs)=true:=rfl
def rdS (n:Nat):Option (List DV)->Option SV
 | some ds=>if ds.length=n then some (.v (.agg ds)) else none
 | none=>none
theorem z72 {n:Nat}{ds:List DV}(h:ds.length=n):rdS n (some ds)=some (.v (.agg ds)):=by simp[rdS,h]
theorem mV (cs:List SV)(off n:Nat):ML cs false off n=cs[off]?:=rfl
theorem mW (cs:List SV)(off n:Nat):ML cs true off n=rdS n (JZ ((cs.drop off).take n)):=by
 simp only[ML,if_true,rdS];cases JZ ((cs.drop off).take n) <;> rfl
def bN (lay:Option (Bool × Nat))(r:Option LV)(off:Nat):Option SV:=
 match lay,r with
 | some (agg,n),some (.row cs)=>ML cs agg off n
 | _,_=>none
theorem tE (agg:Bool)(n off:Nat)(cs:List SV):bN (some (agg,n)) (some (.row cs)) off=ML cs agg off n:=rfl
def tF (lay:Option (Bool × Nat))(e:Option (List DV))(off:Nat):Option SV:=
 match lay,e with
 | some (agg,n),some e=>(MG e agg off n).map .v
 | _,_=>none
theorem z2e (agg:Bool)(n off:Nat)(e:List DV):tF (some (agg,n)) (some e) off=(MG e agg off n).map .v:=rfl
def ldV (P:Program)(g:Rd)(t:TypeId)(x:Option SV):Option SV:=
 match x with
 | some (.loc k off)=>bN (EE P t) (g (.loc k)) off
 | some (.dp els i off)=>tF (EE P t) els[i]? off
 | some (.v (.prim (.pointer (some ⟨b,off,none⟩))))=>bN (EE P t) (g (.heap b)) off
 | some (.v (.ref cs))=>tF (EE P t) (some cs) 0
 | _=>none
theorem z74 (t:TypeId)(y:SV):ldV X.P g t (some y)=loadAt X g t y:=by
 cases y with
 | loc k off=>
  simp only[ldV,bN,loadAt];cases EE X.P t <;> cases g (.loc k) <;> rfl
 | dp els i off=>
  simp only[ldV,tF,loadAt];cases EE X.P t <;> cases els[i]? <;> rfl
 | own t els=>rfl
 | ag cs ns=>rfl
 | v x=>cases x with
  | prim v=>cases v with
   | pointer p=>cases p with
    | none=>rfl
    | some a=>obtain⟨b,o,sp⟩:=a;cases sp with
     | none=>
      simp only[ldV,bN,loadAt];cases EE X.P t <;> cases g (.heap b) <;> rfl
     | some _=>rfl
   | _=>rfl
  | ref cs=>
   simp only[ldV,tF,loadAt];cases EE X.P t <;> rfl
  | _=>rfl
theorem zc9 (P:Program)(t:Nat)(cs:List DV):ldV P g t (some (.v (.ref cs)))=tF (EE P t) (some cs) 0:=rfl
theorem zca (P:Program)(t k off:Nat):ldV P g t (some (.loc k off))=bN (EE P t) (g (.loc k)) off:=rfl
theorem zh1 (P:Program)(t i off:Nat)(els:List (List DV)):ldV P g t (some (.dp els i off))=tF (EE P t) els[i]? off:=rfl
theorem zcb (P:Program)(t b off:Nat):ldV P g t (some (.v (.prim (.pointer (some ⟨b,off,none⟩)))))=bN (EE P t) (g (.heap b)) off:=rfl
def ixS (E:Nat)(els:List (List DV))(n:Int):Option (List DV)->Option (Prop × SV)
 | some e=>some (0<=n/\e.length=E,.dp els n.toNat 0)
 | none=>none
theorem z75 (E:Nat)(els:List (List DV))(n:Int)(e:List DV):ixS E els n (some e)=some (0<=n/\e.length=E,.dp els n.toNat 0):=rfl
def ixA (len E j:Nat)(els:List (List DV))(n:Int):Option (List DV)->Option (Prop × SV)
 | some e=>some (0<=n/\n<len/\1<len/\e.length=E,.dp els (j+n.toNat) 0)
 | none=>none
theorem z76 (len E j:Nat)(els:List (List DV))(n:Int)(e:List DV):ixA len E j els n (some e)=some (0<=n/\n<len/\1<len/\e.length=E,.dp els (j+n.toNat) 0):=rfl
def ixV (el:Option Nat)(ar:Option (Nat × Nat))(x i:Option SV):Option (Prop × SV):=
 match x,i with
 | some y,some (.v (.prim (.int _ n)))=>
  match el,LN y with
  | some E,some els=>ixS E els n els[n.toNat]?
  | _,_=>match ar,y with
   | some (len,E),.loc k off=>some (0<=n/\n<len/\1<len,.loc k (off+n.toNat * E))
   | some (len,E),.dp els j 0=>ixA len E j els n els[j+n.toNat]?
   | some (len,E),.dp els j (off+1)=>some (0<=n/\n<len/\1<len,.dp els j (off+1+n.toNat * E))
   | some (len,E),.v (.prim (.pointer (some ⟨b,off,none⟩)))=>some (0<=n/\n<len/\1<len,.v (.prim (.pointer (some ⟨b,off+n.toNat * E,none⟩))))
   | _,.v (.prim (.slice (some ⟨b,off,none⟩) len _))=>match el with
    | some E=>some (0<=n/\n<len,.v (.prim (.pointer (some ⟨b,off+n.toNat * E,none⟩))))
    | none=>none
   | _,_=>none
 | _,_=>none
theorem zkq (E:Nat)(ar:Option (Nat × Nat))(els:List (List DV))(k:IntKind)(n:Int):ixV (some E) ar (some (.v (.sl els))) (some (.v (.prim (.int k n))))=ixS E els n els[n.toNat]?:=rfl
theorem zcc (E:Nat)(ar:Option (Nat × Nat))(t:Nat)(els:List (List DV))(k:IntKind)(n:Int):ixV (some E) ar (some (.own t els)) (some (.v (.prim (.int k n))))=ixS E els n els[n.toNat]?:=rfl
theorem zcd (len E k off:Nat)(kk:IntKind)(n:Int):ixV none (some (len,E)) (some (.loc k off)) (some (.v (.prim (.int kk n))))=some (0<=n/\n<len/\1<len,.loc k (off+n.toNat * E)):=rfl
theorem zce (len E b off:Nat)(kk:IntKind)(n:Int):ixV none (some (len,E)) (some (.v (.prim (.pointer (some ⟨b,off,none⟩))))) (some (.v (.prim (.int kk n))))=some (0<=n/\n<len/\1<len,.v (.prim (.pointer (some ⟨b,off+n.toNat * E,none⟩)))):=rfl
theorem zcf (E:Nat)(ar:Option (Nat × Nat))(b off len cap:Nat)(kk:IntKind)(n:Int):ixV (some E) ar (some (.v (.prim (.slice (some ⟨b,off,none⟩) len cap)))) (some (.v (.prim (.int kk n))))=some (0<=n/\n<len,.v (.prim (.pointer (some ⟨b,off+n.toNat * E,none⟩)))):=by cases ar <;> rfl
theorem zcg (len E j:Nat)(els:List (List DV))(kk:IntKind)(n:Int):ixV none (some (len,E)) (some (.dp els j 2)) (some (.v (.prim (.int kk n))))=some (0<=n/\n<len/\1<len,.dp els j (2+n.toNat * E)):=rfl
theorem zh2 (len E j:Nat)(els:List (List DV))(kk:IntKind)(n:Int):ixV none (some (len,E)) (some (.dp els j 0)) (some (.v (.prim (.int kk n))))=ixA len E j els n els[j+n.toNat]?:=rfl
def blC (cs:List SV):Option (List DV)->Option (Prop × SV)
 | some ds=>if JO ds then some (True,.ag ds (GO 0 cs)) else none
 | none=>none
theorem z77 {cs:List SV}{ds:List DV}(h:JO ds=true):blC cs (some ds)=some (True,.ag ds (GO 0 cs)):=by simp[blC,h]
def blD:Option (List SV)->Option (Prop × SV)
 | some cs=>blC cs (JZ cs)
 | none=>none
theorem z78 (cs:List SV):blD (some cs)=blC cs (JZ cs):=rfl
def blV (X:Ctx)(g:Rd)(z:Option (List SV))(pl:Option (List (Nat × Nat)))(parts:List (Nat × Operand)):Option (Prop × SV):=
 match z,pl with
 | some z,some pl=>blD (UC pl X g z parts)
 | _,_=>none
theorem z79 (z:List SV)(pl:List (Nat × Nat))(parts:List (Nat × Operand)):blV X g (some z) (some pl) parts=blD (UC pl X g z parts):=rfl
theorem z2f (pl:List (Nat × Nat))(cells:List SV):UC pl X g cells []=some cells:=rfl
def z7a (pl:List (Nat × Nat))(X:Ctx)(g:Rd)(cells:List SV)(rest:List (Nat × Operand))(p:Option (Nat × Nat))(y:Option SV):Option (List SV):=
 match p,y with
 | some (off,size),some y=>if (BV y).length=size/\off+size<=cells.length then UC pl X g (put cells off (BV y)) rest else none
 | _,_=>none
theorem tG (pl:List (Nat × Nat))(cells:List SV)(i:Nat)(x:Operand)(rest:List (Nat × Operand)):UC pl X g cells ((i,x)::rest)=z7a pl X g cells rest pl[i]? (CS X g x):=rfl
theorem tH {pl:List (Nat × Nat)}{cells:List SV}{rest:List (Nat × Operand)}{off size:Nat}{y:SV}(h:(BV y).length=size/\off+size<=cells.length) :
  z7a pl X g cells rest (some (off,size)) (some y)=UC pl X g (put cells off (BV y)) rest:=by simp[z7a,h]
def ifV (b:Bool)(t:TypeId):Option DV->Option (Prop × SV)
 | some y=>if b then some (True,.v (.iface t y)) else none
 | none=>none
theorem z7b (t:TypeId)(y:DV):ifV true t (some y)=some (True,.v (.iface t y)):=rfl
def ncV (x:Option SV):Option (Prop × SV):=
 match x with
 | some (.loc k off)=>some (True,.loc k off)
 | some (.dp els i off)=>some (True,.dp els i off)
 | some (.v (.prim (.pointer (some a))))=>some (True,.v (.prim (.pointer (some a))))
 | some (.v (.prim (.func (.func f) x y)))=>some (True,.v (.prim (.func (.func f) x y)))
 | some (.v (.ref cs))=>some (True,.v (.ref cs))
 | _=>none
theorem zch (cs:List DV):ncV (some (.v (.ref cs)))=some (True,.v (.ref cs)):=rfl
theorem zh3 (a:TypeId)(z:Option Value)(y:DV):taV true a false z (some (.v (.iface a y)))=some (True,.v y):=by simp[taV]
theorem zh4 (a:TypeId)(z:Option Value)(y:DV):taV true a true z (some (.v (.iface a y)))=some (True,.v (.tup [y,.prim (.bool true)])):=by simp[taV]
theorem zci {t a:Nat}(h:(t==a)=false)(z:Value)(y:DV):taV true a true (some z) (some (.v (.iface t y)))=some (True,.v (.tup [.prim z,.prim (.bool false)])):=by
 have h:t≠a:=by simpa using h
 simp[taV,h]
theorem zcj (k off:Nat):ncV (some (.loc k off))=some (True,.loc k off):=rfl
theorem zh5 (els:List (List DV))(k off:Nat):ncV (some (.dp els k off))=some (True,.dp els k off):=rfl
theorem zck (a:Addr):ncV (some (.v (.prim (.pointer (some a)))))=some (True,.v (.prim (.pointer (some a)))):=rfl
theorem z7c (f:Nat)(x y:Array Value):ncV (some (.v (.prim (.func (.func f) x y))))=some (True,.v (.prim (.func (.func f) x y))):=rfl
def cvV (x:Option SV)(a b:Option IntKind):Option (Prop × SV):=
 match x,a,b with
 | some (.v (.prim (.int _ n))),some _,some k=>some (C9 k n,.v (.prim (.int k n)))
 | _,_,_=>none
theorem z7d (k0 a k:IntKind)(n:Int):cvV (some (.v (.prim (.int k0 n)))) (some a) (some k)=some (C9 k n,.v (.prim (.int k n))):=rfl
def pvK (x:Option SV)(r:Option (List Value)):Option (List Value):=
 match x,r with
 | some (.v (.prim v)),some vs=>some (v::vs)
 | _,_=>none
theorem z7e (v:Value)(vs:List Value):pvK (some (.v (.prim v))) (some vs)=some (v::vs):=rfl
theorem z7f:b5 X g []=some []:=rfl
theorem z2g (x:Operand)(r:List Operand):b5 X g (x::r)=pvK (CS X g x) (b5 X g r):=by
 simp only[b5];rfl
def mfV (fn:Fn)(x y:Option (List Value)):Option (Prop × SV):=
 match x,y with
 | some fi,some ca=>some (True,.v (.prim (.func fn fi.toArray ca.toArray)))
 | _,_=>none
theorem z7g (fn:Fn)(fi ca:List Value):mfV fn (some fi) (some ca)=some (True,.v (.prim (.func fn fi.toArray ca.toArray))):=rfl
def bdI (d:Nat):Option SV->Option Int
 | some (.v (.prim (.int _ n)))=>some n
 | _=>none
theorem z7h (d:Nat)(k:IntKind)(n:Int):bdI d (some (.v (.prim (.int k n))))=some n:=rfl
theorem tI (d:Nat):EZ X g d none=some (d:Int):=rfl
theorem tJ (d:Nat)(x:Operand):EZ X g d (some x)=bdI d (CS X g x):=by
 unfold EZ bdI;rfl
def slC (E:Nat)(els:List (List DV))(l h:Option Int):Option (Prop × SV):=
 match l,h with
 | some l,some h=>some (0<=l/\l<=h/\h<=els.length/\∀e∈els,e.length=E,.v (.sl ((els.take h.toNat).drop l.toNat)))
 | _,_=>none
theorem z7i (E:Nat)(els:List (List DV))(l h:Int):slC E els (some l) (some h)=some (0<=l/\l<=h/\h<=els.length/\∀e∈els,e.length=E,.v (.sl ((els.take h.toNat).drop l.toNat))):=rfl
def slV (X:Ctx)(g:Rd)(el:Option Nat)(x:Option (List (List DV)))(y:Option SV)(lo hi:Option Operand):Option (Prop × SV):=
 match el,x with
 | some E,some els=>slC E els (EZ X g 0 lo) (EZ X g els.length hi)
 | _,_=>match el,y,EZ X g 0 lo with
  | some _,some (.v (.prim (.slice (some ⟨b,o,none⟩) n cap))),some l=>match EZ X g n hi with
   | some h=>some (l=0/\0<=h/\h<=cap,.v (.prim (.slice (some ⟨b,o,none⟩) h.toNat cap)))
   | none=>none
  | _,_,_=>none
theorem z7j (E:Nat)(els:List (List DV))(y:Option SV)(lo hi:Option Operand):slV X g (some E) (some els) y lo hi=slC E els (EZ X g 0 lo) (EZ X g els.length hi):=rfl
def slR (b o cap:Nat)(l h:Option Int):Option (Prop × SV):=
 match l,h with
 | some l,some h=>some (l=0/\0<=h/\h<=cap,.v (.prim (.slice (some ⟨b,o,none⟩) h.toNat cap)))
 | _,_=>none
theorem z7k (b o cap:Nat)(l h:Int):slR b o cap (some l) (some h)=some (l=0/\0<=h/\h<=cap,.v (.prim (.slice (some ⟨b,o,none⟩) h.toNat cap))):=rfl
theorem zcl (E b o n cap:Nat)(lo hi:Option Operand):slV X g (some E) none (some (.v (.prim (.slice (some ⟨b,o,none⟩) n cap)))) lo hi=slR b o cap (EZ X g 0 lo) (EZ X g n hi):=by
 simp only[slV];cases h1:EZ X g 0 lo with
 | none=>rfl
 | some l=>cases h2:EZ X g n hi <;> simp[slR,h2]
def lnV (el:Option Nat)(x:Option (List (List DV)))(y:Option SV):Option (Prop × SV):=
 match el,x with
 | some _,some els=>some (True,.v (.prim (.int .i64 els.length)))
 | _,_=>match el,y with
  | some _,some (.v (.prim (.slice _ n _)))=>some (n<=I6,.v (.prim (.int .i64 n)))
  | _,_=>none
theorem z7l (E:Nat)(els:List (List DV))(y:Option SV):lnV (some E) (some els) y=some (True,.v (.prim (.int .i64 els.length))):=rfl
theorem zcm (E:Nat)(q:Option Addr)(n c:Nat):lnV (some E) none (some (.v (.prim (.slice q n c))))=some (n<=I6,.v (.prim (.int .i64 n))):=rfl
def mxV (x y:Option SV):Option (Prop × SV):=
 match x,y with
 | some (.v (.prim (.int k a))),some (.v (.prim (.int _ b)))=>some (C9 k b,.v (.prim (.int k (if b > a then b else a))))
 | _,_=>none
theorem z7m (k k':IntKind)(a b:Int):mxV (some (.v (.prim (.int k a)))) (some (.v (.prim (.int k' b))))=some (C9 k b,.v (.prim (.int k (max a b)))):=by
 simp only[mxV,uC,uD,true_and,SV.v.injEq,DV.prim.injEq,Value.int.injEq];split <;> omega
section
variable (Ab:List Nat)(d:Tmp)(ty:TypeId)(pos:String)(af:Array Edge)(gd:Option (Nat × Bool))
theorem zks (x:Operand):AZ X Ab s ⟨some d,.move x,ty,pos,af,gd⟩=ND (I9 d Ab) (HT X s (some d) (tru (CS X (get s) x))):=by simp only[AZ,GP,M6,ND,aE]
theorem zcn (x:Operand):AZ X Ab s ⟨some d,.assign x,ty,pos,af,gd⟩=ND (I9 d Ab) (HT X s (some d) (tru (CS X (get s) x))):=by simp only[AZ,GP,M6,ND,aE]
theorem zkt (c x y:Operand):AZ X Ab s ⟨some d,.pick c x y,ty,pos,af,gd⟩=ND (I9 d Ab) (HT X s (some d) (z6v (CS X (get s) c) (CS X (get s) x) (CS X (get s) y))):=by
 simp only[AZ,GP,M6,ND,aE];rfl
theorem zng (op:BinOp)(t yt:TypeId)(x y:Operand):AZ X Ab s ⟨some d,.binOp op t x y yt,ty,pos,af,gd⟩=ND (I9 d Ab) (HT X s (some d) (tD X.P op t (CS X (get s) x) (CS X (get s) y))):=by
 simp only[AZ,GP,M6,ND];rfl
theorem sUn (op:UnOp)(t:TypeId)(x:Operand):AZ X Ab s ⟨some d,.unOp op t x,ty,pos,af,gd⟩=ND (I9 d Ab) (HT X s (some d) (unV op (CS X (get s) x))):=by
 simp only[AZ,GP,M6,ND];rfl
theorem z7n (x:Operand)(i:Nat):AZ X Ab s ⟨some d,.extract x i,ty,pos,af,gd⟩=ND (I9 d Ab) (HT X s (some d) (exV (CS X (get s) x) i)):=by
 simp only[AZ,GP,M6,ND];rfl
theorem zh6 (t:TypeId)(x:Operand)(f:Nat):AZ X Ab s ⟨some d,.field t x f,ty,pos,af,gd⟩=ND (I9 d Ab) (HT X s (some d) (fdV (BD X.P t f) (CS X (get s) x))):=by
 simp only[AZ,GP,M6,ND];rfl
theorem tK (t:TypeId)(x:Operand)(f:Nat):AZ X Ab s ⟨some d,.fieldAddr t x f,ty,pos,af,gd⟩=ND (I9 d Ab) (HT X s (some d) (faV (BD X.P t f) (CS X (get s) x))):=by
 simp only[AZ,GP,M6,ND];rfl
theorem tL (t:TypeId)(x i:Operand):AZ X Ab s ⟨some d,.indexAddr t x i,ty,pos,af,gd⟩=ND (I9 d Ab) (HT X s (some d) (ixV (E0 X.P t) (rY X.P t) (CS X (get s) x) (CS X (get s) i))):=by
 simp only[AZ,GP,M6,ND];rfl
theorem zku (t:TypeId)(x:Operand):AZ X Ab s ⟨some d,.load t x,ty,pos,af,gd⟩=ND (I9 d Ab) (HT X s (some d) (tru (ldV X.P (get s) t (CS X (get s) x)))):=by
 simp only[AZ,GP,M6,ND,aE]
 congr 4
 cases CS X (get s) x with
 | none=>rfl
 | some y=>exact (z74 t y).symm
theorem zh7 (t:TypeId)(parts:Array (Nat × Operand)):AZ X Ab s ⟨some d,.build t parts,ty,pos,af,gd⟩=ND (I9 d Ab) (HT X s (some d) (blV X (get s) (EH X.P t) (DW X.P t) parts.toList)):=by
 simp only[AZ,GP,M6,ND];rfl
theorem tM (t:TypeId)(x:Operand):AZ X Ab s ⟨some d,.makeInterface t x,ty,pos,af,gd⟩=ND (I9 d Ab) (HT X s (some d) (ifV (RI X.P t) t ((CS X (get s) x).bind f8))):=by
 simp only[AZ,GP,M6,ND];rfl
theorem z2h (x:Operand):AZ X Ab s ⟨some d,.nilCheck x,ty,pos,af,gd⟩=ND (I9 d Ab) (HT X s (some d) (ncV (CS X (get s) x))):=by
 simp only[AZ,GP,M6,ND];rfl
theorem mX (x:Operand)(xt at':TypeId)(ok:Bool):AZ X Ab s ⟨some d,.typeAssert x xt at' ok,ty,pos,af,gd⟩=ND (I9 d Ab) (HT X s (some d) (taV (RI X.P at') at' ok (b6 X.P at') (CS X (get s) x))):=by
 simp only[AZ,GP,M6,ND];rfl
theorem z2i (fn:Fn)(fi ca:Array Operand):AZ X Ab s ⟨some d,.makeFunc fn fi ca,ty,pos,af,gd⟩=ND (I9 d Ab) (HT X s (some d) (mfV fn (b5 X (get s) fi.toList) (b5 X (get s) ca.toList))):=by
 simp only[AZ,GP,M6,ND];rfl
theorem zh8 (t:TypeId)(x:Operand)(lo hi:Option Operand):AZ X Ab s ⟨some d,.slice t x lo hi none,ty,pos,af,gd⟩=ND (I9 d Ab) (HT X s (some d) (slV X (get s) (E0 X.P t) ((CS X (get s) x).bind LN) (CS X (get s) x) lo hi)):=by
 simp only[AZ,GP,M6,ND];rfl
theorem zco (t:TypeId)(x m:Operand)(lo hi:Option Operand):AZ X Ab s ⟨some d,.slice t x lo hi (some m),ty,pos,af,gd⟩=ND (I9 d Ab) (P5 X s (some d) (E0 X.P t) ((CS X (get s) x).bind LN) (EZ X (get s) 0 lo) (z17 X s x hi) (EZ X (get s) 0 (some m)) hi.isSome):=by
 simp only[AZ,M6,ND];rfl
theorem znh (t:TypeId)(x:Operand):AZ X Ab s ⟨some d,.call { callee:=.builtin .len,args:=#[x],argTypes:=#[t] },ty,pos,af,gd⟩=ND (I9 d Ab) (HT X s (some d) (lnV (E0 X.P t) ((CS X (get s) x).bind LN) (CS X (get s) x))):=by
 simp only[AZ,GP,M6,ND,CY,O6];rfl
theorem zni (ts:Array TypeId)(x y:Operand):AZ X Ab s ⟨some d,.call { callee:=.builtin .max,args:=#[x,y],argTypes:=ts },ty,pos,af,gd⟩=ND (I9 d Ab) (HT X s (some d) (mxV (CS X (get s) x) (CS X (get s) y))):=by
 simp only[AZ,GP,M6,ND,CY,O6];rfl
theorem zh9 (t:TypeId):AZ X Ab s ⟨some d,.alloc t,ty,pos,af,gd⟩=ND (I9 d Ab) (TG X s (some d) (EH X.P t)):=by simp only[AZ,M6,ND];rfl
theorem znj (t:TypeId)(x:Operand):AZ X Ab s ⟨some d,.box t x,ty,pos,af,gd⟩=ND (I9 d Ab) (fX X s (some d) (CS X (get s) x)):=by simp only[AZ,M6,ND];rfl
theorem zha (t:TypeId)(p x:Operand):AZ X Ab s ⟨none,.store t p x,ty,pos,af,gd⟩=OC s (EE X.P t) (CS X (get s) p) (CS X (get s) x):=by simp only[AZ,M6];rfl
def ltK (X:Ctx)(s:St)(d:Tmp)(len:Nat)(parts:List (Nat × Operand)):Option (Nat × Nat)->Option (Prop × St)
 | some (E,B)=>fY X s (some d) len (some (E,B)) (HA X (get s) E 0 parts)
 | none=>none
theorem z7o (len E B:Nat)(parts:List (Nat × Operand)):ltK X s d len parts (some (E,B))=fY X s (some d) len (some (E,B)) (HA X (get s) E 0 parts):=rfl
theorem mY (t len:Nat)(parts:Array (Nat × Operand)):AZ X Ab s ⟨some d,.buildSlice t len parts,ty,pos,af,gd⟩=ND (I9 d Ab) (ltK X s d len parts.toList (FI X.P t)):=by
 simp only[AZ,M6,ND,ltK];cases FI X.P t <;> rfl
theorem zcp (t t2:TypeId)(x y:Operand):AZ X Ab s ⟨some d,.call { callee:=.builtin .append,args:=#[x,y],argTypes:=#[t,t2] },ty,pos,af,gd⟩ =
  ND (I9 d Ab) (P4 X s (some d) (FI X.P t) (E0 X.P t2).isSome (CS X (get s) x) ((CS X (get s) y).bind LN)):=by
 simp only[AZ,M6,ND,CY];rfl
end
theorem jL {d:Nat}{cs:List SV}(h:(ES cs&&D6 d s&&!EC d cs)=true):TG X s (some d) (some cs)=some (d<X.n,CM (CM s (.slot d) (.one (.loc d 0))) (.loc d) (.row cs)):=by simp only[TG,h,if_true]
theorem tN {d:Nat}{y:SV}(h:(ES (BV y)&&D6 d s&&!G8 d y)=true):fX X s (some d) (some y)=some (d<X.n,CM (CM s (.slot d) (.one (.loc d 0))) (.loc d) (.row (BV y))):=by simp only[fX,h,if_true]
def sts (s:St)(k off n:Nat)(xs:List SV):Option LV->Option (Prop × St)
 | some (.row cs)=>if ES xs then some (xs.length=n/\off+n<=cs.length,CM s (.loc k) (.row (put cs off xs))) else none
 | _=>none
theorem z7p {k off n:Nat}{xs cs:List SV}(h:ES xs=true):sts s k off n xs (some (.row cs))=some (xs.length=n/\off+n<=cs.length,CM s (.loc k) (.row (put cs off xs))):=by simp[sts,h]
theorem mZ (k off n:Nat)(b:Bool)(y:SV):OC s (some (b,n)) (some (.loc k off)) (some y)=sts s k off n (BV y) (get s (.loc k)):=by
 simp only[OC];rfl
def sth (s:St)(b off n:Nat)(xs:Option (List SV)):Option LV->Option (Prop × St)
 | some (.row cs)=>match xs with
  | some ys=>if ES ys then some (ys.length=n/\off+n<=cs.length,CM s (.heap b) (.row (put cs off ys))) else none
  | none=>none
 | _=>none
theorem z7q {b off n:Nat}{ys cs:List SV}(h:ES ys=true):sth s b off n (some ys) (some (.row cs))=some (ys.length=n/\off+n<=cs.length,CM s (.heap b) (.row (put cs off ys))):=by simp[sth,h]
theorem n6 (b off n:Nat)(bb:Bool)(y:SV):OC s (some (bb,n)) (some (.v (.prim (.pointer (some ⟨b,off,none⟩))))) (some y)=sth s b off n (XG (BV y)) (get s (.heap b)):=by
 simp only[OC];cases get s (.heap b) with
 | none=>rfl
 | some u=>cases u with
  | row cs=>cases XG (BV y) <;> rfl
  | _=>rfl
theorem z7r:XG []=some []:=rfl
theorem zhb (x:DV)(r:List SV):XG (.v x::r)=(XG r).map (SV.v x::·):=by
 simp only[XG,asV];cases XG r <;> rfl
theorem tO (d len E B:Nat)(els:List (List DV)):fY X s (some d) len (some (E,B)) (some els)=some (d<X.n/\els.length=len/\len * E<=16777216/\len<=I6,CM s (.slot d) (.one (.v (.sl els)))):=rfl
theorem tP (E n:Nat):HA X g E n []=some []:=rfl
def ltD (ds:Option (List DV))(E:Nat)(rest:Option (List (List DV))):Option (List (List DV)):=
 match ds with
 | some ds=>if ds.length=E then if JO ds then rest.map (ds::·) else none else none
 | none=>none
theorem z7s {ds:List DV}{E:Nat}(h:ds.length=E/\JO ds=true)(rest:Option (List (List DV))):ltD (some ds) E rest=rest.map (ds::·):=by simp[ltD,h.1,h.2]
theorem n7 (E n:Nat)(x:Operand)(r:List (Nat × Operand)):HA X g E n ((n,x)::r)=ltD (((CS X g x).map BV).bind JZ) E (HA X g E (n+1) r):=by
 simp only[HA,if_true,ltD];cases CS X g x with
 | none=>rfl
 | some y=>
  simp only[Option.map_some,Option.bind_some];cases JZ (BV y) with
  | none=>rfl
  | some ds=>
   simp only;split
   ·split;· cases HA X g E (n+1) r <;> rfl
    ·rfl
   ·rfl
theorem fA {d E B t:Nat}{els ys:List (List DV)}(h:(D7 d s&&d != 0)=true):P4 X s (some d) (some (E,B)) true (some (.own t els)) (some ys) =
  some (d<X.n/\(0<B/\B<=1024)/\MM (get s) t E els.length/\els.length+ys.length<=I6/\(∀e∈els,e.length=E)/\(∀e∈ys,e.length=E),
    CM (CM (QZ s (.tok t)) (.slot d) (.one (.own d (els++ys)))) (.tok d) (.tk E (els.length+ys.length))):=by simp only[P4,Bool.true_and,h,if_true]
theorem jM (g:Rd)(E n:Nat):MM g 0 E n=True:=by simp[MM]
theorem jN {g:Rd}{t E n:Nat}(h:g (.tok t)=some (.tk E n)):MM g t E n=True:=by simp[MM,h]
theorem fB {d E:Nat}{els:List (List DV)}{l h k:Int}{b:Bool}(hb:(D7 d s&&d != 0&&b)=true):P5 X s (some d) (some E) (some els) (some l) (some h) (some k) b =
  some (d<X.n/\0<=l/\l<=h/\h<=els.length/\h=k/\(∀e∈els,e.length=E),CM (CM (QZ s (.tok 0)) (.slot d) (.one (.own d ((els.take h.toNat).drop l.toNat)))) (.tok d) (.tk E (h.toNat - l.toNat))):=by simp only[P5,hb,if_true]
def hoK (X:Ctx)(s:St)(hi:Option Operand):Option (List (List DV))->Option Int
 | some els=>EZ X (get s) els.length hi
 | none=>none
theorem zcq (x:Operand)(hi:Option Operand):z17 X s x hi=hoK X s hi ((CS X (get s) x).bind LN):=by
 unfold z17 hoK;cases (CS X (get s) x).bind LN <;> rfl
theorem z7t (hi:Option Operand)(els:List (List DV)):hoK X s hi (some els)=EZ X (get s) els.length hi:=rfl
theorem z2j:GK X g []=some []:=rfl
def edK (y:Option DV)(r:Option (List DV)):Option (List DV):=
 match y,r with
 | some y,some r=>some (y::r)
 | _,_=>none
theorem z7u (y:DV)(r:List DV):edK (some y) (some r)=some (y::r):=rfl
theorem tQ (x:Operand)(r:List Operand):GK X g (x::r)=edK ((CS X g x).bind f8) (GK X g r):=by
 simp only[GK,edK];cases (CS X g x).bind f8 <;> cases GK X g r <;> rfl
def roK:Option SV->Option DV
 | some x=>f8 x
 | none=>none
theorem z7v (x:SV):roK (some x)=f8 x:=rfl
theorem tR (t:Nat):PY X g (.tmp t)=roK (OD (g (.slot t))):=by
 simp only[PY,OD,roK];cases g (.slot t) with
 | none=>rfl
 | some u=>cases u <;> rfl
theorem n8 (t ty:Nat):PY X g (.cell t ty)=roK (ldV X.P g ty (OD (g (.slot t)))):=by
 simp only[PY,OD,roK];cases g (.slot t) with
 | none=>rfl
 | some u=>cases u with
  | one x=>
   simp only;rw[z74];cases loadAt X g ty x <;> rfl
  | _=>rfl
theorem z7w:bE X g []=some []:=rfl
theorem z2k (r:ResultVar)(l:List ResultVar):bE X g (r::l)=edK (PY X g r) (bE X g l):=by
 simp only[bE,edK];cases PY X g r <;> cases bE X g l <;> rfl
def rdK:Option (List DV)->Option DV
 | some [x]=>some x
 | some xs=>some (.tup xs)
 | none=>none
theorem zcr (x:DV):rdK (some [x])=some x:=rfl
theorem zct (x y:DV)(r:List DV):rdK (some (x::y::r))=some (.tup (x::y::r)):=rfl
theorem zcu:rdK (some [])=some (.tup []):=rfl
theorem zcv (l:List ResultVar):UT X g l=rdK (bE X g l):=by
 unfold UT rdK;rfl
theorem zcw (σ:Nat->Nat)(x y:DV):RD σ (.v x) (.v y)=(x=y):=rfl
theorem zcx (σ:Nat->Nat)(x:DV)(t:Nat)(e:List (List DV)):RD σ (.v x) (.own t e)=(x = .sl e):=rfl
theorem zcy (σ:Nat->Nat)(x:DV)(e:List DV)(n:List Nat):RD σ (.v x) (.ag e n)=(x = .agg e):=rfl
theorem zcz (σ:Nat->Nat)(e e':List DV)(n n':List Nat):RD σ (.ag e n) (.ag e' n')=(e=e'/\n=n'):=rfl
theorem zd0 (σ:Nat->Nat)(k o k' o':Nat):RD σ (.loc k o) (.loc k' o')=(k=k'/\o=o'):=rfl
theorem zd1 (σ:Nat->Nat)(e e':List (List DV))(k o k' o':Nat):RD σ (.dp e k o) (.dp e' k' o')=(e=e'/\k=k'/\o=o'):=rfl
theorem zd2 (σ:Nat->Nat)(t t':Nat)(e e':List (List DV)):RD σ (.own t e) (.own t' e')=(σ t=t'/\e=e'):=rfl
theorem z2l (σ:Nat->Nat):KL σ [] []=True:=by simp[KL]
theorem tS (σ:Nat->Nat)(x y:SV)(r t:List SV):KL σ (x::r) (y::t)=(RD σ x y/\KL σ r t):=by simp[KL]
theorem z7x (σ:Nat->Nat)(x y:SV):bI σ (.one x) (some (.one y))=RD σ x y:=rfl
theorem zd3 (σ:Nat->Nat)(r q:List (Int × DV)):bI σ (.mp r) (some (.mp q))=(r=q):=rfl
theorem zd4 (σ:Nat->Nat)(r q:Ob):bI σ (.ob r) (some (.ob q))=(r=q):=rfl
theorem z7y (σ:Nat->Nat)(x y:List SV):bI σ (.row x) (some (.row y))=KL σ x y:=rfl
theorem z2m (σ:Nat->Nat):K4 σ s []=True:=rfl
theorem tU (σ:Nat->Nat)(n:Nat)(v:LV)(r:St):K4 σ s ((.slot n,v)::r)=(bI σ v (get s (.slot n))/\K4 σ s r):=by simp[K4,UV]
theorem z2n (σ:Nat->Nat)(n:Nat)(v:LV)(r:St):K4 σ s ((.loc n,v)::r)=(bI σ v (get s (.loc n))/\K4 σ s r):=by simp[K4,UV]
theorem tV (σ:Nat->Nat)(n:Nat)(v:LV)(r:St):K4 σ s ((.heap n,v)::r)=(bI σ v (get s (.heap n))/\K4 σ s r):=by simp[K4,UV]
def z2o (g:Rd)(t E n:Nat):Prop:=(t=0/\n=0)\/(t≠0/\g (.tok t)=some (.tk E n))
theorem z2p (σ:Nat->Nat)(t E n:Nat)(r:St):K4 σ s ((.tok t,.tk E n)::r)=(z2o (get s) (σ t) E n/\K4 σ s r):=by simp[K4,UV,z2o]
theorem z2q (E n:Nat):z2o g 0 E n=(n=0):=by simp[z2o]
theorem z2r (t E n:Nat):z2o g (t+1) E n=(g (.tok (t+1))=some (.tk E n)):=by simp[z2o]
theorem zd5 (n:Nat):XH [] n=n:=rfl
theorem z7z (x y n:Nat)(r:List (Nat × Nat)):XH ((x,y)::r) n=if n=x then y else XH r n:=rfl
theorem tW:HB []=[]:=rfl
theorem n9 (n:Nat)(v:LV)(r:St):HB ((.slot n,v)::r)=HB r:=rfl
theorem tX (n:Nat)(v:LV)(r:St):HB ((.loc n,v)::r)=HB r:=rfl
theorem nA (n:Nat)(v:LV)(r:St):HB ((.heap n,v)::r)=HB r:=rfl
theorem tY (n:Nat)(v:LV)(r:St):HB ((.tok n,v)::r)=n::HB r:=rfl
theorem tZ (σ:Nat->Nat):Q0 σ []=True:=rfl
theorem nB (σ:Nat->Nat)(t:Nat)(r:List Nat):Q0 σ (t::r)=((σ t=0\/∀t'∈r,t' = t\/σ t'≠σ t)/\Q0 σ r):=rfl
theorem v6:BW g []=True:=by simp[BW]
theorem nC (b:Nat)(cs:List DV)(r:BS):BW g ((b,cs)::r)=(g (.heap b)=some (.row (cs.map SV.v))/\BW g r):=by
 simp only[BW,List.mem_cons,uD,eq_iff_iff];constructor
 ·intro h;exact⟨h b cs (.inl ⟨rfl,rfl⟩),fun b' Cu hm=>h b' Cu (.inr hm)⟩
 ·rintro⟨h1,h2⟩ b' Cu (⟨rfl,rfl⟩|hm);· exact h1
  ·exact h2 b' Cu hm
theorem z80 (args:List DV)(φ:BS):entry args φ=MH 0 args++DO φ:=rfl
theorem z2s (n:Nat):MH n []=[]:=rfl
theorem v7 (n:Nat)(x:DV)(r:List DV):MH n (x::r)=(.slot n,.one (.v x))::MH (n+1) r:=rfl
theorem v8:DO []=[]:=rfl
theorem nD (b:Nat)(cs:List DV)(r:BS):DO ((b,cs)::r)=(.heap b,.row (cs.map SV.v))::DO r:=rfl
theorem nE:DX s []=s:=rfl
theorem jO (b:Nat)(cs:List DV)(r:BS):DX s ((b,cs)::r)=DX (QZ s (.heap b)) r:=rfl
theorem nF:D8 s []=s:=rfl
theorem jP (b:Nat)(cs:List DV)(r:BS):D8 s ((b,cs)::r)=CM (D8 s r) (.heap b) (.row (cs.map SV.v)):=rfl
theorem nG {Ab:List Nat}{ops:Array Oper}{l:List Oper}{K:St->Prop}{d:Tmp}{f:FuncId}{args:Array Operand}{Bo:Array TypeId}{ty:TypeId}{pos:String}{af:Array Edge}{P:Program}{gl:AB}(hP:X.P=P)(u6:X.gl=gl)
  {ds Ej:List DV} {φ Ag:BS} {r:DV} (hc:RC P gl f Ej φ r Ag) (u9:GK X (get s) args.toList=some ds) (Dv:ds=Ej) (Bb:BW (get s) φ) (Aw:(φ.map (·.1)).Nodup) (Ci:d<X.n)
  (h:vc X Ab ops l (D8 (DX (CM s (.slot d) (.one (.v r))) φ) Ag) K) :
  ZR X Ab ops l K ⟨some d,.call { callee:=.value (.func f),args:=args,argTypes:=Bo },ty,pos,af,none⟩ s (AZ X Ab s ⟨some d,.call { callee:=.value (.func f),args:=args,argTypes:=Bo },ty,pos,af,none⟩):=by
 subst Dv;have e:AZ X Ab s ⟨some d,.call { callee:=.value (.func f),args:=args,argTypes:=Bo },ty,pos,af,none⟩=none:=by
  simp only[AZ,CY,GP,O6,HT];split <;> rfl
 rw[e];exact z68 (o:=⟨some d,.call { callee:=.value (.func f),args:=args,argTypes:=Bo },ty,pos,af,none⟩) rfl rfl u9 hP u6 hc Bb Aw rfl Ci h
end
attribute [go_sem] zbs z69 z18 zbt z6a z19 zgt z6b z1a sA zbu z1b z6c sC z6d sD sE mL f9 bM ZQ sF sG
attribute [go_sem] zbw z1c z1d zgu z1f zbx zkl zkm z6h sM sN mN z6i sO z1g z1h
attribute [go_sem] zkk zbv z6e zgv z6f sH mM z1e jK z6g sJ sK zby z6k z1i zbz sQ z1l sR sU mO
attribute [go_sem] z6n sW z1m sX z6o sY z1n sZ t0 mP t6 mQ t7 mR t8 mS t9 z1q z1r z1o z1p tA mT tB mU tC
attribute [go_sem] z6p z6q zgw zkn z6r zko z1s z1t z1u z6s z6t zgz z1v z1w z1x z6u zc2 zc3 z6w z20 z21 z22 z23 z24 z25 z26 z27 z28 z29 z2a
attribute [go_sem] zc9 zcg zc4 zc5 z6x z6y zc7 zh0 zc8 z6z z70 z2b z71 z2c z2d z72 mV mW tE z2e zca zh1 zcb z75 z76 zkq zcc zcd zh2 zce zcf z6j
attribute [go_sem] z77 z78 z79 z2f tG tH z7b zcj zh5 zck z7c z7d z7h tI tJ z7i z7j zcl z7k z7l zcm z7m
attribute [go_sem] zks zcn zkt zng sUn z7n zh6 tK tL zku zh7 tM z2h z2i z7e z7f z2g z7g zh8 zco znh zni zh9 znj zha z7o mY zcp
attribute [go_sem] jL tN z7p mZ z7q n6 z7r zhb tO tP z7s n7 fA jM jN fB zcq z7t z2j z7u tQ
attribute [go_sem] z7v tR n8 z7w z2k zcr zct zcu zcv zcw zcy zcz zcx zd0 zd1 zd2 z2l tS z7x zd4 zd3 z7y z2m tU z2n tV z2p z2q z2r zd5 z7z
attribute [go_sem] tW n9 tX nA tY tZ nB v6 nC z80 z2s v7 v8 nD nE jO nF jP
attribute [go_sem] z1y z1z zc6 zch zh3 zh4 zci mX sI z6l
attribute [go_sem] zc0 z1j z6m z1k gsl N2
end
section
def v9 (s1 s:St):Prop:=∀l v,get s1 l=some v->get s l=some v
theorem Rel.weaken {X:Ctx}{G:Gh}{s s1:St}{a:Act}{w:World}(R:Rel X G s a w)(h:v9 s1 s):Rel X G s1 a w:=
 ⟨R.size,R.defers,R.ext,R.wf,R.nil,fun l v hl=>R.holds l v (h l v hl),fun l v l' v' b h1 h2=>R.sep l v l' v' b (h _ _ h1) (h _ _ h2),fun l v b h1=>R.own l v b (h _ _ h1),fun l v b o h1=>R.data l v b o (h _ _ h1)⟩
def Loc.eqB:Loc->Loc->Bool
 | .slot a,.slot b=>a==b
 | .loc a,.loc b=>a==b
 | .heap a,.heap b=>a==b
 | .tok a,.tok b=>a==b
 | _,_=>false
theorem Loc.eqB_iff (a b:Loc):Loc.eqB a b=true↔a=b:=by
 cases a <;> cases b <;> simp[Loc.eqB]
def z81 (l:Loc):List Loc->Bool
 | []=>false
 | x::r=>l.eqB x||z81 l r
theorem z82 (l:Loc)(r:List Loc):z81 l r=true↔l∈r:=by
 induction r with
 | nil=>simp[z81]
 | cons x r ih=>simp[z81,ih,Loc.eqB_iff]
def vA:List Loc->List Loc->Bool
 | [],_=>true
 | l::r,x=>!z81 l x&&vA r x
theorem P6 (x y:List Loc):vA x y=true↔∀l∈x,l∉y:=by
 induction x with
 | nil=>simp[vA]
 | cons l r ih=>
  simp only[vA,uH,Bool.not_eq_true',ih,List.mem_cons,forall_eq_or_imp];rw[<- Bool.not_eq_true,z82]
def zT:VR->List Loc
 | []=>[]
 | (l,_)::r=>l::zT r
structure Ev where
 fp:List Loc
 e:VR
 nm:List Nat
def z83 (d:Nat):LV->Bool
 | .one x=>G8 d x||M4 d x
 | .row cs=>EC d cs||NA d cs
 | .tk _ _=>false
 | .ob _=>false
 | .mp _=>false
def zU (d:Nat):Loc->Bool
 | .loc k=>k==d
 | .tok k=>k==d
 | _=>false
def fC (d:Nat):VR->Bool
 | []=>false
 | (l,none)::r=>zU d l||fC d r
 | (l,some v)::r=>zU d l||z83 d v||fC d r
def KM (d:Nat)(s:St):Bool:=D6 d s&&D7 d s
def vB (p:Nat->Bool):List Nat->Bool
 | []=>true
 | x::r=>p x&&vB p r
theorem W7 (p:Nat->Bool)(l:List Nat):vB p l=true↔∀x∈l,p x=true:=by
 induction l with
 | nil=>simp[vB]
 | cons x r ih=>simp[vB,ih]
theorem z2t {e:VR}{l:Loc}(h:l∉zT e):e.says l=none:=by
 induction e with
 | nil=>rfl
 | cons p r ih=>
  obtain⟨m,v⟩:=p;simp only[zT,List.mem_cons,not_or]at h;simp only[VR.says,ih h.2];rw[if_neg (fun e=>h.1 e.symm)]
theorem z2u {e:VR}{l:Loc}(h:l∈zT e):∃x,e.says l=some x:=by
 induction e with
 | nil=>cases h
 | cons p r ih=>
  obtain⟨m,v⟩:=p;simp only[VR.says];cases hs:VR.says r l with
  | some x=>exact⟨x,rfl⟩
  | none=>
   simp only[zT,List.mem_cons]at h;rcases h with rfl|h;· exact⟨v,sS⟩
   ·obtain⟨x,hx⟩:=ih h;rw[hs]at hx;cases hx
theorem Q1 {e:VR}{s:St}{l:Loc}(h:l∉zT e):get (apply s e) l=get s l:=by rw[N1,z2t h];rfl
theorem fZ {d:Nat}{s:St}(l:Loc)(h:KM d s=true):KM d (QZ s l)=true:=by
 induction s with
 | nil=>exact h
 | cons p r ih=>
  obtain⟨m,v⟩:=p;simp only[KM,D6,D7,uH]at h ih ⊢;have:=ih ⟨h.1.2,h.2.2⟩;simp only[QZ];split;· exact this
  ·simp only[D6,D7,uH];exact⟨⟨h.1.1,this.1⟩,⟨h.2.1,this.2⟩⟩
theorem RR {d:Nat}:∀{e:VR} {s:St},KM d s=true->fC d e=false->KM d (apply s e)=true
 | [],s,h,_=>h
 | (l,none)::r,s,h,hm=>by
  simp only[fC,Bool.or_eq_false_iff]at hm;show KM d (apply (QZ s l) r)=true;exact RR (fZ l h) hm.2
 | (l,some v)::r,s,h,hm=>by
  simp only[fC,Bool.or_eq_false_iff]at hm;show KM d (apply (CM s l v) r)=true;refine RR ?_ hm.2;have hd:=fZ l h;simp only[CM,KM,D6,D7,uH]at hd ⊢;have h1:=hm.1.1;have h2:=hm.1.2;refine⟨⟨⟨?_,?_⟩,hd.1⟩,⟨⟨?_,?_⟩,hd.2⟩⟩;· cases l <;> simp_all[zU]
  ·cases v <;> simp_all[z83]
  ·cases l <;> simp_all[zU]
  ·cases v <;> simp_all[z83]
def XE (L:Nat->Bool):Nat->List Ev->St->St
 | _,[],s=>s
 | k,ev::r,s=>XE L (k+1) r (if L k then apply s ev.e else s)
theorem LR {L L':Nat->Bool}{l:Loc}:∀(evs:List Ev) (k:Nat) (s s':St),get s l=get s' l->(∀(j:Nat) (ev:Ev),evs[j]? = some ev->L (k+j)≠L' (k+j)->l∉zT ev.e) ->
  get (XE L k evs s) l=get (XE L' k evs s') l
 | [],_,_,_,h,_=>h
 | ev::r,k,s,s',h,hd=>by
  simp only[XE];refine LR r (k+1) _ _ ?_ fun j Oy hj Au=>hd (j+1) Oy (by simpa using hj) (by rw[show k+(j+1)=k+1+j from oO];exact Au);by_cases hL:L k=L' k
  ·rw[hL];split;· rw[N1,N1,h]
   ·exact h
  ·have hn:=hd 0 ev rfl (by simpa using hL);split <;> split <;> simp only[Q1 hn,h]
theorem RT {L:Nat->Bool}:∀(evs:List Ev) (k:Nat) (s:St),(∀j,k<=j->L j=false)->XE L k evs s=s
 | [],_,_,_=>rfl
 | ev::r,k,s,h=>by
  simp only[XE,h k (Nat.le_refl _),Bool.false_eq_true,if_false];exact RT r (k+1) s fun j hj=>h j oO
theorem XI {L:Nat->Bool}{d:Nat}:∀(evs:List Ev) (k:Nat) (s:St),KM d s=true->(∀(j:Nat) (ev:Ev),evs[j]? = some ev->L (k+j)=true->fC d ev.e=false)->KM d (XE L k evs s)=true
 | [],_,_,h,_=>h
 | ev::r,k,s,h,hm=>by
  simp only[XE];refine XI r (k+1) _ ?_ fun j Oy hj hL=>hm (j+1) Oy (by simpa using hj) (by rw[show k+(j+1)=k+1+j from oO];exact hL);split;· rename_i hk;exact RR h (hm 0 ev rfl (by simpa using hk))
  ·exact h
theorem jQ {L:Nat->Bool}{i:Nat}{evi:Ev}{l:Loc}(hLi:L i=false):∀(evs:List Ev) (k:Nat) (s:St),k<=i->evs[i - k]? = some evi ->
  (∀(j:Nat) (ev:Ev),evs[j]? = some ev->i<k+j->L (k+j)=true->l∈zT evi.e->l∉zT ev.e) ->
  get (XE (fun j=>j==i||L j) k evs s) l=get (apply (XE L k evs s) evi.e) l
 | [],k,s,_,h,_=>by cases h
 | ev::r,k,s,hk,Hd,hd=>by
  by_cases hki:k=i
  ·subst hki;simp only[Nat.sub_self,List.getElem?_cons_zero,uC]at Hd;subst Hd;simp only[XE,beq_self_eq_true,Bool.true_or,if_true,hLi,Bool.false_eq_true,if_false];by_cases hl:l∈zT ev.e
   ·obtain⟨x,hx⟩:=z2u hl;rw[N1 _ (XE L (k+1) r s),hx,Option.getD_some];have h1:get (XE (fun j=>j==k||L j) (k+1) r (apply s ev.e)) l=get (XE (fun _=>false) (k+1) r (apply s ev.e)) l:=by
     refine LR r (k+1) _ _ rfl fun j Oy hj Au=>hd (j+1) Oy (by simpa using hj) oO ?_ hl;rw[show k+(j+1)=k+1+j from oO];cases hq:L (k+1+j) with
     | true=>rfl
     | false=>
      have:((k+1+j==k)||L (k+1+j))=false:=by rw[hq];simp;omega
      exact absurd this Au
    rw[h1,RT r (k+1) _ (fun _ _=>rfl),N1,hx,Option.getD_some]
   ·rw[Q1 hl];refine LR r (k+1) _ _ (Q1 hl) fun j Oy hj Au=>?_;exfalso;apply Au;have:(k+1+j==k)=false:=by simp;omega
    simp[this]
  ·simp only[XE];have hb:((k==i)||L k)=L k:=by
    have:(k==i)=false:=by simpa using hki
    rw[this];rfl
   simp only[hb];refine jQ hLi r (k+1) _ oO ?_ fun j Oy hj Ac hL=>hd (j+1) Oy (by simpa using hj) oO (by rw[show k+(j+1)=k+1+j from oO];exact hL);rw[show i - k=(i - (k+1))+1 from oO]at Hd
   simpa using Hd
def IK (s:St):List Loc->St
 | []=>[]
 | l::r=>match get s l with
  | some v=>(l,v)::IK s r
  | none=>IK s r
theorem g0 {s:St}{fp:List Loc}{l:Loc}{v:LV}(h:get (IK s fp) l=some v):l∈fp/\get s l=some v:=by
 induction fp with
 | nil=>cases h
 | cons m r ih=>
  simp only[IK]at h;split at h
  ·rename_i u hu;simp only[get]at h;split at h;· cases h;subst_vars;exact⟨sS,hu⟩
   ·have:=ih h;exact⟨List.mem_cons_of_mem _ this.1,this.2⟩
  ·have:=ih h;exact⟨List.mem_cons_of_mem _ this.1,this.2⟩
def vC (X:Ctx)(ops:Array Oper)(o:Oper)(s s':St):Prop:=
 ∀(G:Gh) (a:Act) (w:World),Rel X G s a w->∀(next:Act->World->Prop) (Q:Exit->Act->World->Prop),
  (∀G' a' w',Rel X G' s' a' w'->next a' w')->if Region.wanted o (yielded ops a.tmps) then o.wpIn X.F 0 X.P a w next Q else next (a.put o.dst undef) w
def aF (X:Ctx)(ops:Array Oper)(o:Oper)(s1:St)(e:VR)(nm:List Nat):Prop:=
 ∀s,v9 s1 s->(∀d∈nm,KM d s=true)->vC X ops o s (apply s e)
def z2v (X:Ctx)(ops:Array Oper):List Oper->St->List Ev->Prop
 | [],_,[]=>True
 | o::l,s,ev::evs=>aF X ops o (IK s ev.fp) ev.e ev.nm/\z2v X ops l (apply s ev.e) evs
 | _,_,_=>False
def Q2:St->List Ev->St
 | s,[]=>s
 | s,ev::r=>Q2 (apply s ev.e) r
theorem jR (k:Nat)(evs:List Ev)(s:St):XE (fun _=>true) k evs s=Q2 s evs:=by
 induction evs generalizing k s with
 | nil=>rfl
 | cons ev r ih=>simp only[XE,if_true,Q2,ih]
theorem RU {X:Ctx}{ops:Array Oper}:∀{l:List Oper} {s:St} {evs:List Ev},z2v X ops l s evs->evs.length=l.length
 | [],_,[],_=>rfl
 | [],_,_::_,h=>h.elim
 | _::_,_,[],h=>h.elim
 | o::l,s,ev::evs,h=>by simp[RU h.2]
theorem jS {X:Ctx}{ops:Array Oper}:∀{l:List Oper} {s:St} {evs:List Ev} (k:Nat),z2v X ops l s evs->∀(i:Nat) (o:Oper) (ev:Ev),l[i]? = some o->evs[i]? = some ev ->
  aF X ops o (IK (XE (fun j=>decide (j<k+i)) k evs s) ev.fp) ev.e ev.nm
 | [],_,[],_,_,_,_,_,h,_=>by cases h
 | [],_,_::_,_,h,_,_,_,_,_=>h.elim
 | _::_,_,[],_,h,_,_,_,_,_=>h.elim
 | o::l,s,ev::evs,k,h,i,o',Oy,ho,Hd=>by
  cases i with
  | zero=>
   simp at ho Hd;subst ho Hd;rw[RT _ _ _ (fun j hj=>by simp;omega)];exact h.1
  | succ i=>
   have:=jS (k+1) h.2 i o' Oy (by simpa using ho) (by simpa using Hd);simp only[XE];rw[if_pos sS];rw[show k+(i+1)=k+1+i from oO];exact this
def jT (T:List Nat)(o:Oper):Nat:=o.after.toList.foldl (fun s e=>if Region.binds .any e then s ||| (2 ^ e.on ||| T.getD e.on 0) else s) 0
def nH:List Oper->List Nat->List Nat
 | [],T=>T
 | o::r,T=>nH r (T++[jT T o])
def YP:Nat->List Oper->Bool
 | _,[]=>true
 | n,o::r=>o.after.toList.all (fun e=>!Region.binds .any e||decide (e.on<n))&&YP (n+1) r
def nI (T:List Nat):List Nat->List Oper->Bool
 | [],[]=>true
 | t::ts,o::r=>t==jT T o&&nI T ts r
 | _,_=>false
theorem KU:∀{ops:List Oper} {n:Nat},YP n ops=true->∀(i:Nat) (o:Oper),ops[i]? = some o->∀e∈o.after,Region.binds .any e=true->e.on<n+i
 | [],_,_,i,o,h=>by cases h
 | o::r,n,h,i,o',ho=>by
  simp only[YP,uH]at h;cases i with
  | zero=>
   simp at ho;subst ho;intro e he hb;have:=List.all_eq_true.1 h.1 e (by simpa using he)
   simpa [hb] using this
  | succ i=>
   intro e he hb;have:=KU h.2 i o' (by simpa using ho) e he hb;omega
theorem g6 {T:List Nat}:∀{ts:List Nat} {ops:List Oper},nI T ts ops=true->∀(i:Nat) (o:Oper),ops[i]? = some o->ts.getD i 0=jT T o
 | [],[],_,i,o,h=>by cases h
 | [],_::_,h,_,_,_=>by cases h
 | _::_,[],h,_,_,_=>by cases h
 | t::ts,o::r,h,i,o',ho=>by
  simp only[nI,uH,beq_iff_eq]at h;cases i with
  | zero=>simp at ho;subst ho;simpa using h.1
  | succ i=>simpa using g6 h.2 i o' (by simpa using ho)
theorem g7 {T:List Nat}{i:Nat}:∀(es:List Edge) (s:Nat),(es.foldl (fun s e=>if Region.binds .any e then s ||| (2 ^ e.on ||| T.getD e.on 0) else s) s).testBit i=true ->
  s.testBit i=true\/∃e∈es,Region.binds .any e=true/\(e.on=i\/(T.getD e.on 0).testBit i=true)
 | [],s,h=>.inl h
 | e::r,s,h=>by
  simp only[List.foldl_cons]at h;rcases g7 r _ h with h|⟨e',h1,h2⟩
  ·split at h
   ·rename_i hb;simp only[Nat.testBit_or,Bool.or_eq_true,Nat.testBit_two_pow,decide_eq_true_eq]at h;rcases h with h|h;· exact .inl h
    ·exact .inr ⟨e,sS,hb,h⟩
   ·exact .inl h
  ·exact .inr ⟨e',List.mem_cons_of_mem _ h1,h2⟩
theorem z2w {T:List Nat}{o:Oper}{i:Nat}(h:(jT T o).testBit i=true):∃e∈o.after,Region.binds .any e=true/\(e.on=i\/(T.getD e.on 0).testBit i=true):=by
 rcases g7 _ _ h with h|⟨e,h1,h2⟩;· simp at h
 ·exact⟨e,by simpa using h1,h2⟩
def bO (ops:Array Oper)(L:Nat->Bool):Prop:=∀(j:Nat) (o:Oper),L j=true->ops[j]? = some o->∀e∈o.after,Region.binds .any e=true->L e.on=true
theorem P7 {ops:Array Oper}{T:List Nat}(hb:YP 0 ops.toList=true)(hf:nI T T ops.toList=true){L:Nat->Bool}(hc:bO ops L){i:Nat}:∀(j:Nat) (o:Oper),ops[j]? = some o ->
  (∀e∈o.after,Region.binds .any e=true->L e.on=true)->(T.getD j 0).testBit i=true->L i=true:=by
 intro j
 induction j using Nat.strongRecOn with
 | _ j ih=>
  intro o ho Ae ht;have Ls:ops.toList[j]? = some o:=by simpa using ho
  rw[g6 hf j o Ls]at ht;obtain⟨e,he,heb,h⟩:=z2w ht;have hL:=Ae e he heb;rcases h with rfl|h;· exact hL
  ·have Ac:=KU hb j o Ls e he heb;have hj:j<ops.size:=(Array.getElem?_eq_some_iff.1 ho).1;have Pw:e.on<ops.size:=oO;exact ih e.on oO _ (uG Pw) (fun e' Qk Ai=>hc e.on _ hL (uG Pw) e' Qk Ai) h
def KN (x y:Ev):Bool:=vA (zT x.e) y.fp&&vA (zT y.e) x.fp&&vA (zT x.e) (zT y.e)&&vB (fun d=>!fC d y.e) x.nm
def zW (T:List Nat)(x:Ev)(i:Nat):Nat->List Ev->Bool
 | _,[]=>true
 | j,y::r=>vB (fun d=>!fC d x.e) y.nm&&((T.getD j 0).testBit i||KN x y)&&zW T x i (j+1) r
def zd6 (T:List Nat):Nat->List Ev->Bool
 | _,[]=>true
 | i,x::r=>zW T x i (i+1) r&&zd6 T (i+1) r
def zd7 (s:St):List Ev->Bool
 | []=>true
 | x::r=>vB (fun d=>KM d s) x.nm&&zd7 s r
def nJ (ops:List Oper)(s:St)(evs:List Ev):Bool:=
 let T:=nH ops []
 YP 0 ops&&nI T T ops&&zd7 s evs&&zd6 T 0 evs
theorem XJ {s:St}:∀{evs:List Ev},zd7 s evs=true->∀(i:Nat) (x:Ev),evs[i]? = some x->∀d∈x.nm,KM d s=true
 | [],_,_,_,h=>by cases h
 | y::r,h,i,x,hx=>by
  simp only[zd7,uH]at h;cases i with
  | zero=>simp at hx;subst hx;exact (W7 _ _).1 h.1
  | succ i=>exact XJ h.2 i x (by simpa using hx)
theorem bP {T:List Nat}{x:Ev}{i:Nat}:∀{evs:List Ev} {j:Nat},zW T x i j evs=true->∀(k:Nat) (y:Ev),evs[k]? = some y->(∀d∈y.nm,fC d x.e=false)/\((T.getD (j+k) 0).testBit i=true\/KN x y=true)
 | [],_,_,_,_,h=>by cases h
 | z::r,j,h,k,y,hy=>by
  simp only[zW,uH,Bool.or_eq_true]at h;cases k with
  | zero=>
   simp at hy;subst hy;exact⟨fun d hd=>by simpa using (W7 _ _).1 h.1.1 d hd,h.1.2⟩
  | succ k=>
   have:=bP h.2 k y (by simpa using hy);rw[show j+(k+1)=j+1+k from oO];exact this
theorem KV {T:List Nat}:∀{evs:List Ev} {n:Nat},zd6 T n evs=true->∀(i j:Nat) (x y:Ev),i<j->evs[i]? = some x->evs[j]? = some y->(∀d∈y.nm,fC d x.e=false)/\((T.getD (n+j) 0).testBit (n+i)=true\/KN x y=true)
 | [],_,_,_,_,_,_,_,h,_=>by cases h
 | z::r,n,h,i,j,x,y,He,hx,hy=>by
  simp only[zd6,uH]at h;cases i with
  | zero=>
   simp at hx;subst hx;obtain⟨j,rfl⟩:∃k,j=k+1:=⟨j - 1,oO⟩;have:=bP h.1 j y (by simpa using hy);rw[show n+(j+1)=n+1+j from oO];exact this
  | succ i=>
   obtain⟨j,rfl⟩:∃k,j=k+1:=⟨j - 1,oO⟩;have:=KV h.2 i j x y oO (by simpa using hx) (by simpa using hy);rw[show n+(j+1)=n+1+j from oO,show n+(i+1)=n+1+i from oO];exact this
section
variable {X:Ctx}{s0:St}{k:List Item}
def KO (listed:Array Bool):Nat->Bool:=fun j=>listed.getD j false
theorem Q3 {listed:Array Bool}{i:Nat}(hi:i<listed.size):KO (listed.setIfInBounds i true)=fun j=>j==i||KO listed j:=by
 funext j;simp only[KO,Array.getD_eq_getD_getElem?,Array.getElem?_setIfInBounds];by_cases h:i=j;· subst h;simp[hi]
 ·have:(j==i)=false:=by simpa using fun e=>h e.symm
  simp[h,this]
theorem OE {listed:Array Bool}{i:Nat}(hi:i<listed.size):listed.getD i true=KO listed i:=by
 simp[KO,hi]
def left (n:Nat)(listed:Array Bool):List Nat:=(List.range n).filter fun j=>!KO listed j
theorem nK {n:Nat}{listed:Array Bool}{i:Nat}(hi:i<listed.size)(hn:i<n)(hl:KO listed i=false):(left n (listed.setIfInBounds i true)).length+1=(left n listed).length:=by
 have Co:i∈left n listed:=by simp[left,hn,hl]
 have Aw:(left n listed).Nodup:=List.Nodup.sublist List.filter_sublist List.nodup_range;have he:left n (listed.setIfInBounds i true)=(left n listed).erase i:=by
  rw[Aw.erase_eq_filter];simp only[left,Q3 hi,List.filter_filter]
  congr 1
  funext j;cases KO listed j <;> cases h:(j==i) <;> simp_all
 rw[he,List.length_erase_of_mem Co];have:0<(left n listed).length:=List.length_pos_of_mem Co;omega
theorem z84 {ops:Array Oper}{evs:List Ev}{K:St->Prop}(Aq:z2v X ops ops.toList s0 evs)(Oa:nJ ops.toList s0 evs=true)(hK:K (Q2 s0 evs)) :
  ∀(fuel:Nat) (listed:Array Bool) (G:Gh) (a:Act) (w:World),listed.size=ops.size->bO ops (KO listed)->(left ops.size listed).length<=fuel->Rel X G (XE (KO listed) 0 evs s0) a w ->
   wpAnyIn X.F 0 X.P .any ops (Nrm X K) fuel listed a w:=by
 simp only[nJ,uH]at Oa;obtain⟨⟨⟨Cm,Ja⟩,Hh⟩,hp⟩:=Oa;generalize nH ops.toList []=T at *;have hlen:evs.length=ops.size:=by simpa using RU Aq
 have Tb:∀(listed:Array Bool) (G:Gh) (a:Act) (w:World),(∀j,j<ops.size->KO listed j=true)->Rel X G (XE (KO listed) 0 evs s0) a w->Nrm X K .normal a w:=by
  intro listed G a w Ae R;refine⟨rfl,G,_,hK,R.congr fun l=>?_⟩;rw[<- jR 0];refine LR evs 0 _ _ rfl fun j ev hj Au=>?_;have Jd:j<ops.size:=by rw[<- hlen];exact (uA hj).1
  exact absurd (Ae j Jd).symm (by simpa using Au)
 have Ki:∀(listed:Array Bool),listed.size=ops.size->Region.ready .any ops listed=[]->∀j,j<ops.size->KO listed j=true:=by
  intro listed Bk hr j
  induction j using Nat.strongRecOn with
  | _ j ih=>
   intro hj;cases hq:KO listed j with
   | true=>rfl
   | false=>
    have:j∈Region.ready .any ops listed:=by
     rw[mem_ready];refine⟨by rw[OE oO];exact hq,ops[j],uG hj,fun e he hb=>?_⟩;have Ac:=KU Cm j ops[j] (by simp[hj]) e he hb;exact ih e.on oO oO
    rw[hr]at this;cases this
 intro fuel
 induction fuel with
 | zero=>
  intro listed G a w Bk Bn hle R;have Ae:∀j,j<ops.size->KO listed j=true:=by
   intro j hj;cases hq:KO listed j with
   | true=>rfl
   | false=>
    have hm:j∈left ops.size listed:=by simp[left,hj,hq]
    have:=List.length_pos_of_mem hm;omega
  refine⟨?_,Tb listed G a w Ae R⟩;cases hr:Region.ready .any ops listed with
  | nil=>rfl
  | cons j r=>
   have hm:j∈Region.ready .any ops listed:=by rw[hr];simp
   obtain⟨h1,o,h2,-⟩:=mem_ready.1 hm;have hj:j<ops.size:=(Array.getElem?_eq_some_iff.1 h2).1;rw[OE oO,Ae j hj]at h1;cases h1
 | succ fuel ih=>
  intro listed G a w Bk Bn hle R;refine⟨fun hr=>Tb listed G a w (Ki listed Bk hr) R,fun i hi=>?_⟩;obtain⟨h1,o,ho,Ae⟩:=mem_ready.1 hi;have Nt:i<ops.size:=(Array.getElem?_eq_some_iff.1 ho).1;have Cc:i<listed.size:=oO;rw[OE Cc]at h1;have Fo:∀e∈o.after,Region.binds .any e=true->KO listed e.on=true:=Ae;have Dz:i<evs.length:=oO;have Hd:evs[i]? = some evs[i]:=uB Dz;have Dl:=jS 0 Aq i o evs[i] (by simpa using ho) Hd;have Gq:∀(j:Nat) (ev:Ev),evs[j]? = some ev->i<j->KO listed j=true->KN evs[i] ev=true:=by
   intro j ev hj He hL;have Lo:j<ops.size:=by rw[<- hlen];exact (uA hj).1
   rcases (KV hp i j _ ev He Hd hj).2 with h|h
   ·have:=P7 Cm Ja Bn j ops[j] (uG Lo) (fun e he hb=>Bn j _ hL (uG Lo) e he hb) (by simpa using h);rw[h1]at this;cases this
   ·exact h
  have Mr:∀(j:Nat) (ev:Ev),evs[j]? = some ev->j<i->KO listed j=false->KN ev evs[i]=true:=by
   intro j ev hj He hL;rcases (KV hp j i ev _ He hj Hd).2 with h|h
   ·have:=P7 Cm Ja Bn i o ho Fo (by simpa using h);rw[hL]at this;cases this
   ·exact h
  have Bg:vC X ops o (XE (KO listed) 0 evs s0) (apply (XE (KO listed) 0 evs s0) evs[i].e):=by
   refine Dl _ (fun l v hl=>?_) (fun d hd=>?_)
   ·obtain⟨By,hg⟩:=g0 hl;rw[<- hg];refine LR evs 0 _ _ rfl fun j ev hj Au hw=>?_;simp only[Nat.zero_add]at Au;by_cases He:j<i
    ·cases hq:KO listed j with
     | true=>rw[hq]at Au;simp[He]at Au
     | false=>
      have:=Mr j ev hj He hq;simp only[KN,uH,P6]at this;exact this.1.1.1 l hw By
    ·cases hq:KO listed j with
     | false=>rw[hq]at Au;simp[He]at Au
     | true=>
      have Sb:j≠i:=fun e=>by rw[e,h1]at hq;cases hq
      have:=Gq j ev hj oO hq;simp only[KN,uH,P6]at this;exact this.1.1.2 l hw By
   ·refine XI evs 0 s0 (XJ Hh i _ Hd d hd) fun j ev hj hL=>?_;simp only[Nat.zero_add]at hL;have Sb:j≠i:=fun e=>by rw[e,h1]at hL;cases hL
    by_cases He:j<i;· exact (KV hp j i ev _ He hj Hd).1 d hd
    ·have:=Gq j ev hj oO hL;simp only[KN,uH,W7]at this
     simpa using this.2 d hd
  have u7:∀G' a' w',Rel X G' (apply (XE (KO listed) 0 evs s0) evs[i].e) a' w'->wpAnyIn X.F 0 X.P .any ops (Nrm X K) fuel (listed.setIfInBounds i true) a' w':=by
   intro G' a' w' R';refine ih _ G' a' w' (by simpa using Bk) ?_ ?_ ?_
   ·rw[Q3 Cc];intro j o' hL Ls e he hb;simp only[Bool.or_eq_true,beq_iff_eq]at hL ⊢;rcases hL with rfl|hL
    ·rw[ho]at Ls;cases Ls;exact .inr (Fo e he hb)
    ·exact .inr (Bn j o' hL Ls e he hb)
   ·have:=nK (n:=ops.size) Cc Nt h1;omega
   ·rw[Q3 Cc];refine R'.congr fun l=>jQ h1 evs 0 s0 (Nat.zero_le _) Hd fun j ev hj Ac hL hw=>?_;simp only[Nat.zero_add]at Ac hL;have:=Gq j ev hj Ac hL;simp only[KN,uH,P6]at this;exact this.1.2 l hw
  have:=Bg G a w R _ (Nrm X K) u7;unfold wpOpIn;simp only[ho];split;· rename_i hw;simp only[hw,if_true]at this;exact this
  ·rename_i hw;simp only[hw]at this;exact⟨fun _ _=>trivial,this⟩
def VD (X:Ctx)(ops:Array Oper)(s0:St)(l:List Oper)(s:St)(Ut:List Ev)(K:St->Prop):Prop:=
 ∃evs,z2v X ops l s evs/\nJ ops.toList s0 (Ut.reverse++evs)=true/\K (Q2 s evs)
theorem zhc {ops:Array Oper}{s:St}{Ut:List Ev}{K:St->Prop}(h:nJ ops.toList s0 Ut.reverse=true)(hK:K s):VD X ops s0 [] s Ut K:=⟨[],trivial,by simpa using h,hK⟩
theorem Q4 {ops:Array Oper}{o:Oper}{l:List Oper}{s:St}{Ut:List Ev}{K:St->Prop}(ev:Ev)(h:aF X ops o (IK s ev.fp) ev.e ev.nm)(hl:VD X ops s0 l (apply s ev.e) (ev::Ut) K):VD X ops s0 (o::l) s Ut K:=by
 obtain⟨evs,h1,h2,h3⟩:=hl;exact⟨ev::evs,⟨h,h1⟩,by simpa using h2,h3⟩
theorem Rel.drawn {G:Gh}{s:St}{a:Act}{w:World}(R:Rel X G s a w)(n:Nat):Rel X G s a { w with drawn:=n }:=by
 have hc:∀ad,({ w with drawn:=n }:World).cell? ad=w.cell? ad:=fun _=>rfl;have g:OW G.D w G.D { w with drawn:=n }:=fun b o h=>⟨h,rfl⟩;have T0:=Trans.refl X G a w R.nil;have T:Trans X G a w G a { w with drawn:=n } (fun _=>False):=⟨T0.tmps,T0.defers,rfl,rfl,rfl,Nat.le_refl _,fun _ _ _=>rfl,fun _ h=>h.elim,g,fun _ _ h k=>absurd h k,R.nil⟩;exact R.step T (fun _ _=>False) (fun l v h=>.inr ⟨h,fun _ _=>rfl,fun _ _ h=>h,fun _ _=>rfl,fun _ _=>rfl⟩) (fun _ _ h=>h.elim) (fun _ _ _ _ _ h=>h.elim)
theorem zd8 {id:Nat}{ops:Array Oper}{s:St}(hm:X.P.follows .mixedOrders=true)(h:∀K:St->Prop,(∀s',W X k s'->K s')->VD X ops s ops.toList s [] K):W X (.code (.region id ops true)::k) s:=by
 intro G a w b cs hf hk hr R;obtain⟨evs,h1,h2,h3⟩:=h (fun s'=>W X k s') (fun _ h=>h)
 have Us:=z84 h1 (by simpa using h2) h3 ops.size (Array.replicate ops.size false) G a { w with drawn:=w.drawn+1 } sS (fun j o hL=>by simp[KO,Array.getElem?_replicate]at hL;split at hL <;> simp at hL) (Nat.le_trans (List.length_filter_le _ _) sS) (by
  rw[RT _ _ _ (fun j _=>by simp only[KO,Array.getD_eq_getD_getElem?,Array.getElem?_replicate];split <;> rfl)];exact R.drawn _)
 obtain⟨e',a',w',⟨rfl,G',s',hK,R'⟩,Mq⟩:=wpIn_region_any (F:=X.F) (n:=0) hm Us b k cs hr tT (z65 _);obtain⟨Jt,fr,q1,q2⟩:=hK G' a' w' b cs hf hk hr R';exact⟨Jt,fr,q1,Steps.trans (StepsIn.steps Mq) q2⟩
end
end
section
section
variable {X:Ctx}{s s1:St}
theorem IQ (hs:v9 s1 s){x:Operand}{y:SV}(h:CS X (get s1) x=some y):CS X (get s) x=some y:=by
 cases x with
 | tmp t=>
  simp only[CS]at h ⊢;split at h;· rename_i z hz;rw[hs _ _ hz];exact h
  ·cases h
 | const v=>exact h
 | global b=>exact h
 | func f=>exact h
theorem g8 (hs:v9 s1 s){x:Operand}{α:Type}{f:SV->Option α}{y:α}(h:(CS X (get s1) x).bind f=some y):(CS X (get s) x).bind f=some y:=by
 obtain⟨z,h1,h2⟩:=Option.bind_eq_some_iff.1 h;rw[IQ hs h1];exact h2
theorem YQ (hs:v9 s1 s){E:Nat}:∀{l:List (Nat × Operand)} {n:Nat} {r:List (List DV)},HA X (get s1) E n l=some r->HA X (get s) E n l=some r
 | [],_,_,h=>h
 | (i,x)::l,n,r,h=>by
  simp only[HA]at h ⊢;split at h
  ·rename_i Ca;rw[if_pos Ca];split at h
   ·rename_i y hy;simp only[IQ hs hy];split at h
    ·rename_i ds Dv;split at h
     ·rename_i h1;rw[if_pos h1];split at h
      ·rename_i h2;rw[if_pos h2];split at h
       ·rename_i rest hr;rw[YQ hs hr];exact h
       ·cases h
      ·cases h
     ·cases h
    ·cases h
   ·cases h
  ·cases h
theorem UW (hs:v9 s1 s){d:Nat}{x:Option Operand}{r:Int}(h:EZ X (get s1) d x=some r):EZ X (get s) d x=some r:=by
 cases x with
 | none=>exact h
 | some x=>
  simp only[EZ]at h ⊢;split at h
  ·rename_i k n hy;rw[IQ hs hy];exact h
  ·cases h
theorem jU (hs:v9 s1 s){t E n:Nat}(h:MM (get s1) t E n):MM (get s) t E n:=h.imp id (hs _ _)
theorem fD (hs:v9 s1 s){o:Oper}{c:Prop}{y:SV}(h:GP X (get s1) o=some (c,y))(hc:c){d:Nat}(hd:o.dst=some d)(hn:d<X.n):ED X s o (CM s (.slot d) (.one y)):=by
 intro G a w R next Q hK
 obtain⟨v,h1,h2⟩:=PU (R.weaken hs) h hc;refine M5 (E3 h) ?_;rw[h1,D1,hd];exact hK G _ w (R.setSlot (Trans.refl X G a w R.nil) rfl rfl (fun _ h=>h) hn h2)
theorem UX (hs:v9 s1 s){o:Oper}{c:Prop}{y:SV}(h:GP X (get s1) o=some (c,y))(hc:c)(hd:o.dst=none):ED X s o s:=by
 intro G a w R next Q hK
 obtain⟨v,h1,h2⟩:=PU (R.weaken hs) h hc;refine M5 (E3 h) ?_;rw[h1,D1,hd];exact hK G _ w R
theorem ED.congr {o:Oper}{s' s'':St}(h:ED X s o s')(he:∀l,get s'' l=get s' l):ED X s o s'':=
 fun G a w R next Q hK=>h G a w R next Q fun G' a' w' R'=>hK G' a' w' (R'.congr he)
end
def BQ:List Operand->List Loc
 | []=>[]
 | .tmp t::r=>.slot t::BQ r
 | _::r=>BQ r
def K5:Option SV->List Loc
 | some (.loc k _)=>[.loc k]
 | some (.v (.prim (.pointer (some ⟨b,_,_⟩))))=>[.heap b]
 | some (.own t _)=>[.tok t]
 | _=>[]
def MO:Option Tmp->List Loc
 | some d=>[.slot d]
 | none=>[]
def z85:Option Tmp->List Loc
 | some d=>[.slot d,.loc d]
 | none=>[]
def z2x:Option Tmp->List Loc
 | some d=>[.slot d,.tok d]
 | none=>[]
def O3 (X:Ctx)(g:Rd):Op->List Loc
 | .load _ x=>K5 (CS X g x)
 | .store _ p _=>K5 (CS X g p)
 | .call c=>match CY c with
  | some (x,_,_,_)=>K5 (CS X g x)
  | none=>[]
 | _=>[]
def ID (X:Ctx)(g:Rd)(d:Option Tmp):Op->List Loc
 | .alloc _=>z85 d
 | .box _ _=>z85 d
 | .store _ p _=>K5 (CS X g p)
 | .slice _ _ _ _ (some _)=>.tok 0::z2x d
 | .call c=>match CY c with
  | some (x,_,_,_)=>K5 (CS X g x)++z2x d
  | none=>MO d
 | _=>MO d
def IE (d:Option Tmp):Op->List Nat
 | .alloc _=>d.toList
 | .box _ _=>d.toList
 | .slice _ _ _ _ (some _)=>d.toList
 | .call c=>match CY c with
  | some _=>d.toList
  | none=>[]
 | _=>[]
def NF (s1:St):List Loc->VR
 | []=>[]
 | l::r=>(l,get s1 l)::NF s1 r
theorem vD (s1:St)(wr:List Loc)(l:Loc):(NF s1 wr).says l=if l∈wr then some (get s1 l) else none:=by
 induction wr with
 | nil=>rfl
 | cons m r ih=>
  simp only[NF,VR.says,ih];by_cases h:l∈r;· simp[h]
  ·simp only[h,if_false,List.mem_cons,or_false];by_cases hm:m=l;· subst hm;simp
   ·simp[hm,(Ne.symm hm:¬l=m)]
theorem XK (s s1:St)(wr:List Loc)(l:Loc):get (apply s (NF s1 wr)) l=if l∈wr then get s1 l else get s l:=by
 rw[N1,vD];split <;> rfl
section
variable {X:Ctx}{s s1:St}
theorem W8 {wr:List Loc}{m:Loc}{v:LV}(Ta:wr=[m])(l:Loc):get (apply s (NF (CM s1 m v) wr)) l=get (CM s m v) l:=by
 subst Ta;rw[XK,BM,BM];by_cases h:m=l;· subst h;simp
 ·simp[h,(Ne.symm h:¬l=m)]
theorem nL {wr:List Loc}{m n:Loc}{v u:LV}(Ta:wr=[m,n])(l:Loc):get (apply s (NF (CM (CM s1 m v) n u) wr)) l=get (CM (CM s m v) n u) l:=by
 subst Ta;rw[XK,BM,BM,BM,BM];by_cases h:n=l;· subst h;simp
 ·by_cases h':m=l;· subst h';simp[h]
  ·simp[h,h',(Ne.symm h':¬l=m),(Ne.symm h:¬l=n)]
theorem nM {wr:List Loc}{k m n:Loc}{v u:LV}(Ta:wr=[k,m,n])(l:Loc):get (apply s (NF (CM (CM (QZ s1 k) m v) n u) wr)) l=get (CM (CM (QZ s k) m v) n u) l:=by
 subst Ta;rw[XK,BM,BM,BM,BM,O5,O5];by_cases h:n=l;· subst h;simp
 ·by_cases h':m=l;· subst h';simp[h]
  ·by_cases h2:k=l;· subst h2;simp
   ·simp[h,h',h2,(Ne.symm h':¬l=m),(Ne.symm h:¬l=n),(Ne.symm h2:¬l=k)]
theorem TH {d:Nat}{s:St}(h:KM d s=true):D6 d s=true/\D7 d s=true:=by simpa [KM] using h
theorem bQ (hs:v9 s1 s){o:Oper}{c:Prop}{Nc:St}{wr:List Loc}(Ta:wr=MO o.dst)(h:HT X s1 o.dst (GP X (get s1) o)=some (c,Nc))(hc:c):ED X s o (apply s (NF Nc wr)):=by
 unfold HT at h;split at h
 ·rename_i d c' y hd hp;cases h;exact (fD hs hp hc.1 hd hc.2).congr (W8 (by rw[Ta,hd];rfl))
 ·rename_i c' y hd hp;cases h;refine (UX hs hp hc hd).congr fun l=>?_;rw[Ta,hd];rfl
 ·cases h
theorem z2y (k o:Nat):K5 (some (.loc k o))=[.loc k]:=rfl
theorem nO {Ab:List Nat}{o:Oper}{c:Prop}{Nc:St}(hs:v9 s1 s)(h:AZ X Ab s1 o=some (c,Nc))(hc:c)(Hh:∀d∈IE o.dst o.op,KM d s=true) :
  ED X s o (apply s (NF Nc (ID X (get s1) o.dst o.op))):=by
 unfold AZ at h;split at h;· cases h
 ·split at h
  ·rename_i t ho;unfold TG at h;split at h
   ·rename_i d cs hd hz;split at h
    ·rename_i hb;cases h;simp only[uH]at hb;have hf:=TH (Hh d (by rw[ho,hd];simp[IE]));exact (bB ho hd hc hz hb.1.1 hf.1).congr (nL (by rw[ho,hd];rfl))
    ·cases h
   ·cases h
  ·rename_i t x ho;unfold fX at h;split at h
   ·rename_i d y hd hy;split at h
    ·rename_i hb;cases h;simp only[uH,Bool.not_eq_true']at hb;have hf:=TH (Hh d (by rw[ho,hd];simp[IE]));exact (mI ho hd hc (IQ hs hy) hb.1.1 hf.1 hb.2).congr (nL (by rw[ho,hd];rfl))
    ·cases h
   ·cases h
  ·rename_i t p x ho;split at h
   ·rename_i Ci;have hd:o.dst=none:=by simpa using Ci
    unfold OC at h;split at h
    ·rename_i k' off agg n y hp hl hy;split at h
     ·rename_i cs hg;split at h
      ·rename_i hb;cases h;exact (RL ho hd (IQ hs hp) (hs _ _ hg) hl (IQ hs hy) hc hb).congr (W8 (by rw[ho];simp only[ID,hp,K5]))
      ·cases h
     ·cases h
    ·rename_i b off agg n y hp hl hy;split at h
     ·rename_i cs ys hg Ic;split at h
      ·rename_i hb;cases h;exact (R2 ho hd (IQ hs hp) (hs _ _ hg) hl (IQ hs hy) Ic hc hb).congr (W8 (by rw[ho];simp only[ID,hp,K5]))
      ·cases h
     ·cases h
    ·cases h
   ·cases h
  ·rename_i t len parts ho;split at h
   ·rename_i E B he;unfold fY at h;split at h
    ·rename_i d E' B' els hd Qk Ie;cases Qk;cases h;exact (R4 ho hd hc.1 he (YQ hs Ie) hc.2).congr (W8 (by rw[ho,hd];rfl))
    ·cases h
   ·cases h
  ·rename_i t x lo hi m ho;unfold P5 at h;split at h
   ·rename_i d E els l h' k' hd hE hx La Jb hm;split at h
    ·rename_i hb;cases h;simp only[uH,bne_iff_ne,ne_eq]at hb;unfold z17 at Jb;rw[hx]at Jb;have hf:=TH (Hh d (by rw[ho,hd];simp[IE]));exact (YL ho hd hc.1 hb.1.2 hf.2 hE (g8 hs hx) (UW hs La) (UW hs Jb) (UW hs hm) hb.2 hc.2).congr (nM (by rw[ho,hd];rfl))
    ·cases h
   ·cases h
  ·rename_i c' ho;split at h
   ·rename_i x y t t2 Ll;have Em:c' = { callee:=.builtin .append,args:=#[x,y],argTypes:=#[t,t2] }:=by
     unfold CY at Ll;split at Ll
     ·rename_i h1 h2 h3;cases Ll;cases c';simp only at h1 h2 h3;rw[h1,GL h2,GL h3]
     ·cases Ll
    subst Em;unfold P4 at h;split at h
    ·rename_i d E B t' els ys hd he hx hy;split at h
     ·rename_i hb;cases h;simp only[uH,bne_iff_ne,ne_eq]at hb;have hf:=TH (Hh d (by rw[ho,hd];simp[IE,Ll]));exact (YK ho hd hc.1 hb.2 hf.2 he hc.2.1 hb.1.1 (IQ hs hx) (g8 hs hy) (jU hs hc.2.2.1) hc.2.2.2.1 hc.2.2.2.2.1 hc.2.2.2.2.2).congr (nM (by rw[ho,hd];simp only[ID,Ll,hx,K5,z2x,List.cons_append,List.nil_append]))
     ·cases h
    ·cases h
   ·rename_i Ll;exact bQ hs (by rw[ho];simp only[ID,Ll]) h hc
  ·rename_i h1 h2 h3 h4 h5 h6;refine bQ hs ?_ h hc;cases Bg:o.op with
   | alloc t=>exact absurd Bg (h1 t)
   | box t x=>exact absurd Bg (h2 t x)
   | store t p x=>exact absurd Bg (h3 t p x)
   | slice t x lo hi m=>cases m with
    | none=>rfl
    | some m=>exact absurd Bg (h5 t x lo hi m)
   | call c=>exact absurd Bg (h6 c)
   | _=>rfl
def P8 (X:Ctx)(ops:Array Oper)(o:Oper)(s:St):Prop:=
 o.guard=none\/∃j dj want,o.guard=some (j,want)/\(ops[j]?).bind (·.dst)=some dj/\dj<X.n/\get s (.slot dj)=some (.one (.v (.prim (.bool want))))
theorem bR {G:Gh}{a:Act}{w:World}(R:Rel X G s a w){ops:Array Oper}{j dj:Nat}(hj:(ops[j]?).bind (·.dst)=some dj)(hn:dj<X.n){b:Bool}(hb:get s (.slot dj)=some (.one (.v (.prim (.bool b))))):yielded ops a.tmps j=some b:=by
 have hv:=(BJ (R.holds _ _ hb)).1;have Ac:dj<a.tmps.size:=by rw[R.size];exact hn
 have Dd:a.tmps[dj]? = some (.bool b):=by
  have h3:a.tmps.getD dj undef=a.tmps[dj]:=by simp[Ac]
  rw[uG Ac,<- h3,hv]
 unfold yielded;rw[hj];simp[Dd]
theorem Q5 {ops:Array Oper}{o:Oper}{s':St}(hg:P8 X ops o s)(h:ED X s o s'):vC X ops o s s':=by
 intro G a w R next Q hK
 have hw:Region.wanted o (yielded ops a.tmps)=true:=by
  rcases hg with hg|⟨j,dj,want,h1,h2,h3,h4⟩;· simp[Region.wanted,hg]
  ·simp[Region.wanted,h1,bR R h2 h3 h4]
 rw[if_pos hw];exact h G a w R next Q hK
theorem zd9 {ops:Array Oper}{o:Oper}{j dj:Nat}{want:Bool}(h1:o.guard=some (j,want))(h2:(ops[j]?).bind (·.dst)=some dj)(h3:dj<X.n)(h4:get s (.slot dj)=some (.one (.v (.prim (.bool (!want)))))){d:Nat}(hd:o.dst=some d)(Ci:d<X.n) :
  vC X ops o s (apply s [(.slot d,some f0)]):=by
 intro G a w R next Q hK
 have hw:Region.wanted o (yielded ops a.tmps)=false:=by
  simp only[Region.wanted,h1,bR R h2 h3 h4];cases want <;> rfl
 simp only[hw,Bool.false_eq_true,if_false,hd];exact hK G _ w (R.setSlot (Trans.refl X G a w R.nil) rfl rfl (fun _ h=>h) Ci (x:=.v (.tup [])) jJ)
theorem zda {ops:Array Oper}{o:Oper}{j dj:Nat}{want:Bool}(h1:o.guard=some (j,want))(h2:(ops[j]?).bind (·.dst)=some dj)(h4:get s (.slot dj)=some f0){d:Nat}(hd:o.dst=some d)(Ci:d<X.n) :
  vC X ops o s (apply s [(.slot d,some f0)]):=by
 intro G a w R next Q hK
 have hw:Region.wanted o (yielded ops a.tmps)=false:=by
  simp only[Region.wanted,h1,bG R h2 h4];cases want <;> rfl
 simp only[hw,Bool.false_eq_true,if_false,hd];exact hK G _ w (R.setSlot (Trans.refl X G a w R.nil) rfl rfl (fun _ h=>h) Ci (x:=.v (.tup [])) jJ)
theorem P8.mono {ops:Array Oper}{o:Oper}(hs:v9 s1 s)(h:P8 X ops o s1):P8 X ops o s:=
 h.imp id fun ⟨j,dj,want,h1,h2,h3,h4⟩=>⟨j,dj,want,h1,h2,h3,hs _ _ h4⟩
theorem vE {Ab:List Nat}{ops:Array Oper}{o:Oper}{c:Prop}{Nc:St}(h:AZ X Ab s1 o=some (c,Nc))(hc:c)(hg:P8 X ops o s1):aF X ops o s1 (NF Nc (ID X (get s1) o.dst o.op)) (IE o.dst o.op):=
 fun _ hs Hh=>Q5 (hg.mono hs) (nO hs h hc Hh)
end
def ZS (k:St->List Ev->Prop)(ev:List Ev)(s:St)(fp:List Loc)(nm:List Nat)(e:VR):Prop:=k (apply s e) (⟨fp,e,nm⟩::ev)
def nP (X:Ctx)(ops:Array Oper)(s0:St)(l:List Oper)(K:St->Prop)(k:St->List Ev->Prop)(o:Oper)(ev:List Ev)(s:St)(fp:List Loc)(wr:List Loc):Option (Prop × St)->Prop
 | some (c,Nc)=>c/\ZS k ev s fp (IE o.dst o.op) (NF Nc wr)
 | none=>VD X ops s0 (o::l) s ev K
def zdb (X:Ctx)(Ab:List Nat)(ops:Array Oper)(s0:St)(l:List Oper)(K:St->Prop)(k:St->List Ev->Prop)(o:Oper)(ev:List Ev)(s:St)(fp:List Loc)(s1:St):Prop:=
 nP X ops s0 l K k o ev s fp (ID X (get s1) o.dst o.op) (AZ X Ab s1 o)
def nQ (X:Ctx)(Ab:List Nat)(ops:Array Oper)(s0:St)(l:List Oper)(K:St->Prop)(k:St->List Ev->Prop)(o:Oper)(ev:List Ev)(s:St)(fp:List Loc):Prop:=
 zdb X Ab ops s0 l K k o ev s fp (IK s fp)
def ZT (X:Ctx)(Ab:List Nat)(ops:Array Oper)(s0:St)(l:List Oper)(K:St->Prop)(k:St->List Ev->Prop)(o:Oper)(ev:List Ev)(s:St)(fp:List Loc)(want:Bool)(dj:Nat):Option SV->Prop
 | some (.v (.prim (.bool b)))=>dj<X.n/\(b=want->nQ X Ab ops s0 l K k o ev s (.slot dj::fp))/\(b = !want->match o.dst with
   | some d=>d<X.n/\ZS k ev s [.slot dj] [] [(.slot d,some f0)]
   | none=>False)
 | some (.v (.tup []))=>match o.dst with
  | some d=>d<X.n/\ZS k ev s [.slot dj] [] [(.slot d,some f0)]
  | none=>False
 | _=>False
def zX (X:Ctx)(Ab:List Nat)(ops:Array Oper)(s0:St)(l:List Oper)(K:St->Prop)(k:St->List Ev->Prop)(o:Oper)(ev:List Ev)(s:St)(fp:List Loc)(want:Bool):Option Nat->Prop
 | some dj=>ZT X Ab ops s0 l K k o ev s fp want dj (OD (get s (.slot dj)))
 | none=>False
def FO (X:Ctx)(g:Rd)(op:Op):List Loc:=BQ op.operands.toList++O3 X g op
def zZ (X:Ctx)(Ab:List Nat)(ops:Array Oper)(s0:St)(K:St->Prop):List Oper->St->List Ev->Prop
 | [],s,ev=>nJ ops.toList s0 ev.reverse=true/\K s
 | o::l,s,ev=>
  match o.guard with
  | none=>nQ X Ab ops s0 l K (zZ X Ab ops s0 K l) o ev s (FO X (get s) o.op)
  | some (j,want)=>zX X Ab ops s0 l K (zZ X Ab ops s0 K l) o ev s (FO X (get s) o.op) want (gsl ops j)
section
variable {X:Ctx}{Ab:List Nat}{ops:Array Oper}{s0:St}{K:St->Prop}
theorem bS {l:List Oper}{k:St->List Ev->Prop}(hk:∀s ev,k s ev->VD X ops s0 l s ev K){o:Oper}{ev:List Ev}{s:St}{fp:List Loc}(hg:P8 X ops o (IK s fp))(h:nQ X Ab ops s0 l K k o ev s fp):VD X ops s0 (o::l) s ev K:=by
 unfold nQ zdb nP at h;split at h
 ·rename_i c Nc hs;exact Q4 ⟨fp,_,_⟩ (vE hs h.1 hg) (hk _ _ h.2)
 ·exact h
theorem E8:∀{l:List Oper} {s:St} {ev:List Ev},zZ X Ab ops s0 K l s ev->VD X ops s0 l s ev K
 | [],s,ev,h=>zhc h.1 h.2
 | o::l,s,ev,h=>by
  unfold zZ at h;split at h
  ·rename_i hg;exact bS (fun _ _=>E8) (.inl hg) h
  ·rename_i j want hg;unfold zX at h;split at h
   ·rename_i dj hdj;have Vf:(ops[j]?).bind (·.dst)=some dj:=hdj;unfold ZT at h;split at h
    ·rename_i b hb;have hgb:get s (.slot dj)=some (.one (.v (.prim (.bool b)))):=by
      unfold OD at hb;split at hb;· rename_i x hx;cases hb;exact hx
      ·cases hb
     obtain⟨h1,h2,h3⟩:=h;by_cases Kb:b=want
     ·subst Kb;refine bS (fun _ _=>E8) (.inr ⟨j,dj,b,hg,Vf,h1,?_⟩) (h2 rfl);simp only[IK,hgb,get,if_true]
     ·have Lr:b = !want:=by cases b <;> cases want <;> simp_all
      have h4:=h3 Lr;split at h4
      ·rename_i d hd;refine Q4 ⟨[.slot dj],[(.slot d,some f0)],[]⟩ (fun s' hs _=>?_) (E8 h4.2);refine zd9 hg Vf h1 ?_ hd h4.1;refine hs _ _ ?_;simp only[IK,hgb,get,if_true,Lr]
      ·exact h4.elim
    ·rename_i hb;have hgb:get s (.slot dj)=some f0:=by
      unfold OD at hb;split at hb;· rename_i x hx;cases hb;exact hx
      ·cases hb
     split at h
     ·rename_i d hd;refine Q4 ⟨[.slot dj],[(.slot d,some f0)],[]⟩ (fun s' hs _=>?_) (E8 h.2);refine zda hg Vf ?_ hd h.1;refine hs _ _ ?_;simp only[IK,hgb,get,if_true]
     ·exact h.elim
    ·exact h.elim
   ·exact h.elim
theorem AU {id:Nat}{k:List Item}{s:St}(hm:X.P.follows .mixedOrders=true)(Ab:List Nat)(h:∀K:St->Prop,(∀s',W X k s'->K s')->zZ X Ab ops s K ops.toList s []):W X (.code (.region id ops true)::k) s:=
 zd8 hm fun K hK=>E8 (h K hK)
def UF:BS->List Loc
 | []=>[]
 | (b,_)::r=>.heap b::UF r
def nR:BS->VR
 | []=>[]
 | (b,_)::r=>(.heap b,none)::nR r
def nS:BS->VR
 | []=>[]
 | (b,cs)::r=>nS r++[(.heap b,some (.row (cs.map SV.v)))]
theorem Q6 (e e':VR):∀s,apply s (e++e')=apply (apply s e) e':=by
 induction e with
 | nil=>intro s;rfl
 | cons p r ih=>
  obtain⟨l,v⟩:=p;cases v <;> intro s <;> simp only[List.cons_append,apply,ih]
theorem bT (φ:BS):∀s,apply s (nR φ)=DX s φ:=by
 induction φ with
 | nil=>intro s;rfl
 | cons p r ih=>intro s;simp only[nR,apply,DX,ih]
theorem bU (φ:BS)(s:St):apply s (nS φ)=D8 s φ:=by
 induction φ with
 | nil=>rfl
 | cons p r ih=>simp only[nS,Q6,ih,D8,apply]
theorem G1 {s:St}{l:Loc}{v:LV}:∀{fp:List Loc},l∈fp->get s l=some v->get (IK s fp) l=some v
 | [],h,_=>by cases h
 | m::r,h,hg=>by
  simp only[IK];split
  ·rename_i u hu;simp only[get];split
   ·subst_vars;rw[hu]at hg;exact hg
   ·rename_i Au;rcases List.mem_cons.1 h with rfl|h;· exact absurd rfl Au
    ·exact G1 h hg
  ·rename_i hu;rcases List.mem_cons.1 h with rfl|h;· rw[hu]at hg;cases hg
   ·exact G1 h hg
theorem z2z {s s':St}{fp:List Loc}{x:Operand}(hx:∀t,x = .tmp t->Loc.slot t∈fp)(hs:v9 (IK s fp) s'){y:SV}(h:CS X (get s) x=some y):CS X (get s') x=some y:=by
 cases x with
 | tmp t=>
  simp only[CS]at h ⊢;split at h
  ·rename_i z hz;rw[hs _ _ (G1 (hx t rfl) hz)];exact h
  ·cases h
 | const v=>exact h
 | global b=>exact h
 | func f=>exact h
theorem OF {s s':St}{fp:List Loc}(hs:v9 (IK s fp) s'):∀{l:List Operand} {ds:List DV},(∀m∈BQ l,m∈fp)->GK X (get s) l=some ds->GK X (get s') l=some ds
 | [],_,_,h=>h
 | x::r,ds,hx,h=>by
  simp only[GK]at h ⊢;split at h
  ·rename_i y ys hy Ic;obtain⟨z,hz,Pv⟩:=Option.bind_eq_some_iff.1 hy;have h1:CS X (get s') x=some z:=z2z (fun t ht=>hx _ (by subst ht;simp[BQ])) hs hz;have h2:=OF hs (fun m hm=>hx m (by cases x <;> simp[BQ,hm])) Ic;rw[h1,h2,Option.bind_some,Pv];exact h
  ·cases h
theorem UY {l m:List Loc}{x:Loc}(h:x∈l):x∈l++m:=List.mem_append.2 (.inl h)
theorem g9 {φ:BS}{b:Nat}{cs:List DV}(h:(b,cs)∈φ):Loc.heap b∈UF φ:=by
 induction φ with
 | nil=>cases h
 | cons p r ih=>
  rcases List.mem_cons.1 h with rfl|h;· simp[UF]
  ·exact List.mem_cons_of_mem _ (ih h)
theorem gA {l:List Oper}{k:St->List Ev->Prop}{ev:List Ev}{s:St}{fp wr:List Loc}{d:Tmp}{f:FuncId}{args:Array Operand}{Bo:Array TypeId}{ty:TypeId}{pos:String}{af:Array Edge}{s1:St}
  (hk:∀s ev,k s ev->VD X ops s0 l s ev K) {P:Program} {gl:AB} (hP:X.P=P) (u6:X.gl=gl) {ds Ej:List DV} {φ Ag:BS} {r:DV} (hc:RC P gl f Ej φ r Ag) (u9:GK X (get s) args.toList=some ds) (Dv:ds=Ej) (Bb:BW (get s) φ) (Aw:(φ.map (·.1)).Nodup) (Ci:d<X.n)
  (h:ZS k ev s (BQ args.toList++UF φ) [] ((.slot d,some (.one (.v r)))::(nR φ++nS Ag))) :
  nP X ops s0 l K k ⟨some d,.call { callee:=.value (.func f),args:=args,argTypes:=Bo },ty,pos,af,none⟩ ev s fp wr (AZ X Ab s1 ⟨some d,.call { callee:=.value (.func f),args:=args,argTypes:=Bo },ty,pos,af,none⟩):=by
 subst Dv;have e:AZ X Ab s1 ⟨some d,.call { callee:=.value (.func f),args:=args,argTypes:=Bo },ty,pos,af,none⟩=none:=by
  simp only[AZ,CY,GP,O6,HT];split <;> rfl
 rw[e];show VD X ops s0 _ s ev K;refine Q4 ⟨BQ args.toList++UF φ,_,[]⟩ (fun s' hs _=>Q5 (.inl rfl) ?_) (hk _ _ h);refine (MN (o:=⟨some d,.call { callee:=.value (.func f),args:=args,argTypes:=Bo },ty,pos,af,none⟩) rfl (OF hs (fun m hm=>UY hm) u9) (by rw[hP,u6];exact hc) ?_ Aw rfl Ci).congr fun m=>?_
 ·intro b cs hm;exact hs _ _ (G1 (List.mem_append.2 (.inr (g9 hm))) (Bb b cs hm))
 ·simp only[apply,Q6,bT,bU]
end
end
section
section
variable {X:Ctx}{Ab:List Nat}{ops:Array Oper}{s0:St}{K:St->Prop}{g:Rd}{s:St}
def rsK (l:Loc)(r:St):Option LV->St
 | some v=>(l,v)::r
 | none=>r
theorem z86 (l:Loc)(r:St)(v:LV):rsK l r (some v)=(l,v)::r:=rfl
theorem z87 (l:Loc)(r:St):rsK l r none=r:=rfl
theorem z30:IK s []=[]:=rfl
theorem vF (l:Loc)(r:List Loc):IK s (l::r)=rsK l (IK s r) (get s l):=by
 simp only[IK,rsK];all_goals (cases get s l <;> rfl)
theorem nU:BQ []=[]:=rfl
theorem nV (t:Nat)(r:List Operand):BQ (.tmp t::r) = .slot t::BQ r:=rfl
theorem fE (v:Value)(r:List Operand):BQ (.const v::r)=BQ r:=rfl
theorem bV (v:Nat)(r:List Operand):BQ (.global v::r)=BQ r:=rfl
theorem jV (v:Nat)(r:List Operand):BQ (.func v::r)=BQ r:=rfl
theorem z88 (b o:Nat)(q):K5 (some (.v (.prim (.pointer (some ⟨b,o,q⟩)))))=[.heap b]:=rfl
theorem zdc (cs:List DV):K5 (some (.v (.ref cs)))=[]:=rfl
theorem zdd (t:Nat)(e:List (List DV)):K5 (some (.own t e))=[.tok t]:=rfl
theorem zhd (e:List (List DV))(i o:Nat):K5 (some (.dp e i o))=[]:=rfl
theorem zhe (e:List (List DV)):K5 (some (.v (.sl e)))=[]:=rfl
theorem zky (x:Operand):FO X g (.move x)=BQ [x]:=by simp[FO,O3,Op.operands]
theorem zde (x:Operand):FO X g (.assign x)=BQ [x]:=by simp[FO,O3,Op.operands]
theorem zkz (a b c:Operand):FO X g (.pick a b c)=BQ [a,b,c]:=by simp[FO,O3,Op.operands]
theorem zhf (t:TypeId):FO X g (.alloc t)=[]:=by simp[FO,O3,Op.operands,BQ]
theorem zno (t:TypeId)(x:Operand):FO X g (.box t x)=BQ [x]:=by simp[FO,O3,Op.operands]
theorem zhg (t:TypeId)(ps:Array (Nat × Operand)):FO X g (.build t ps)=BQ (ps.toList.map (·.2)):=by simp[FO,O3,Op.operands]
theorem nW (t:TypeId)(n:Nat)(ps:Array (Nat × Operand)):FO X g (.buildSlice t n ps)=BQ (ps.toList.map (·.2)):=by simp[FO,O3,Op.operands]
theorem zl0 (t:TypeId)(x:Operand):FO X g (.load t x)=BQ [x]++K5 (CS X g x):=by simp[FO,O3,Op.operands]
theorem zhh (t:TypeId)(p x:Operand):FO X g (.store t p x)=BQ [p,x]++K5 (CS X g p):=by simp[FO,O3,Op.operands]
theorem z31 (x:Operand):FO X g (.nilCheck x)=BQ [x]:=by simp[FO,O3,Op.operands]
theorem nX (x:Operand)(xt at':TypeId)(ok:Bool):FO X g (.typeAssert x xt at' ok)=BQ [x]:=by simp[FO,O3,Op.operands]
theorem znp (op:BinOp)(t u:TypeId)(x y:Operand):FO X g (.binOp op t x y u)=BQ [x,y]:=by simp[FO,O3,Op.operands]
theorem fUn (op:UnOp)(t:TypeId)(x:Operand):FO X g (.unOp op t x)=BQ [x]:=by simp[FO,O3,Op.operands]
theorem vG (t:TypeId)(x:Operand):FO X g (.makeInterface t x)=BQ [x]:=by simp[FO,O3,Op.operands]
theorem zhi (t:TypeId)(x:Operand)(a b c:Option Operand):FO X g (.slice t x a b c)=BQ (x::(a.toList++b.toList++c.toList)):=by
 simp[FO,O3,Op.operands]
theorem vH (t:TypeId)(x:Operand)(f:Nat):FO X g (.fieldAddr t x f)=BQ [x]:=by simp[FO,O3,Op.operands]
theorem zhj (t:TypeId)(x:Operand)(f:Nat):FO X g (.field t x f)=BQ [x]:=by simp[FO,O3,Op.operands]
theorem vI (t:TypeId)(x y:Operand):FO X g (.indexAddr t x y)=BQ [x,y]:=by simp[FO,O3,Op.operands]
theorem z89 (x:Operand)(i:Nat):FO X g (.extract x i)=BQ [x]:=by simp[FO,O3,Op.operands]
theorem znq (xs:Array Operand)(ts:Array TypeId):FO X g (.call { callee:=.builtin .len,args:=xs,argTypes:=ts })=BQ xs.toList:=by simp[FO,O3,Op.operands,Call.operands,CY]
theorem zdf (x y:Operand)(t t2:TypeId):FO X g (.call { callee:=.builtin .append,args:=#[x,y],argTypes:=#[t,t2] })=BQ [x,y]++K5 (CS X g x):=by simp[FO,O3,Op.operands,Call.operands,CY]
theorem z32 (d:Nat):MO (some d)=[.slot d]:=rfl
theorem z33:MO none=[]:=rfl
theorem z34 (d:Nat):z85 (some d)=[.slot d,.loc d]:=rfl
theorem z35 (d:Nat):z2x (some d)=[.slot d,.tok d]:=rfl
variable {d:Option Tmp}
theorem zl1 (x:Operand):ID X g d (.move x)=MO d:=rfl
theorem zdg (x:Operand):ID X g d (.assign x)=MO d:=rfl
theorem zl2 (a b c:Operand):ID X g d (.pick a b c)=MO d:=rfl
theorem zhk (t:TypeId):ID X g d (.alloc t)=z85 d:=rfl
theorem znr (t:TypeId)(x:Operand):ID X g d (.box t x)=z85 d:=rfl
theorem zhl (t:TypeId)(ps:Array (Nat × Operand)):ID X g d (.build t ps)=MO d:=rfl
theorem nY (t:TypeId)(n:Nat)(ps:Array (Nat × Operand)):ID X g d (.buildSlice t n ps)=MO d:=rfl
theorem zl3 (t:TypeId)(x:Operand):ID X g d (.load t x)=MO d:=rfl
theorem zhm (t:TypeId)(p x:Operand):ID X g d (.store t p x)=K5 (CS X g p):=rfl
theorem z36 (x:Operand):ID X g d (.nilCheck x)=MO d:=rfl
theorem nZ (x:Operand)(xt at':TypeId)(ok:Bool):ID X g d (.typeAssert x xt at' ok)=MO d:=rfl
theorem zns (op:BinOp)(t u:TypeId)(x y:Operand):ID X g d (.binOp op t x y u)=MO d:=rfl
theorem wUn (op:UnOp)(t:TypeId)(x:Operand):ID X g d (.unOp op t x)=MO d:=rfl
theorem z8a (t u:TypeId)(x:Operand):ID X g d (.convert t u x)=MO d:=rfl
theorem z37 (fn:Fn)(fi ca:Array Operand):ID X g d (.makeFunc fn fi ca)=MO d:=rfl
theorem vJ (t:TypeId)(x:Operand):ID X g d (.makeInterface t x)=MO d:=rfl
theorem zhn (t:TypeId)(x:Operand)(a b:Option Operand):ID X g d (.slice t x a b none)=MO d:=rfl
theorem zdh (t:TypeId)(x c:Operand)(a b:Option Operand):ID X g d (.slice t x a b (some c)) = .tok 0::z2x d:=rfl
theorem vK (t:TypeId)(x:Operand)(f:Nat):ID X g d (.fieldAddr t x f)=MO d:=rfl
theorem zho (t:TypeId)(x:Operand)(f:Nat):ID X g d (.field t x f)=MO d:=rfl
theorem vL (t:TypeId)(x y:Operand):ID X g d (.indexAddr t x y)=MO d:=rfl
theorem z8b (x:Operand)(i:Nat):ID X g d (.extract x i)=MO d:=rfl
theorem znt (xs:Array Operand)(ts:Array TypeId):ID X g d (.call { callee:=.builtin .len,args:=xs,argTypes:=ts })=MO d:=by simp[ID,CY]
theorem zdi (x y:Operand)(t t2:TypeId):ID X g d (.call { callee:=.builtin .append,args:=#[x,y],argTypes:=#[t,t2] })=K5 (CS X g x)++z2x d:=by simp[ID,CY]
theorem zl4 (x:Operand):IE d (.move x)=[]:=rfl
theorem zdj (x:Operand):IE d (.assign x)=[]:=rfl
theorem zl5 (a b c:Operand):IE d (.pick a b c)=[]:=rfl
theorem zhp (t:TypeId):IE d (.alloc t)=d.toList:=rfl
theorem znu (t:TypeId)(x:Operand):IE d (.box t x)=d.toList:=rfl
theorem zhq (t:TypeId)(ps:Array (Nat × Operand)):IE d (.build t ps)=[]:=rfl
theorem o0 (t:TypeId)(n:Nat)(ps:Array (Nat × Operand)):IE d (.buildSlice t n ps)=[]:=rfl
theorem zl6 (t:TypeId)(x:Operand):IE d (.load t x)=[]:=rfl
theorem zhr (t:TypeId)(p x:Operand):IE d (.store t p x)=[]:=rfl
theorem z38 (x:Operand):IE d (.nilCheck x)=[]:=rfl
theorem o7 (x:Operand)(xt at':TypeId)(ok:Bool):IE d (.typeAssert x xt at' ok)=[]:=rfl
theorem znv (op:BinOp)(t u:TypeId)(x y:Operand):IE d (.binOp op t x y u)=[]:=rfl
theorem nUn (op:UnOp)(t:TypeId)(x:Operand):IE d (.unOp op t x)=[]:=rfl
theorem z8c (t u:TypeId)(x:Operand):IE d (.convert t u x)=[]:=rfl
theorem z39 (fn:Fn)(fi ca:Array Operand):IE d (.makeFunc fn fi ca)=[]:=rfl
theorem vM (t:TypeId)(x:Operand):IE d (.makeInterface t x)=[]:=rfl
theorem zhs (t:TypeId)(x:Operand)(a b:Option Operand):IE d (.slice t x a b none)=[]:=rfl
theorem zdk (t:TypeId)(x c:Operand)(a b:Option Operand):IE d (.slice t x a b (some c))=d.toList:=rfl
theorem vN (t:TypeId)(x:Operand)(f:Nat):IE d (.fieldAddr t x f)=[]:=rfl
theorem zht (t:TypeId)(x:Operand)(f:Nat):IE d (.field t x f)=[]:=rfl
theorem vO (t:TypeId)(x y:Operand):IE d (.indexAddr t x y)=[]:=rfl
theorem z8d (x:Operand)(i:Nat):IE d (.extract x i)=[]:=rfl
theorem znw (xs:Array Operand)(ts:Array TypeId):IE d (.call { callee:=.builtin .len,args:=xs,argTypes:=ts })=[]:=by simp[IE,CY]
theorem zdl (x y:Operand)(t t2:TypeId):IE d (.call { callee:=.builtin .append,args:=#[x,y],argTypes:=#[t,t2] })=d.toList:=by simp[IE,CY]
theorem z3a (s1:St):NF s1 []=[]:=rfl
theorem vP (s1:St)(l:Loc)(r:List Loc):NF s1 (l::r)=(l,get s1 l)::NF s1 r:=rfl
theorem z3b:apply s []=s:=rfl
theorem vQ (l:Loc)(v:LV)(r:VR):apply s ((l,some v)::r)=apply (CM s l v) r:=rfl
theorem vR (l:Loc)(r:VR):apply s ((l,none)::r)=apply (QZ s l) r:=rfl
theorem z3c:UF []=[]:=rfl
theorem vS (b:Nat)(cs:List DV)(r:BS):UF ((b,cs)::r) = .heap b::UF r:=rfl
theorem z8e:nR []=[]:=rfl
theorem z3d (b:Nat)(cs:List DV)(r:BS):nR ((b,cs)::r)=(.heap b,none)::nR r:=rfl
theorem z8f:nS []=[]:=rfl
theorem z3e (b:Nat)(cs:List DV)(r:BS):nS ((b,cs)::r)=nS r++[(.heap b,some (.row (cs.map SV.v)))]:=rfl
variable {l:List Oper}{k:St->List Ev->Prop}{ev:List Ev}{fp wr:List Loc}{nm:List Nat}
theorem zdm:zZ X Ab ops s0 K [] s ev=(nJ ops.toList s0 ev.reverse=true/\K s):=by rw[zZ]
theorem zhu (d:Option Tmp)(op:Op)(ty:TypeId)(pos:String)(af:Array Edge) :
  zZ X Ab ops s0 K (⟨d,op,ty,pos,af,none⟩::l) s ev=nQ X Ab ops s0 l K (zZ X Ab ops s0 K l) ⟨d,op,ty,pos,af,none⟩ ev s (FO X (get s) op):=by rw[zZ]
theorem zhv (d:Option Tmp)(op:Op)(ty:TypeId)(pos:String)(af:Array Edge)(j:Nat)(w:Bool) :
  zZ X Ab ops s0 K (⟨d,op,ty,pos,af,some (j,w)⟩::l) s ev=zX X Ab ops s0 l K (zZ X Ab ops s0 K l) ⟨d,op,ty,pos,af,some (j,w)⟩ ev s (FO X (get s) op) w (gsl ops j):=by rw[zZ]
theorem zdn (o:Oper):nQ X Ab ops s0 l K k o ev s fp=zdb X Ab ops s0 l K k o ev s fp (IK s fp):=rfl
theorem zdo (s1:St)(d:Option Tmp)(op:Op)(ty:TypeId)(pos:String)(af:Array Edge)(gd:Option (Nat × Bool)) :
  zdb X Ab ops s0 l K k ⟨d,op,ty,pos,af,gd⟩ ev s fp s1=nP X ops s0 l K k ⟨d,op,ty,pos,af,gd⟩ ev s fp (ID X (get s1) d op) (AZ X Ab s1 ⟨d,op,ty,pos,af,gd⟩):=rfl
theorem z3f (s1:St)(c:Prop)(d:Option Tmp)(op:Op)(ty:TypeId)(pos:String)(af:Array Edge)(gd:Option (Nat × Bool)) :
  nP X ops s0 l K k ⟨d,op,ty,pos,af,gd⟩ ev s fp wr (some (c,s1))=(c/\ZS k ev s fp (IE d op) (NF s1 wr)):=rfl
theorem zdp (e:VR):ZS k ev s fp nm e=k (apply s e) (⟨fp,e,nm⟩::ev):=rfl
theorem vU (o:Oper)(w:Bool)(dj:Nat):zX X Ab ops s0 l K k o ev s fp w (some dj)=ZT X Ab ops s0 l K k o ev s fp w dj (OD (get s (.slot dj))):=rfl
theorem vV (o:Oper)(dj:Nat):ZT X Ab ops s0 l K k o ev s fp true dj (some (.v (.prim (.bool true))))=(dj<X.n/\nQ X Ab ops s0 l K k o ev s (.slot dj::fp)):=by simp[ZT]
theorem vW (o:Oper)(dj:Nat):ZT X Ab ops s0 l K k o ev s fp false dj (some (.v (.prim (.bool false))))=(dj<X.n/\nQ X Ab ops s0 l K k o ev s (.slot dj::fp)):=by simp[ZT]
theorem z3g (d:Tmp)(op:Op)(ty:TypeId)(pos:String)(af:Array Edge)(gd:Option (Nat × Bool))(dj:Nat) :
  ZT X Ab ops s0 l K k ⟨some d,op,ty,pos,af,gd⟩ ev s fp true dj (some (.v (.prim (.bool false))))=(dj<X.n/\d<X.n/\ZS k ev s [.slot dj] [] [(.slot d,some f0)]):=by simp[ZT]
theorem z3h (d:Tmp)(op:Op)(ty:TypeId)(pos:String)(af:Array Edge)(gd:Option (Nat × Bool))(dj:Nat) :
  ZT X Ab ops s0 l K k ⟨some d,op,ty,pos,af,gd⟩ ev s fp false dj (some (.v (.prim (.bool true))))=(dj<X.n/\d<X.n/\ZS k ev s [.slot dj] [] [(.slot d,some f0)]):=by simp[ZT]
theorem zdq (d:Tmp)(op:Op)(ty:TypeId)(pos:String)(af:Array Edge)(gd:Option (Nat × Bool))(w:Bool)(dj:Nat) :
  ZT X Ab ops s0 l K k ⟨some d,op,ty,pos,af,gd⟩ ev s fp w dj (some (.v (.tup [])))=(d<X.n/\ZS k ev s [.slot dj] [] [(.slot d,some f0)]):=rfl
theorem bW {P:Program}(hP:X.P=P){f:FuncId}{fn:Func}(hf:X.f=f)(u8:X.fn=fn){r:DV}(hR:X.R=(fun x ψ=>x=r/\ψ=[])/\X.md = .fn){kk:List Item}(h:P.funcs[f]? = some fn/\UT X (get s) fn.results.toList=some r):W X (.code .ret::kk) s:=by
 subst hP hf u8;exact zg9 hR.2 h.1 h.2 (φ:=[]) (fun _ _ h=>by cases h) List.nodup_nil (by rw[hR.1];exact⟨rfl,rfl⟩)
theorem bX {P:Program}(hP:X.P=P){f:FuncId}{fn:Func}(hf:X.f=f)(u8:X.fn=fn){r:DV}(hR:X.R=(fun x ψ=>x=r/\ψ=[])/\X.md = .fn)(h:P.funcs[f]? = some fn/\UT X (get s) fn.results.toList=some r):W X [] s:=by
 subst hP hf u8;exact zga hR.2 h.1 h.2 (φ:=[]) (fun _ _ h=>by cases h) List.nodup_nil (by rw[hR.1];exact⟨rfl,rfl⟩)
theorem NG (n:Nat)(I:Nat->Prop)(S:Nat->St){c:Code}{kk:List Item}(h0:I 0)(round:∀i,i<n->I i->(I (i+1)->W X (.inLoop c::kk) (S (i+1)))->W X (.code c::.inLoop c::kk) (S i))(last:I n->W X (.code c::.inLoop c::kk) (S n)) :
  W X (.code (.loop c)::kk) (S 0):=by
 refine E6 (fun i=>i<=n/\I i) S (fun i=>n - i) 0 ⟨Nat.zero_le _,h0⟩ fun i hi ih=>?_;by_cases h:i<n;· exact round i h hi.2 fun h1=>ih (i+1) ⟨h,h1⟩ oO
 ·obtain rfl:i=n:=oO;exact last hi.2
theorem CD {α:Type}(L:List α)(S:List α->List α->St){c:Code}{kk:List Item}(round:∀done x rest,L=done++x::rest->L[done.length]? = some x->W X (.inLoop c::kk) (S (done++[x]) rest)->W X (.code c::.inLoop c::kk) (S done (x::rest)))(last:W X (.code c::.inLoop c::kk) (S L [])) :
  W X (.code (.loop c)::kk) (S [] L):=by
 have key:=E6 (X:=X) (k:=kk) (c:=c) (fun i:List α × List α=>L=i.1++i.2) (fun i=>S i.1 i.2) (fun i=>i.2.length) ([],L) rfl;refine key fun ⟨done,rest⟩ hI ih=>?_;cases rest with
 | nil=>
  simp only[List.append_nil]at hI;subst hI;exact last
 | cons x rest=>
  exact round done x rest hI (by rw[hI];simp) (ih (done++[x],rest) (by simp[hI]) sS)
end
theorem zhw:I6=2147483648:=rfl
attribute [go_sem] zhw nX nZ o7
attribute [go_sem] z86 z87 z30 vF nU nV fE bV jV z2y z88 zdc zdd zhd zhe
attribute [go_sem] zky zde zkz zhf zno zhg nW zl0 zhh z31 znp fUn vG zhi vH zhj vI z89 znq zdf
attribute [go_sem] z32 z33 z34 z35 zl1 zdg zl2 zhk znr zhl nY zl3 zhm z36 zns wUn z8a z37 vJ zhn zdh vK zho vL z8b znt zdi
attribute [go_sem] zl4 zdj zl5 zhp znu zhq o0 zl6 zhr z38 znv nUn z8c z39 vM zhs zdk vN zht vO z8d znw zdl
attribute [go_sem] z3a vP z3b vQ vR z3c vS z8e z3d z8f z3e zdm zhu zhv zdn zdo z3f zdp vU vV vW z3g z3h zdq
end
end Go.Proofs.YtkfiobkjflmchaaGreatDoor.Lift
