import Derived.Test.YtoniciijokeidaaGreatDoorQn2
import Derived.Orders
set_option maxHeartbeats 8000000
set_option maxRecDepth 100000
set_option linter.unusedSimpArgs false
set_option linter.unusedVariables false
set_option linter.unnecessarySimpa false
namespace Go.Proofs.YtoniciijokeidaaGreatDoor.Lift
open Go
section
def IK (X:Ctx)(s:St)(dst:Option Tmp)(r:Option (Prop × SV)):Option (Prop × St):=
 match dst,r with
 | some d,some (c,y)=>some (c/\d<X.n,CV s (.slot d) (.one y))
 | none,some (c,_)=>some (c,s)
 | _,none=>none
def SP (X:Ctx)(s:St)(dst:Option Tmp)(r:Option (List SV)):Option (Prop × St):=
 match dst,r with
 | some d,some cs=>if EV cs&&DJ d s&&!ED d cs then some (d<X.n,CV (CV s (.slot d) (.one (.loc d 0))) (.loc d) (.row cs)) else none
 | _,_=>none
def fF (X:Ctx)(s:St)(dst:Option Tmp)(r:Option SV):Option (Prop × St):=
 match dst,r with
 | some d,some y=>if EV (BV y)&&DJ d s&&!GK d y then some (d<X.n,CV (CV s (.slot d) (.one (.loc d 0))) (.loc d) (.row (BV y))) else none
 | _,_=>none
def O5 (s:St)(lay:Option (Bool × Nat))(p x:Option SV):Option (Prop × St):=
 match p,lay,x with
 | some (.loc k off),some (_,n),some y=>
  match get s (.loc k) with
  | some (.row cs)=>if EV (BV y) then some ((BV y).length=n/\off+n<=cs.length,CV s (.loc k) (.row (put cs off (BV y)))) else none
  | _=>none
 | some (.v (.prim (.pointer (some ⟨b,off,none⟩)))),some (_,n),some y=>
  match get s (.heap b),WN (BV y) with
  | some (.row cs),some ys=>if EV ys then some (ys.length=n/\off+n<=cs.length,CV s (.heap b) (.row (put cs off ys))) else none
  | _,_=>none
 | _,_,_=>none
def fG (X:Ctx)(s:St)(dst:Option Tmp)(len:Nat)(e:Option (Nat × Nat))(r:Option (List (List DV))):Option (Prop × St):=
 match dst,e,r with
 | some d,some (E,_),some els=>some (d<X.n/\els.length=len/\len * E<=16777216/\len<=HL,CV s (.slot d) (.one (.v (.sl els))))
 | _,_,_=>none
def OZ (X:Ctx)(s:St)(dst:Option Tmp)(e:Option (Nat × Nat))(e2:Bool)(x:Option SV)(y:Option (List (List DV))):Option (Prop × St):=
 match dst,e,x,y with
 | some d,some (E,B),some (.own t els),some ys=>
  if e2&&DQ d s&&d != 0 then
   some (d<X.n/\(0<B/\B<=1024)/\MK (get s) t E els.length/\els.length+ys.length<=HL/\(∀e∈els,e.length=E)/\(∀e∈ys,e.length=E),
    CV (CV (OU s (.tok t)) (.slot d) (.one (.own d (els++ys)))) (.tok d) (.tk E (els.length+ys.length)))
  else none
 | _,_,_,_=>none
def P0 (X:Ctx)(s:St)(dst:Option Tmp)(e:Option Nat)(x:Option (List (List DV)))(lo hi m:Option Int)(Zr:Bool):Option (Prop × St):=
 match dst,e,x,lo,hi,m with
 | some d,some E,some els,some l,some h,some k=>
  if DQ d s&&d != 0&&Zr then
   some (d<X.n/\0<=l/\l<=h/\h<=els.length/\h=k/\(∀e∈els,e.length=E),
    CV (CV (OU s (.tok 0)) (.slot d) (.one (.own d ((els.take h.toNat).drop l.toNat)))) (.tok d) (.tk E (h.toNat - l.toNat)))
  else none
 | _,_,_,_,_,_=>none
def M1 (Ad:List Nat)(dst:Option Tmp):Bool:=
 match dst with
 | some d=>I7 d Ad
 | none=>false
def CN (c:Call):Option (Operand × Operand × TypeId × TypeId):=
 match c.callee,c.args.toList,c.argTypes.toList with
 | .builtin .append,[x,y],[t,t2]=>some (x,y,t,t2)
 | _,_,_=>none
def z03 (X:Ctx)(s:St)(x:Operand)(hi:Option Operand):Option Int:=
 match (D4 X (get s) x).bind LJ with
 | some els=>EZ X (get s) els.length hi
 | none=>none
def BA (X:Ctx)(Ad:List Nat)(s:St)(o:Oper):Option (Prop × St):=
 if M1 Ad o.dst then none else
 match o.op with
 | .alloc t=>SP X s o.dst (DK X.P t)
 | .box _ x=>fF X s o.dst (D4 X (get s) x)
 | .store t p x=>if o.dst.isNone then O5 s (E9 X.P t) (D4 X (get s) p) (D4 X (get s) x) else none
 | .buildSlice t len parts=>
  match DW X.P t with
  | some (E,B)=>fG X s o.dst len (some (E,B)) (Jj1 X (get s) E 0 parts.toList)
  | none=>none
 | .slice t x lo hi (some m)=>P0 X s o.dst (DB X.P t) ((D4 X (get s) x).bind LJ) (EZ X (get s) 0 lo) (z03 X s x hi) (EZ X (get s) 0 (some m)) hi.isSome
 | .call c=>
  match CN c with
  | some (x,y,t,t2)=>OZ X s o.dst (DW X.P t) (DB X.P t2).isSome (D4 X (get s) x) ((D4 X (get s) y).bind LJ)
  | none=>IK X s o.dst (HB X (get s) o)
 | _=>IK X s o.dst (HB X (get s) o)
section
variable {X:Ctx}{s:St}{k:List Item}
theorem ZX {o:Oper}{c:Prop}{s':St}(h:IK X s o.dst (HB X (get s) o)=some (c,s'))(hc:c):EU X s o s':=by
 unfold IK at h;split at h
 ·rename_i d c' y hd hp;cases h;exact zX hp hc.1 hd hc.2
 ·rename_i c' y hd hp;cases h;exact ZM hp hc hd
 ·cases h
theorem XU {Ad:List Nat}{o:Oper}{c:Prop}{s':St}(h:BA X Ad s o=some (c,s'))(hc:c):EU X s o s':=by
 unfold BA at h;split at h;· cases h
 ·split at h
  ·rename_i t ho;unfold SP at h;split at h
   ·rename_i d cs hd hz;split at h
    ·rename_i hb;cases h;simp only[uH]at hb;exact ZN ho hd hc hz hb.1.1 hb.1.2
    ·cases h
   ·cases h
  ·rename_i t x ho;unfold fF at h;split at h
   ·rename_i d y hd hy;split at h
    ·rename_i hb;cases h;simp only[uH,Bool.not_eq_true']at hb;exact l6 ho hd hc hy hb.1.1 hb.1.2 hb.2
    ·cases h
   ·cases h
  ·rename_i t p x ho;split at h
   ·rename_i Eb;have hd:o.dst=none:=by simpa using Eb
    unfold O5 at h;split at h
    ·rename_i k' off agg n y hp hl hy;split at h
     ·rename_i cs hg;split at h
      ·rename_i hb;cases h;exact RJ ho hd hp hg hl hy hc hb
      ·cases h
     ·cases h
    ·rename_i b off agg n y hp hl hy;split at h
     ·rename_i cs ys hg Ko;split at h
      ·rename_i hb;cases h;exact QU ho hd hp hg hl hy Ko hc hb
      ·cases h
     ·cases h
    ·cases h
   ·cases h
  ·rename_i t len parts ho;split at h
   ·rename_i E B he;unfold fG at h;split at h
    ·rename_i d E' B' els hd Lf Jk;cases Lf;cases h;exact QV ho hd hc.1 he Jk hc.2
    ·cases h
   ·cases h
  ·rename_i t x lo hi m ho;unfold P0 at h;split at h
   ·rename_i d E els l h' k' hd hE hx Im La hm;split at h
    ·rename_i hb;cases h;simp only[uH,bne_iff_ne,ne_eq]at hb;unfold z03 at La;rw[hx]at La;exact XQ ho hd hc.1 hb.1.2 hb.1.1 hE hx Im La hm hb.2 hc.2
    ·cases h
   ·cases h
  ·rename_i c' ho;split at h
   ·rename_i x y t t2 Gl;have Eu:c' = { callee:=.builtin .append,args:=#[x,y],argTypes:=#[t,t2] }:=by
     unfold CN at Gl;split at Gl
     ·rename_i h1 h2 h3;cases Gl;cases c';simp only at h1 h2 h3;rw[h1,GF h2,GF h3]
     ·cases Gl
    subst Eu;unfold OZ at h;split at h
    ·rename_i d E B t' els ys hd he hx hy;split at h
     ·rename_i hb;cases h;simp only[uH,bne_iff_ne,ne_eq]at hb;exact XP ho hd hc.1 hb.2 hb.1.2 he hc.2.1 hb.1.1 hx hy hc.2.2.1 hc.2.2.2.1 hc.2.2.2.2.1 hc.2.2.2.2.2
     ·cases h
    ·cases h
   ·exact ZX h hc
  ·exact ZX h hc
def V8 (ops:Array Oper)(o:Oper):Option (Option (Nat × Bool)):=
 match o.guard with
 | none=>some none
 | some (j,want)=>match (ops[j]?).bind (·.dst) with
  | some d=>some (some (d,want))
  | none=>none
def vc (X:Ctx)(Ad:List Nat)(ops:Array Oper):List Oper->St->(St->Prop)->Prop
 | [],s,K=>K s
 | o::l,s,K=>
  match V8 ops o with
  | some none=>
   match BA X Ad s o with
   | some (c,s')=>c/\vc X Ad ops l s' K
   | none=>VL X ops (o::l) s K
  | some (some (dj,want))=>
   match get s (.slot dj) with
   | some (.one (.v (.prim (.bool b))))=>
    dj<X.n/\(b=want->match BA X Ad (CV s (.slot dj) (.one (.v (.prim (.bool want))))) o with
     | some (c,s')=>c/\vc X Ad ops l s' K
     | none=>VL X ops (o::l) (CV s (.slot dj) (.one (.v (.prim (.bool want))))) K) /\
    (b = !want->match o.dst with
     | some d=>d<X.n/\vc X Ad ops l (CV (CV s (.slot dj) (.one (.v (.prim (.bool (!want)))))) (.slot d) dX) K
     | none=>False)
   | some (.one (.v (.tup [])))=>match o.dst with
    | some d=>d<X.n/\vc X Ad ops l (CV s (.slot d) dX) K
    | none=>False
   | _=>False
  | none=>False
theorem z5x {ops:Array Oper}{l:List Oper}{s s':St}{K:St->Prop}(h:∀m,get s' m=get s m)(hv:VL X ops l s' K):VL X ops l s K:=
 fun n hn G a w R=>hv n hn G a w (R.congr h)
theorem DM {Ad:List Nat}{ops:Array Oper}{K:St->Prop}:∀{l:List Oper} {s:St},vc X Ad ops l s K->VL X ops l s K
 | [],s,h=>zjg h
 | o::l,s,h=>by
  unfold vc at h;split at h
  ·rename_i hg;have hgn:o.guard=none:=by
    unfold V8 at hg;split at hg
    ·assumption
    ·split at hg <;> cases hg
   split at h
   ·rename_i c s' hs;exact V6 hgn (XU hs h.1) (DM h.2)
   ·exact h
  ·rename_i dj want hg;have hgn:∃j,o.guard=some (j,want)/\(ops[j]?).bind (·.dst)=some dj:=by
    unfold V8 at hg;split at hg;· cases hg
    ·rename_i j w' hq;split at hg
     ·rename_i d hd;cases hg;exact⟨j,hq,hd⟩
     ·cases hg
   obtain⟨j,Bx,Jf⟩:=hgn;split at h
   ·rename_i b hb;obtain⟨hdj,h1,h2⟩:=h;have hcg:∀c,b=c->∀m,get (CV s (.slot dj) (.one (.v (.prim (.bool c))))) m=get s m:=by
     rintro c rfl m;rw[C1];split
     ·subst_vars;exact hb.symm
     ·rfl
    by_cases Qm:b=want
    ·have h3:=h1 Qm;split at h3
     ·rename_i c s' hs;have In:∃d,True:=⟨0,trivial⟩;intro n hn G a w R;obtain⟨k1,k2⟩:=FH hn;have hv:=(BT (R.holds _ _ hb)).1;have Ag:dj<a.tmps.size:=by rw[R.size];exact hdj
      have Di:a.tmps[dj]? = some (.bool b):=by
       have h3:a.tmps.getD dj undef=a.tmps[dj]:=by simp[Ag]
       rw[uG Ag,<- h3,hv]
      have hy:yielded ops a.tmps j=some b:=by
       unfold yielded;rw[Jf];simp[Di]
      simp only[List.length_cons,List.range'_succ,wpOpsIn,k1,Region.wanted,Bx,hy,Qm,beq_self_eq_true,if_true];exact (XU hs h3.1 G a w (R.congr (hcg _ Qm)) _ _ fun G' a' w' R'=>DM h3.2 (n+1) k2 G' a' w' R')
     ·exact z5x (hcg _ Qm) h3
    ·have hbn:b = !want:=by cases b <;> cases want <;> simp_all
     have h3:=h2 hbn;split at h3
     ·rename_i d hd;exact z5u Bx Jf hdj hb (fun e=>absurd e Qm) hd h3.1 (fun _=>DM h3.2)
     ·exact h3.elim
   ·rename_i hb;split at h
    ·rename_i d hd;exact z00 Bx Jf hb hd h.1 (DM h.2)
    ·exact h.elim
   ·exact h.elim
  ·exact h.elim
theorem AQ {id:Nat}{ops:Array Oper}(Ad:List Nat)(h:∀K:St->Prop,(∀s',W X k s'->K s')->vc X Ad ops ops.toList s K):W X (.code (.region id ops false)::k) s:=
 z5w fun K hK=>DM (h K hK)
theorem z5y {Ad:List Nat}{ops:Array Oper}{o:Oper}{l:List Oper}{K:St->Prop}{f:FuncId}{args:Array Operand}{Ct:Array TypeId}(ho:o.op = .call { callee:=.value (.func f),args:=args,argTypes:=Ct })(hg:o.guard=none)
  {ds:List DV} (u8:HP X (get s) args.toList=some ds) {P:Program} {gl:AF} (hP:X.P=P) (u7:X.gl=gl) {φ Ae:BU} {r:DV} (hc:U8 P gl f ds φ r Ae) (Bd:BP (get s) φ) (Ai:(φ.map (·.1)).Nodup) {d:Nat} (hd:o.dst=some d) (Eb:d<X.n)
  (h:vc X Ad ops l (D7 (DP (CV s (.slot d) (.one (.v r))) φ) Ae) K):VL X ops (o::l) s K:=
 V6 hg (ML ho u8 (by rw[hP,u7];exact hc) Bd Ai hd Eb) (DM h)
end
end
section
abbrev A0 (n:Int):DV:=.prim (.int .i64 n)
abbrev AK (b:Bool):DV:=.prim (.bool b)
theorem zdk (l:Loc):get [] l=none:=rfl
theorem z5z (l:Loc)(v:LV)(r:St):get ((l,v)::r) l=some v:=by simp[get]
theorem z04 {l m:Loc}(v:LV)(r:St)(h:m≠l):get ((m,v)::r) l=get r l:=by simp[get,h]
theorem zdl (l:Loc):OU [] l=[]:=rfl
theorem z60 (l:Loc)(v:LV)(r:St):OU ((l,v)::r) l=OU r l:=by simp[OU]
theorem z05 {l m:Loc}(v:LV)(r:St)(h:m≠l):OU ((m,v)::r) l=(m,v)::OU r l:=by simp[OU,h]
theorem zjh (s:St)(l:Loc)(v:LV):CV s l v=(l,v)::OU s l:=rfl
theorem z61 (d:Nat):I7 d []=false:=rfl
theorem z06 (d x:Nat)(r:List Nat):I7 d (x::r)=(d==x||I7 d r):=rfl
def O6:Option LV->Option SV
 | some (.one x)=>some x
 | _=>none
theorem pW (x:SV):O6 (some (.one x))=some x:=rfl
section
variable {X:Ctx}{s:St}{g:Rd}
theorem zdm (t:Nat):D4 X g (.tmp t)=O6 (g (.slot t)):=by
 unfold D4 O6;rfl
theorem z07 (v:Value):D4 X g (.const v)=JF v:=rfl
def evG:Option (List (List DV))->Option SV
 | some (e::r)=>some (.dp (e::r) 0 0)
 | _=>none
theorem z62 (e:List DV)(r:List (List DV)):evG (some (e::r))=some (.dp (e::r) 0 0):=rfl
theorem pX (b:Nat):D4 X g (.global b)=evG (ET X.gl b):=by
 unfold D4 evG;rfl
theorem z63 (f:Nat):D4 X g (.func f)=some (.v (.prim (.func (.func f) #[] #[]))):=rfl
theorem pY:JF (.slice none 0 0)=some (.own 0 []):=rfl
theorem pZ {k:IntKind}{n:Int}(h:CM k n):JF (.int k n)=some (.v (.prim (.int k n))):=by simp[JF,ZI,h]
theorem l9 (b:Bool):JF (.bool b)=some (.v (.prim (.bool b))):=rfl
theorem eC (b:ByteArray):JF (.string b)=some (.v (.prim (.string b))):=rfl
theorem ZY:JF .nilFunc=some (.v (.prim .nilFunc)):=rfl
theorem YU:JF .nilIface=some (.v (.prim .nilIface)):=rfl
theorem qA (a:Option Addr):JF (.pointer a)=some (.v (.prim (.pointer a))):=rfl
theorem qB (a:Option Nat):JF (.map a)=some (.v (.prim (.map a))):=rfl
theorem zoh (x:DV):dW (.v x)=some x:=rfl
theorem zji (cs:List DV)(ns:List Nat):dW (.ag cs ns)=some (.agg cs):=rfl
theorem zdn (t:Nat)(els:List (List DV)):dW (.own t els)=some (.sl els):=rfl
theorem z64:GZ []=some []:=rfl
theorem zjj (x:DV)(r:List SV):GZ (.v x::r)=(GZ r).map (x::·):=by
 simp only[GZ,dW];cases GZ r <;> rfl
theorem z65 (t:Nat)(els:List (List DV))(r:List SV):GZ (.own t els::r)=(GZ r).map (.sl els::·):=by
 simp only[GZ,dW];cases GZ r <;> rfl
theorem zdo (els:List (List DV))(i:Nat):dW (.dp els i 0)=(els[i]?).map .ref:=rfl
theorem z66 (els:List (List DV))(i:Nat)(r:List SV):GZ (.dp els i 0::r)=((els[i]?).map DV.ref).bind fun y=>(GZ r).map (y::·):=by
 simp only[GZ,dW];cases els[i]? <;> cases GZ r <;> rfl
theorem z08 (els:List (List DV))(i o:Nat):BV (.dp els i o)=[.dp els i o]:=rfl
theorem z09 (k:Nat)(els:List (List DV))(i o:Nat)(r:List SV):GJ k (.dp els i o::r)=GJ (k+1) r:=rfl
theorem qC (cs:List DV):D6 (.agg cs)=cs:=rfl
theorem lA (v:Value):D6 (.prim v)=[.prim v]:=rfl
theorem z0a (e:List (List DV)):D6 (.sl e)=[.sl e]:=rfl
theorem qD (cs:List DV):D6 (.ref cs)=[.ref cs]:=rfl
theorem hO (t:TypeId)(x:DV):D6 (.iface t x)=[.iface t x]:=rfl
theorem z67 (x:DV):BV (.v x)=(D6 x).map .v:=rfl
theorem qE (t:Nat)(els:List (List DV)):BV (.own t els)=[.own t els]:=rfl
theorem qF (k off:Nat):BV (.loc k off)=[.loc k off]:=rfl
theorem z0b (cs:List DV)(ns:List Nat):BV (.ag cs ns)=xR ns 0 cs:=rfl
theorem zdp (ns:List Nat)(k:Nat):xR ns k []=[]:=rfl
def agB (b:Bool)(d:DV):SV:=if b then .own 0 [] else .v d
theorem zoi (d:DV):agB true d = .own 0 []:=rfl
theorem zoj (d:DV):agB false d = .v d:=rfl
theorem z68 (ns:List Nat)(k:Nat)(d:DV)(r:List DV):xR ns k (d::r)=agB (I7 k ns) d::xR ns (k+1) r:=rfl
theorem qG (k:Nat):GJ k []=[]:=rfl
theorem qH (k:Nat)(r:List SV):GJ k (.own 0 []::r)=k::GJ (k+1) r:=rfl
theorem lB (k t:Nat)(e:List (List DV))(r:List SV):GJ k (.own (t+1) e::r)=GJ (k+1) r:=by
 rw[GJ];rintro h1;cases h1
theorem z69 (k:Nat)(x:DV)(r:List SV):GJ k (.v x::r)=GJ (k+1) r:=rfl
theorem qI (k j o:Nat)(r:List SV):GJ k (.loc j o::r)=GJ (k+1) r:=rfl
theorem z0c (d:Nat)(cs:List DV)(ns:List Nat):GK d (.ag cs ns)=false:=rfl
theorem z0d (d:Nat)(cs:List DV)(ns:List Nat):LZ d (.ag cs ns)=false:=rfl
theorem zdq (e:List (List DV)):LJ (.v (.sl e))=some e:=rfl
theorem z6a (q:Option Addr)(n c:Nat):LJ (.v (.prim (.slice q n c)))=none:=rfl
theorem z6b (t:Nat)(e:List (List DV)):LJ (.own t e)=some e:=rfl
theorem z0e (v:Value):DV.isCell (.prim v)=true:=rfl
theorem zdr (e:List (List DV)):DV.isCell (.sl e)=true:=rfl
theorem z6c (cs:List DV):DV.isCell (.ref cs)=true:=rfl
theorem qJ (t:TypeId)(x:DV):DV.isCell (.iface t x)=true:=rfl
theorem zds (x:DV):SV.isCell (.v x)=x.isCell:=rfl
theorem z0f (k o:Nat):SV.isCell (.loc k o)=true:=rfl
theorem z6d (e:List (List DV))(k o:Nat):SV.isCell (.dp e k o)=true:=rfl
theorem z0g (t:Nat)(e:List (List DV)):SV.isCell (.own t e)=true:=rfl
theorem z0h:HE []=true:=rfl
theorem qK (x:DV)(r:List DV):HE (x::r)=(x.isCell&&HE r):=rfl
theorem qL:EV []=true:=rfl
theorem lC (x:SV)(r:List SV):EV (x::r)=(x.isCell&&EV r):=rfl
theorem z6e (d:Nat)(x:DV):GK d (.v x)=false:=rfl
theorem qM (d k o:Nat):GK d (.loc k o)=(k==d):=rfl
theorem z0i (d:Nat)(e:List (List DV))(k o:Nat):GK d (.dp e k o)=false:=rfl
theorem qN (d t:Nat)(e:List (List DV)):GK d (.own t e)=false:=rfl
theorem z6f (d:Nat)(x:DV):LZ d (.v x)=false:=rfl
theorem qO (d k o:Nat):LZ d (.loc k o)=false:=rfl
theorem z0j (d:Nat)(e:List (List DV))(k o:Nat):LZ d (.dp e k o)=false:=rfl
theorem qP (d t:Nat)(e:List (List DV)):LZ d (.own t e)=(t==d):=rfl
theorem qQ (d:Nat):ED d []=false:=rfl
theorem lD (d:Nat)(x:SV)(r:List SV):ED d (x::r)=(GK d x||ED d r):=rfl
theorem qR (d:Nat):N8 d []=false:=rfl
theorem lE (d:Nat)(x:SV)(r:List SV):N8 d (x::r)=(LZ d x||N8 d r):=rfl
theorem qS (d:Nat):DJ d []=true:=rfl
theorem lF (d n:Nat)(x:SV)(r:St):DJ d ((.slot n,.one x)::r)=(!GK d x&&DJ d r):=by simp[DJ]
theorem qT (d n:Nat)(cs:List SV)(r:St):DJ d ((.loc n,.row cs)::r)=(n != d&&!ED d cs&&DJ d r):=by simp[DJ]
theorem lG (d n:Nat)(cs:List SV)(r:St):DJ d ((.heap n,.row cs)::r)=(!ED d cs&&DJ d r):=by simp[DJ]
theorem z0k (d n:Nat)(q:Loop)(r:St):DJ d ((.heap n,.ob q)::r)=DJ d r:=by simp[DJ]
theorem qU (d n E l:Nat)(r:St):DJ d ((.tok n,.tk E l)::r)=DJ d r:=by simp[DJ]
theorem qV (d:Nat):DQ d []=true:=rfl
theorem lH (d n:Nat)(x:SV)(r:St):DQ d ((.slot n,.one x)::r)=(!LZ d x&&DQ d r):=by simp[DQ]
theorem qW (d n:Nat)(cs:List SV)(r:St):DQ d ((.loc n,.row cs)::r)=(!N8 d cs&&DQ d r):=by simp[DQ]
theorem lI (d n:Nat)(cs:List SV)(r:St):DQ d ((.heap n,.row cs)::r)=(!N8 d cs&&DQ d r):=by simp[DQ]
theorem qX (d n E l:Nat)(r:St):DQ d ((.tok n,.tk E l)::r)=(n != d&&DQ d r):=by simp[DQ]
theorem z6g (cs xs:List SV):put cs 0 xs=xs++cs.drop xs.length:=by simp[put]
theorem z6h (c:SV)(r xs:List SV)(n:Nat):put (c::r) (n+1) xs=c::put r n xs:=by simp[put]
def eD (X:Ctx)(Ad:List Nat)(ops:Array Oper)(l:List Oper)(K:St->Prop)(o:Oper)(s:St):Option (Prop × St)->Prop
 | some (c,s')=>c/\vc X Ad ops l s' K
 | none=>VL X ops (o::l) s K
theorem zjk (Ad:List Nat)(ops:Array Oper)(K:St->Prop):vc X Ad ops [] s K=K s:=by simp[vc]
theorem zok (Ad:List Nat)(ops:Array Oper)(l:List Oper)(K:St->Prop)(d:Option Tmp)(op:Op)(ty:TypeId)(pos:String)(af:Array Edge) :
  vc X Ad ops (⟨d,op,ty,pos,af,none⟩::l) s K=eD X Ad ops l K ⟨d,op,ty,pos,af,none⟩ s (BA X Ad s ⟨d,op,ty,pos,af,none⟩):=by
 simp only[vc,V8,eD];all_goals (cases BA X Ad s ⟨d,op,ty,pos,af,none⟩ <;> rfl)
theorem z6i (Ad:List Nat)(ops:Array Oper)(l:List Oper)(K:St->Prop)(o:Oper)(c:Prop)(s':St):eD X Ad ops l K o s (some (c,s'))=(c/\vc X Ad ops l s' K):=rfl
def gsl (ops:Array Oper)(j:Nat):Option Nat:=(ops[j]?).bind (·.dst)
def vcG (X:Ctx)(Ad:List Nat)(ops:Array Oper)(l:List Oper)(K:St->Prop)(o:Oper)(s:St)(want:Bool)(dj:Nat):Option SV->Prop
 | some (.v (.prim (.bool b)))=>
  dj<X.n/\(b=want->eD X Ad ops l K o (CV s (.slot dj) (.one (.v (.prim (.bool want))))) (BA X Ad (CV s (.slot dj) (.one (.v (.prim (.bool want))))) o)) /\
   (b = !want->match o.dst with
    | some d=>d<X.n/\vc X Ad ops l (CV (CV s (.slot dj) (.one (.v (.prim (.bool (!want)))))) (.slot d) dX) K
    | none=>False)
 | some (.v (.tup []))=>match o.dst with
  | some d=>d<X.n/\vc X Ad ops l (CV s (.slot d) dX) K
  | none=>False
 | _=>False
def zjm (X:Ctx)(Ad:List Nat)(ops:Array Oper)(l:List Oper)(K:St->Prop)(o:Oper)(s:St)(want:Bool):Option Nat->Prop
 | some dj=>vcG X Ad ops l K o s want dj (O6 (get s (.slot dj)))
 | none=>False
theorem z0l (Ad:List Nat)(ops:Array Oper)(l:List Oper)(K:St->Prop)(o:Oper)(w:Bool)(dj:Nat):zjm X Ad ops l K o s w (some dj)=vcG X Ad ops l K o s w dj (O6 (get s (.slot dj))):=rfl
theorem zol (Ad:List Nat)(ops:Array Oper)(l:List Oper)(K:St->Prop)(d:Option Tmp)(op:Op)(ty:TypeId)(pos:String)(af:Array Edge)(j:Nat)(w:Bool) :
  vc X Ad ops (⟨d,op,ty,pos,af,some (j,w)⟩::l) s K=zjm X Ad ops l K ⟨d,op,ty,pos,af,some (j,w)⟩ s w (gsl ops j):=by
 simp only[vc,V8,gsl];cases h:(ops[j]?).bind (·.dst) with
 | none=>rfl
 | some dj=>
  simp only[zjm];have e:get s (.slot dj)=get s (.slot dj):=rfl;generalize get s (.slot dj)=u at *;unfold vcG O6 eD;cases u with
  | none=>rfl
  | some u=>cases u with
   | row=>rfl
   | tk=>rfl
   | ob=>rfl
   | mp=>rfl
   | one x=>cases x with
    | v y=>cases y with
     | prim q=>cases q <;> first|rfl|(apply propext;constructor <;> (intro h;exact h))
     | tup cs=>cases cs <;> rfl
     | _=>rfl
    | _=>rfl
theorem z0m (Ad:List Nat)(ops:Array Oper)(l:List Oper)(K:St->Prop)(o:Oper)(dj:Nat) :
  vcG X Ad ops l K o s true dj (some (.v (.prim (.bool true))))=(dj<X.n/\eD X Ad ops l K o (CV s (.slot dj) (.one (.v (.prim (.bool true))))) (BA X Ad (CV s (.slot dj) (.one (.v (.prim (.bool true))))) o)):=by
 simp[vcG]
theorem z0n (Ad:List Nat)(ops:Array Oper)(l:List Oper)(K:St->Prop)(o:Oper)(dj:Nat) :
  vcG X Ad ops l K o s false dj (some (.v (.prim (.bool false))))=(dj<X.n/\eD X Ad ops l K o (CV s (.slot dj) (.one (.v (.prim (.bool false))))) (BA X Ad (CV s (.slot dj) (.one (.v (.prim (.bool false))))) o)):=by
 simp[vcG]
theorem z6j (Ad:List Nat)(ops:Array Oper)(l:List Oper)(K:St->Prop)(d:Tmp)(op:Op)(ty:TypeId)(pos:String)(af:Array Edge)(gd:Option (Nat × Bool))(dj:Nat) :
  vcG X Ad ops l K ⟨some d,op,ty,pos,af,gd⟩ s true dj (some (.v (.prim (.bool false))))=(dj<X.n/\d<X.n/\vc X Ad ops l (CV (CV s (.slot dj) (.one (.v (.prim (.bool false))))) (.slot d) dX) K):=by
 simp[vcG]
theorem z6k (Ad:List Nat)(ops:Array Oper)(l:List Oper)(K:St->Prop)(d:Tmp)(op:Op)(ty:TypeId)(pos:String)(af:Array Edge)(gd:Option (Nat × Bool))(dj:Nat) :
  vcG X Ad ops l K ⟨some d,op,ty,pos,af,gd⟩ s false dj (some (.v (.prim (.bool true))))=(dj<X.n/\d<X.n/\vc X Ad ops l (CV (CV s (.slot dj) (.one (.v (.prim (.bool true))))) (.slot d) dX) K):=by
 simp[vcG]
theorem zjn (Ad:List Nat)(ops:Array Oper)(l:List Oper)(K:St->Prop)(d:Tmp)(op:Op)(ty:TypeId)(pos:String)(af:Array Edge)(gd:Option (Nat × Bool))(w:Bool)(dj:Nat) :
  vcG X Ad ops l K ⟨some d,op,ty,pos,af,gd⟩ s w dj (some (.v (.tup [])))=(d<X.n/\vc X Ad ops l (CV s (.slot d) dX) K):=rfl
def NC (b:Bool)(r:Option (Prop × St)):Option (Prop × St):=if b then none else r
theorem z0o (r:Option (Prop × St)):NC false r=r:=rfl
theorem z0p (d:Nat)(c:Prop)(y:SV):IK X s (some d) (some (c,y))=some (c/\d<X.n,CV s (.slot d) (.one y)):=rfl
theorem z0q (c:Prop)(y:SV):IK X s none (some (c,y))=some (c,s):=rfl
def tru:Option SV->Option (Prop × SV)
 | some y=>some (True,y)
 | none=>none
theorem z6l (y:SV):tru (some y)=some (True,y):=rfl
theorem Z7 (o:Option SV):o.map (True,·)=tru o:=by cases o <;> rfl
def z6m (c x y:Option SV):Option (Prop × SV):=
 match c with
 | some (.v (.prim (.bool true)))=>tru x
 | some (.v (.prim (.bool false)))=>tru y
 | _=>none
theorem zdu (x y:Option SV):z6m (some (.v (.prim (.bool true)))) x y=tru x:=rfl
theorem zdv (x y:Option SV):z6m (some (.v (.prim (.bool false)))) x y=tru y:=rfl
def qY (P:Program)(op:BinOp)(t:TypeId)(x y:Option SV):Option (Prop × SV):=
 match x,y with
 | some (.v (.prim (.int k a))),some (.v (.prim (.int k' b)))=>if k=k' then MD op k a b else none
 | some (.v (.prim (.bool a))),some (.v (.prim (.bool b)))=>
  if xQ P t then
   match op with
   | .eql=>some (True,.v (.prim (.bool (a==b))))
   | .neq=>some (True,.v (.prim (.bool (!(a==b)))))
   | _=>none
  else none
 | some (.v (.ref _)),some (.v (.prim (.pointer none)))=>if eB P t then kS op false else none
 | some (.v (.prim (.pointer none))),some (.v (.prim (.pointer none)))=>if eB P t then kS op true else none
 | _,_=>none
theorem z0r {P:Program}{t:TypeId}(h:eB P t=true)(cs:List DV):qY P .neq t (some (.v (.ref cs))) (some (.v (.prim (.pointer none))))=some (True,.v (.prim (.bool true))):=by simp[qY,h,kS]
theorem z0s {P:Program}{t:TypeId}(h:eB P t=true):qY P .neq t (some (.v (.prim (.pointer none)))) (some (.v (.prim (.pointer none))))=some (True,.v (.prim (.bool false))):=by simp[qY,h,kS]
theorem z6n (P:Program)(op:BinOp)(t:TypeId)(k:IntKind)(a b:Int):qY P op t (some (.v (.prim (.int k a)))) (some (.v (.prim (.int k b))))=MD op k a b:=by simp[qY]
theorem z0t (k:IntKind)(a b:Int):MD .add k a b=some (CM k (a+b),.v (.prim (.int k (a+b)))):=rfl
theorem z0u (k:IntKind)(a b:Int):MD .sub k a b=some (CM k (a - b),.v (.prim (.int k (a - b)))):=rfl
theorem z0v (k:IntKind)(a b:Int):MD .mul k a b=some (CM k (a * b),.v (.prim (.int k (a * b)))):=rfl
theorem z0w (k:IntKind)(a b:Int):MD .rem k a b=some (b≠0/\CM k (a.tmod b),.v (.prim (.int k (a.tmod b)))):=rfl
theorem z0x (k:IntKind)(a b:Int):MD .quo k a b=some (b≠0/\CM k (a.tdiv b),.v (.prim (.int k (a.tdiv b)))):=rfl
theorem z0y (k:IntKind)(a b:Int):MD .eql k a b=some (True,.v (.prim (.bool (decide (a=b))))):=rfl
theorem z0z (k:IntKind)(a b:Int):MD .neq k a b=some (True,.v (.prim (.bool (!decide (a=b))))):=rfl
theorem z1a (k:IntKind)(a b:Int):MD .lss k a b=some (True,.v (.prim (.bool (decide (a<b))))):=rfl
theorem z1b (k:IntKind)(a b:Int):MD .leq k a b=some (True,.v (.prim (.bool (decide (a<=b))))):=rfl
theorem z1c (k:IntKind)(a b:Int):MD .gtr k a b=some (True,.v (.prim (.bool (decide (b<a))))):=rfl
theorem z1d (k:IntKind)(a b:Int):MD .geq k a b=some (True,.v (.prim (.bool (decide (b<=a))))):=rfl
def unV (op:UnOp)(x:Option SV):Option (Prop × SV):=
 match op,x with
 | .not,some (.v (.prim (.bool b)))=>some (True,.v (.prim (.bool (!b))))
 | .neg,some (.v (.prim (.int k n)))=>some (CM k (0 - n),.v (.prim (.int k (0 - n))))
 | _,_=>none
theorem zdw (b:Bool):unV .not (some (.v (.prim (.bool b))))=some (True,.v (.prim (.bool (!b)))):=rfl
theorem zdx (k:IntKind)(n:Int):unV .neg (some (.v (.prim (.int k n))))=some (CM k (0 - n),.v (.prim (.int k (0 - n)))):=rfl
def exC (o:Option DV):Option (Prop × SV):=o.map fun c=>(True,.v c)
theorem z6o (c:DV):exC (some c)=some (True,.v c):=rfl
def exV (x:Option SV)(i:Nat):Option (Prop × SV):=
 match x with
 | some (.v (.tup cs))=>exC cs[i]?
 | _=>none
theorem z6p (cs:List DV)(i:Nat):exV (some (.v (.tup cs))) i=exC cs[i]?:=rfl
def faV (f:Option (Bool × Nat × Nat))(x:Option SV):Option (Prop × SV):=
 match f,x with
 | some (_,Bs,_),some (.loc k off)=>some (True,.loc k (off+Bs))
 | some (_,Bs,_),some (.dp els i off)=>some (True,.dp els i (off+Bs))
 | some (_,Bs,_),some (.v (.prim (.pointer (some ⟨b,off,none⟩))))=>some (True,.v (.prim (.pointer (some ⟨b,off+Bs,none⟩))))
 | some (_,Bs,_),some (.v (.ref cs))=>some (True,.dp [cs] 0 Bs)
 | _,_=>none
theorem zdy (b:Bool)(n Bs:Nat)(cs:List DV):faV (some (b,Bs,n)) (some (.v (.ref cs)))=some (True,.dp [cs] 0 Bs):=rfl
theorem zdz (b:Bool)(n Bs k off:Nat):faV (some (b,Bs,n)) (some (.loc k off))=some (True,.loc k (off+Bs)):=rfl
theorem zjo (b:Bool)(n Bs i off:Nat)(els:List (List DV)):faV (some (b,Bs,n)) (some (.dp els i off))=some (True,.dp els i (off+Bs)):=rfl
theorem ze0 (b:Bool)(n Bs k off:Nat):faV (some (b,Bs,n)) (some (.v (.prim (.pointer (some ⟨k,off,none⟩)))))=some (True,.v (.prim (.pointer (some ⟨k,off+Bs,none⟩)))):=rfl
def fdC (y:DV)(o:Option DV):Option (Prop × SV):=o.map fun c=>(y.isAgg=true,.v c)
theorem z6q (y c:DV):fdC y (some c)=some (y.isAgg=true,.v c):=rfl
def fdV (f:Option (Bool × Nat × Nat))(x:Option SV):Option (Prop × SV):=
 match f,x with
 | some (agg,off,n),some (.v y)=>fdC y (ME (D6 y) agg off n)
 | _,_=>none
theorem z6r (agg:Bool)(off n:Nat)(y:DV):fdV (some (agg,off,n)) (some (.v y))=fdC y (ME (D6 y) agg off n):=rfl
theorem z1e (cs:List DV)(off n:Nat):ME cs false off n=cs[off]?:=rfl
def rdA (n:Nat)(ds:List DV):Option DV:=if ds.length=n then some (.agg ds) else none
theorem z6s {n:Nat}{ds:List DV}(h:ds.length=n):rdA n ds=some (.agg ds):=by simp[rdA,h]
theorem z1f (cs:List DV)(off n:Nat):ME cs true off n=rdA n ((cs.drop off).take n):=rfl
theorem z1g (cs:List DV):DV.isAgg (.agg cs)=true:=rfl
def rdS (n:Nat):Option (List DV)->Option SV
 | some ds=>if ds.length=n then some (.v (.agg ds)) else none
 | none=>none
theorem z6t {n:Nat}{ds:List DV}(h:ds.length=n):rdS n (some ds)=some (.v (.agg ds)):=by simp[rdS,h]
theorem lJ (cs:List SV)(off n:Nat):MJ cs false off n=cs[off]?:=rfl
theorem lK (cs:List SV)(off n:Nat):MJ cs true off n=rdS n (GZ ((cs.drop off).take n)):=by
 simp only[MJ,if_true,rdS];cases GZ ((cs.drop off).take n) <;> rfl
def ZZ (lay:Option (Bool × Nat))(r:Option LV)(off:Nat):Option SV:=
 match lay,r with
 | some (agg,n),some (.row cs)=>MJ cs agg off n
 | _,_=>none
theorem qZ (agg:Bool)(n off:Nat)(cs:List SV):ZZ (some (agg,n)) (some (.row cs)) off=MJ cs agg off n:=rfl
def rA (lay:Option (Bool × Nat))(e:Option (List DV))(off:Nat):Option SV:=
 match lay,e with
 | some (agg,n),some e=>(ME e agg off n).map .v
 | _,_=>none
theorem z1h (agg:Bool)(n off:Nat)(e:List DV):rA (some (agg,n)) (some e) off=(ME e agg off n).map .v:=rfl
def ldV (P:Program)(g:Rd)(t:TypeId)(x:Option SV):Option SV:=
 match x with
 | some (.loc k off)=>ZZ (E9 P t) (g (.loc k)) off
 | some (.dp els i off)=>rA (E9 P t) els[i]? off
 | some (.v (.prim (.pointer (some ⟨b,off,none⟩))))=>ZZ (E9 P t) (g (.heap b)) off
 | some (.v (.ref cs))=>rA (E9 P t) (some cs) 0
 | _=>none
theorem z6v (t:TypeId)(y:SV):ldV X.P g t (some y)=loadAt X g t y:=by
 cases y with
 | loc k off=>
  simp only[ldV,ZZ,loadAt];cases E9 X.P t <;> cases g (.loc k) <;> rfl
 | dp els i off=>
  simp only[ldV,rA,loadAt];cases E9 X.P t <;> cases els[i]? <;> rfl
 | own t els=>rfl
 | ag cs ns=>rfl
 | v x=>cases x with
  | prim v=>cases v with
   | pointer p=>cases p with
    | none=>rfl
    | some a=>obtain⟨b,o,sp⟩:=a;cases sp with
     | none=>
      simp only[ldV,ZZ,loadAt];cases E9 X.P t <;> cases g (.heap b) <;> rfl
     | some _=>rfl
   | _=>rfl
  | ref cs=>
   simp only[ldV,rA,loadAt];cases E9 X.P t <;> rfl
  | _=>rfl
theorem ze1 (P:Program)(t:Nat)(cs:List DV):ldV P g t (some (.v (.ref cs)))=rA (E9 P t) (some cs) 0:=rfl
theorem ze2 (P:Program)(t k off:Nat):ldV P g t (some (.loc k off))=ZZ (E9 P t) (g (.loc k)) off:=rfl
theorem zjp (P:Program)(t i off:Nat)(els:List (List DV)):ldV P g t (some (.dp els i off))=rA (E9 P t) els[i]? off:=rfl
theorem ze3 (P:Program)(t b off:Nat):ldV P g t (some (.v (.prim (.pointer (some ⟨b,off,none⟩)))))=ZZ (E9 P t) (g (.heap b)) off:=rfl
def ixS (E:Nat)(els:List (List DV))(n:Int):Option (List DV)->Option (Prop × SV)
 | some e=>some (0<=n/\e.length=E,.dp els n.toNat 0)
 | none=>none
theorem z6w (E:Nat)(els:List (List DV))(n:Int)(e:List DV):ixS E els n (some e)=some (0<=n/\e.length=E,.dp els n.toNat 0):=rfl
def ixA (len E j:Nat)(els:List (List DV))(n:Int):Option (List DV)->Option (Prop × SV)
 | some e=>some (0<=n/\n<len/\1<len/\e.length=E,.dp els (j+n.toNat) 0)
 | none=>none
theorem z6x (len E j:Nat)(els:List (List DV))(n:Int)(e:List DV):ixA len E j els n (some e)=some (0<=n/\n<len/\1<len/\e.length=E,.dp els (j+n.toNat) 0):=rfl
def ixV (el:Option Nat)(ar:Option (Nat × Nat))(x i:Option SV):Option (Prop × SV):=
 match x,i with
 | some y,some (.v (.prim (.int _ n)))=>
  match el,LJ y with
  | some E,some els=>ixS E els n els[n.toNat]?
  | _,_=>match ar,y with
   | some (len,E),.loc k off=>some (0<=n/\n<len/\1<len,.loc k (off+n.toNat * E))
   | some (len,E),.dp els j 0=>ixA len E j els n els[j+n.toNat]?
   | some (len,E),.dp els j (off+1)=>some (0<=n/\n<len/\1<len,.dp els j (off+1+n.toNat * E))
   | some (len,E),.v (.prim (.pointer (some ⟨b,off,none⟩)))=>some (0<=n/\n<len/\1<len,.v (.prim (.pointer (some ⟨b,off+n.toNat * E,none⟩))))
   | _,.v (.prim (.slice (some ⟨b,off,none⟩) len _))=>match el with
    | some E=>some (0<=n/\n<len,.v (.prim (.pointer (some ⟨b,off+n.toNat * E,none⟩))))
    | none=>none
   | _,_=>none
 | _,_=>none
theorem zon (E:Nat)(ar:Option (Nat × Nat))(els:List (List DV))(k:IntKind)(n:Int):ixV (some E) ar (some (.v (.sl els))) (some (.v (.prim (.int k n))))=ixS E els n els[n.toNat]?:=rfl
theorem ze4 (E:Nat)(ar:Option (Nat × Nat))(t:Nat)(els:List (List DV))(k:IntKind)(n:Int):ixV (some E) ar (some (.own t els)) (some (.v (.prim (.int k n))))=ixS E els n els[n.toNat]?:=rfl
theorem ze5 (len E k off:Nat)(kk:IntKind)(n:Int):ixV none (some (len,E)) (some (.loc k off)) (some (.v (.prim (.int kk n))))=some (0<=n/\n<len/\1<len,.loc k (off+n.toNat * E)):=rfl
theorem ze6 (len E b off:Nat)(kk:IntKind)(n:Int):ixV none (some (len,E)) (some (.v (.prim (.pointer (some ⟨b,off,none⟩))))) (some (.v (.prim (.int kk n))))=some (0<=n/\n<len/\1<len,.v (.prim (.pointer (some ⟨b,off+n.toNat * E,none⟩)))):=rfl
theorem ze7 (E:Nat)(ar:Option (Nat × Nat))(b off len cap:Nat)(kk:IntKind)(n:Int):ixV (some E) ar (some (.v (.prim (.slice (some ⟨b,off,none⟩) len cap)))) (some (.v (.prim (.int kk n))))=some (0<=n/\n<len,.v (.prim (.pointer (some ⟨b,off+n.toNat * E,none⟩)))):=by cases ar <;> rfl
theorem ze8 (len E j:Nat)(els:List (List DV))(kk:IntKind)(n:Int):ixV none (some (len,E)) (some (.dp els j 2)) (some (.v (.prim (.int kk n))))=some (0<=n/\n<len/\1<len,.dp els j (2+n.toNat * E)):=rfl
theorem zjq (len E j:Nat)(els:List (List DV))(kk:IntKind)(n:Int):ixV none (some (len,E)) (some (.dp els j 0)) (some (.v (.prim (.int kk n))))=ixA len E j els n els[j+n.toNat]?:=rfl
def blC (cs:List SV):Option (List DV)->Option (Prop × SV)
 | some ds=>if HE ds then some (True,.ag ds (GJ 0 cs)) else none
 | none=>none
theorem z6y {cs:List SV}{ds:List DV}(h:HE ds=true):blC cs (some ds)=some (True,.ag ds (GJ 0 cs)):=by simp[blC,h]
def blD:Option (List SV)->Option (Prop × SV)
 | some cs=>blC cs (GZ cs)
 | none=>none
theorem z6z (cs:List SV):blD (some cs)=blC cs (GZ cs):=rfl
def blV (X:Ctx)(g:Rd)(z:Option (List SV))(pl:Option (List (Nat × Nat)))(parts:List (Nat × Operand)):Option (Prop × SV):=
 match z,pl with
 | some z,some pl=>blD (TK pl X g z parts)
 | _,_=>none
theorem z70 (z:List SV)(pl:List (Nat × Nat))(parts:List (Nat × Operand)):blV X g (some z) (some pl) parts=blD (TK pl X g z parts):=rfl
theorem z1i (pl:List (Nat × Nat))(cells:List SV):TK pl X g cells []=some cells:=rfl
def z71 (pl:List (Nat × Nat))(X:Ctx)(g:Rd)(cells:List SV)(rest:List (Nat × Operand))(p:Option (Nat × Nat))(y:Option SV):Option (List SV):=
 match p,y with
 | some (off,size),some y=>if (BV y).length=size/\off+size<=cells.length then TK pl X g (put cells off (BV y)) rest else none
 | _,_=>none
theorem rB (pl:List (Nat × Nat))(cells:List SV)(i:Nat)(x:Operand)(rest:List (Nat × Operand)):TK pl X g cells ((i,x)::rest)=z71 pl X g cells rest pl[i]? (D4 X g x):=rfl
theorem rC {pl:List (Nat × Nat)}{cells:List SV}{rest:List (Nat × Operand)}{off size:Nat}{y:SV}(h:(BV y).length=size/\off+size<=cells.length) :
  z71 pl X g cells rest (some (off,size)) (some y)=TK pl X g (put cells off (BV y)) rest:=by simp[z71,h]
def ifV (b:Bool)(t:TypeId):Option DV->Option (Prop × SV)
 | some y=>if b then some (True,.v (.iface t y)) else none
 | none=>none
theorem z72 (t:TypeId)(y:DV):ifV true t (some y)=some (True,.v (.iface t y)):=rfl
def ncV (x:Option SV):Option (Prop × SV):=
 match x with
 | some (.loc k off)=>some (True,.loc k off)
 | some (.dp els i off)=>some (True,.dp els i off)
 | some (.v (.prim (.pointer (some a))))=>some (True,.v (.prim (.pointer (some a))))
 | some (.v (.prim (.func (.func f) x y)))=>some (True,.v (.prim (.func (.func f) x y)))
 | some (.v (.ref cs))=>some (True,.v (.ref cs))
 | _=>none
theorem ze9 (cs:List DV):ncV (some (.v (.ref cs)))=some (True,.v (.ref cs)):=rfl
theorem zjr (a:TypeId)(z:Option Value)(y:DV):taV true a false z (some (.v (.iface a y)))=some (True,.v y):=by simp[taV]
theorem zjs (a:TypeId)(z:Option Value)(y:DV):taV true a true z (some (.v (.iface a y)))=some (True,.v (.tup [y,.prim (.bool true)])):=by simp[taV]
theorem zea {t a:Nat}(h:(t==a)=false)(z:Value)(y:DV):taV true a true (some z) (some (.v (.iface t y)))=some (True,.v (.tup [.prim z,.prim (.bool false)])):=by
 have h:t≠a:=by simpa using h
 simp[taV,h]
theorem zeb (k off:Nat):ncV (some (.loc k off))=some (True,.loc k off):=rfl
theorem zjt (els:List (List DV))(k off:Nat):ncV (some (.dp els k off))=some (True,.dp els k off):=rfl
theorem zec (a:Addr):ncV (some (.v (.prim (.pointer (some a)))))=some (True,.v (.prim (.pointer (some a)))):=rfl
theorem z73 (f:Nat)(x y:Array Value):ncV (some (.v (.prim (.func (.func f) x y))))=some (True,.v (.prim (.func (.func f) x y))):=rfl
def cvV (x:Option SV)(a b:Option IntKind):Option (Prop × SV):=
 match x,a,b with
 | some (.v (.prim (.int _ n))),some _,some k=>some (CM k n,.v (.prim (.int k n)))
 | _,_,_=>none
theorem z74 (k0 a k:IntKind)(n:Int):cvV (some (.v (.prim (.int k0 n)))) (some a) (some k)=some (CM k n,.v (.prim (.int k n))):=rfl
def pvK (x:Option SV)(r:Option (List Value)):Option (List Value):=
 match x,r with
 | some (.v (.prim v)),some vs=>some (v::vs)
 | _,_=>none
theorem z75 (v:Value)(vs:List Value):pvK (some (.v (.prim v))) (some vs)=some (v::vs):=rfl
theorem z76:ZK X g []=some []:=rfl
theorem z1j (x:Operand)(r:List Operand):ZK X g (x::r)=pvK (D4 X g x) (ZK X g r):=by
 simp only[ZK];rfl
def mfV (fn:Fn)(x y:Option (List Value)):Option (Prop × SV):=
 match x,y with
 | some fi,some ca=>some (True,.v (.prim (.func fn fi.toArray ca.toArray)))
 | _,_=>none
theorem z77 (fn:Fn)(fi ca:List Value):mfV fn (some fi) (some ca)=some (True,.v (.prim (.func fn fi.toArray ca.toArray))):=rfl
def bdI (d:Nat):Option SV->Option Int
 | some (.v (.prim (.int _ n)))=>some n
 | _=>none
theorem z78 (d:Nat)(k:IntKind)(n:Int):bdI d (some (.v (.prim (.int k n))))=some n:=rfl
theorem rD (d:Nat):EZ X g d none=some (d:Int):=rfl
theorem rE (d:Nat)(x:Operand):EZ X g d (some x)=bdI d (D4 X g x):=by
 unfold EZ bdI;rfl
def slC (E:Nat)(els:List (List DV))(l h:Option Int):Option (Prop × SV):=
 match l,h with
 | some l,some h=>some (0<=l/\l<=h/\h<=els.length/\∀e∈els,e.length=E,.v (.sl ((els.take h.toNat).drop l.toNat)))
 | _,_=>none
theorem z79 (E:Nat)(els:List (List DV))(l h:Int):slC E els (some l) (some h)=some (0<=l/\l<=h/\h<=els.length/\∀e∈els,e.length=E,.v (.sl ((els.take h.toNat).drop l.toNat))):=rfl
def slV (X:Ctx)(g:Rd)(el:Option Nat)(x:Option (List (List DV)))(y:Option SV)(lo hi:Option Operand):Option (Prop × SV):=
 match el,x with
 | some E,some els=>slC E els (EZ X g 0 lo) (EZ X g els.length hi)
 | _,_=>match el,y,EZ X g 0 lo with
  | some _,some (.v (.prim (.slice (some ⟨b,o,none⟩) n cap))),some l=>match EZ X g n hi with
   | some h=>some (l=0/\0<=h/\h<=cap,.v (.prim (.slice (some ⟨b,o,none⟩) h.toNat cap)))
   | none=>none
  | _,_,_=>none
theorem z7a (E:Nat)(els:List (List DV))(y:Option SV)(lo hi:Option Operand):slV X g (some E) (some els) y lo hi=slC E els (EZ X g 0 lo) (EZ X g els.length hi):=rfl
def slR (b o cap:Nat)(l h:Option Int):Option (Prop × SV):=
 match l,h with
 | some l,some h=>some (l=0/\0<=h/\h<=cap,.v (.prim (.slice (some ⟨b,o,none⟩) h.toNat cap)))
 | _,_=>none
theorem z7b (b o cap:Nat)(l h:Int):slR b o cap (some l) (some h)=some (l=0/\0<=h/\h<=cap,.v (.prim (.slice (some ⟨b,o,none⟩) h.toNat cap))):=rfl
theorem zed (E b o n cap:Nat)(lo hi:Option Operand):slV X g (some E) none (some (.v (.prim (.slice (some ⟨b,o,none⟩) n cap)))) lo hi=slR b o cap (EZ X g 0 lo) (EZ X g n hi):=by
 simp only[slV];cases h1:EZ X g 0 lo with
 | none=>rfl
 | some l=>cases h2:EZ X g n hi <;> simp[slR,h2]
def lnV (el:Option Nat)(x:Option (List (List DV)))(y:Option SV):Option (Prop × SV):=
 match el,x with
 | some _,some els=>some (True,.v (.prim (.int .i64 els.length)))
 | _,_=>match el,y with
  | some _,some (.v (.prim (.slice _ n _)))=>some (n<=HL,.v (.prim (.int .i64 n)))
  | _,_=>none
theorem z7c (E:Nat)(els:List (List DV))(y:Option SV):lnV (some E) (some els) y=some (True,.v (.prim (.int .i64 els.length))):=rfl
theorem zee (E:Nat)(q:Option Addr)(n c:Nat):lnV (some E) none (some (.v (.prim (.slice q n c))))=some (n<=HL,.v (.prim (.int .i64 n))):=rfl
def mxV (x y:Option SV):Option (Prop × SV):=
 match x,y with
 | some (.v (.prim (.int k a))),some (.v (.prim (.int _ b)))=>some (CM k b,.v (.prim (.int k (if b > a then b else a))))
 | _,_=>none
theorem z7d (k k':IntKind)(a b:Int):mxV (some (.v (.prim (.int k a)))) (some (.v (.prim (.int k' b))))=some (CM k b,.v (.prim (.int k (max a b)))):=by
 simp only[mxV,uC,uD,true_and,SV.v.injEq,DV.prim.injEq,Value.int.injEq];split <;> omega
section
variable (Ad:List Nat)(d:Tmp)(ty:TypeId)(pos:String)(af:Array Edge)(gd:Option (Nat × Bool))
theorem zop (x:Operand):BA X Ad s ⟨some d,.move x,ty,pos,af,gd⟩=NC (I7 d Ad) (IK X s (some d) (tru (D4 X (get s) x))):=by simp only[BA,HB,M1,NC,Z7]
theorem zef (x:Operand):BA X Ad s ⟨some d,.assign x,ty,pos,af,gd⟩=NC (I7 d Ad) (IK X s (some d) (tru (D4 X (get s) x))):=by simp only[BA,HB,M1,NC,Z7]
theorem zoq (c x y:Operand):BA X Ad s ⟨some d,.pick c x y,ty,pos,af,gd⟩=NC (I7 d Ad) (IK X s (some d) (z6m (D4 X (get s) c) (D4 X (get s) x) (D4 X (get s) y))):=by
 simp only[BA,HB,M1,NC,Z7];rfl
theorem zrm (op:BinOp)(t yt:TypeId)(x y:Operand):BA X Ad s ⟨some d,.binOp op t x y yt,ty,pos,af,gd⟩=NC (I7 d Ad) (IK X s (some d) (qY X.P op t (D4 X (get s) x) (D4 X (get s) y))):=by
 simp only[BA,HB,M1,NC];rfl
theorem sUn (op:UnOp)(t:TypeId)(x:Operand):BA X Ad s ⟨some d,.unOp op t x,ty,pos,af,gd⟩=NC (I7 d Ad) (IK X s (some d) (unV op (D4 X (get s) x))):=by
 simp only[BA,HB,M1,NC];rfl
theorem z7e (x:Operand)(i:Nat):BA X Ad s ⟨some d,.extract x i,ty,pos,af,gd⟩=NC (I7 d Ad) (IK X s (some d) (exV (D4 X (get s) x) i)):=by
 simp only[BA,HB,M1,NC];rfl
theorem zju (t:TypeId)(x:Operand)(f:Nat):BA X Ad s ⟨some d,.field t x f,ty,pos,af,gd⟩=NC (I7 d Ad) (IK X s (some d) (fdV (BG X.P t f) (D4 X (get s) x))):=by
 simp only[BA,HB,M1,NC];rfl
theorem rF (t:TypeId)(x:Operand)(f:Nat):BA X Ad s ⟨some d,.fieldAddr t x f,ty,pos,af,gd⟩=NC (I7 d Ad) (IK X s (some d) (faV (BG X.P t f) (D4 X (get s) x))):=by
 simp only[BA,HB,M1,NC];rfl
theorem rG (t:TypeId)(x i:Operand):BA X Ad s ⟨some d,.indexAddr t x i,ty,pos,af,gd⟩=NC (I7 d Ad) (IK X s (some d) (ixV (DB X.P t) (kQ X.P t) (D4 X (get s) x) (D4 X (get s) i))):=by
 simp only[BA,HB,M1,NC];rfl
theorem zor (t:TypeId)(x:Operand):BA X Ad s ⟨some d,.load t x,ty,pos,af,gd⟩=NC (I7 d Ad) (IK X s (some d) (tru (ldV X.P (get s) t (D4 X (get s) x)))):=by
 simp only[BA,HB,M1,NC,Z7]
 congr 4
 cases D4 X (get s) x with
 | none=>rfl
 | some y=>exact (z6v t y).symm
theorem zjv (t:TypeId)(parts:Array (Nat × Operand)):BA X Ad s ⟨some d,.build t parts,ty,pos,af,gd⟩=NC (I7 d Ad) (IK X s (some d) (blV X (get s) (DK X.P t) (CU X.P t) parts.toList)):=by
 simp only[BA,HB,M1,NC];rfl
theorem rH (t:TypeId)(x:Operand):BA X Ad s ⟨some d,.makeInterface t x,ty,pos,af,gd⟩=NC (I7 d Ad) (IK X s (some d) (ifV (RE X.P t) t ((D4 X (get s) x).bind dW))):=by
 simp only[BA,HB,M1,NC];rfl
theorem z1k (x:Operand):BA X Ad s ⟨some d,.nilCheck x,ty,pos,af,gd⟩=NC (I7 d Ad) (IK X s (some d) (ncV (D4 X (get s) x))):=by
 simp only[BA,HB,M1,NC];rfl
theorem lL (x:Operand)(xt at':TypeId)(ok:Bool):BA X Ad s ⟨some d,.typeAssert x xt at' ok,ty,pos,af,gd⟩=NC (I7 d Ad) (IK X s (some d) (taV (RE X.P at') at' ok (ZL X.P at') (D4 X (get s) x))):=by
 simp only[BA,HB,M1,NC];rfl
theorem z1l (fn:Fn)(fi ca:Array Operand):BA X Ad s ⟨some d,.makeFunc fn fi ca,ty,pos,af,gd⟩=NC (I7 d Ad) (IK X s (some d) (mfV fn (ZK X (get s) fi.toList) (ZK X (get s) ca.toList))):=by
 simp only[BA,HB,M1,NC];rfl
theorem zjw (t:TypeId)(x:Operand)(lo hi:Option Operand):BA X Ad s ⟨some d,.slice t x lo hi none,ty,pos,af,gd⟩=NC (I7 d Ad) (IK X s (some d) (slV X (get s) (DB X.P t) ((D4 X (get s) x).bind LJ) (D4 X (get s) x) lo hi)):=by
 simp only[BA,HB,M1,NC];rfl
theorem zeg (t:TypeId)(x m:Operand)(lo hi:Option Operand):BA X Ad s ⟨some d,.slice t x lo hi (some m),ty,pos,af,gd⟩=NC (I7 d Ad) (P0 X s (some d) (DB X.P t) ((D4 X (get s) x).bind LJ) (EZ X (get s) 0 lo) (z03 X s x hi) (EZ X (get s) 0 (some m)) hi.isSome):=by
 simp only[BA,M1,NC];rfl
theorem zrn (t:TypeId)(x:Operand):BA X Ad s ⟨some d,.call { callee:=.builtin .len,args:=#[x],argTypes:=#[t] },ty,pos,af,gd⟩=NC (I7 d Ad) (IK X s (some d) (lnV (DB X.P t) ((D4 X (get s) x).bind LJ) (D4 X (get s) x))):=by
 simp only[BA,HB,M1,NC,CN,QT];rfl
theorem zro (ts:Array TypeId)(x y:Operand):BA X Ad s ⟨some d,.call { callee:=.builtin .max,args:=#[x,y],argTypes:=ts },ty,pos,af,gd⟩=NC (I7 d Ad) (IK X s (some d) (mxV (D4 X (get s) x) (D4 X (get s) y))):=by
 simp only[BA,HB,M1,NC,CN,QT];rfl
theorem zjx (t:TypeId):BA X Ad s ⟨some d,.alloc t,ty,pos,af,gd⟩=NC (I7 d Ad) (SP X s (some d) (DK X.P t)):=by simp only[BA,M1,NC];rfl
theorem zrp (t:TypeId)(x:Operand):BA X Ad s ⟨some d,.box t x,ty,pos,af,gd⟩=NC (I7 d Ad) (fF X s (some d) (D4 X (get s) x)):=by simp only[BA,M1,NC];rfl
theorem zjy (t:TypeId)(p x:Operand):BA X Ad s ⟨none,.store t p x,ty,pos,af,gd⟩=O5 s (E9 X.P t) (D4 X (get s) p) (D4 X (get s) x):=by simp only[BA,M1];rfl
def ltK (X:Ctx)(s:St)(d:Tmp)(len:Nat)(parts:List (Nat × Operand)):Option (Nat × Nat)->Option (Prop × St)
 | some (E,B)=>fG X s (some d) len (some (E,B)) (Jj1 X (get s) E 0 parts)
 | none=>none
theorem z7f (len E B:Nat)(parts:List (Nat × Operand)):ltK X s d len parts (some (E,B))=fG X s (some d) len (some (E,B)) (Jj1 X (get s) E 0 parts):=rfl
theorem lM (t len:Nat)(parts:Array (Nat × Operand)):BA X Ad s ⟨some d,.buildSlice t len parts,ty,pos,af,gd⟩=NC (I7 d Ad) (ltK X s d len parts.toList (DW X.P t)):=by
 simp only[BA,M1,NC,ltK];cases DW X.P t <;> rfl
theorem zeh (t t2:TypeId)(x y:Operand):BA X Ad s ⟨some d,.call { callee:=.builtin .append,args:=#[x,y],argTypes:=#[t,t2] },ty,pos,af,gd⟩ =
  NC (I7 d Ad) (OZ X s (some d) (DW X.P t) (DB X.P t2).isSome (D4 X (get s) x) ((D4 X (get s) y).bind LJ)):=by
 simp only[BA,M1,NC,CN];rfl
end
theorem hU {d:Nat}{cs:List SV}(h:(EV cs&&DJ d s&&!ED d cs)=true):SP X s (some d) (some cs)=some (d<X.n,CV (CV s (.slot d) (.one (.loc d 0))) (.loc d) (.row cs)):=by simp only[SP,h,if_true]
theorem rI {d:Nat}{y:SV}(h:(EV (BV y)&&DJ d s&&!GK d y)=true):fF X s (some d) (some y)=some (d<X.n,CV (CV s (.slot d) (.one (.loc d 0))) (.loc d) (.row (BV y))):=by simp only[fF,h,if_true]
def sts (s:St)(k off n:Nat)(xs:List SV):Option LV->Option (Prop × St)
 | some (.row cs)=>if EV xs then some (xs.length=n/\off+n<=cs.length,CV s (.loc k) (.row (put cs off xs))) else none
 | _=>none
theorem z7g {k off n:Nat}{xs cs:List SV}(h:EV xs=true):sts s k off n xs (some (.row cs))=some (xs.length=n/\off+n<=cs.length,CV s (.loc k) (.row (put cs off xs))):=by simp[sts,h]
theorem lN (k off n:Nat)(b:Bool)(y:SV):O5 s (some (b,n)) (some (.loc k off)) (some y)=sts s k off n (BV y) (get s (.loc k)):=by
 simp only[O5];rfl
def sth (s:St)(b off n:Nat)(xs:Option (List SV)):Option LV->Option (Prop × St)
 | some (.row cs)=>match xs with
  | some ys=>if EV ys then some (ys.length=n/\off+n<=cs.length,CV s (.heap b) (.row (put cs off ys))) else none
  | none=>none
 | _=>none
theorem z7h {b off n:Nat}{ys cs:List SV}(h:EV ys=true):sth s b off n (some ys) (some (.row cs))=some (ys.length=n/\off+n<=cs.length,CV s (.heap b) (.row (put cs off ys))):=by simp[sth,h]
theorem lO (b off n:Nat)(bb:Bool)(y:SV):O5 s (some (bb,n)) (some (.v (.prim (.pointer (some ⟨b,off,none⟩))))) (some y)=sth s b off n (WN (BV y)) (get s (.heap b)):=by
 simp only[O5];cases get s (.heap b) with
 | none=>rfl
 | some u=>cases u with
  | row cs=>cases WN (BV y) <;> rfl
  | _=>rfl
theorem z7i:WN []=some []:=rfl
theorem zjz (x:DV)(r:List SV):WN (.v x::r)=(WN r).map (SV.v x::·):=by
 simp only[WN,asV];cases WN r <;> rfl
theorem rJ (d len E B:Nat)(els:List (List DV)):fG X s (some d) len (some (E,B)) (some els)=some (d<X.n/\els.length=len/\len * E<=16777216/\len<=HL,CV s (.slot d) (.one (.v (.sl els)))):=rfl
theorem rK (E n:Nat):Jj1 X g E n []=some []:=rfl
def ltD (ds:Option (List DV))(E:Nat)(rest:Option (List (List DV))):Option (List (List DV)):=
 match ds with
 | some ds=>if ds.length=E then if HE ds then rest.map (ds::·) else none else none
 | none=>none
theorem z7j {ds:List DV}{E:Nat}(h:ds.length=E/\HE ds=true)(rest:Option (List (List DV))):ltD (some ds) E rest=rest.map (ds::·):=by simp[ltD,h.1,h.2]
theorem lP (E n:Nat)(x:Operand)(r:List (Nat × Operand)):Jj1 X g E n ((n,x)::r)=ltD (((D4 X g x).map BV).bind GZ) E (Jj1 X g E (n+1) r):=by
 simp only[Jj1,if_true,ltD];cases D4 X g x with
 | none=>rfl
 | some y=>
  simp only[Option.map_some,Option.bind_some];cases GZ (BV y) with
  | none=>rfl
  | some ds=>
   simp only;split
   ·split;· cases Jj1 X g E (n+1) r <;> rfl
    ·rfl
   ·rfl
theorem eE {d E B t:Nat}{els ys:List (List DV)}(h:(DQ d s&&d != 0)=true):OZ X s (some d) (some (E,B)) true (some (.own t els)) (some ys) =
  some (d<X.n/\(0<B/\B<=1024)/\MK (get s) t E els.length/\els.length+ys.length<=HL/\(∀e∈els,e.length=E)/\(∀e∈ys,e.length=E),
    CV (CV (OU s (.tok t)) (.slot d) (.one (.own d (els++ys)))) (.tok d) (.tk E (els.length+ys.length))):=by simp only[OZ,Bool.true_and,h,if_true]
theorem hZ (g:Rd)(E n:Nat):MK g 0 E n=True:=by simp[MK]
theorem iA {g:Rd}{t E n:Nat}(h:g (.tok t)=some (.tk E n)):MK g t E n=True:=by simp[MK,h]
theorem eF {d E:Nat}{els:List (List DV)}{l h k:Int}{b:Bool}(hb:(DQ d s&&d != 0&&b)=true):P0 X s (some d) (some E) (some els) (some l) (some h) (some k) b =
  some (d<X.n/\0<=l/\l<=h/\h<=els.length/\h=k/\(∀e∈els,e.length=E),CV (CV (OU s (.tok 0)) (.slot d) (.one (.own d ((els.take h.toNat).drop l.toNat)))) (.tok d) (.tk E (h.toNat - l.toNat))):=by simp only[P0,hb,if_true]
def hoK (X:Ctx)(s:St)(hi:Option Operand):Option (List (List DV))->Option Int
 | some els=>EZ X (get s) els.length hi
 | none=>none
theorem zei (x:Operand)(hi:Option Operand):z03 X s x hi=hoK X s hi ((D4 X (get s) x).bind LJ):=by
 unfold z03 hoK;cases (D4 X (get s) x).bind LJ <;> rfl
theorem z7k (hi:Option Operand)(els:List (List DV)):hoK X s hi (some els)=EZ X (get s) els.length hi:=rfl
theorem z1m:HP X g []=some []:=rfl
def edK (y:Option DV)(r:Option (List DV)):Option (List DV):=
 match y,r with
 | some y,some r=>some (y::r)
 | _,_=>none
theorem z7l (y:DV)(r:List DV):edK (some y) (some r)=some (y::r):=rfl
theorem rL (x:Operand)(r:List Operand):HP X g (x::r)=edK ((D4 X g x).bind dW) (HP X g r):=by
 simp only[HP,edK];cases (D4 X g x).bind dW <;> cases HP X g r <;> rfl
def roK:Option SV->Option DV
 | some x=>dW x
 | none=>none
theorem z7m (x:SV):roK (some x)=dW x:=rfl
theorem rM (t:Nat):PX X g (.tmp t)=roK (O6 (g (.slot t))):=by
 simp only[PX,O6,roK];cases g (.slot t) with
 | none=>rfl
 | some u=>cases u <;> rfl
theorem lQ (t ty:Nat):PX X g (.cell t ty)=roK (ldV X.P g ty (O6 (g (.slot t)))):=by
 simp only[PX,O6,roK];cases g (.slot t) with
 | none=>rfl
 | some u=>cases u with
  | one x=>
   simp only;rw[z6v];cases loadAt X g ty x <;> rfl
  | _=>rfl
theorem z7n:ZP X g []=some []:=rfl
theorem z1n (r:ResultVar)(l:List ResultVar):ZP X g (r::l)=edK (PX X g r) (ZP X g l):=by
 simp only[ZP,edK];cases PX X g r <;> cases ZP X g l <;> rfl
def rdK:Option (List DV)->Option DV
 | some [x]=>some x
 | some xs=>some (.tup xs)
 | none=>none
theorem zej (x:DV):rdK (some [x])=some x:=rfl
theorem zek (x y:DV)(r:List DV):rdK (some (x::y::r))=some (.tup (x::y::r)):=rfl
theorem zel:rdK (some [])=some (.tup []):=rfl
theorem zem (l:List ResultVar):YT X g l=rdK (ZP X g l):=by
 unfold YT rdK;rfl
theorem zen (σ:Nat->Nat)(x y:DV):R9 σ (.v x) (.v y)=(x=y):=rfl
theorem zeo (σ:Nat->Nat)(x:DV)(t:Nat)(e:List (List DV)):R9 σ (.v x) (.own t e)=(x = .sl e):=rfl
theorem zep (σ:Nat->Nat)(x:DV)(e:List DV)(n:List Nat):R9 σ (.v x) (.ag e n)=(x = .agg e):=rfl
theorem zeq (σ:Nat->Nat)(e e':List DV)(n n':List Nat):R9 σ (.ag e n) (.ag e' n')=(e=e'/\n=n'):=rfl
theorem zer (σ:Nat->Nat)(k o k' o':Nat):R9 σ (.loc k o) (.loc k' o')=(k=k'/\o=o'):=rfl
theorem zes (σ:Nat->Nat)(e e':List (List DV))(k o k' o':Nat):R9 σ (.dp e k o) (.dp e' k' o')=(e=e'/\k=k'/\o=o'):=rfl
theorem zet (σ:Nat->Nat)(t t':Nat)(e e':List (List DV)):R9 σ (.own t e) (.own t' e')=(σ t=t'/\e=e'):=rfl
theorem z1o (σ:Nat->Nat):KN σ [] []=True:=by simp[KN]
theorem rN (σ:Nat->Nat)(x y:SV)(r t:List SV):KN σ (x::r) (y::t)=(R9 σ x y/\KN σ r t):=by simp[KN]
theorem z7o (σ:Nat->Nat)(x y:SV):gZ σ (.one x) (some (.one y))=R9 σ x y:=rfl
theorem zeu (σ:Nat->Nat)(r q:List (Int × DV)):gZ σ (.mp r) (some (.mp q))=(r=q):=rfl
theorem zev (σ:Nat->Nat)(r q:Loop):gZ σ (.ob r) (some (.ob q))=(r=q):=rfl
theorem z7p (σ:Nat->Nat)(x y:List SV):gZ σ (.row x) (some (.row y))=KN σ x y:=rfl
theorem z1p (σ:Nat->Nat):K4 σ s []=True:=rfl
theorem rO (σ:Nat->Nat)(n:Nat)(v:LV)(r:St):K4 σ s ((.slot n,v)::r)=(gZ σ v (get s (.slot n))/\K4 σ s r):=by simp[K4,U9]
theorem z1q (σ:Nat->Nat)(n:Nat)(v:LV)(r:St):K4 σ s ((.loc n,v)::r)=(gZ σ v (get s (.loc n))/\K4 σ s r):=by simp[K4,U9]
theorem rP (σ:Nat->Nat)(n:Nat)(v:LV)(r:St):K4 σ s ((.heap n,v)::r)=(gZ σ v (get s (.heap n))/\K4 σ s r):=by simp[K4,U9]
def z1r (g:Rd)(t E n:Nat):Prop:=(t=0/\n=0)\/(t≠0/\g (.tok t)=some (.tk E n))
theorem z1s (σ:Nat->Nat)(t E n:Nat)(r:St):K4 σ s ((.tok t,.tk E n)::r)=(z1r (get s) (σ t) E n/\K4 σ s r):=by simp[K4,U9,z1r]
theorem z1t (E n:Nat):z1r g 0 E n=(n=0):=by simp[z1r]
theorem z1u (t E n:Nat):z1r g (t+1) E n=(g (.tok (t+1))=some (.tk E n)):=by simp[z1r]
theorem zew (n:Nat):WQ [] n=n:=rfl
theorem z7q (x y n:Nat)(r:List (Nat × Nat)):WQ ((x,y)::r) n=if n=x then y else WQ r n:=rfl
theorem rQ:HC []=[]:=rfl
theorem lR (n:Nat)(v:LV)(r:St):HC ((.slot n,v)::r)=HC r:=rfl
theorem rR (n:Nat)(v:LV)(r:St):HC ((.loc n,v)::r)=HC r:=rfl
theorem lS (n:Nat)(v:LV)(r:St):HC ((.heap n,v)::r)=HC r:=rfl
theorem rS (n:Nat)(v:LV)(r:St):HC ((.tok n,v)::r)=n::HC r:=rfl
theorem rT (σ:Nat->Nat):PZ σ []=True:=rfl
theorem lT (σ:Nat->Nat)(t:Nat)(r:List Nat):PZ σ (t::r)=((σ t=0\/∀t'∈r,t' = t\/σ t'≠σ t)/\PZ σ r):=rfl
theorem rU:BP g []=True:=by simp[BP]
theorem lU (b:Nat)(cs:List DV)(r:BU):BP g ((b,cs)::r)=(g (.heap b)=some (.row (cs.map SV.v))/\BP g r):=by
 simp only[BP,List.mem_cons,uD,eq_iff_iff];constructor
 ·intro h;exact⟨h b cs (.inl ⟨rfl,rfl⟩),fun b' Dh hm=>h b' Dh (.inr hm)⟩
 ·rintro⟨h1,h2⟩ b' Dh (⟨rfl,rfl⟩|hm);· exact h1
  ·exact h2 b' Dh hm
theorem z7r (args:List DV)(φ:BU):OY args φ=QX 0 args++D9 φ:=rfl
theorem z1v (n:Nat):QX n []=[]:=rfl
theorem rV (n:Nat)(x:DV)(r:List DV):QX n (x::r)=(.slot n,.one (.v x))::QX (n+1) r:=rfl
theorem rW:D9 []=[]:=rfl
theorem lV (b:Nat)(cs:List DV)(r:BU):D9 ((b,cs)::r)=(.heap b,.row (cs.map SV.v))::D9 r:=rfl
theorem lW:DP s []=s:=rfl
theorem iB (b:Nat)(cs:List DV)(r:BU):DP s ((b,cs)::r)=DP (OU s (.heap b)) r:=rfl
theorem lX:D7 s []=s:=rfl
theorem iC (b:Nat)(cs:List DV)(r:BU):D7 s ((b,cs)::r)=CV (D7 s r) (.heap b) (.row (cs.map SV.v)):=rfl
theorem lZ {Ad:List Nat}{ops:Array Oper}{l:List Oper}{K:St->Prop}{d:Tmp}{f:FuncId}{args:Array Operand}{Ct:Array TypeId}{ty:TypeId}{pos:String}{af:Array Edge}{P:Program}{gl:AF}(hP:X.P=P)(u7:X.gl=gl)
  {ds Gz:List DV} {φ Ae:BU} {r:DV} (hc:U8 P gl f Gz φ r Ae) (u8:HP X (get s) args.toList=some ds) (Fs:ds=Gz) (Bd:BP (get s) φ) (Ai:(φ.map (·.1)).Nodup) (Eb:d<X.n)
  (h:vc X Ad ops l (D7 (DP (CV s (.slot d) (.one (.v r))) φ) Ae) K) :
  eD X Ad ops l K ⟨some d,.call { callee:=.value (.func f),args:=args,argTypes:=Ct },ty,pos,af,none⟩ s (BA X Ad s ⟨some d,.call { callee:=.value (.func f),args:=args,argTypes:=Ct },ty,pos,af,none⟩):=by
 subst Fs;have e:BA X Ad s ⟨some d,.call { callee:=.value (.func f),args:=args,argTypes:=Ct },ty,pos,af,none⟩=none:=by
  simp only[BA,CN,HB,QT,IK];split <;> rfl
 rw[e];exact z5y (o:=⟨some d,.call { callee:=.value (.func f),args:=args,argTypes:=Ct },ty,pos,af,none⟩) rfl rfl u8 hP u7 hc Bd Ai rfl Eb h
end
attribute [go_sem] zdk z5z z04 zdl z60 z05 zjh z61 z06 pW zdm z07 z62 pX z63 pY pZ l9 eC ZY YU qA qB
attribute [go_sem] zdo z66 z08 z09 zji z0b zdp zoi zoj z68 qG qH lB z69 qI z0c z0d
attribute [go_sem] zoh zdn z64 zjj z65 qC lA z0a hO z67 qE qF zdq z6b z0e zdr qJ z0h qK qL lC
attribute [go_sem] z6e qM z0i qN z6f qO z0j qP qQ lD qR lE qS lF qT lG qU z0k qV lH qW lI qX
attribute [go_sem] z6g z6h zjk zok z6i zol z0l z0m z0n z6j z6k zjn z0o z0p z0q z6l zdu zdv z6n z0t z0u z0v z0w z0x z0y z0z z1a z1b z1c z1d
attribute [go_sem] ze1 ze8 zdw zdx z6o z6p zdz zjo ze0 z6q z6r z1e z6s z1f z1g z6t lJ lK qZ z1h ze2 zjp ze3 z6w z6x zon ze4 ze5 zjq ze6 ze7 z6a
attribute [go_sem] z6y z6z z70 z1i rB rC z72 zeb zjt zec z73 z74 z78 rD rE z79 z7a zed z7b z7c zee z7d
attribute [go_sem] zop zef zoq zrm sUn z7e zju rF rG zor zjv rH z1k z1l z75 z76 z1j z77 zjw zeg zrn zro zjx zrp zjy z7f lM zeh
attribute [go_sem] hU rI z7g lN z7h lO z7i zjz rJ rK z7j lP eE hZ iA eF zei z7k z1m z7l rL
attribute [go_sem] z7m rM lQ z7n z1n zej zek zel zem zen zep zeq zeo zer zes zet z1o rN z7o zev zeu z7p z1p rO z1q rP z1s z1t z1u zew z7q
attribute [go_sem] rQ lR rR lS rS rT lT rU lU z7r z1v rV rW lV lW iB lX iC
attribute [go_sem] z0r z0s zdy ze9 zjr zjs zea lL qD z6c
attribute [go_sem] zds z0f z6d z0g gsl MS
end
section
def pM (s1 s:St):Prop:=∀l v,get s1 l=some v->get s l=some v
theorem Rel.weaken {X:Ctx}{G:Gh}{s s1:St}{a:Act}{w:World}(R:Rel X G s a w)(h:pM s1 s):Rel X G s1 a w:=
 ⟨R.size,R.defers,R.ext,R.wf,R.nil,fun l v hl=>R.holds l v (h l v hl),fun l v l' v' b h1 h2=>R.sep l v l' v' b (h _ _ h1) (h _ _ h2),fun l v b h1=>R.own l v b (h _ _ h1),fun l v b o h1=>R.data l v b o (h _ _ h1)⟩
def Loc.eqB:Loc->Loc->Bool
 | .slot a,.slot b=>a==b
 | .loc a,.loc b=>a==b
 | .heap a,.heap b=>a==b
 | .tok a,.tok b=>a==b
 | _,_=>false
theorem Loc.eqB_iff (a b:Loc):Loc.eqB a b=true↔a=b:=by
 cases a <;> cases b <;> simp[Loc.eqB]
def z7s (l:Loc):List Loc->Bool
 | []=>false
 | x::r=>l.eqB x||z7s l r
theorem z7t (l:Loc)(r:List Loc):z7s l r=true↔l∈r:=by
 induction r with
 | nil=>simp[z7s]
 | cons x r ih=>simp[z7s,ih,Loc.eqB_iff]
def rX:List Loc->List Loc->Bool
 | [],_=>true
 | l::r,x=>!z7s l x&&rX r x
theorem P1 (x y:List Loc):rX x y=true↔∀l∈x,l∉y:=by
 induction x with
 | nil=>simp[rX]
 | cons l r ih=>
  simp only[rX,uH,Bool.not_eq_true',ih,List.mem_cons,forall_eq_or_imp];rw[<- Bool.not_eq_true,z7t]
def xS:UT->List Loc
 | []=>[]
 | (l,_)::r=>l::xS r
structure Ev where
 fp:List Loc
 e:UT
 nm:List Nat
def z7u (d:Nat):LV->Bool
 | .one x=>GK d x||LZ d x
 | .row cs=>ED d cs||N8 d cs
 | .tk _ _=>false
 | .ob _=>false
 | .mp _=>false
def xT (d:Nat):Loc->Bool
 | .loc k=>k==d
 | .tok k=>k==d
 | _=>false
def eG (d:Nat):UT->Bool
 | []=>false
 | (l,none)::r=>xT d l||eG d r
 | (l,some v)::r=>xT d l||z7u d v||eG d r
def KO (d:Nat)(s:St):Bool:=DJ d s&&DQ d s
def rY (p:Nat->Bool):List Nat->Bool
 | []=>true
 | x::r=>p x&&rY p r
theorem V9 (p:Nat->Bool)(l:List Nat):rY p l=true↔∀x∈l,p x=true:=by
 induction l with
 | nil=>simp[rY]
 | cons x r ih=>simp[rY,ih]
theorem z1w {e:UT}{l:Loc}(h:l∉xS e):e.says l=none:=by
 induction e with
 | nil=>rfl
 | cons p r ih=>
  obtain⟨m,v⟩:=p;simp only[xS,List.mem_cons,not_or]at h;simp only[UT.says,ih h.2];rw[if_neg (fun e=>h.1 e.symm)]
theorem z1x {e:UT}{l:Loc}(h:l∈xS e):∃x,e.says l=some x:=by
 induction e with
 | nil=>cases h
 | cons p r ih=>
  obtain⟨m,v⟩:=p;simp only[UT.says];cases hs:UT.says r l with
  | some x=>exact⟨x,rfl⟩
  | none=>
   simp only[xS,List.mem_cons]at h;rcases h with rfl|h;· exact⟨v,sS⟩
   ·obtain⟨x,hx⟩:=ih h;rw[hs]at hx;cases hx
theorem Q0 {e:UT}{s:St}{l:Loc}(h:l∉xS e):get (apply s e) l=get s l:=by rw[MR,z1w h];rfl
theorem fH {d:Nat}{s:St}(l:Loc)(h:KO d s=true):KO d (OU s l)=true:=by
 induction s with
 | nil=>exact h
 | cons p r ih=>
  obtain⟨m,v⟩:=p;simp only[KO,DJ,DQ,uH]at h ih ⊢;have:=ih ⟨h.1.2,h.2.2⟩;simp only[OU];split;· exact this
  ·simp only[DJ,DQ,uH];exact⟨⟨h.1.1,this.1⟩,⟨h.2.1,this.2⟩⟩
theorem RN {d:Nat}:∀{e:UT} {s:St},KO d s=true->eG d e=false->KO d (apply s e)=true
 | [],s,h,_=>h
 | (l,none)::r,s,h,hm=>by
  simp only[eG,Bool.or_eq_false_iff]at hm;show KO d (apply (OU s l) r)=true;exact RN (fH l h) hm.2
 | (l,some v)::r,s,h,hm=>by
  simp only[eG,Bool.or_eq_false_iff]at hm;show KO d (apply (CV s l v) r)=true;refine RN ?_ hm.2;have hd:=fH l h;simp only[CV,KO,DJ,DQ,uH]at hd ⊢;have h1:=hm.1.1;have h2:=hm.1.2;refine⟨⟨⟨?_,?_⟩,hd.1⟩,⟨⟨?_,?_⟩,hd.2⟩⟩;· cases l <;> simp_all[xT]
  ·cases v <;> simp_all[z7u]
  ·cases l <;> simp_all[xT]
  ·cases v <;> simp_all[z7u]
def WK (L:Nat->Bool):Nat->List Ev->St->St
 | _,[],s=>s
 | k,ev::r,s=>WK L (k+1) r (if L k then apply s ev.e else s)
theorem LM {L L':Nat->Bool}{l:Loc}:∀(evs:List Ev) (k:Nat) (s s':St),get s l=get s' l->(∀(j:Nat) (ev:Ev),evs[j]? = some ev->L (k+j)≠L' (k+j)->l∉xS ev.e) ->
  get (WK L k evs s) l=get (WK L' k evs s') l
 | [],_,_,_,h,_=>h
 | ev::r,k,s,s',h,hd=>by
  simp only[WK];refine LM r (k+1) _ _ ?_ fun j Fz hj Ba=>hd (j+1) Fz (by simpa using hj) (by rw[show k+(j+1)=k+1+j from oO];exact Ba);by_cases hL:L k=L' k
  ·rw[hL];split;· rw[MR,MR,h]
   ·exact h
  ·have hn:=hd 0 ev rfl (by simpa using hL);split <;> split <;> simp only[Q0 hn,h]
theorem RO {L:Nat->Bool}:∀(evs:List Ev) (k:Nat) (s:St),(∀j,k<=j->L j=false)->WK L k evs s=s
 | [],_,_,_=>rfl
 | ev::r,k,s,h=>by
  simp only[WK,h k (Nat.le_refl _),Bool.false_eq_true,if_false];exact RO r (k+1) s fun j hj=>h j oO
theorem WR {L:Nat->Bool}{d:Nat}:∀(evs:List Ev) (k:Nat) (s:St),KO d s=true->(∀(j:Nat) (ev:Ev),evs[j]? = some ev->L (k+j)=true->eG d ev.e=false)->KO d (WK L k evs s)=true
 | [],_,_,h,_=>h
 | ev::r,k,s,h,hm=>by
  simp only[WK];refine WR r (k+1) _ ?_ fun j Fz hj hL=>hm (j+1) Fz (by simpa using hj) (by rw[show k+(j+1)=k+1+j from oO];exact hL);split;· rename_i hk;exact RN h (hm 0 ev rfl (by simpa using hk))
  ·exact h
theorem iD {L:Nat->Bool}{i:Nat}{evi:Ev}{l:Loc}(hLi:L i=false):∀(evs:List Ev) (k:Nat) (s:St),k<=i->evs[i - k]? = some evi ->
  (∀(j:Nat) (ev:Ev),evs[j]? = some ev->i<k+j->L (k+j)=true->l∈xS evi.e->l∉xS ev.e) ->
  get (WK (fun j=>j==i||L j) k evs s) l=get (apply (WK L k evs s) evi.e) l
 | [],k,s,_,h,_=>by cases h
 | ev::r,k,s,hk,Ik,hd=>by
  by_cases hki:k=i
  ·subst hki;simp only[Nat.sub_self,List.getElem?_cons_zero,uC]at Ik;subst Ik;simp only[WK,beq_self_eq_true,Bool.true_or,if_true,hLi,Bool.false_eq_true,if_false];by_cases hl:l∈xS ev.e
   ·obtain⟨x,hx⟩:=z1x hl;rw[MR _ (WK L (k+1) r s),hx,Option.getD_some];have h1:get (WK (fun j=>j==k||L j) (k+1) r (apply s ev.e)) l=get (WK (fun _=>false) (k+1) r (apply s ev.e)) l:=by
     refine LM r (k+1) _ _ rfl fun j Fz hj Ba=>hd (j+1) Fz (by simpa using hj) oO ?_ hl;rw[show k+(j+1)=k+1+j from oO];cases hq:L (k+1+j) with
     | true=>rfl
     | false=>
      have:((k+1+j==k)||L (k+1+j))=false:=by rw[hq];simp;omega
      exact absurd this Ba
    rw[h1,RO r (k+1) _ (fun _ _=>rfl),MR,hx,Option.getD_some]
   ·rw[Q0 hl];refine LM r (k+1) _ _ (Q0 hl) fun j Fz hj Ba=>?_;exfalso;apply Ba;have:(k+1+j==k)=false:=by simp;omega
    simp[this]
  ·simp only[WK];have hb:((k==i)||L k)=L k:=by
    have:(k==i)=false:=by simpa using hki
    rw[this];rfl
   simp only[hb];refine iD hLi r (k+1) _ oO ?_ fun j Fz hj Ag hL=>hd (j+1) Fz (by simpa using hj) oO (by rw[show k+(j+1)=k+1+j from oO];exact hL);rw[show i - k=(i - (k+1))+1 from oO]at Ik
   simpa using Ik
def HS (s:St):List Loc->St
 | []=>[]
 | l::r=>match get s l with
  | some v=>(l,v)::HS s r
  | none=>HS s r
theorem fI {s:St}{fp:List Loc}{l:Loc}{v:LV}(h:get (HS s fp) l=some v):l∈fp/\get s l=some v:=by
 induction fp with
 | nil=>cases h
 | cons m r ih=>
  simp only[HS]at h;split at h
  ·rename_i u hu;simp only[get]at h;split at h;· cases h;subst_vars;exact⟨sS,hu⟩
   ·have:=ih h;exact⟨List.mem_cons_of_mem _ this.1,this.2⟩
  ·have:=ih h;exact⟨List.mem_cons_of_mem _ this.1,this.2⟩
def rZ (X:Ctx)(ops:Array Oper)(o:Oper)(s s':St):Prop:=
 ∀(G:Gh) (a:Act) (w:World),Rel X G s a w->∀(next:Act->World->Prop) (Q:Exit->Act->World->Prop),
  (∀G' a' w',Rel X G' s' a' w'->next a' w')->if Region.wanted o (yielded ops a.tmps) then o.wpIn X.F 0 X.P a w next Q else next (a.put o.dst undef) w
def Z8 (X:Ctx)(ops:Array Oper)(o:Oper)(s1:St)(e:UT)(nm:List Nat):Prop:=
 ∀s,pM s1 s->(∀d∈nm,KO d s=true)->rZ X ops o s (apply s e)
def z1y (X:Ctx)(ops:Array Oper):List Oper->St->List Ev->Prop
 | [],_,[]=>True
 | o::l,s,ev::evs=>Z8 X ops o (HS s ev.fp) ev.e ev.nm/\z1y X ops l (apply s ev.e) evs
 | _,_,_=>False
def Q1:St->List Ev->St
 | s,[]=>s
 | s,ev::r=>Q1 (apply s ev.e) r
theorem iE (k:Nat)(evs:List Ev)(s:St):WK (fun _=>true) k evs s=Q1 s evs:=by
 induction evs generalizing k s with
 | nil=>rfl
 | cons ev r ih=>simp only[WK,if_true,Q1,ih]
theorem RP {X:Ctx}{ops:Array Oper}:∀{l:List Oper} {s:St} {evs:List Ev},z1y X ops l s evs->evs.length=l.length
 | [],_,[],_=>rfl
 | [],_,_::_,h=>h.elim
 | _::_,_,[],h=>h.elim
 | o::l,s,ev::evs,h=>by simp[RP h.2]
theorem iF {X:Ctx}{ops:Array Oper}:∀{l:List Oper} {s:St} {evs:List Ev} (k:Nat),z1y X ops l s evs->∀(i:Nat) (o:Oper) (ev:Ev),l[i]? = some o->evs[i]? = some ev ->
  Z8 X ops o (HS (WK (fun j=>decide (j<k+i)) k evs s) ev.fp) ev.e ev.nm
 | [],_,[],_,_,_,_,_,h,_=>by cases h
 | [],_,_::_,_,h,_,_,_,_,_=>h.elim
 | _::_,_,[],_,h,_,_,_,_,_=>h.elim
 | o::l,s,ev::evs,k,h,i,o',Fz,ho,Ik=>by
  cases i with
  | zero=>
   simp at ho Ik;subst ho Ik;rw[RO _ _ _ (fun j hj=>by simp;omega)];exact h.1
  | succ i=>
   have:=iF (k+1) h.2 i o' Fz (by simpa using ho) (by simpa using Ik);simp only[WK];rw[if_pos sS];rw[show k+(i+1)=k+1+i from oO];exact this
def iG (T:List Nat)(o:Oper):Nat:=o.after.toList.foldl (fun s e=>if Region.binds .any e then s ||| (2 ^ e.on ||| T.getD e.on 0) else s) 0
def m0:List Oper->List Nat->List Nat
 | [],T=>T
 | o::r,T=>m0 r (T++[iG T o])
def XV:Nat->List Oper->Bool
 | _,[]=>true
 | n,o::r=>o.after.toList.all (fun e=>!Region.binds .any e||decide (e.on<n))&&XV (n+1) r
def m5 (T:List Nat):List Nat->List Oper->Bool
 | [],[]=>true
 | t::ts,o::r=>t==iG T o&&m5 T ts r
 | _,_=>false
theorem KX:∀{ops:List Oper} {n:Nat},XV n ops=true->∀(i:Nat) (o:Oper),ops[i]? = some o->∀e∈o.after,Region.binds .any e=true->e.on<n+i
 | [],_,_,i,o,h=>by cases h
 | o::r,n,h,i,o',ho=>by
  simp only[XV,uH]at h;cases i with
  | zero=>
   simp at ho;subst ho;intro e he hb;have:=List.all_eq_true.1 h.1 e (by simpa using he)
   simpa [hb] using this
  | succ i=>
   intro e he hb;have:=KX h.2 i o' (by simpa using ho) e he hb;omega
theorem fJ {T:List Nat}:∀{ts:List Nat} {ops:List Oper},m5 T ts ops=true->∀(i:Nat) (o:Oper),ops[i]? = some o->ts.getD i 0=iG T o
 | [],[],_,i,o,h=>by cases h
 | [],_::_,h,_,_,_=>by cases h
 | _::_,[],h,_,_,_=>by cases h
 | t::ts,o::r,h,i,o',ho=>by
  simp only[m5,uH,beq_iff_eq]at h;cases i with
  | zero=>simp at ho;subst ho;simpa using h.1
  | succ i=>simpa using fJ h.2 i o' (by simpa using ho)
theorem fK {T:List Nat}{i:Nat}:∀(es:List Edge) (s:Nat),(es.foldl (fun s e=>if Region.binds .any e then s ||| (2 ^ e.on ||| T.getD e.on 0) else s) s).testBit i=true ->
  s.testBit i=true\/∃e∈es,Region.binds .any e=true/\(e.on=i\/(T.getD e.on 0).testBit i=true)
 | [],s,h=>.inl h
 | e::r,s,h=>by
  simp only[List.foldl_cons]at h;rcases fK r _ h with h|⟨e',h1,h2⟩
  ·split at h
   ·rename_i hb;simp only[Nat.testBit_or,Bool.or_eq_true,Nat.testBit_two_pow,decide_eq_true_eq]at h;rcases h with h|h;· exact .inl h
    ·exact .inr ⟨e,sS,hb,h⟩
   ·exact .inl h
  ·exact .inr ⟨e',List.mem_cons_of_mem _ h1,h2⟩
theorem z1z {T:List Nat}{o:Oper}{i:Nat}(h:(iG T o).testBit i=true):∃e∈o.after,Region.binds .any e=true/\(e.on=i\/(T.getD e.on 0).testBit i=true):=by
 rcases fK _ _ h with h|⟨e,h1,h2⟩;· simp at h
 ·exact⟨e,by simpa using h1,h2⟩
def a9 (ops:Array Oper)(L:Nat->Bool):Prop:=∀(j:Nat) (o:Oper),L j=true->ops[j]? = some o->∀e∈o.after,Region.binds .any e=true->L e.on=true
theorem P2 {ops:Array Oper}{T:List Nat}(hb:XV 0 ops.toList=true)(hf:m5 T T ops.toList=true){L:Nat->Bool}(hc:a9 ops L){i:Nat}:∀(j:Nat) (o:Oper),ops[j]? = some o ->
  (∀e∈o.after,Region.binds .any e=true->L e.on=true)->(T.getD j 0).testBit i=true->L i=true:=by
 intro j
 induction j using Nat.strongRecOn with
 | _ j ih=>
  intro o ho Ah ht;have Kk:ops.toList[j]? = some o:=by simpa using ho
  rw[fJ hf j o Kk]at ht;obtain⟨e,he,heb,h⟩:=z1z ht;have hL:=Ah e he heb;rcases h with rfl|h;· exact hL
  ·have Ag:=KX hb j o Kk e he heb;have hj:j<ops.size:=(Array.getElem?_eq_some_iff.1 ho).1;have Rw:e.on<ops.size:=oO;exact ih e.on oO _ (uG Rw) (fun e' Lf Ab=>hc e.on _ hL (uG Rw) e' Lf Ab) h
def KP (x y:Ev):Bool:=rX (xS x.e) y.fp&&rX (xS y.e) x.fp&&rX (xS x.e) (xS y.e)&&rY (fun d=>!eG d y.e) x.nm
def xU (T:List Nat)(x:Ev)(i:Nat):Nat->List Ev->Bool
 | _,[]=>true
 | j,y::r=>rY (fun d=>!eG d x.e) y.nm&&((T.getD j 0).testBit i||KP x y)&&xU T x i (j+1) r
def zex (T:List Nat):Nat->List Ev->Bool
 | _,[]=>true
 | i,x::r=>xU T x i (i+1) r&&zex T (i+1) r
def zey (s:St):List Ev->Bool
 | []=>true
 | x::r=>rY (fun d=>KO d s) x.nm&&zey s r
def m6 (ops:List Oper)(s:St)(evs:List Ev):Bool:=
 let T:=m0 ops []
 XV 0 ops&&m5 T T ops&&zey s evs&&zex T 0 evs
theorem WU {s:St}:∀{evs:List Ev},zey s evs=true->∀(i:Nat) (x:Ev),evs[i]? = some x->∀d∈x.nm,KO d s=true
 | [],_,_,_,h=>by cases h
 | y::r,h,i,x,hx=>by
  simp only[zey,uH]at h;cases i with
  | zero=>simp at hx;subst hx;exact (V9 _ _).1 h.1
  | succ i=>exact WU h.2 i x (by simpa using hx)
theorem aA {T:List Nat}{x:Ev}{i:Nat}:∀{evs:List Ev} {j:Nat},xU T x i j evs=true->∀(k:Nat) (y:Ev),evs[k]? = some y->(∀d∈y.nm,eG d x.e=false)/\((T.getD (j+k) 0).testBit i=true\/KP x y=true)
 | [],_,_,_,_,h=>by cases h
 | z::r,j,h,k,y,hy=>by
  simp only[xU,uH,Bool.or_eq_true]at h;cases k with
  | zero=>
   simp at hy;subst hy;exact⟨fun d hd=>by simpa using (V9 _ _).1 h.1.1 d hd,h.1.2⟩
  | succ k=>
   have:=aA h.2 k y (by simpa using hy);rw[show j+(k+1)=j+1+k from oO];exact this
theorem KY {T:List Nat}:∀{evs:List Ev} {n:Nat},zex T n evs=true->∀(i j:Nat) (x y:Ev),i<j->evs[i]? = some x->evs[j]? = some y->(∀d∈y.nm,eG d x.e=false)/\((T.getD (n+j) 0).testBit (n+i)=true\/KP x y=true)
 | [],_,_,_,_,_,_,_,h,_=>by cases h
 | z::r,n,h,i,j,x,y,Ii,hx,hy=>by
  simp only[zex,uH]at h;cases i with
  | zero=>
   simp at hx;subst hx;obtain⟨j,rfl⟩:∃k,j=k+1:=⟨j - 1,oO⟩;have:=aA h.1 j y (by simpa using hy);rw[show n+(j+1)=n+1+j from oO];exact this
  | succ i=>
   obtain⟨j,rfl⟩:∃k,j=k+1:=⟨j - 1,oO⟩;have:=KY h.2 i j x y oO (by simpa using hx) (by simpa using hy);rw[show n+(j+1)=n+1+j from oO,show n+(i+1)=n+1+i from oO];exact this
section
variable {X:Ctx}{s0:St}{k:List Item}
def KQ (listed:Array Bool):Nat->Bool:=fun j=>listed.getD j false
theorem Q2 {listed:Array Bool}{i:Nat}(hi:i<listed.size):KQ (listed.setIfInBounds i true)=fun j=>j==i||KQ listed j:=by
 funext j;simp only[KQ,Array.getD_eq_getD_getElem?,Array.getElem?_setIfInBounds];by_cases h:i=j;· subst h;simp[hi]
 ·have:(j==i)=false:=by simpa using fun e=>h e.symm
  simp[h,this]
theorem O7 {listed:Array Bool}{i:Nat}(hi:i<listed.size):listed.getD i true=KQ listed i:=by
 simp[KQ,hi]
def left (n:Nat)(listed:Array Bool):List Nat:=(List.range n).filter fun j=>!KQ listed j
theorem m7 {n:Nat}{listed:Array Bool}{i:Nat}(hi:i<listed.size)(hn:i<n)(hl:KQ listed i=false):(left n (listed.setIfInBounds i true)).length+1=(left n listed).length:=by
 have Em:i∈left n listed:=by simp[left,hn,hl]
 have Ai:(left n listed).Nodup:=List.Nodup.sublist List.filter_sublist List.nodup_range;have he:left n (listed.setIfInBounds i true)=(left n listed).erase i:=by
  rw[Ai.erase_eq_filter];simp only[left,Q2 hi,List.filter_filter]
  congr 1
  funext j;cases KQ listed j <;> cases h:(j==i) <;> simp_all
 rw[he,List.length_erase_of_mem Em];have:0<(left n listed).length:=List.length_pos_of_mem Em;omega
theorem z7v {ops:Array Oper}{evs:List Ev}{K:St->Prop}(Bf:z1y X ops ops.toList s0 evs)(Oj:m6 ops.toList s0 evs=true)(hK:K (Q1 s0 evs)) :
  ∀(fuel:Nat) (listed:Array Bool) (G:Gh) (a:Act) (w:World),listed.size=ops.size->a9 ops (KQ listed)->(left ops.size listed).length<=fuel->Rel X G (WK (KQ listed) 0 evs s0) a w ->
   wpAnyIn X.F 0 X.P .any ops (Nrm X K) fuel listed a w:=by
 simp only[m6,uH]at Oj;obtain⟨⟨⟨Cv,Kt⟩,Eh⟩,hp⟩:=Oj;generalize m0 ops.toList []=T at *;have hlen:evs.length=ops.size:=by simpa using RP Bf
 have Sk:∀(listed:Array Bool) (G:Gh) (a:Act) (w:World),(∀j,j<ops.size->KQ listed j=true)->Rel X G (WK (KQ listed) 0 evs s0) a w->Nrm X K .normal a w:=by
  intro listed G a w Ah R;refine⟨rfl,G,_,hK,R.congr fun l=>?_⟩;rw[<- iE 0];refine LM evs 0 _ _ rfl fun j ev hj Ba=>?_;have Lb:j<ops.size:=by rw[<- hlen];exact (uA hj).1
  exact absurd (Ah j Lb).symm (by simpa using Ba)
 have Me:∀(listed:Array Bool),listed.size=ops.size->Region.ready .any ops listed=[]->∀j,j<ops.size->KQ listed j=true:=by
  intro listed Bb hr j
  induction j using Nat.strongRecOn with
  | _ j ih=>
   intro hj;cases hq:KQ listed j with
   | true=>rfl
   | false=>
    have:j∈Region.ready .any ops listed:=by
     rw[mem_ready];refine⟨by rw[O7 oO];exact hq,ops[j],uG hj,fun e he hb=>?_⟩;have Ag:=KX Cv j ops[j] (by simp[hj]) e he hb;exact ih e.on oO oO
    rw[hr]at this;cases this
 intro fuel
 induction fuel with
 | zero=>
  intro listed G a w Bb Ci hle R;have Ah:∀j,j<ops.size->KQ listed j=true:=by
   intro j hj;cases hq:KQ listed j with
   | true=>rfl
   | false=>
    have hm:j∈left ops.size listed:=by simp[left,hj,hq]
    have:=List.length_pos_of_mem hm;omega
  refine⟨?_,Sk listed G a w Ah R⟩;cases hr:Region.ready .any ops listed with
  | nil=>rfl
  | cons j r=>
   have hm:j∈Region.ready .any ops listed:=by rw[hr];simp
   obtain⟨h1,o,h2,-⟩:=mem_ready.1 hm;have hj:j<ops.size:=(Array.getElem?_eq_some_iff.1 h2).1;rw[O7 oO,Ah j hj]at h1;cases h1
 | succ fuel ih=>
  intro listed G a w Bb Ci hle R;refine⟨fun hr=>Sk listed G a w (Me listed Bb hr) R,fun i hi=>?_⟩;obtain⟨h1,o,ho,Ah⟩:=mem_ready.1 hi;have Ot:i<ops.size:=(Array.getElem?_eq_some_iff.1 ho).1;have Bz:i<listed.size:=oO;rw[O7 Bz]at h1;have Gj:∀e∈o.after,Region.binds .any e=true->KQ listed e.on=true:=Ah;have Fr:i<evs.length:=oO;have Ik:evs[i]? = some evs[i]:=uB Fr;have Ec:=iF 0 Bf i o evs[i] (by simpa using ho) Ik;have Ia:∀(j:Nat) (ev:Ev),evs[j]? = some ev->i<j->KQ listed j=true->KP evs[i] ev=true:=by
   intro j ev hj Ii hL;have Nh:j<ops.size:=by rw[<- hlen];exact (uA hj).1
   rcases (KY hp i j _ ev Ii Ik hj).2 with h|h
   ·have:=P2 Cv Kt Ci j ops[j] (uG Nh) (fun e he hb=>Ci j _ hL (uG Nh) e he hb) (by simpa using h);rw[h1]at this;cases this
   ·exact h
  have Pj:∀(j:Nat) (ev:Ev),evs[j]? = some ev->j<i->KQ listed j=false->KP ev evs[i]=true:=by
   intro j ev hj Ii hL;rcases (KY hp j i ev _ Ii hj Ik).2 with h|h
   ·have:=P2 Cv Kt Ci i o ho Gj (by simpa using h);rw[hL]at this;cases this
   ·exact h
  have Bn:rZ X ops o (WK (KQ listed) 0 evs s0) (apply (WK (KQ listed) 0 evs s0) evs[i].e):=by
   refine Ec _ (fun l v hl=>?_) (fun d hd=>?_)
   ·obtain⟨Qq,hg⟩:=fI hl;rw[<- hg];refine LM evs 0 _ _ rfl fun j ev hj Ba hw=>?_;simp only[Nat.zero_add]at Ba;by_cases Ii:j<i
    ·cases hq:KQ listed j with
     | true=>rw[hq]at Ba;simp[Ii]at Ba
     | false=>
      have:=Pj j ev hj Ii hq;simp only[KP,uH,P1]at this;exact this.1.1.1 l hw Qq
    ·cases hq:KQ listed j with
     | false=>rw[hq]at Ba;simp[Ii]at Ba
     | true=>
      have Ru:j≠i:=fun e=>by rw[e,h1]at hq;cases hq
      have:=Ia j ev hj oO hq;simp only[KP,uH,P1]at this;exact this.1.1.2 l hw Qq
   ·refine WR evs 0 s0 (WU Eh i _ Ik d hd) fun j ev hj hL=>?_;simp only[Nat.zero_add]at hL;have Ru:j≠i:=fun e=>by rw[e,h1]at hL;cases hL
    by_cases Ii:j<i;· exact (KY hp j i ev _ Ii hj Ik).1 d hd
    ·have:=Ia j ev hj oO hL;simp only[KP,uH,V9]at this
     simpa using this.2 d hd
  have Aa:∀G' a' w',Rel X G' (apply (WK (KQ listed) 0 evs s0) evs[i].e) a' w'->wpAnyIn X.F 0 X.P .any ops (Nrm X K) fuel (listed.setIfInBounds i true) a' w':=by
   intro G' a' w' R';refine ih _ G' a' w' (by simpa using Bb) ?_ ?_ ?_
   ·rw[Q2 Bz];intro j o' hL Kk e he hb;simp only[Bool.or_eq_true,beq_iff_eq]at hL ⊢;rcases hL with rfl|hL
    ·rw[ho]at Kk;cases Kk;exact .inr (Gj e he hb)
    ·exact .inr (Ci j o' hL Kk e he hb)
   ·have:=m7 (n:=ops.size) Bz Ot h1;omega
   ·rw[Q2 Bz];refine R'.congr fun l=>iD h1 evs 0 s0 (Nat.zero_le _) Ik fun j ev hj Ag hL hw=>?_;simp only[Nat.zero_add]at Ag hL;have:=Ia j ev hj Ag hL;simp only[KP,uH,P1]at this;exact this.1.2 l hw
  have:=Bn G a w R _ (Nrm X K) Aa;unfold wpOpIn;simp only[ho];split;· rename_i hw;simp only[hw,if_true]at this;exact this
  ·rename_i hw;simp only[hw]at this;exact⟨fun _ _=>trivial,this⟩
def VD (X:Ctx)(ops:Array Oper)(s0:St)(l:List Oper)(s:St)(Ul:List Ev)(K:St->Prop):Prop:=
 ∃evs,z1y X ops l s evs/\m6 ops.toList s0 (Ul.reverse++evs)=true/\K (Q1 s evs)
theorem zk0 {ops:Array Oper}{s:St}{Ul:List Ev}{K:St->Prop}(h:m6 ops.toList s0 Ul.reverse=true)(hK:K s):VD X ops s0 [] s Ul K:=⟨[],trivial,by simpa using h,hK⟩
theorem Q3 {ops:Array Oper}{o:Oper}{l:List Oper}{s:St}{Ul:List Ev}{K:St->Prop}(ev:Ev)(h:Z8 X ops o (HS s ev.fp) ev.e ev.nm)(hl:VD X ops s0 l (apply s ev.e) (ev::Ul) K):VD X ops s0 (o::l) s Ul K:=by
 obtain⟨evs,h1,h2,h3⟩:=hl;exact⟨ev::evs,⟨h,h1⟩,by simpa using h2,h3⟩
theorem Rel.drawn {G:Gh}{s:St}{a:Act}{w:World}(R:Rel X G s a w)(n:Nat):Rel X G s a { w with drawn:=n }:=by
 have hc:∀ad,({ w with drawn:=n }:World).cell? ad=w.cell? ad:=fun _=>rfl;have g:OJ G.D w G.D { w with drawn:=n }:=fun b o h=>⟨h,rfl⟩;have T0:=Trans.refl X G a w R.nil;have T:Trans X G a w G a { w with drawn:=n } (fun _=>False):=⟨T0.tmps,T0.defers,rfl,rfl,rfl,Nat.le_refl _,fun _ _ _=>rfl,fun _ h=>h.elim,g,fun _ _ h k=>absurd h k,R.nil⟩;exact R.step T (fun _ _=>False) (fun l v h=>.inr ⟨h,fun _ _=>rfl,fun _ _ h=>h,fun _ _=>rfl,fun _ _=>rfl⟩) (fun _ _ h=>h.elim) (fun _ _ _ _ _ h=>h.elim)
theorem zez {id:Nat}{ops:Array Oper}{s:St}(hm:X.P.follows .mixedOrders=true)(h:∀K:St->Prop,(∀s',W X k s'->K s')->VD X ops s ops.toList s [] K):W X (.code (.region id ops true)::k) s:=by
 intro G a w b cs hf hk hr R;obtain⟨evs,h1,h2,h3⟩:=h (fun s'=>W X k s') (fun _ h=>h)
 have Ji:=z7v h1 (by simpa using h2) h3 ops.size (Array.replicate ops.size false) G a { w with drawn:=w.drawn+1 } sS (fun j o hL=>by simp[KQ,Array.getElem?_replicate]at hL;split at hL <;> simp at hL) (Nat.le_trans (List.length_filter_le _ _) sS) (by
  rw[RO _ _ _ (fun j _=>by simp only[KQ,Array.getD_eq_getD_getElem?,Array.getElem?_replicate];split <;> rfl)];exact R.drawn _)
 obtain⟨e',a',w',⟨rfl,G',s',hK,R'⟩,Pk⟩:=wpIn_region_any (F:=X.F) (n:=0) hm Ji b k cs hr tT (z5v _);obtain⟨Lk,fr,q1,q2⟩:=hK G' a' w' b cs hf hk hr R';exact⟨Lk,fr,q1,Steps.trans (StepsIn.steps Pk) q2⟩
end
end
section
section
variable {X:Ctx}{s s1:St}
theorem HT (hs:pM s1 s){x:Operand}{y:SV}(h:D4 X (get s1) x=some y):D4 X (get s) x=some y:=by
 cases x with
 | tmp t=>
  simp only[D4]at h ⊢;split at h;· rename_i z hz;rw[hs _ _ hz];exact h
  ·cases h
 | const v=>exact h
 | global b=>exact h
 | func f=>exact h
theorem WW (hs:pM s1 s){x:Operand}{α:Type}{f:SV->Option α}{y:α}(h:(D4 X (get s1) x).bind f=some y):(D4 X (get s) x).bind f=some y:=by
 obtain⟨z,h1,h2⟩:=Option.bind_eq_some_iff.1 h;rw[HT hs h1];exact h2
theorem RQ (hs:pM s1 s){E:Nat}:∀{l:List (Nat × Operand)} {n:Nat} {r:List (List DV)},Jj1 X (get s1) E n l=some r->Jj1 X (get s) E n l=some r
 | [],_,_,h=>h
 | (i,x)::l,n,r,h=>by
  simp only[Jj1]at h ⊢;split at h
  ·rename_i Ip;rw[if_pos Ip];split at h
   ·rename_i y hy;simp only[HT hs hy];split at h
    ·rename_i ds Fs;split at h
     ·rename_i h1;rw[if_pos h1];split at h
      ·rename_i h2;rw[if_pos h2];split at h
       ·rename_i rest hr;rw[RQ hs hr];exact h
       ·cases h
      ·cases h
     ·cases h
    ·cases h
   ·cases h
  ·cases h
theorem UA (hs:pM s1 s){d:Nat}{x:Option Operand}{r:Int}(h:EZ X (get s1) d x=some r):EZ X (get s) d x=some r:=by
 cases x with
 | none=>exact h
 | some x=>
  simp only[EZ]at h ⊢;split at h
  ·rename_i k n hy;rw[HT hs hy];exact h
  ·cases h
theorem iH (hs:pM s1 s){t E n:Nat}(h:MK (get s1) t E n):MK (get s) t E n:=h.imp id (hs _ _)
theorem eH (hs:pM s1 s){o:Oper}{c:Prop}{y:SV}(h:HB X (get s1) o=some (c,y))(hc:c){d:Nat}(hd:o.dst=some d)(hn:d<X.n):EU X s o (CV s (.slot d) (.one y)):=by
 intro G a w R next Q hK
 obtain⟨v,h1,h2⟩:=PS (R.weaken hs) h hc;refine PT (DU h) ?_;rw[h1,E8,hd];exact hK G _ w (R.setSlot (Trans.refl X G a w R.nil) rfl rfl (fun _ h=>h) hn h2)
theorem UB (hs:pM s1 s){o:Oper}{c:Prop}{y:SV}(h:HB X (get s1) o=some (c,y))(hc:c)(hd:o.dst=none):EU X s o s:=by
 intro G a w R next Q hK
 obtain⟨v,h1,h2⟩:=PS (R.weaken hs) h hc;refine PT (DU h) ?_;rw[h1,E8,hd];exact hK G _ w R
theorem EU.congr {o:Oper}{s' s'':St}(h:EU X s o s')(he:∀l,get s'' l=get s' l):EU X s o s'':=
 fun G a w R next Q hK=>h G a w R next Q fun G' a' w' R'=>hK G' a' w' (R'.congr he)
end
def BY:List Operand->List Loc
 | []=>[]
 | .tmp t::r=>.slot t::BY r
 | _::r=>BY r
def K5:Option SV->List Loc
 | some (.loc k _)=>[.loc k]
 | some (.v (.prim (.pointer (some ⟨b,_,_⟩))))=>[.heap b]
 | some (.own t _)=>[.tok t]
 | _=>[]
def M3:Option Tmp->List Loc
 | some d=>[.slot d]
 | none=>[]
def z7w:Option Tmp->List Loc
 | some d=>[.slot d,.loc d]
 | none=>[]
def z23:Option Tmp->List Loc
 | some d=>[.slot d,.tok d]
 | none=>[]
def NZ (X:Ctx)(g:Rd):Op->List Loc
 | .load _ x=>K5 (D4 X g x)
 | .store _ p _=>K5 (D4 X g p)
 | .call c=>match CN c with
  | some (x,_,_,_)=>K5 (D4 X g x)
  | none=>[]
 | _=>[]
def HM (X:Ctx)(g:Rd)(d:Option Tmp):Op->List Loc
 | .alloc _=>z7w d
 | .box _ _=>z7w d
 | .store _ p _=>K5 (D4 X g p)
 | .slice _ _ _ _ (some _)=>.tok 0::z23 d
 | .call c=>match CN c with
  | some (x,_,_,_)=>K5 (D4 X g x)++z23 d
  | none=>M3 d
 | _=>M3 d
def HO (d:Option Tmp):Op->List Nat
 | .alloc _=>d.toList
 | .box _ _=>d.toList
 | .slice _ _ _ _ (some _)=>d.toList
 | .call c=>match CN c with
  | some _=>d.toList
  | none=>[]
 | _=>[]
def ND (s1:St):List Loc->UT
 | []=>[]
 | l::r=>(l,get s1 l)::ND s1 r
theorem s6 (s1:St)(wr:List Loc)(l:Loc):(ND s1 wr).says l=if l∈wr then some (get s1 l) else none:=by
 induction wr with
 | nil=>rfl
 | cons m r ih=>
  simp only[ND,UT.says,ih];by_cases h:l∈r;· simp[h]
  ·simp only[h,if_false,List.mem_cons,or_false];by_cases hm:m=l;· subst hm;simp
   ·simp[hm,(Ne.symm hm:¬l=m)]
theorem WX (s s1:St)(wr:List Loc)(l:Loc):get (apply s (ND s1 wr)) l=if l∈wr then get s1 l else get s l:=by
 rw[MR,s6];split <;> rfl
section
variable {X:Ctx}{s s1:St}
theorem VA {wr:List Loc}{m:Loc}{v:LV}(Th:wr=[m])(l:Loc):get (apply s (ND (CV s1 m v) wr)) l=get (CV s m v) l:=by
 subst Th;rw[WX,C1,C1];by_cases h:m=l;· subst h;simp
 ·simp[h,(Ne.symm h:¬l=m)]
theorem m8 {wr:List Loc}{m n:Loc}{v u:LV}(Th:wr=[m,n])(l:Loc):get (apply s (ND (CV (CV s1 m v) n u) wr)) l=get (CV (CV s m v) n u) l:=by
 subst Th;rw[WX,C1,C1,C1,C1];by_cases h:n=l;· subst h;simp
 ·by_cases h':m=l;· subst h';simp[h]
  ·simp[h,h',(Ne.symm h':¬l=m),(Ne.symm h:¬l=n)]
theorem m9 {wr:List Loc}{k m n:Loc}{v u:LV}(Th:wr=[k,m,n])(l:Loc):get (apply s (ND (CV (CV (OU s1 k) m v) n u) wr)) l=get (CV (CV (OU s k) m v) n u) l:=by
 subst Th;rw[WX,C1,C1,C1,C1,LH,LH];by_cases h:n=l;· subst h;simp
 ·by_cases h':m=l;· subst h';simp[h]
  ·by_cases h2:k=l;· subst h2;simp
   ·simp[h,h',h2,(Ne.symm h':¬l=m),(Ne.symm h:¬l=n),(Ne.symm h2:¬l=k)]
theorem P3 {d:Nat}{s:St}(h:KO d s=true):DJ d s=true/\DQ d s=true:=by simpa [KO] using h
theorem aB (hs:pM s1 s){o:Oper}{c:Prop}{Pc:St}{wr:List Loc}(Th:wr=M3 o.dst)(h:IK X s1 o.dst (HB X (get s1) o)=some (c,Pc))(hc:c):EU X s o (apply s (ND Pc wr)):=by
 unfold IK at h;split at h
 ·rename_i d c' y hd hp;cases h;exact (eH hs hp hc.1 hd hc.2).congr (VA (by rw[Th,hd];rfl))
 ·rename_i c' y hd hp;cases h;refine (UB hs hp hc hd).congr fun l=>?_;rw[Th,hd];rfl
 ·cases h
theorem z24 (k o:Nat):K5 (some (.loc k o))=[.loc k]:=rfl
theorem mA {Ad:List Nat}{o:Oper}{c:Prop}{Pc:St}(hs:pM s1 s)(h:BA X Ad s1 o=some (c,Pc))(hc:c)(Eh:∀d∈HO o.dst o.op,KO d s=true) :
  EU X s o (apply s (ND Pc (HM X (get s1) o.dst o.op))):=by
 unfold BA at h;split at h;· cases h
 ·split at h
  ·rename_i t ho;unfold SP at h;split at h
   ·rename_i d cs hd hz;split at h
    ·rename_i hb;cases h;simp only[uH]at hb;have hf:=P3 (Eh d (by rw[ho,hd];simp[HO]));exact (ZN ho hd hc hz hb.1.1 hf.1).congr (m8 (by rw[ho,hd];rfl))
    ·cases h
   ·cases h
  ·rename_i t x ho;unfold fF at h;split at h
   ·rename_i d y hd hy;split at h
    ·rename_i hb;cases h;simp only[uH,Bool.not_eq_true']at hb;have hf:=P3 (Eh d (by rw[ho,hd];simp[HO]));exact (l6 ho hd hc (HT hs hy) hb.1.1 hf.1 hb.2).congr (m8 (by rw[ho,hd];rfl))
    ·cases h
   ·cases h
  ·rename_i t p x ho;split at h
   ·rename_i Eb;have hd:o.dst=none:=by simpa using Eb
    unfold O5 at h;split at h
    ·rename_i k' off agg n y hp hl hy;split at h
     ·rename_i cs hg;split at h
      ·rename_i hb;cases h;exact (RJ ho hd (HT hs hp) (hs _ _ hg) hl (HT hs hy) hc hb).congr (VA (by rw[ho];simp only[HM,hp,K5]))
      ·cases h
     ·cases h
    ·rename_i b off agg n y hp hl hy;split at h
     ·rename_i cs ys hg Ko;split at h
      ·rename_i hb;cases h;exact (QU ho hd (HT hs hp) (hs _ _ hg) hl (HT hs hy) Ko hc hb).congr (VA (by rw[ho];simp only[HM,hp,K5]))
      ·cases h
     ·cases h
    ·cases h
   ·cases h
  ·rename_i t len parts ho;split at h
   ·rename_i E B he;unfold fG at h;split at h
    ·rename_i d E' B' els hd Lf Jk;cases Lf;cases h;exact (QV ho hd hc.1 he (RQ hs Jk) hc.2).congr (VA (by rw[ho,hd];rfl))
    ·cases h
   ·cases h
  ·rename_i t x lo hi m ho;unfold P0 at h;split at h
   ·rename_i d E els l h' k' hd hE hx Im La hm;split at h
    ·rename_i hb;cases h;simp only[uH,bne_iff_ne,ne_eq]at hb;unfold z03 at La;rw[hx]at La;have hf:=P3 (Eh d (by rw[ho,hd];simp[HO]));exact (XQ ho hd hc.1 hb.1.2 hf.2 hE (WW hs hx) (UA hs Im) (UA hs La) (UA hs hm) hb.2 hc.2).congr (m9 (by rw[ho,hd];rfl))
    ·cases h
   ·cases h
  ·rename_i c' ho;split at h
   ·rename_i x y t t2 Gl;have Eu:c' = { callee:=.builtin .append,args:=#[x,y],argTypes:=#[t,t2] }:=by
     unfold CN at Gl;split at Gl
     ·rename_i h1 h2 h3;cases Gl;cases c';simp only at h1 h2 h3;rw[h1,GF h2,GF h3]
     ·cases Gl
    subst Eu;unfold OZ at h;split at h
    ·rename_i d E B t' els ys hd he hx hy;split at h
     ·rename_i hb;cases h;simp only[uH,bne_iff_ne,ne_eq]at hb;have hf:=P3 (Eh d (by rw[ho,hd];simp[HO,Gl]));exact (XP ho hd hc.1 hb.2 hf.2 he hc.2.1 hb.1.1 (HT hs hx) (WW hs hy) (iH hs hc.2.2.1) hc.2.2.2.1 hc.2.2.2.2.1 hc.2.2.2.2.2).congr (m9 (by rw[ho,hd];simp only[HM,Gl,hx,K5,z23,List.cons_append,List.nil_append]))
     ·cases h
    ·cases h
   ·rename_i Gl;exact aB hs (by rw[ho];simp only[HM,Gl]) h hc
  ·rename_i h1 h2 h3 h4 h5 h6;refine aB hs ?_ h hc;cases Bn:o.op with
   | alloc t=>exact absurd Bn (h1 t)
   | box t x=>exact absurd Bn (h2 t x)
   | store t p x=>exact absurd Bn (h3 t p x)
   | slice t x lo hi m=>cases m with
    | none=>rfl
    | some m=>exact absurd Bn (h5 t x lo hi m)
   | call c=>exact absurd Bn (h6 c)
   | _=>rfl
def P4 (X:Ctx)(ops:Array Oper)(o:Oper)(s:St):Prop:=
 o.guard=none\/∃j dj want,o.guard=some (j,want)/\(ops[j]?).bind (·.dst)=some dj/\dj<X.n/\get s (.slot dj)=some (.one (.v (.prim (.bool want))))
theorem aC {G:Gh}{a:Act}{w:World}(R:Rel X G s a w){ops:Array Oper}{j dj:Nat}(hj:(ops[j]?).bind (·.dst)=some dj)(hn:dj<X.n){b:Bool}(hb:get s (.slot dj)=some (.one (.v (.prim (.bool b))))):yielded ops a.tmps j=some b:=by
 have hv:=(BT (R.holds _ _ hb)).1;have Ag:dj<a.tmps.size:=by rw[R.size];exact hn
 have Di:a.tmps[dj]? = some (.bool b):=by
  have h3:a.tmps.getD dj undef=a.tmps[dj]:=by simp[Ag]
  rw[uG Ag,<- h3,hv]
 unfold yielded;rw[hj];simp[Di]
theorem Q4 {ops:Array Oper}{o:Oper}{s':St}(hg:P4 X ops o s)(h:EU X s o s'):rZ X ops o s s':=by
 intro G a w R next Q hK
 have hw:Region.wanted o (yielded ops a.tmps)=true:=by
  rcases hg with hg|⟨j,dj,want,h1,h2,h3,h4⟩;· simp[Region.wanted,hg]
  ·simp[Region.wanted,h1,aC R h2 h3 h4]
 rw[if_pos hw];exact h G a w R next Q hK
theorem zf1 {ops:Array Oper}{o:Oper}{j dj:Nat}{want:Bool}(h1:o.guard=some (j,want))(h2:(ops[j]?).bind (·.dst)=some dj)(h3:dj<X.n)(h4:get s (.slot dj)=some (.one (.v (.prim (.bool (!want)))))){d:Nat}(hd:o.dst=some d)(Eb:d<X.n) :
  rZ X ops o s (apply s [(.slot d,some dX)]):=by
 intro G a w R next Q hK
 have hw:Region.wanted o (yielded ops a.tmps)=false:=by
  simp only[Region.wanted,h1,aC R h2 h3 h4];cases want <;> rfl
 simp only[hw,Bool.false_eq_true,if_false,hd];exact hK G _ w (R.setSlot (Trans.refl X G a w R.nil) rfl rfl (fun _ h=>h) Eb (x:=.v (.tup [])) gY)
theorem zf2 {ops:Array Oper}{o:Oper}{j dj:Nat}{want:Bool}(h1:o.guard=some (j,want))(h2:(ops[j]?).bind (·.dst)=some dj)(h4:get s (.slot dj)=some dX){d:Nat}(hd:o.dst=some d)(Eb:d<X.n) :
  rZ X ops o s (apply s [(.slot d,some dX)]):=by
 intro G a w R next Q hK
 have hw:Region.wanted o (yielded ops a.tmps)=false:=by
  simp only[Region.wanted,h1,ZS R h2 h4];cases want <;> rfl
 simp only[hw,Bool.false_eq_true,if_false,hd];exact hK G _ w (R.setSlot (Trans.refl X G a w R.nil) rfl rfl (fun _ h=>h) Eb (x:=.v (.tup [])) gY)
theorem P4.mono {ops:Array Oper}{o:Oper}(hs:pM s1 s)(h:P4 X ops o s1):P4 X ops o s:=
 h.imp id fun ⟨j,dj,want,h1,h2,h3,h4⟩=>⟨j,dj,want,h1,h2,h3,hs _ _ h4⟩
theorem s7 {Ad:List Nat}{ops:Array Oper}{o:Oper}{c:Prop}{Pc:St}(h:BA X Ad s1 o=some (c,Pc))(hc:c)(hg:P4 X ops o s1):Z8 X ops o s1 (ND Pc (HM X (get s1) o.dst o.op)) (HO o.dst o.op):=
 fun _ hs Eh=>Q4 (hg.mono hs) (mA hs h hc Eh)
end
def YV (k:St->List Ev->Prop)(ev:List Ev)(s:St)(fp:List Loc)(nm:List Nat)(e:UT):Prop:=k (apply s e) (⟨fp,e,nm⟩::ev)
def mB (X:Ctx)(ops:Array Oper)(s0:St)(l:List Oper)(K:St->Prop)(k:St->List Ev->Prop)(o:Oper)(ev:List Ev)(s:St)(fp:List Loc)(wr:List Loc):Option (Prop × St)->Prop
 | some (c,Pc)=>c/\YV k ev s fp (HO o.dst o.op) (ND Pc wr)
 | none=>VD X ops s0 (o::l) s ev K
def zf3 (X:Ctx)(Ad:List Nat)(ops:Array Oper)(s0:St)(l:List Oper)(K:St->Prop)(k:St->List Ev->Prop)(o:Oper)(ev:List Ev)(s:St)(fp:List Loc)(s1:St):Prop:=
 mB X ops s0 l K k o ev s fp (HM X (get s1) o.dst o.op) (BA X Ad s1 o)
def mC (X:Ctx)(Ad:List Nat)(ops:Array Oper)(s0:St)(l:List Oper)(K:St->Prop)(k:St->List Ev->Prop)(o:Oper)(ev:List Ev)(s:St)(fp:List Loc):Prop:=
 zf3 X Ad ops s0 l K k o ev s fp (HS s fp)
def YW (X:Ctx)(Ad:List Nat)(ops:Array Oper)(s0:St)(l:List Oper)(K:St->Prop)(k:St->List Ev->Prop)(o:Oper)(ev:List Ev)(s:St)(fp:List Loc)(want:Bool)(dj:Nat):Option SV->Prop
 | some (.v (.prim (.bool b)))=>dj<X.n/\(b=want->mC X Ad ops s0 l K k o ev s (.slot dj::fp))/\(b = !want->match o.dst with
   | some d=>d<X.n/\YV k ev s [.slot dj] [] [(.slot d,some dX)]
   | none=>False)
 | some (.v (.tup []))=>match o.dst with
  | some d=>d<X.n/\YV k ev s [.slot dj] [] [(.slot d,some dX)]
  | none=>False
 | _=>False
def xV (X:Ctx)(Ad:List Nat)(ops:Array Oper)(s0:St)(l:List Oper)(K:St->Prop)(k:St->List Ev->Prop)(o:Oper)(ev:List Ev)(s:St)(fp:List Loc)(want:Bool):Option Nat->Prop
 | some dj=>YW X Ad ops s0 l K k o ev s fp want dj (O6 (get s (.slot dj)))
 | none=>False
def FA (X:Ctx)(g:Rd)(op:Op):List Loc:=BY op.operands.toList++NZ X g op
def xW (X:Ctx)(Ad:List Nat)(ops:Array Oper)(s0:St)(K:St->Prop):List Oper->St->List Ev->Prop
 | [],s,ev=>m6 ops.toList s0 ev.reverse=true/\K s
 | o::l,s,ev=>
  match o.guard with
  | none=>mC X Ad ops s0 l K (xW X Ad ops s0 K l) o ev s (FA X (get s) o.op)
  | some (j,want)=>xV X Ad ops s0 l K (xW X Ad ops s0 K l) o ev s (FA X (get s) o.op) want (gsl ops j)
section
variable {X:Ctx}{Ad:List Nat}{ops:Array Oper}{s0:St}{K:St->Prop}
theorem aD {l:List Oper}{k:St->List Ev->Prop}(hk:∀s ev,k s ev->VD X ops s0 l s ev K){o:Oper}{ev:List Ev}{s:St}{fp:List Loc}(hg:P4 X ops o (HS s fp))(h:mC X Ad ops s0 l K k o ev s fp):VD X ops s0 (o::l) s ev K:=by
 unfold mC zf3 mB at h;split at h
 ·rename_i c Pc hs;exact Q3 ⟨fp,_,_⟩ (s7 hs h.1 hg) (hk _ _ h.2)
 ·exact h
theorem D8:∀{l:List Oper} {s:St} {ev:List Ev},xW X Ad ops s0 K l s ev->VD X ops s0 l s ev K
 | [],s,ev,h=>zk0 h.1 h.2
 | o::l,s,ev,h=>by
  unfold xW at h;split at h
  ·rename_i hg;exact aD (fun _ _=>D8) (.inl hg) h
  ·rename_i j want hg;unfold xV at h;split at h
   ·rename_i dj hdj;have Tr:(ops[j]?).bind (·.dst)=some dj:=hdj;unfold YW at h;split at h
    ·rename_i b hb;have hgb:get s (.slot dj)=some (.one (.v (.prim (.bool b)))):=by
      unfold O6 at hb;split at hb;· rename_i x hx;cases hb;exact hx
      ·cases hb
     obtain⟨h1,h2,h3⟩:=h;by_cases Qm:b=want
     ·subst Qm;refine aD (fun _ _=>D8) (.inr ⟨j,dj,b,hg,Tr,h1,?_⟩) (h2 rfl);simp only[HS,hgb,get,if_true]
     ·have hbn:b = !want:=by cases b <;> cases want <;> simp_all
      have h4:=h3 hbn;split at h4
      ·rename_i d hd;refine Q3 ⟨[.slot dj],[(.slot d,some dX)],[]⟩ (fun s' hs _=>?_) (D8 h4.2);refine zf1 hg Tr h1 ?_ hd h4.1;refine hs _ _ ?_;simp only[HS,hgb,get,if_true,hbn]
      ·exact h4.elim
    ·rename_i hb;have hgb:get s (.slot dj)=some dX:=by
      unfold O6 at hb;split at hb;· rename_i x hx;cases hb;exact hx
      ·cases hb
     split at h
     ·rename_i d hd;refine Q3 ⟨[.slot dj],[(.slot d,some dX)],[]⟩ (fun s' hs _=>?_) (D8 h.2);refine zf2 hg Tr ?_ hd h.1;refine hs _ _ ?_;simp only[HS,hgb,get,if_true]
     ·exact h.elim
    ·exact h.elim
   ·exact h.elim
theorem AL {id:Nat}{k:List Item}{s:St}(hm:X.P.follows .mixedOrders=true)(Ad:List Nat)(h:∀K:St->Prop,(∀s',W X k s'->K s')->xW X Ad ops s K ops.toList s []):W X (.code (.region id ops true)::k) s:=
 zez hm fun K hK=>D8 (h K hK)
def TN:BU->List Loc
 | []=>[]
 | (b,_)::r=>.heap b::TN r
def mD:BU->UT
 | []=>[]
 | (b,_)::r=>(.heap b,none)::mD r
def mE:BU->UT
 | []=>[]
 | (b,cs)::r=>mE r++[(.heap b,some (.row (cs.map SV.v)))]
theorem Q5 (e e':UT):∀s,apply s (e++e')=apply (apply s e) e':=by
 induction e with
 | nil=>intro s;rfl
 | cons p r ih=>
  obtain⟨l,v⟩:=p;cases v <;> intro s <;> simp only[List.cons_append,apply,ih]
theorem aE (φ:BU):∀s,apply s (mD φ)=DP s φ:=by
 induction φ with
 | nil=>intro s;rfl
 | cons p r ih=>intro s;simp only[mD,apply,DP,ih]
theorem aF (φ:BU)(s:St):apply s (mE φ)=D7 s φ:=by
 induction φ with
 | nil=>rfl
 | cons p r ih=>simp only[mE,Q5,ih,D7,apply]
theorem H7 {s:St}{l:Loc}{v:LV}:∀{fp:List Loc},l∈fp->get s l=some v->get (HS s fp) l=some v
 | [],h,_=>by cases h
 | m::r,h,hg=>by
  simp only[HS];split
  ·rename_i u hu;simp only[get];split
   ·subst_vars;rw[hu]at hg;exact hg
   ·rename_i Ba;rcases List.mem_cons.1 h with rfl|h;· exact absurd rfl Ba
    ·exact H7 h hg
  ·rename_i hu;rcases List.mem_cons.1 h with rfl|h;· rw[hu]at hg;cases hg
   ·exact H7 h hg
theorem z25 {s s':St}{fp:List Loc}{x:Operand}(hx:∀t,x = .tmp t->Loc.slot t∈fp)(hs:pM (HS s fp) s'){y:SV}(h:D4 X (get s) x=some y):D4 X (get s') x=some y:=by
 cases x with
 | tmp t=>
  simp only[D4]at h ⊢;split at h
  ·rename_i z hz;rw[hs _ _ (H7 (hx t rfl) hz)];exact h
  ·cases h
 | const v=>exact h
 | global b=>exact h
 | func f=>exact h
theorem RR {s s':St}{fp:List Loc}(hs:pM (HS s fp) s'):∀{l:List Operand} {ds:List DV},(∀m∈BY l,m∈fp)->HP X (get s) l=some ds->HP X (get s') l=some ds
 | [],_,_,h=>h
 | x::r,ds,hx,h=>by
  simp only[HP]at h ⊢;split at h
  ·rename_i y ys hy Ko;obtain⟨z,hz,Wd⟩:=Option.bind_eq_some_iff.1 hy;have h1:D4 X (get s') x=some z:=z25 (fun t ht=>hx _ (by subst ht;simp[BY])) hs hz;have h2:=RR hs (fun m hm=>hx m (by cases x <;> simp[BY,hm])) Ko;rw[h1,h2,Option.bind_some,Wd];exact h
  ·cases h
theorem aG {l m:List Loc}{x:Loc}(h:x∈l):x∈l++m:=List.mem_append.2 (.inl h)
theorem fN {φ:BU}{b:Nat}{cs:List DV}(h:(b,cs)∈φ):Loc.heap b∈TN φ:=by
 induction φ with
 | nil=>cases h
 | cons p r ih=>
  rcases List.mem_cons.1 h with rfl|h;· simp[TN]
  ·exact List.mem_cons_of_mem _ (ih h)
theorem fO {l:List Oper}{k:St->List Ev->Prop}{ev:List Ev}{s:St}{fp wr:List Loc}{d:Tmp}{f:FuncId}{args:Array Operand}{Ct:Array TypeId}{ty:TypeId}{pos:String}{af:Array Edge}{s1:St}
  (hk:∀s ev,k s ev->VD X ops s0 l s ev K) {P:Program} {gl:AF} (hP:X.P=P) (u7:X.gl=gl) {ds Gz:List DV} {φ Ae:BU} {r:DV} (hc:U8 P gl f Gz φ r Ae) (u8:HP X (get s) args.toList=some ds) (Fs:ds=Gz) (Bd:BP (get s) φ) (Ai:(φ.map (·.1)).Nodup) (Eb:d<X.n)
  (h:YV k ev s (BY args.toList++TN φ) [] ((.slot d,some (.one (.v r)))::(mD φ++mE Ae))) :
  mB X ops s0 l K k ⟨some d,.call { callee:=.value (.func f),args:=args,argTypes:=Ct },ty,pos,af,none⟩ ev s fp wr (BA X Ad s1 ⟨some d,.call { callee:=.value (.func f),args:=args,argTypes:=Ct },ty,pos,af,none⟩):=by
 subst Fs;have e:BA X Ad s1 ⟨some d,.call { callee:=.value (.func f),args:=args,argTypes:=Ct },ty,pos,af,none⟩=none:=by
  simp only[BA,CN,HB,QT,IK];split <;> rfl
 rw[e];show VD X ops s0 _ s ev K;refine Q3 ⟨BY args.toList++TN φ,_,[]⟩ (fun s' hs _=>Q4 (.inl rfl) ?_) (hk _ _ h);refine (ML (o:=⟨some d,.call { callee:=.value (.func f),args:=args,argTypes:=Ct },ty,pos,af,none⟩) rfl (RR hs (fun m hm=>aG hm) u8) (by rw[hP,u7];exact hc) ?_ Ai rfl Eb).congr fun m=>?_
 ·intro b cs hm;exact hs _ _ (H7 (List.mem_append.2 (.inr (fN hm))) (Bd b cs hm))
 ·simp only[apply,Q5,aE,aF]
end
end
section
section
variable {X:Ctx}{Ad:List Nat}{ops:Array Oper}{s0:St}{K:St->Prop}{g:Rd}{s:St}
def rsK (l:Loc)(r:St):Option LV->St
 | some v=>(l,v)::r
 | none=>r
theorem z7x (l:Loc)(r:St)(v:LV):rsK l r (some v)=(l,v)::r:=rfl
theorem z7y (l:Loc)(r:St):rsK l r none=r:=rfl
theorem z26:HS s []=[]:=rfl
theorem s8 (l:Loc)(r:List Loc):HS s (l::r)=rsK l (HS s r) (get s l):=by
 simp only[HS,rsK];all_goals (cases get s l <;> rfl)
theorem mF:BY []=[]:=rfl
theorem mG (t:Nat)(r:List Operand):BY (.tmp t::r) = .slot t::BY r:=rfl
theorem eI (v:Value)(r:List Operand):BY (.const v::r)=BY r:=rfl
theorem aH (v:Nat)(r:List Operand):BY (.global v::r)=BY r:=rfl
theorem iI (v:Nat)(r:List Operand):BY (.func v::r)=BY r:=rfl
theorem z7z (b o:Nat)(q):K5 (some (.v (.prim (.pointer (some ⟨b,o,q⟩)))))=[.heap b]:=rfl
theorem zf4 (cs:List DV):K5 (some (.v (.ref cs)))=[]:=rfl
theorem zf5 (t:Nat)(e:List (List DV)):K5 (some (.own t e))=[.tok t]:=rfl
theorem zk1 (e:List (List DV))(i o:Nat):K5 (some (.dp e i o))=[]:=rfl
theorem zk2 (e:List (List DV)):K5 (some (.v (.sl e)))=[]:=rfl
theorem zov (x:Operand):FA X g (.move x)=BY [x]:=by simp[FA,NZ,Op.operands]
theorem zf6 (x:Operand):FA X g (.assign x)=BY [x]:=by simp[FA,NZ,Op.operands]
theorem zow (a b c:Operand):FA X g (.pick a b c)=BY [a,b,c]:=by simp[FA,NZ,Op.operands]
theorem zk3 (t:TypeId):FA X g (.alloc t)=[]:=by simp[FA,NZ,Op.operands,BY]
theorem zru (t:TypeId)(x:Operand):FA X g (.box t x)=BY [x]:=by simp[FA,NZ,Op.operands]
theorem zk4 (t:TypeId)(ps:Array (Nat × Operand)):FA X g (.build t ps)=BY (ps.toList.map (·.2)):=by simp[FA,NZ,Op.operands]
theorem mH (t:TypeId)(n:Nat)(ps:Array (Nat × Operand)):FA X g (.buildSlice t n ps)=BY (ps.toList.map (·.2)):=by simp[FA,NZ,Op.operands]
theorem zox (t:TypeId)(x:Operand):FA X g (.load t x)=BY [x]++K5 (D4 X g x):=by simp[FA,NZ,Op.operands]
theorem zk5 (t:TypeId)(p x:Operand):FA X g (.store t p x)=BY [p,x]++K5 (D4 X g p):=by simp[FA,NZ,Op.operands]
theorem z27 (x:Operand):FA X g (.nilCheck x)=BY [x]:=by simp[FA,NZ,Op.operands]
theorem mI (x:Operand)(xt at':TypeId)(ok:Bool):FA X g (.typeAssert x xt at' ok)=BY [x]:=by simp[FA,NZ,Op.operands]
theorem zrv (op:BinOp)(t u:TypeId)(x y:Operand):FA X g (.binOp op t x y u)=BY [x,y]:=by simp[FA,NZ,Op.operands]
theorem fUn (op:UnOp)(t:TypeId)(x:Operand):FA X g (.unOp op t x)=BY [x]:=by simp[FA,NZ,Op.operands]
theorem s9 (t:TypeId)(x:Operand):FA X g (.makeInterface t x)=BY [x]:=by simp[FA,NZ,Op.operands]
theorem zk6 (t:TypeId)(x:Operand)(a b c:Option Operand):FA X g (.slice t x a b c)=BY (x::(a.toList++b.toList++c.toList)):=by
 simp[FA,NZ,Op.operands]
theorem sA (t:TypeId)(x:Operand)(f:Nat):FA X g (.fieldAddr t x f)=BY [x]:=by simp[FA,NZ,Op.operands]
theorem sC (t:TypeId)(x y:Operand):FA X g (.indexAddr t x y)=BY [x,y]:=by simp[FA,NZ,Op.operands]
theorem z80 (x:Operand)(i:Nat):FA X g (.extract x i)=BY [x]:=by simp[FA,NZ,Op.operands]
theorem zrw (xs:Array Operand)(ts:Array TypeId):FA X g (.call { callee:=.builtin .len,args:=xs,argTypes:=ts })=BY xs.toList:=by simp[FA,NZ,Op.operands,Call.operands,CN]
theorem zrx (xs:Array Operand)(ts:Array TypeId):FA X g (.call { callee:=.builtin .max,args:=xs,argTypes:=ts })=BY xs.toList:=by simp[FA,NZ,Op.operands,Call.operands,CN]
theorem zf7 (x y:Operand)(t t2:TypeId):FA X g (.call { callee:=.builtin .append,args:=#[x,y],argTypes:=#[t,t2] })=BY [x,y]++K5 (D4 X g x):=by simp[FA,NZ,Op.operands,Call.operands,CN]
theorem z28 (d:Nat):M3 (some d)=[.slot d]:=rfl
theorem z29:M3 none=[]:=rfl
theorem z2a (d:Nat):z7w (some d)=[.slot d,.loc d]:=rfl
theorem z2b (d:Nat):z23 (some d)=[.slot d,.tok d]:=rfl
variable {d:Option Tmp}
theorem zoy (x:Operand):HM X g d (.move x)=M3 d:=rfl
theorem zf8 (x:Operand):HM X g d (.assign x)=M3 d:=rfl
theorem zoz (a b c:Operand):HM X g d (.pick a b c)=M3 d:=rfl
theorem zk7 (t:TypeId):HM X g d (.alloc t)=z7w d:=rfl
theorem zry (t:TypeId)(x:Operand):HM X g d (.box t x)=z7w d:=rfl
theorem zk8 (t:TypeId)(ps:Array (Nat × Operand)):HM X g d (.build t ps)=M3 d:=rfl
theorem mJ (t:TypeId)(n:Nat)(ps:Array (Nat × Operand)):HM X g d (.buildSlice t n ps)=M3 d:=rfl
theorem zp0 (t:TypeId)(x:Operand):HM X g d (.load t x)=M3 d:=rfl
theorem zk9 (t:TypeId)(p x:Operand):HM X g d (.store t p x)=K5 (D4 X g p):=rfl
theorem z2c (x:Operand):HM X g d (.nilCheck x)=M3 d:=rfl
theorem mK (x:Operand)(xt at':TypeId)(ok:Bool):HM X g d (.typeAssert x xt at' ok)=M3 d:=rfl
theorem zrz (op:BinOp)(t u:TypeId)(x y:Operand):HM X g d (.binOp op t x y u)=M3 d:=rfl
theorem wUn (op:UnOp)(t:TypeId)(x:Operand):HM X g d (.unOp op t x)=M3 d:=rfl
theorem z81 (t u:TypeId)(x:Operand):HM X g d (.convert t u x)=M3 d:=rfl
theorem z2d (fn:Fn)(fi ca:Array Operand):HM X g d (.makeFunc fn fi ca)=M3 d:=rfl
theorem sD (t:TypeId)(x:Operand):HM X g d (.makeInterface t x)=M3 d:=rfl
theorem zka (t:TypeId)(x:Operand)(a b:Option Operand):HM X g d (.slice t x a b none)=M3 d:=rfl
theorem zf9 (t:TypeId)(x c:Operand)(a b:Option Operand):HM X g d (.slice t x a b (some c)) = .tok 0::z23 d:=rfl
theorem sE (t:TypeId)(x:Operand)(f:Nat):HM X g d (.fieldAddr t x f)=M3 d:=rfl
theorem zkb (t:TypeId)(x:Operand)(f:Nat):HM X g d (.field t x f)=M3 d:=rfl
theorem sF (t:TypeId)(x y:Operand):HM X g d (.indexAddr t x y)=M3 d:=rfl
theorem z82 (x:Operand)(i:Nat):HM X g d (.extract x i)=M3 d:=rfl
theorem zs0 (xs:Array Operand)(ts:Array TypeId):HM X g d (.call { callee:=.builtin .len,args:=xs,argTypes:=ts })=M3 d:=by simp[HM,CN]
theorem zs1 (xs:Array Operand)(ts:Array TypeId):HM X g d (.call { callee:=.builtin .max,args:=xs,argTypes:=ts })=M3 d:=by simp[HM,CN]
theorem zfa (x y:Operand)(t t2:TypeId):HM X g d (.call { callee:=.builtin .append,args:=#[x,y],argTypes:=#[t,t2] })=K5 (D4 X g x)++z23 d:=by simp[HM,CN]
theorem zp1 (x:Operand):HO d (.move x)=[]:=rfl
theorem zfb (x:Operand):HO d (.assign x)=[]:=rfl
theorem zp2 (a b c:Operand):HO d (.pick a b c)=[]:=rfl
theorem zkc (t:TypeId):HO d (.alloc t)=d.toList:=rfl
theorem zs2 (t:TypeId)(x:Operand):HO d (.box t x)=d.toList:=rfl
theorem zkd (t:TypeId)(ps:Array (Nat × Operand)):HO d (.build t ps)=[]:=rfl
theorem mL (t:TypeId)(n:Nat)(ps:Array (Nat × Operand)):HO d (.buildSlice t n ps)=[]:=rfl
theorem zp3 (t:TypeId)(x:Operand):HO d (.load t x)=[]:=rfl
theorem zke (t:TypeId)(p x:Operand):HO d (.store t p x)=[]:=rfl
theorem z2e (x:Operand):HO d (.nilCheck x)=[]:=rfl
theorem mM (x:Operand)(xt at':TypeId)(ok:Bool):HO d (.typeAssert x xt at' ok)=[]:=rfl
theorem zs3 (op:BinOp)(t u:TypeId)(x y:Operand):HO d (.binOp op t x y u)=[]:=rfl
theorem nUn (op:UnOp)(t:TypeId)(x:Operand):HO d (.unOp op t x)=[]:=rfl
theorem z83 (t u:TypeId)(x:Operand):HO d (.convert t u x)=[]:=rfl
theorem z2f (fn:Fn)(fi ca:Array Operand):HO d (.makeFunc fn fi ca)=[]:=rfl
theorem sG (t:TypeId)(x:Operand):HO d (.makeInterface t x)=[]:=rfl
theorem zkf (t:TypeId)(x:Operand)(a b:Option Operand):HO d (.slice t x a b none)=[]:=rfl
theorem zfc (t:TypeId)(x c:Operand)(a b:Option Operand):HO d (.slice t x a b (some c))=d.toList:=rfl
theorem sH (t:TypeId)(x:Operand)(f:Nat):HO d (.fieldAddr t x f)=[]:=rfl
theorem zkg (t:TypeId)(x:Operand)(f:Nat):HO d (.field t x f)=[]:=rfl
theorem sI (t:TypeId)(x y:Operand):HO d (.indexAddr t x y)=[]:=rfl
theorem z84 (x:Operand)(i:Nat):HO d (.extract x i)=[]:=rfl
theorem zs4 (xs:Array Operand)(ts:Array TypeId):HO d (.call { callee:=.builtin .len,args:=xs,argTypes:=ts })=[]:=by simp[HO,CN]
theorem zs5 (xs:Array Operand)(ts:Array TypeId):HO d (.call { callee:=.builtin .max,args:=xs,argTypes:=ts })=[]:=by simp[HO,CN]
theorem zfd (x y:Operand)(t t2:TypeId):HO d (.call { callee:=.builtin .append,args:=#[x,y],argTypes:=#[t,t2] })=d.toList:=by simp[HO,CN]
theorem z2g (s1:St):ND s1 []=[]:=rfl
theorem sJ (s1:St)(l:Loc)(r:List Loc):ND s1 (l::r)=(l,get s1 l)::ND s1 r:=rfl
theorem z2h:apply s []=s:=rfl
theorem sK (l:Loc)(v:LV)(r:UT):apply s ((l,some v)::r)=apply (CV s l v) r:=rfl
theorem sM (l:Loc)(r:UT):apply s ((l,none)::r)=apply (OU s l) r:=rfl
theorem z2i:TN []=[]:=rfl
theorem sN (b:Nat)(cs:List DV)(r:BU):TN ((b,cs)::r) = .heap b::TN r:=rfl
theorem z85:mD []=[]:=rfl
theorem z2j (b:Nat)(cs:List DV)(r:BU):mD ((b,cs)::r)=(.heap b,none)::mD r:=rfl
theorem z86:mE []=[]:=rfl
theorem z2k (b:Nat)(cs:List DV)(r:BU):mE ((b,cs)::r)=mE r++[(.heap b,some (.row (cs.map SV.v)))]:=rfl
variable {l:List Oper}{k:St->List Ev->Prop}{ev:List Ev}{fp wr:List Loc}{nm:List Nat}
theorem zfe:xW X Ad ops s0 K [] s ev=(m6 ops.toList s0 ev.reverse=true/\K s):=by rw[xW]
theorem zkh (d:Option Tmp)(op:Op)(ty:TypeId)(pos:String)(af:Array Edge) :
  xW X Ad ops s0 K (⟨d,op,ty,pos,af,none⟩::l) s ev=mC X Ad ops s0 l K (xW X Ad ops s0 K l) ⟨d,op,ty,pos,af,none⟩ ev s (FA X (get s) op):=by rw[xW]
theorem zki (d:Option Tmp)(op:Op)(ty:TypeId)(pos:String)(af:Array Edge)(j:Nat)(w:Bool) :
  xW X Ad ops s0 K (⟨d,op,ty,pos,af,some (j,w)⟩::l) s ev=xV X Ad ops s0 l K (xW X Ad ops s0 K l) ⟨d,op,ty,pos,af,some (j,w)⟩ ev s (FA X (get s) op) w (gsl ops j):=by rw[xW]
theorem zff (o:Oper):mC X Ad ops s0 l K k o ev s fp=zf3 X Ad ops s0 l K k o ev s fp (HS s fp):=rfl
theorem zfg (s1:St)(d:Option Tmp)(op:Op)(ty:TypeId)(pos:String)(af:Array Edge)(gd:Option (Nat × Bool)) :
  zf3 X Ad ops s0 l K k ⟨d,op,ty,pos,af,gd⟩ ev s fp s1=mB X ops s0 l K k ⟨d,op,ty,pos,af,gd⟩ ev s fp (HM X (get s1) d op) (BA X Ad s1 ⟨d,op,ty,pos,af,gd⟩):=rfl
theorem z2l (s1:St)(c:Prop)(d:Option Tmp)(op:Op)(ty:TypeId)(pos:String)(af:Array Edge)(gd:Option (Nat × Bool)) :
  mB X ops s0 l K k ⟨d,op,ty,pos,af,gd⟩ ev s fp wr (some (c,s1))=(c/\YV k ev s fp (HO d op) (ND s1 wr)):=rfl
theorem zfh (e:UT):YV k ev s fp nm e=k (apply s e) (⟨fp,e,nm⟩::ev):=rfl
theorem sO (o:Oper)(w:Bool)(dj:Nat):xV X Ad ops s0 l K k o ev s fp w (some dj)=YW X Ad ops s0 l K k o ev s fp w dj (O6 (get s (.slot dj))):=rfl
theorem sQ (o:Oper)(dj:Nat):YW X Ad ops s0 l K k o ev s fp true dj (some (.v (.prim (.bool true))))=(dj<X.n/\mC X Ad ops s0 l K k o ev s (.slot dj::fp)):=by simp[YW]
theorem sR (o:Oper)(dj:Nat):YW X Ad ops s0 l K k o ev s fp false dj (some (.v (.prim (.bool false))))=(dj<X.n/\mC X Ad ops s0 l K k o ev s (.slot dj::fp)):=by simp[YW]
theorem z2m (d:Tmp)(op:Op)(ty:TypeId)(pos:String)(af:Array Edge)(gd:Option (Nat × Bool))(dj:Nat) :
  YW X Ad ops s0 l K k ⟨some d,op,ty,pos,af,gd⟩ ev s fp true dj (some (.v (.prim (.bool false))))=(dj<X.n/\d<X.n/\YV k ev s [.slot dj] [] [(.slot d,some dX)]):=by simp[YW]
theorem z2n (d:Tmp)(op:Op)(ty:TypeId)(pos:String)(af:Array Edge)(gd:Option (Nat × Bool))(dj:Nat) :
  YW X Ad ops s0 l K k ⟨some d,op,ty,pos,af,gd⟩ ev s fp false dj (some (.v (.prim (.bool true))))=(dj<X.n/\d<X.n/\YV k ev s [.slot dj] [] [(.slot d,some dX)]):=by simp[YW]
theorem zfi (d:Tmp)(op:Op)(ty:TypeId)(pos:String)(af:Array Edge)(gd:Option (Nat × Bool))(w:Bool)(dj:Nat) :
  YW X Ad ops s0 l K k ⟨some d,op,ty,pos,af,gd⟩ ev s fp w dj (some (.v (.tup [])))=(d<X.n/\YV k ev s [.slot dj] [] [(.slot d,some dX)]):=rfl
theorem aI {P:Program}(hP:X.P=P){f:FuncId}{fn:Func}(hf:X.f=f)(u9:X.fn=fn){r:DV}(hR:X.R=(fun x ψ=>x=r/\ψ=[])/\X.md = .fn){kk:List Item}(h:P.funcs[f]? = some fn/\YT X (get s) fn.results.toList=some r):W X (.code .ret::kk) s:=by
 subst hP hf u9;exact zis hR.2 h.1 h.2 (φ:=[]) (fun _ _ h=>by cases h) List.nodup_nil (by rw[hR.1];exact⟨rfl,rfl⟩)
theorem aJ {P:Program}(hP:X.P=P){f:FuncId}{fn:Func}(hf:X.f=f)(u9:X.fn=fn){r:DV}(hR:X.R=(fun x ψ=>x=r/\ψ=[])/\X.md = .fn)(h:P.funcs[f]? = some fn/\YT X (get s) fn.results.toList=some r):W X [] s:=by
 subst hP hf u9;exact zit hR.2 h.1 h.2 (φ:=[]) (fun _ _ h=>by cases h) List.nodup_nil (by rw[hR.1];exact⟨rfl,rfl⟩)
theorem FD (n:Nat)(I:Nat->Prop)(S:Nat->St){c:Code}{kk:List Item}(h0:I 0)(round:∀i,i<n->I i->(I (i+1)->W X (.inLoop c::kk) (S (i+1)))->W X (.code c::.inLoop c::kk) (S i))(last:I n->W X (.code c::.inLoop c::kk) (S n)) :
  W X (.code (.loop c)::kk) (S 0):=by
 refine CH (fun i=>i<=n/\I i) S (fun i=>n - i) 0 ⟨Nat.zero_le _,h0⟩ fun i hi ih=>?_;by_cases h:i<n;· exact round i h hi.2 fun h1=>ih (i+1) ⟨h,h1⟩ oO
 ·obtain rfl:i=n:=oO;exact last hi.2
theorem FE {α:Type}(L:List α)(S:List α->List α->St){c:Code}{kk:List Item}(round:∀done x rest,L=done++x::rest->L[done.length]? = some x->W X (.inLoop c::kk) (S (done++[x]) rest)->W X (.code c::.inLoop c::kk) (S done (x::rest)))(last:W X (.code c::.inLoop c::kk) (S L [])) :
  W X (.code (.loop c)::kk) (S [] L):=by
 have key:=CH (X:=X) (k:=kk) (c:=c) (fun i:List α × List α=>L=i.1++i.2) (fun i=>S i.1 i.2) (fun i=>i.2.length) ([],L) rfl;refine key fun ⟨done,rest⟩ hI ih=>?_;cases rest with
 | nil=>
  simp only[List.append_nil]at hI;subst hI;exact last
 | cons x rest=>
  exact round done x rest hI (by rw[hI];simp) (ih (done++[x],rest) (by simp[hI]) sS)
end
theorem zkj:HL=2147483648:=rfl
attribute [go_sem] zkj mI mK mM
attribute [go_sem] z7x z7y z26 s8 mF mG eI aH iI z24 z7z zf4 zf5 zk1 zk2
attribute [go_sem] zov zf6 zow zk3 zru zk4 mH zox zk5 z27 zrv fUn s9 zk6 sA sC z80 zrw zrx zf7
attribute [go_sem] z28 z29 z2a z2b zoy zf8 zoz zk7 zry zk8 mJ zp0 zk9 z2c zrz wUn z81 z2d sD zka zf9 sE zkb sF z82 zs0 zs1 zfa
attribute [go_sem] zp1 zfb zp2 zkc zs2 zkd mL zp3 zke z2e zs3 nUn z83 z2f sG zkf zfc sH zkg sI z84 zs4 zs5 zfd
attribute [go_sem] z2g sJ z2h sK sM z2i sN z85 z2j z86 z2k zfe zkh zki zff zfg z2l zfh sO sQ sR z2m z2n zfi
end
end Go.Proofs.YtoniciijokeidaaGreatDoor.Lift
