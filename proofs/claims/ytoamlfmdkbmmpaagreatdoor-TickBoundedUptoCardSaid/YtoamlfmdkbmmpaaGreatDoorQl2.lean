import Derived.Test.YtoamlfmdkbmmpaaGreatDoorQl1
import Derived.Orders
namespace Go.Proofs.YtoamlfmdkbmmpaaGreatDoor.Lift
set_option linter.unusedSimpArgs false
set_option linter.unusedVariables false
set_option linter.unnecessarySimpa false
open Go
section
def put1 (X:Ctx)(s:St)(dst:Option Tmp)(r:Option (Prop × SV)):Option (Prop × St):=
 match dst,r with
 | some d,some (c,y)=>some (c∧d<X.n,upd s (.slot d) (.one y))
 | none,some (c,_)=>some (c,s)
 | _,none=>none
def stAlloc (X:Ctx)(s:St)(dst:Option Tmp)(r:Option (List SV)):Option (Prop × St):=
 match dst,r with
 | some d,some cs=>if cellBS cs && freshL d s && !anyLoc d cs then some (d<X.n,upd (upd s (.slot d) (.one (.loc d 0))) (.loc d) (.row cs)) else none
 | _,_=>none
def stBox (X:Ctx)(s:St)(dst:Option Tmp)(r:Option SV):Option (Prop × St):=
 match dst,r with
 | some d,some y=>if cellBS (cellsS y) && freshL d s && !hasLoc d y then some (d<X.n,upd (upd s (.slot d) (.one (.loc d 0))) (.loc d) (.row (cellsS y))) else none
 | _,_=>none
def stStore (s:St)(lay:Option (Bool × Nat))(p x:Option SV):Option (Prop × St):=
 match p,lay,x with
 | some (.loc k off),some (_,n),some y=>
  match get s (.loc k) with
  | some (.row cs)=>if cellBS (cellsS y) then some ((cellsS y).length=n∧off+n≤cs.length,upd s (.loc k) (.row (put cs off (cellsS y)))) else none
  | _=>none
 | some (.v (.prim (.pointer (some ⟨b,off,none⟩)))),some (_,n),some y=>
  match get s (.heap b),asVs (cellsS y) with
  | some (.row cs),some ys=>if cellBS ys then some (ys.length=n∧off+n≤cs.length,upd s (.heap b) (.row (put cs off ys))) else none
  | _,_=>none
 | _,_,_=>none
def stLit (X:Ctx)(s:St)(dst:Option Tmp)(len:Nat)(e:Option (Nat × Nat))(r:Option (List (List DV))):Option (Prop × St):=
 match dst,e,r with
 | some d,some (E,_),some els=>some (d<X.n∧els.length=len∧len * E≤16777216∧len≤BIG,upd s (.slot d) (.one (.v (.sl els))))
 | _,_,_=>none
def stAppend (X:Ctx)(s:St)(dst:Option Tmp)(e:Option (Nat × Nat))(e2:Bool)(x:Option SV)(y:Option (List (List DV))):Option (Prop × St):=
 match dst,e,x,y with
 | some d,some (E,B),some (.own t els),some ys=>
  if e2 && freshT d s && d != 0 then
   some (d<X.n∧(0<B∧B≤1024)∧hasRoom (get s) t E els.length∧els.length+ys.length≤BIG∧(∀ e ∈ els,e.length=E)∧(∀ e ∈ ys,e.length=E),
    upd (upd (del s (.tok t)) (.slot d) (.one (.own d (els++ys)))) (.tok d) (.tk E (els.length+ys.length)))
  else none
 | _,_,_,_=>none
def stSlice3 (X:Ctx)(s:St)(dst:Option Tmp)(e:Option Nat)(x:Option (List (List DV)))(lo hi m:Option Int)(some':Bool):Option (Prop × St):=
 match dst,e,x,lo,hi,m with
 | some d,some E,some els,some l,some h,some k=>
  if freshT d s && d != 0 && some' then
   some (d<X.n∧0≤l∧l≤h∧h≤els.length∧h=k∧(∀ e ∈ els,e.length=E),
    upd (upd (del s (.tok 0)) (.slot d) (.one (.own d ((els.take h.toNat).drop l.toNat)))) (.tok d) (.tk E (h.toNat - l.toNat)))
  else none
 | _,_,_,_,_,_=>none
def escs (esc:List Nat)(dst:Option Tmp):Bool:=
 match dst with
 | some d=>memN d esc
 | none=>false
def isAppend (c:Call):Option (Operand × Operand × TypeId × TypeId):=
 match c.callee,c.args.toList,c.argTypes.toList with
 | .builtin .append,[x,y],[t,t2]=>some (x,y,t,t2)
 | _,_,_=>none
def hiOf (X:Ctx)(s:St)(x:Operand)(hi:Option Operand):Option Int:=
 match (evl X (get s) x).bind slOf with
 | some els=>bound X (get s) els.length hi
 | none=>none
def stepS (X:Ctx)(esc:List Nat)(s:St)(o:Oper):Option (Prop × St):=
 if escs esc o.dst then none else
 match o.op with
 | .alloc t=>stAlloc X s o.dst (zeroT X.P t)
 | .box _ x=>stBox X s o.dst (evl X (get s) x)
 | .store t p x=>if o.dst.isNone then stStore s (layT X.P t) (evl X (get s) p) (evl X (get s) x) else none
 | .buildSlice t len parts=>
  match elemZ X.P t with
  | some (E,B)=>stLit X s o.dst len (some (E,B)) (litEls X (get s) E 0 parts.toList)
  | none=>none
 | .slice t x lo hi (some m)=>stSlice3 X s o.dst (elemT X.P t) ((evl X (get s) x).bind slOf) (bound X (get s) 0 lo) (hiOf X s x hi) (bound X (get s) 0 (some m)) hi.isSome
 | .call c=>
  match isAppend c with
  | some (x,y,t,t2)=>stAppend X s o.dst (elemZ X.P t) (elemT X.P t2).isSome (evl X (get s) x) ((evl X (get s) y).bind slOf)
  | none=>put1 X s o.dst (pval X (get s) o)
 | _=>put1 X s o.dst (pval X (get s) o)
section
variable {X:Ctx}{s:St}{k:List Item}
theorem zg1 {o:Oper}{c:Prop}{s':St}(h:put1 X s o.dst (pval X (get s) o)=some (c,s'))(hc:c):StepOK X s o s':=by
 unfold put1 at h
 split at h
 ·rename_i d c' y hd hp
  cases h
  exact zf7 hp hc.1 hd hc.2
 ·rename_i c' y hd hp
  cases h
  exact zm0 hp hc hd
 ·cases h
theorem zg2 {esc:List Nat}{o:Oper}{c:Prop}{s':St}(h:stepS X esc s o=some (c,s'))(hc:c):StepOK X s o s':=by
 unfold stepS at h
 split at h
 ·cases h
 ·split at h
  ·rename_i t ho
   unfold stAlloc at h
   split at h
   ·rename_i d cs hd hz
    split at h
    ·rename_i hb
     cases h
     simp only [Bool.and_eq_true] at hb
     exact zf8 ho hd hc hz hb.1.1 hb.1.2
    ·cases h
   ·cases h
  ·rename_i t x ho
   unfold stBox at h
   split at h
   ·rename_i d y hd hy
    split at h
    ·rename_i hb
     cases h
     simp only [Bool.and_eq_true,Bool.not_eq_true'] at hb
     exact zf9 ho hd hc hy hb.1.1 hb.1.2 hb.2
    ·cases h
   ·cases h
  ·rename_i t p x ho
   split at h
   ·rename_i hdn
    have hd:o.dst=none:=by simpa using hdn
    unfold stStore at h
    split at h
    ·rename_i k' off agg n y hp hl hy
     split at h
     ·rename_i cs hg
      split at h
      ·rename_i hb
       cases h
       exact zfc ho hd hp hg hl hy hc hb
      ·cases h
     ·cases h
    ·rename_i b off agg n y hp hl hy
     split at h
     ·rename_i cs ys hg hys
      split at h
      ·rename_i hb
       cases h
       exact z9r ho hd hp hg hl hy hys hc hb
      ·cases h
     ·cases h
    ·cases h
   ·cases h
  ·rename_i t len parts ho
   split at h
   ·rename_i E B he
    unfold stLit at h
    split at h
    ·rename_i d E' B' els hd he' hels
     cases he'
     cases h
     exact zff ho hd hc.1 he hels hc.2
    ·cases h
   ·cases h
  ·rename_i t x lo hi m ho
   unfold stSlice3 at h
   split at h
   ·rename_i d E els l h' k' hd hE hx hlo hhi hm
    split at h
    ·rename_i hb
     cases h
     simp only [Bool.and_eq_true,bne_iff_ne,ne_eq] at hb
     unfold hiOf at hhi
     rw [hx] at hhi
     exact zfl ho hd hc.1 hb.1.2 hb.1.1 hE hx hlo hhi hm hb.2 hc.2
    ·cases h
   ·cases h
  ·rename_i c' ho
   split at h
   ·rename_i x y t t2 hap
    have hc':c' = { callee:=.builtin .append,args:=#[x,y],argTypes:=#[t,t2] }:=by
     unfold isAppend at hap
     split at hap
     ·rename_i h1 h2 h3
      cases hap
      cases c'
      simp only at h1 h2 h3
      rw [h1,z4m h2,z4m h3]
     ·cases hap
    subst hc'
    unfold stAppend at h
    split at h
    ·rename_i d E B t' els ys hd he hx hy
     split at h
     ·rename_i hb
      cases h
      simp only [Bool.and_eq_true,bne_iff_ne,ne_eq] at hb
      exact zfk ho hd hc.1 hb.2 hb.1.2 he hc.2.1 hb.1.1 hx hy hc.2.2.1 hc.2.2.2.1 hc.2.2.2.2.1 hc.2.2.2.2.2
     ·cases h
    ·cases h
   ·exact zg1 h hc
  ·exact zg1 h hc
def guardOf (ops:Array Oper)(o:Oper):Option (Option (Nat × Bool)):=
 match o.guard with
 | none=>some none
 | some (j,want)=>match (ops[j]?).bind (·.dst) with
  | some d=>some (some (d,want))
  | none=>none
def vc (X:Ctx)(esc:List Nat)(ops:Array Oper):List Oper→St→(St→Prop)→Prop
 | [],s,K=>K s
 | o::l,s,K=>
  match guardOf ops o with
  | some none=>
   match stepS X esc s o with
   | some (c,s')=>c∧vc X esc ops l s' K
   | none=>VL X ops (o::l) s K
  | some (some (dj,want))=>
   match get s (.slot dj) with
   | some (.one (.v (.prim (.bool b))))=>
    dj<X.n∧(b=want→match stepS X esc (upd s (.slot dj) (.one (.v (.prim (.bool want))))) o with
     | some (c,s')=>c∧vc X esc ops l s' K
     | none=>VL X ops (o::l) (upd s (.slot dj) (.one (.v (.prim (.bool want))))) K) ∧
    (b = !want→match o.dst with
     | some d=>d<X.n∧vc X esc ops l (upd (upd s (.slot dj) (.one (.v (.prim (.bool (!want)))))) (.slot d) unv) K
     | none=>False)
   | some (.one (.v (.tup [])))=>match o.dst with
    | some d=>d<X.n∧vc X esc ops l (upd s (.slot d) unv) K
    | none=>False
   | _=>False
  | none=>False
theorem zmc {ops:Array Oper}{l:List Oper}{s s':St}{K:St→Prop}(h:∀ m,get s' m=get s m)(hv:VL X ops l s' K):VL X ops l s K:=
 fun n hn G a w R=>hv n hn G a w (R.congr h)
theorem z1c {esc:List Nat}{ops:Array Oper}{K:St→Prop}:∀ {l:List Oper} {s:St},vc X esc ops l s K→VL X ops l s K
 | [],s,h=>zm6 h
 | o::l,s,h=>by
  unfold vc at h
  split at h
  ·rename_i hg
   have hgn:o.guard=none:=by
    unfold guardOf at hg
    split at hg
    ·assumption
    ·split at hg <;> cases hg
   split at h
   ·rename_i c s' hs
    exact z4o hgn (zg2 hs h.1) (z1c h.2)
   ·exact h
  ·rename_i dj want hg
   have hgn:∃ j,o.guard=some (j,want)∧(ops[j]?).bind (·.dst)=some dj:=by
    unfold guardOf at hg
    split at hg
    ·cases hg
    ·rename_i j w' hq
     split at hg
     ·rename_i d hd
      cases hg
      exact ⟨j,hq,hd⟩
     ·cases hg
   obtain ⟨j,hg1,hg2⟩:=hgn
   split at h
   ·rename_i b hb
    obtain ⟨hdj,h1,h2⟩:=h
    have hcg:∀ c,b=c→∀ m,get (upd s (.slot dj) (.one (.v (.prim (.bool c))))) m=get s m:=by
     rintro c rfl m
     rw [z0h]
     split
     ·subst_vars;exact hb.symm
     ·rfl
    by_cases hbw:b=want
    ·have h3:=h1 hbw
     split at h3
     ·rename_i c s' hs
      have hd2:∃ d,True:=⟨0,trivial⟩
      intro n hn G a w R
      obtain ⟨k1,k2⟩:=z2g hn
      have hv:=(z0o (R.holds _ _ hb)).1
      have hlt:dj<a.tmps.size:=by rw [R.size];exact hdj
      have hv':a.tmps[dj]? = some (.bool b):=by
       have h3:a.tmps.getD dj undef=a.tmps[dj]:=by simp [hlt]
       rw [Array.getElem?_eq_getElem hlt,← h3,hv]
      have hy:yielded ops a.tmps j=some b:=by
       unfold yielded
       rw [hg2]
       simp [hv']
      simp only [List.length_cons,List.range'_succ,wpOpsIn,k1,Region.wanted,hg1,hy,hbw,beq_self_eq_true,if_true]
      exact (zg2 hs h3.1 G a w (R.congr (hcg _ hbw)) _ _ fun G' a' w' R'=>z1c h3.2 (n+1) k2 G' a' w' R')
     ·exact zmc (hcg _ hbw) h3
    ·have hbn:b = !want:=by cases b <;> cases want <;> simp_all
     have h3:=h2 hbn
     split at h3
     ·rename_i d hd
      exact zm7 hg1 hg2 hdj hb (fun e=>absurd e hbw) hd h3.1 (fun _=>z1c h3.2)
     ·exact h3.elim
   ·rename_i hb
    split at h
    ·rename_i d hd
     exact zm8 hg1 hg2 hb hd h.1 (z1c h.2)
    ·exact h.elim
   ·exact h.elim
  ·exact h.elim
theorem z05 {id:Nat}{ops:Array Oper}(esc:List Nat)(h:∀ K:St→Prop,(∀ s',W X k s'→K s')→vc X esc ops ops.toList s K):W X (.code (.region id ops false)::k) s:=
 zm9 fun K hK=>z1c (h K hK)
theorem zmd {esc:List Nat}{ops:Array Oper}{o:Oper}{l:List Oper}{K:St→Prop}{f:FuncId}{args:Array Operand}{ats:Array TypeId}(ho:o.op = .call { callee:=.value (.func f),args:=args,argTypes:=ats })(hg:o.guard=none)
  {ds:List DV} (hargs:evlDs X (get s) args.toList=some ds) {P:Program} {gl:Globs} (hP:X.P=P) (hgl:X.gl=gl) {φ φ':Objs} {r:DV} (hc:Con1 P gl f ds φ r φ') (hφ:objsIn (get s) φ) (hnd:(φ.map (·.1)).Nodup) {d:Nat} (hd:o.dst=some d) (hdn:d<X.n)
  (h:vc X esc ops l (addObjs (delObjs (upd s (.slot d) (.one (.v r))) φ) φ') K):VL X ops (o::l) s K:=
 z4o hg (za0 ho hargs (by rw [hP,hgl];exact hc) hφ hnd hd hdn) (z1c h)
end
end
section
abbrev dint (n:Int):DV:=.prim (.int .i64 n)
abbrev dbool (b:Bool):DV:=.prim (.bool b)
theorem zme (l:Loc):get [] l=none:=rfl
theorem zmf (l:Loc)(v:LV)(r:St):get ((l,v)::r) l=some v:=by simp [get]
theorem zmg {l m:Loc}(v:LV)(r:St)(h:m ≠ l):get ((m,v)::r) l=get r l:=by simp [get,h]
theorem zmh (l:Loc):del [] l=[]:=rfl
theorem zmi (l:Loc)(v:LV)(r:St):del ((l,v)::r) l=del r l:=by simp [del]
theorem zmj {l m:Loc}(v:LV)(r:St)(h:m ≠ l):del ((m,v)::r) l=(m,v)::del r l:=by simp [del,h]
theorem zmk (s:St)(l:Loc)(v:LV):upd s l v=(l,v)::del s l:=rfl
theorem zml (d:Nat):memN d []=false:=rfl
theorem zmm (d x:Nat)(r:List Nat):memN d (x::r)=(d == x || memN d r):=rfl
def oneOf:Option LV→Option SV
 | some (.one x)=>some x
 | _=>none
theorem zmn (x:SV):oneOf (some (.one x))=some x:=rfl
section
variable {X:Ctx}{s:St}{g:Rd}
theorem zmo (t:Nat):evl X g (.tmp t)=oneOf (g (.slot t)):=by
 unfold evl oneOf
 rfl
theorem zmp (v:Value):evl X g (.const v)=constS v:=rfl
def evG:Option (List (List DV))→Option SV
 | some (e::r)=>some (.dp (e::r) 0 0)
 | _=>none
theorem zmq (e:List DV)(r:List (List DV)):evG (some (e::r))=some (.dp (e::r) 0 0):=rfl
theorem zmr (b:Nat):evl X g (.global b)=evG (globOf X.gl b):=by
 unfold evl evG
 rfl
theorem zms (f:Nat):evl X g (.func f)=some (.v (.prim (.func (.func f) #[] #[]))):=rfl
theorem zmt:constS (.slice none 0 0)=some (.own 0 []):=rfl
theorem zmu {k:IntKind}{n:Int}(h:intOK k n):constS (.int k n)=some (.v (.prim (.int k n))):=by simp [constS,primB,h]
theorem zmv (b:Bool):constS (.bool b)=some (.v (.prim (.bool b))):=rfl
theorem zmw (b:ByteArray):constS (.string b)=some (.v (.prim (.string b))):=rfl
theorem zmx:constS .nilFunc=some (.v (.prim .nilFunc)):=rfl
theorem zmy:constS .nilIface=some (.v (.prim .nilIface)):=rfl
theorem zmz (a:Option Addr):constS (.pointer a)=some (.v (.prim (.pointer a))):=rfl
theorem zn0 (a:Option Nat):constS (.map a)=some (.v (.prim (.map a))):=rfl
theorem zn1 (x:DV):toD (.v x)=some x:=rfl
theorem zn2 (cs:List DV)(ns:List Nat):toD (.ag cs ns)=some (.agg cs):=rfl
theorem zn3 (t:Nat)(els:List (List DV)):toD (.own t els)=some (.sl els):=rfl
theorem zn4:toDs []=some []:=rfl
theorem zn5 (x:DV)(r:List SV):toDs (.v x::r)=(toDs r).map (x::·):=by
 simp only [toDs,toD]
 cases toDs r <;> rfl
theorem zn6 (t:Nat)(els:List (List DV))(r:List SV):toDs (.own t els::r)=(toDs r).map (.sl els::·):=by
 simp only [toDs,toD]
 cases toDs r <;> rfl
theorem zn7 (els:List (List DV))(i:Nat):toD (.dp els i 0)=(els[i]?).map .ref:=rfl
theorem zn8 (els:List (List DV))(i:Nat)(r:List SV):toDs (.dp els i 0::r)=((els[i]?).map DV.ref).bind fun y=>(toDs r).map (y::·):=by
 simp only [toDs,toD]
 cases els[i]? <;> cases toDs r <;> rfl
theorem zn9 (els:List (List DV))(i o:Nat):cellsS (.dp els i o)=[.dp els i o]:=rfl
theorem zna (k:Nat)(els:List (List DV))(i o:Nat)(r:List SV):nilsOf k (.dp els i o::r)=nilsOf (k+1) r:=rfl
theorem znb (cs:List DV):cellsD (.agg cs)=cs:=rfl
theorem znc (v:Value):cellsD (.prim v)=[.prim v]:=rfl
theorem znd (e:List (List DV)):cellsD (.sl e)=[.sl e]:=rfl
theorem zne (cs:List DV):cellsD (.ref cs)=[.ref cs]:=rfl
theorem znf (t:TypeId)(x:DV):cellsD (.iface t x)=[.iface t x]:=rfl
theorem zng (x:DV):cellsS (.v x)=(cellsD x).map .v:=rfl
theorem znh (t:Nat)(els:List (List DV)):cellsS (.own t els)=[.own t els]:=rfl
theorem zni (k off:Nat):cellsS (.loc k off)=[.loc k off]:=rfl
theorem znj (cs:List DV)(ns:List Nat):cellsS (.ag cs ns)=agC ns 0 cs:=rfl
theorem znk (ns:List Nat)(k:Nat):agC ns k []=[]:=rfl
def agB (b:Bool)(d:DV):SV:=if b then .own 0 [] else .v d
theorem znl (d:DV):agB true d = .own 0 []:=rfl
theorem znm (d:DV):agB false d = .v d:=rfl
theorem znn (ns:List Nat)(k:Nat)(d:DV)(r:List DV):agC ns k (d::r)=agB (memN k ns) d::agC ns (k+1) r:=rfl
theorem zno (k:Nat):nilsOf k []=[]:=rfl
theorem znp (k:Nat)(r:List SV):nilsOf k (.own 0 []::r)=k::nilsOf (k+1) r:=rfl
theorem znq (k t:Nat)(e:List (List DV))(r:List SV):nilsOf k (.own (t+1) e::r)=nilsOf (k+1) r:=by
 rw [nilsOf]
 rintro h1
 cases h1
theorem znr (k:Nat)(x:DV)(r:List SV):nilsOf k (.v x::r)=nilsOf (k+1) r:=rfl
theorem zns (k j o:Nat)(r:List SV):nilsOf k (.loc j o::r)=nilsOf (k+1) r:=rfl
theorem znt (d:Nat)(cs:List DV)(ns:List Nat):hasLoc d (.ag cs ns)=false:=rfl
theorem znu (d:Nat)(cs:List DV)(ns:List Nat):hasTok d (.ag cs ns)=false:=rfl
theorem znv (e:List (List DV)):slOf (.v (.sl e))=some e:=rfl
theorem znw (q:Option Addr)(n c:Nat):slOf (.v (.prim (.slice q n c)))=none:=rfl
theorem znx (t:Nat)(e:List (List DV)):slOf (.own t e)=some e:=rfl
theorem zny (v:Value):DV.isCell (.prim v)=true:=rfl
theorem znz (e:List (List DV)):DV.isCell (.sl e)=true:=rfl
theorem zo0 (cs:List DV):DV.isCell (.ref cs)=true:=rfl
theorem zo1 (t:TypeId)(x:DV):DV.isCell (.iface t x)=true:=rfl
theorem zo2 (x:DV):SV.isCell (.v x)=x.isCell:=rfl
theorem zo3 (k o:Nat):SV.isCell (.loc k o)=true:=rfl
theorem zo4 (e:List (List DV))(k o:Nat):SV.isCell (.dp e k o)=true:=rfl
theorem zo5 (t:Nat)(e:List (List DV)):SV.isCell (.own t e)=true:=rfl
theorem zo6:cellB []=true:=rfl
theorem zo7 (x:DV)(r:List DV):cellB (x::r)=(x.isCell && cellB r):=rfl
theorem zo8:cellBS []=true:=rfl
theorem zo9 (x:SV)(r:List SV):cellBS (x::r)=(x.isCell && cellBS r):=rfl
theorem zoa (d:Nat)(x:DV):hasLoc d (.v x)=false:=rfl
theorem zob (d k o:Nat):hasLoc d (.loc k o)=(k == d):=rfl
theorem zoc (d:Nat)(e:List (List DV))(k o:Nat):hasLoc d (.dp e k o)=false:=rfl
theorem zod (d t:Nat)(e:List (List DV)):hasLoc d (.own t e)=false:=rfl
theorem zoe (d:Nat)(x:DV):hasTok d (.v x)=false:=rfl
theorem zof (d k o:Nat):hasTok d (.loc k o)=false:=rfl
theorem zog (d:Nat)(e:List (List DV))(k o:Nat):hasTok d (.dp e k o)=false:=rfl
theorem zoh (d t:Nat)(e:List (List DV)):hasTok d (.own t e)=(t == d):=rfl
theorem zoi (d:Nat):anyLoc d []=false:=rfl
theorem zoj (d:Nat)(x:SV)(r:List SV):anyLoc d (x::r)=(hasLoc d x || anyLoc d r):=rfl
theorem zok (d:Nat):anyTok d []=false:=rfl
theorem zol (d:Nat)(x:SV)(r:List SV):anyTok d (x::r)=(hasTok d x || anyTok d r):=rfl
theorem zom (d:Nat):freshL d []=true:=rfl
theorem zon (d n:Nat)(x:SV)(r:St):freshL d ((.slot n,.one x)::r)=(!hasLoc d x && freshL d r):=by simp [freshL]
theorem zoo (d n:Nat)(cs:List SV)(r:St):freshL d ((.loc n,.row cs)::r)=(n != d && !anyLoc d cs && freshL d r):=by simp [freshL]
theorem zop (d n:Nat)(cs:List SV)(r:St):freshL d ((.heap n,.row cs)::r)=(!anyLoc d cs && freshL d r):=by simp [freshL]
theorem zoq (d n:Nat)(q:List (Int × DV))(r:St):freshL d ((.heap n,.mp q)::r)=freshL d r:=by simp [freshL]
theorem zor (d n:Nat)(q:List (Int × DV))(r:St):freshT d ((.heap n,.mp q)::r)=freshT d r:=by simp [freshT]
theorem zos (d n:Nat)(q:Loop)(r:St):freshL d ((.heap n,.ob q)::r)=freshL d r:=by simp [freshL]
theorem zot (d n:Nat)(q:Loop)(r:St):freshT d ((.heap n,.ob q)::r)=freshT d r:=by simp [freshT]
theorem zou (d n E l:Nat)(r:St):freshL d ((.tok n,.tk E l)::r)=freshL d r:=by simp [freshL]
theorem zov (d:Nat):freshT d []=true:=rfl
theorem zow (d n:Nat)(x:SV)(r:St):freshT d ((.slot n,.one x)::r)=(!hasTok d x && freshT d r):=by simp [freshT]
theorem zox (d n:Nat)(cs:List SV)(r:St):freshT d ((.loc n,.row cs)::r)=(!anyTok d cs && freshT d r):=by simp [freshT]
theorem zoy (d n:Nat)(cs:List SV)(r:St):freshT d ((.heap n,.row cs)::r)=(!anyTok d cs && freshT d r):=by simp [freshT]
theorem zoz (d n E l:Nat)(r:St):freshT d ((.tok n,.tk E l)::r)=(n != d && freshT d r):=by simp [freshT]
theorem zp0 (cs xs:List SV):put cs 0 xs=xs++cs.drop xs.length:=by simp [put]
theorem zp1 (c:SV)(r xs:List SV)(n:Nat):put (c::r) (n+1) xs=c::put r n xs:=by simp [put]
def vcK (X:Ctx)(esc:List Nat)(ops:Array Oper)(l:List Oper)(K:St→Prop)(o:Oper)(s:St):Option (Prop × St)→Prop
 | some (c,s')=>c∧vc X esc ops l s' K
 | none=>VL X ops (o::l) s K
theorem zp2 (esc:List Nat)(ops:Array Oper)(K:St→Prop):vc X esc ops [] s K=K s:=by simp [vc]
theorem zp3 (esc:List Nat)(ops:Array Oper)(l:List Oper)(K:St→Prop)(d:Option Tmp)(op:Op)(ty:TypeId)(pos:String)(af:Array Edge) :
  vc X esc ops (⟨d,op,ty,pos,af,none⟩::l) s K=vcK X esc ops l K ⟨d,op,ty,pos,af,none⟩ s (stepS X esc s ⟨d,op,ty,pos,af,none⟩):=by
 simp only [vc,guardOf,vcK]
 all_goals (cases stepS X esc s ⟨d,op,ty,pos,af,none⟩ <;> rfl)
theorem zp4 (esc:List Nat)(ops:Array Oper)(l:List Oper)(K:St→Prop)(o:Oper)(c:Prop)(s':St):vcK X esc ops l K o s (some (c,s'))=(c∧vc X esc ops l s' K):=rfl
def gsl (ops:Array Oper)(j:Nat):Option Nat:=(ops[j]?).bind (·.dst)
def vcG (X:Ctx)(esc:List Nat)(ops:Array Oper)(l:List Oper)(K:St→Prop)(o:Oper)(s:St)(want:Bool)(dj:Nat):Option SV→Prop
 | some (.v (.prim (.bool b)))=>
  dj<X.n∧(b=want→vcK X esc ops l K o (upd s (.slot dj) (.one (.v (.prim (.bool want))))) (stepS X esc (upd s (.slot dj) (.one (.v (.prim (.bool want))))) o)) ∧
   (b = !want→match o.dst with
    | some d=>d<X.n∧vc X esc ops l (upd (upd s (.slot dj) (.one (.v (.prim (.bool (!want)))))) (.slot d) unv) K
    | none=>False)
 | some (.v (.tup []))=>match o.dst with
  | some d=>d<X.n∧vc X esc ops l (upd s (.slot d) unv) K
  | none=>False
 | _=>False
def vcG0 (X:Ctx)(esc:List Nat)(ops:Array Oper)(l:List Oper)(K:St→Prop)(o:Oper)(s:St)(want:Bool):Option Nat→Prop
 | some dj=>vcG X esc ops l K o s want dj (oneOf (get s (.slot dj)))
 | none=>False
theorem zp5 (esc:List Nat)(ops:Array Oper)(l:List Oper)(K:St→Prop)(o:Oper)(w:Bool)(dj:Nat):vcG0 X esc ops l K o s w (some dj)=vcG X esc ops l K o s w dj (oneOf (get s (.slot dj))):=rfl
theorem zp6 (esc:List Nat)(ops:Array Oper)(l:List Oper)(K:St→Prop)(d:Option Tmp)(op:Op)(ty:TypeId)(pos:String)(af:Array Edge)(j:Nat)(w:Bool) :
  vc X esc ops (⟨d,op,ty,pos,af,some (j,w)⟩::l) s K=vcG0 X esc ops l K ⟨d,op,ty,pos,af,some (j,w)⟩ s w (gsl ops j):=by
 simp only [vc,guardOf,gsl]
 cases h:(ops[j]?).bind (·.dst) with
 | none=>rfl
 | some dj=>
  simp only [vcG0]
  have e:get s (.slot dj)=get s (.slot dj):=rfl
  generalize get s (.slot dj)=u at *
  unfold vcG oneOf vcK
  cases u with
  | none=>rfl
  | some u=>cases u with
   | row=>rfl
   | tk=>rfl
   | ob=>rfl
   | mp=>rfl
   | one x=>cases x with
    | v y=>cases y with
     | prim q=>cases q <;> first|rfl|(apply propext;constructor <;> (intro h;exact h))
     | tup cs=>cases cs <;> rfl
     | _=>rfl
    | _=>rfl
theorem zp7 (esc:List Nat)(ops:Array Oper)(l:List Oper)(K:St→Prop)(o:Oper)(dj:Nat) :
  vcG X esc ops l K o s true dj (some (.v (.prim (.bool true))))=(dj<X.n∧vcK X esc ops l K o (upd s (.slot dj) (.one (.v (.prim (.bool true))))) (stepS X esc (upd s (.slot dj) (.one (.v (.prim (.bool true))))) o)):=by
 simp [vcG]
theorem zp8 (esc:List Nat)(ops:Array Oper)(l:List Oper)(K:St→Prop)(o:Oper)(dj:Nat) :
  vcG X esc ops l K o s false dj (some (.v (.prim (.bool false))))=(dj<X.n∧vcK X esc ops l K o (upd s (.slot dj) (.one (.v (.prim (.bool false))))) (stepS X esc (upd s (.slot dj) (.one (.v (.prim (.bool false))))) o)):=by
 simp [vcG]
theorem zp9 (esc:List Nat)(ops:Array Oper)(l:List Oper)(K:St→Prop)(d:Tmp)(op:Op)(ty:TypeId)(pos:String)(af:Array Edge)(gd:Option (Nat × Bool))(dj:Nat) :
  vcG X esc ops l K ⟨some d,op,ty,pos,af,gd⟩ s true dj (some (.v (.prim (.bool false))))=(dj<X.n∧d<X.n∧vc X esc ops l (upd (upd s (.slot dj) (.one (.v (.prim (.bool false))))) (.slot d) unv) K):=by
 simp [vcG]
theorem zpa (esc:List Nat)(ops:Array Oper)(l:List Oper)(K:St→Prop)(d:Tmp)(op:Op)(ty:TypeId)(pos:String)(af:Array Edge)(gd:Option (Nat × Bool))(dj:Nat) :
  vcG X esc ops l K ⟨some d,op,ty,pos,af,gd⟩ s false dj (some (.v (.prim (.bool true))))=(dj<X.n∧d<X.n∧vc X esc ops l (upd (upd s (.slot dj) (.one (.v (.prim (.bool true))))) (.slot d) unv) K):=by
 simp [vcG]
theorem zpb (esc:List Nat)(ops:Array Oper)(l:List Oper)(K:St→Prop)(d:Tmp)(op:Op)(ty:TypeId)(pos:String)(af:Array Edge)(gd:Option (Nat × Bool))(w:Bool)(dj:Nat) :
  vcG X esc ops l K ⟨some d,op,ty,pos,af,gd⟩ s w dj (some (.v (.tup [])))=(d<X.n∧vc X esc ops l (upd s (.slot d) unv) K):=rfl
def esK (b:Bool)(r:Option (Prop × St)):Option (Prop × St):=if b then none else r
theorem zpc (r:Option (Prop × St)):esK false r=r:=rfl
theorem zpd (d:Nat)(c:Prop)(y:SV):put1 X s (some d) (some (c,y))=some (c∧d<X.n,upd s (.slot d) (.one y)):=rfl
theorem zpe (c:Prop)(y:SV):put1 X s none (some (c,y))=some (c,s):=rfl
def tru:Option SV→Option (Prop × SV)
 | some y=>some (True,y)
 | none=>none
theorem zpf (y:SV):tru (some y)=some (True,y):=rfl
theorem za1 (o:Option SV):o.map (True,·)=tru o:=by cases o <;> rfl
def pickV (c x y:Option SV):Option (Prop × SV):=
 match c with
 | some (.v (.prim (.bool true)))=>tru x
 | some (.v (.prim (.bool false)))=>tru y
 | _=>none
theorem zpg (x y:Option SV):pickV (some (.v (.prim (.bool true)))) x y=tru x:=rfl
theorem zph (x y:Option SV):pickV (some (.v (.prim (.bool false)))) x y=tru y:=rfl
def binV (P:Program)(op:BinOp)(t:TypeId)(x y:Option SV):Option (Prop × SV):=
 match x,y with
 | some (.v (.prim (.int k a))),some (.v (.prim (.int k' b)))=>if k=k' then intOp op k a b else none
 | some (.v (.prim (.bool a))),some (.v (.prim (.bool b)))=>
  if boolT P t then
   match op with
   | .eql=>some (True,.v (.prim (.bool (a == b))))
   | .neq=>some (True,.v (.prim (.bool (!(a == b)))))
   | _=>none
  else none
 | some (.v (.ref _)),some (.v (.prim (.pointer none)))=>if ptrT P t then nilB op false else none
 | some (.v (.prim (.pointer none))),some (.v (.prim (.pointer none)))=>if ptrT P t then nilB op true else none
 | _,_=>none
theorem zpi {P:Program}{t:TypeId}(h:ptrT P t=true)(cs:List DV):binV P .eql t (some (.v (.ref cs))) (some (.v (.prim (.pointer none))))=some (True,.v (.prim (.bool false))):=by simp [binV,h,nilB]
theorem zpj {P:Program}{t:TypeId}(h:ptrT P t=true)(cs:List DV):binV P .neq t (some (.v (.ref cs))) (some (.v (.prim (.pointer none))))=some (True,.v (.prim (.bool true))):=by simp [binV,h,nilB]
theorem zpk {P:Program}{t:TypeId}(h:ptrT P t=true):binV P .eql t (some (.v (.prim (.pointer none)))) (some (.v (.prim (.pointer none))))=some (True,.v (.prim (.bool true))):=by simp [binV,h,nilB]
theorem zpl {P:Program}{t:TypeId}(h:ptrT P t=true):binV P .neq t (some (.v (.prim (.pointer none)))) (some (.v (.prim (.pointer none))))=some (True,.v (.prim (.bool false))):=by simp [binV,h,nilB]
theorem zpm (P:Program)(op:BinOp)(t:TypeId)(k:IntKind)(a b:Int):binV P op t (some (.v (.prim (.int k a)))) (some (.v (.prim (.int k b))))=intOp op k a b:=by simp [binV]
theorem zpn {P:Program}{t:TypeId}(h:boolT P t=true)(a b:Bool):binV P .eql t (some (.v (.prim (.bool a)))) (some (.v (.prim (.bool b))))=some (True,.v (.prim (.bool (a == b)))):=by simp [binV,h]
theorem zpo {P:Program}{t:TypeId}(h:boolT P t=true)(a b:Bool):binV P .neq t (some (.v (.prim (.bool a)))) (some (.v (.prim (.bool b))))=some (True,.v (.prim (.bool (!(a == b))))):=by simp [binV,h]
theorem zpp (k:IntKind)(a b:Int):intOp .add k a b=some (intOK k (a+b),.v (.prim (.int k (a+b)))):=rfl
theorem zpq (k:IntKind)(a b:Int):intOp .sub k a b=some (intOK k (a - b),.v (.prim (.int k (a - b)))):=rfl
theorem zpr (k:IntKind)(a b:Int):intOp .mul k a b=some (intOK k (a * b),.v (.prim (.int k (a * b)))):=rfl
theorem zps (k:IntKind)(a b:Int):intOp .rem k a b=some (b ≠ 0∧intOK k (a.tmod b),.v (.prim (.int k (a.tmod b)))):=rfl
theorem zpt (k:IntKind)(a b:Int):intOp .quo k a b=some (b ≠ 0∧intOK k (a.tdiv b),.v (.prim (.int k (a.tdiv b)))):=rfl
theorem zpu (k:IntKind)(a b:Int):intOp .eql k a b=some (True,.v (.prim (.bool (decide (a=b))))):=rfl
theorem zpv (k:IntKind)(a b:Int):intOp .neq k a b=some (True,.v (.prim (.bool (!decide (a=b))))):=rfl
theorem zpw (k:IntKind)(a b:Int):intOp .lss k a b=some (True,.v (.prim (.bool (decide (a<b))))):=rfl
theorem zpx (k:IntKind)(a b:Int):intOp .leq k a b=some (True,.v (.prim (.bool (decide (a≤b))))):=rfl
theorem zpy (k:IntKind)(a b:Int):intOp .gtr k a b=some (True,.v (.prim (.bool (decide (b<a))))):=rfl
theorem zpz (k:IntKind)(a b:Int):intOp .geq k a b=some (True,.v (.prim (.bool (decide (b≤a))))):=rfl
def unV (op:UnOp)(x:Option SV):Option (Prop × SV):=
 match op,x with
 | .not,some (.v (.prim (.bool b)))=>some (True,.v (.prim (.bool (!b))))
 | .neg,some (.v (.prim (.int k n)))=>some (intOK k (0 - n),.v (.prim (.int k (0 - n))))
 | _,_=>none
theorem zq0 (b:Bool):unV .not (some (.v (.prim (.bool b))))=some (True,.v (.prim (.bool (!b)))):=rfl
theorem zq1 (k:IntKind)(n:Int):unV .neg (some (.v (.prim (.int k n))))=some (intOK k (0 - n),.v (.prim (.int k (0 - n)))):=rfl
def exC (o:Option DV):Option (Prop × SV):=o.map fun c=>(True,.v c)
theorem zq2 (c:DV):exC (some c)=some (True,.v c):=rfl
def exV (x:Option SV)(i:Nat):Option (Prop × SV):=
 match x with
 | some (.v (.tup cs))=>exC cs[i]?
 | _=>none
theorem zq3 (cs:List DV)(i:Nat):exV (some (.v (.tup cs))) i=exC cs[i]?:=rfl
def faV (f:Option (Bool × Nat × Nat))(x:Option SV):Option (Prop × SV):=
 match f,x with
 | some (_,foff,_),some (.loc k off)=>some (True,.loc k (off+foff))
 | some (_,foff,_),some (.dp els i off)=>some (True,.dp els i (off+foff))
 | some (_,foff,_),some (.v (.prim (.pointer (some ⟨b,off,none⟩))))=>some (True,.v (.prim (.pointer (some ⟨b,off+foff,none⟩))))
 | some (_,foff,_),some (.v (.ref cs))=>some (True,.dp [cs] 0 foff)
 | _,_=>none
theorem zq4 (b:Bool)(n foff:Nat)(cs:List DV):faV (some (b,foff,n)) (some (.v (.ref cs)))=some (True,.dp [cs] 0 foff):=rfl
theorem zq5 (b:Bool)(n foff k off:Nat):faV (some (b,foff,n)) (some (.loc k off))=some (True,.loc k (off+foff)):=rfl
theorem zq6 (b:Bool)(n foff i off:Nat)(els:List (List DV)):faV (some (b,foff,n)) (some (.dp els i off))=some (True,.dp els i (off+foff)):=rfl
theorem zq7 (b:Bool)(n foff k off:Nat):faV (some (b,foff,n)) (some (.v (.prim (.pointer (some ⟨k,off,none⟩)))))=some (True,.v (.prim (.pointer (some ⟨k,off+foff,none⟩)))):=rfl
def fdC (y:DV)(o:Option DV):Option (Prop × SV):=o.map fun c=>(y.isAgg=true,.v c)
theorem zq8 (y c:DV):fdC y (some c)=some (y.isAgg=true,.v c):=rfl
def fdV (f:Option (Bool × Nat × Nat))(x:Option SV):Option (Prop × SV):=
 match f,x with
 | some (agg,off,n),some (.v y)=>fdC y (readD (cellsD y) agg off n)
 | _,_=>none
theorem zq9 (agg:Bool)(off n:Nat)(y:DV):fdV (some (agg,off,n)) (some (.v y))=fdC y (readD (cellsD y) agg off n):=rfl
theorem zqa (cs:List DV)(off n:Nat):readD cs false off n=cs[off]?:=rfl
def rdA (n:Nat)(ds:List DV):Option DV:=if ds.length=n then some (.agg ds) else none
theorem zqb {n:Nat}{ds:List DV}(h:ds.length=n):rdA n ds=some (.agg ds):=by simp [rdA,h]
theorem zqc (cs:List DV)(off n:Nat):readD cs true off n=rdA n ((cs.drop off).take n):=rfl
theorem zqd (cs:List DV):DV.isAgg (.agg cs)=true:=rfl
def rdS (n:Nat):Option (List DV)→Option SV
 | some ds=>if ds.length=n then some (.v (.agg ds)) else none
 | none=>none
theorem zqe {n:Nat}{ds:List DV}(h:ds.length=n):rdS n (some ds)=some (.v (.agg ds)):=by simp [rdS,h]
theorem zqf (cs:List SV)(off n:Nat):readRow cs false off n=cs[off]?:=rfl
theorem zqg (cs:List SV)(off n:Nat):readRow cs true off n=rdS n (toDs ((cs.drop off).take n)):=by
 simp only [readRow,if_true,rdS]
 cases toDs ((cs.drop off).take n) <;> rfl
def ldRow (lay:Option (Bool × Nat))(r:Option LV)(off:Nat):Option SV:=
 match lay,r with
 | some (agg,n),some (.row cs)=>readRow cs agg off n
 | _,_=>none
theorem zqh (agg:Bool)(n off:Nat)(cs:List SV):ldRow (some (agg,n)) (some (.row cs)) off=readRow cs agg off n:=rfl
def ldDp (lay:Option (Bool × Nat))(e:Option (List DV))(off:Nat):Option SV:=
 match lay,e with
 | some (agg,n),some e=>(readD e agg off n).map .v
 | _,_=>none
theorem zqi (agg:Bool)(n off:Nat)(e:List DV):ldDp (some (agg,n)) (some e) off=(readD e agg off n).map .v:=rfl
def ldV (P:Program)(g:Rd)(t:TypeId)(x:Option SV):Option SV:=
 match x with
 | some (.loc k off)=>ldRow (layT P t) (g (.loc k)) off
 | some (.dp els i off)=>ldDp (layT P t) els[i]? off
 | some (.v (.prim (.pointer (some ⟨b,off,none⟩))))=>ldRow (layT P t) (g (.heap b)) off
 | some (.v (.ref cs))=>ldDp (layT P t) (some cs) 0
 | _=>none
theorem zg3 (t:TypeId)(y:SV):ldV X.P g t (some y)=loadAt X g t y:=by
 cases y with
 | loc k off=>
  simp only [ldV,ldRow,loadAt]
  cases layT X.P t <;> cases g (.loc k) <;> rfl
 | dp els i off=>
  simp only [ldV,ldDp,loadAt]
  cases layT X.P t <;> cases els[i]? <;> rfl
 | own t els=>rfl
 | ag cs ns=>rfl
 | v x=>cases x with
  | prim v=>cases v with
   | pointer p=>cases p with
    | none=>rfl
    | some a=>obtain ⟨b,o,sp⟩:=a;cases sp with
     | none=>
      simp only [ldV,ldRow,loadAt]
      cases layT X.P t <;> cases g (.heap b) <;> rfl
     | some _=>rfl
   | _=>rfl
  | ref cs=>
   simp only [ldV,ldDp,loadAt]
   cases layT X.P t <;> rfl
  | _=>rfl
theorem zqj (P:Program)(t:Nat)(cs:List DV):ldV P g t (some (.v (.ref cs)))=ldDp (layT P t) (some cs) 0:=rfl
theorem zqk (P:Program)(t k off:Nat):ldV P g t (some (.loc k off))=ldRow (layT P t) (g (.loc k)) off:=rfl
theorem zql (P:Program)(t i off:Nat)(els:List (List DV)):ldV P g t (some (.dp els i off))=ldDp (layT P t) els[i]? off:=rfl
theorem zqm (P:Program)(t b off:Nat):ldV P g t (some (.v (.prim (.pointer (some ⟨b,off,none⟩)))))=ldRow (layT P t) (g (.heap b)) off:=rfl
def ixS (E:Nat)(els:List (List DV))(n:Int):Option (List DV)→Option (Prop × SV)
 | some e=>some (0≤n∧e.length=E,.dp els n.toNat 0)
 | none=>none
theorem zqn (E:Nat)(els:List (List DV))(n:Int)(e:List DV):ixS E els n (some e)=some (0≤n∧e.length=E,.dp els n.toNat 0):=rfl
def ixA (len E j:Nat)(els:List (List DV))(n:Int):Option (List DV)→Option (Prop × SV)
 | some e=>some (0≤n∧n<len∧1<len∧e.length=E,.dp els (j+n.toNat) 0)
 | none=>none
theorem zqo (len E j:Nat)(els:List (List DV))(n:Int)(e:List DV):ixA len E j els n (some e)=some (0≤n∧n<len∧1<len∧e.length=E,.dp els (j+n.toNat) 0):=rfl
def ixV (el:Option Nat)(ar:Option (Nat × Nat))(x i:Option SV):Option (Prop × SV):=
 match x,i with
 | some y,some (.v (.prim (.int _ n)))=>
  match el,slOf y with
  | some E,some els=>ixS E els n els[n.toNat]?
  | _,_=>match ar,y with
   | some (len,E),.loc k off=>some (0≤n∧n<len∧1<len,.loc k (off+n.toNat * E))
   | some (len,E),.dp els j 0=>ixA len E j els n els[j+n.toNat]?
   | some (len,E),.dp els j (off+1)=>some (0≤n∧n<len∧1<len,.dp els j (off+1+n.toNat * E))
   | some (len,E),.v (.prim (.pointer (some ⟨b,off,none⟩)))=>some (0≤n∧n<len∧1<len,.v (.prim (.pointer (some ⟨b,off+n.toNat * E,none⟩))))
   | _,.v (.prim (.slice (some ⟨b,off,none⟩) len _))=>match el with
    | some E=>some (0≤n∧n<len,.v (.prim (.pointer (some ⟨b,off+n.toNat * E,none⟩))))
    | none=>none
   | _,_=>none
 | _,_=>none
theorem zqp (E:Nat)(ar:Option (Nat × Nat))(els:List (List DV))(k:IntKind)(n:Int):ixV (some E) ar (some (.v (.sl els))) (some (.v (.prim (.int k n))))=ixS E els n els[n.toNat]?:=rfl
theorem zqq (E:Nat)(ar:Option (Nat × Nat))(t:Nat)(els:List (List DV))(k:IntKind)(n:Int):ixV (some E) ar (some (.own t els)) (some (.v (.prim (.int k n))))=ixS E els n els[n.toNat]?:=rfl
theorem zqr (len E k off:Nat)(kk:IntKind)(n:Int):ixV none (some (len,E)) (some (.loc k off)) (some (.v (.prim (.int kk n))))=some (0≤n∧n<len∧1<len,.loc k (off+n.toNat * E)):=rfl
theorem zqs (len E b off:Nat)(kk:IntKind)(n:Int):ixV none (some (len,E)) (some (.v (.prim (.pointer (some ⟨b,off,none⟩))))) (some (.v (.prim (.int kk n))))=some (0≤n∧n<len∧1<len,.v (.prim (.pointer (some ⟨b,off+n.toNat * E,none⟩)))):=rfl
theorem zqt (E:Nat)(ar:Option (Nat × Nat))(b off len cap:Nat)(kk:IntKind)(n:Int):ixV (some E) ar (some (.v (.prim (.slice (some ⟨b,off,none⟩) len cap)))) (some (.v (.prim (.int kk n))))=some (0≤n∧n<len,.v (.prim (.pointer (some ⟨b,off+n.toNat * E,none⟩)))):=by cases ar <;> rfl
theorem zqu (len E j:Nat)(els:List (List DV))(kk:IntKind)(n:Int):ixV none (some (len,E)) (some (.dp els j 2)) (some (.v (.prim (.int kk n))))=some (0≤n∧n<len∧1<len,.dp els j (2+n.toNat * E)):=rfl
theorem zqv (len E j:Nat)(els:List (List DV))(kk:IntKind)(n:Int):ixV none (some (len,E)) (some (.dp els j 0)) (some (.v (.prim (.int kk n))))=ixA len E j els n els[j+n.toNat]?:=rfl
def blC (cs:List SV):Option (List DV)→Option (Prop × SV)
 | some ds=>if cellB ds then some (True,.ag ds (nilsOf 0 cs)) else none
 | none=>none
theorem zqw {cs:List SV}{ds:List DV}(h:cellB ds=true):blC cs (some ds)=some (True,.ag ds (nilsOf 0 cs)):=by simp [blC,h]
def blD:Option (List SV)→Option (Prop × SV)
 | some cs=>blC cs (toDs cs)
 | none=>none
theorem zqx (cs:List SV):blD (some cs)=blC cs (toDs cs):=rfl
def blV (X:Ctx)(g:Rd)(z:Option (List SV))(pl:Option (List (Nat × Nat)))(parts:List (Nat × Operand)):Option (Prop × SV):=
 match z,pl with
 | some z,some pl=>blD (fillS pl X g z parts)
 | _,_=>none
theorem zqy (z:List SV)(pl:List (Nat × Nat))(parts:List (Nat × Operand)):blV X g (some z) (some pl) parts=blD (fillS pl X g z parts):=rfl
theorem zqz (pl:List (Nat × Nat))(cells:List SV):fillS pl X g cells []=some cells:=rfl
def fillK (pl:List (Nat × Nat))(X:Ctx)(g:Rd)(cells:List SV)(rest:List (Nat × Operand))(p:Option (Nat × Nat))(y:Option SV):Option (List SV):=
 match p,y with
 | some (off,size),some y=>if (cellsS y).length=size∧off+size≤cells.length then fillS pl X g (put cells off (cellsS y)) rest else none
 | _,_=>none
theorem zr0 (pl:List (Nat × Nat))(cells:List SV)(i:Nat)(x:Operand)(rest:List (Nat × Operand)):fillS pl X g cells ((i,x)::rest)=fillK pl X g cells rest pl[i]? (evl X g x):=rfl
theorem zr1 {pl:List (Nat × Nat)}{cells:List SV}{rest:List (Nat × Operand)}{off size:Nat}{y:SV}(h:(cellsS y).length=size∧off+size≤cells.length) :
  fillK pl X g cells rest (some (off,size)) (some y)=fillS pl X g (put cells off (cellsS y)) rest:=by simp [fillK,h]
def ifV (b:Bool)(t:TypeId):Option DV→Option (Prop × SV)
 | some y=>if b then some (True,.v (.iface t y)) else none
 | none=>none
theorem zr2 (t:TypeId)(y:DV):ifV true t (some y)=some (True,.v (.iface t y)):=rfl
def ncV (x:Option SV):Option (Prop × SV):=
 match x with
 | some (.loc k off)=>some (True,.loc k off)
 | some (.dp els i off)=>some (True,.dp els i off)
 | some (.v (.prim (.pointer (some a))))=>some (True,.v (.prim (.pointer (some a))))
 | some (.v (.prim (.func (.func f) x y)))=>some (True,.v (.prim (.func (.func f) x y)))
 | some (.v (.ref cs))=>some (True,.v (.ref cs))
 | _=>none
theorem zr3 (cs:List DV):ncV (some (.v (.ref cs)))=some (True,.v (.ref cs)):=rfl
theorem zr4 (a:TypeId)(z:Option Value)(y:DV):taV true a false z (some (.v (.iface a y)))=some (True,.v y):=by simp [taV]
theorem zr5 (a:TypeId)(z:Option Value)(y:DV):taV true a true z (some (.v (.iface a y)))=some (True,.v (.tup [y,.prim (.bool true)])):=by simp [taV]
theorem zr6 {t a:Nat}(h:(t == a)=false)(z:Value)(y:DV):taV true a true (some z) (some (.v (.iface t y)))=some (True,.v (.tup [.prim z,.prim (.bool false)])):=by
 have h:t ≠ a:=by simpa using h
 simp [taV,h]
theorem zr7 (k off:Nat):ncV (some (.loc k off))=some (True,.loc k off):=rfl
theorem zr8 (els:List (List DV))(k off:Nat):ncV (some (.dp els k off))=some (True,.dp els k off):=rfl
theorem zr9 (a:Addr):ncV (some (.v (.prim (.pointer (some a)))))=some (True,.v (.prim (.pointer (some a)))):=rfl
theorem zra (f:Nat)(x y:Array Value):ncV (some (.v (.prim (.func (.func f) x y))))=some (True,.v (.prim (.func (.func f) x y))):=rfl
def cvV (x:Option SV)(a b:Option IntKind):Option (Prop × SV):=
 match x,a,b with
 | some (.v (.prim (.int _ n))),some _,some k=>some (intOK k n,.v (.prim (.int k n)))
 | _,_,_=>none
theorem zrb (k0 a k:IntKind)(n:Int):cvV (some (.v (.prim (.int k0 n)))) (some a) (some k)=some (intOK k n,.v (.prim (.int k n))):=rfl
def pvK (x:Option SV)(r:Option (List Value)):Option (List Value):=
 match x,r with
 | some (.v (.prim v)),some vs=>some (v::vs)
 | _,_=>none
theorem zrc (v:Value)(vs:List Value):pvK (some (.v (.prim v))) (some vs)=some (v::vs):=rfl
theorem zrd:pvls X g []=some []:=rfl
theorem zre (x:Operand)(r:List Operand):pvls X g (x::r)=pvK (evl X g x) (pvls X g r):=by
 simp only [pvls]
 rfl
def mfV (fn:Fn)(x y:Option (List Value)):Option (Prop × SV):=
 match x,y with
 | some fi,some ca=>some (True,.v (.prim (.func fn fi.toArray ca.toArray)))
 | _,_=>none
theorem zrf (fn:Fn)(fi ca:List Value):mfV fn (some fi) (some ca)=some (True,.v (.prim (.func fn fi.toArray ca.toArray))):=rfl
def bdI (d:Nat):Option SV→Option Int
 | some (.v (.prim (.int _ n)))=>some n
 | _=>none
theorem zrg (d:Nat)(k:IntKind)(n:Int):bdI d (some (.v (.prim (.int k n))))=some n:=rfl
theorem zrh (d:Nat):bound X g d none=some (d:Int):=rfl
theorem zri (d:Nat)(x:Operand):bound X g d (some x)=bdI d (evl X g x):=by
 unfold bound bdI
 rfl
def slC (E:Nat)(els:List (List DV))(l h:Option Int):Option (Prop × SV):=
 match l,h with
 | some l,some h=>some (0≤l∧l≤h∧h≤els.length∧∀ e ∈ els,e.length=E,.v (.sl ((els.take h.toNat).drop l.toNat)))
 | _,_=>none
theorem zrj (E:Nat)(els:List (List DV))(l h:Int):slC E els (some l) (some h)=some (0≤l∧l≤h∧h≤els.length∧∀ e ∈ els,e.length=E,.v (.sl ((els.take h.toNat).drop l.toNat))):=rfl
def slV (X:Ctx)(g:Rd)(el:Option Nat)(x:Option (List (List DV)))(y:Option SV)(lo hi:Option Operand):Option (Prop × SV):=
 match el,x with
 | some E,some els=>slC E els (bound X g 0 lo) (bound X g els.length hi)
 | _,_=>match el,y,bound X g 0 lo with
  | some _,some (.v (.prim (.slice (some ⟨b,o,none⟩) n cap))),some l=>match bound X g n hi with
   | some h=>some (l=0∧0≤h∧h≤cap,.v (.prim (.slice (some ⟨b,o,none⟩) h.toNat cap)))
   | none=>none
  | _,_,_=>none
theorem zrk (E:Nat)(els:List (List DV))(y:Option SV)(lo hi:Option Operand):slV X g (some E) (some els) y lo hi=slC E els (bound X g 0 lo) (bound X g els.length hi):=rfl
def slR (b o cap:Nat)(l h:Option Int):Option (Prop × SV):=
 match l,h with
 | some l,some h=>some (l=0∧0≤h∧h≤cap,.v (.prim (.slice (some ⟨b,o,none⟩) h.toNat cap)))
 | _,_=>none
theorem zrl (b o cap:Nat)(l h:Int):slR b o cap (some l) (some h)=some (l=0∧0≤h∧h≤cap,.v (.prim (.slice (some ⟨b,o,none⟩) h.toNat cap))):=rfl
theorem zrm (E b o n cap:Nat)(lo hi:Option Operand):slV X g (some E) none (some (.v (.prim (.slice (some ⟨b,o,none⟩) n cap)))) lo hi=slR b o cap (bound X g 0 lo) (bound X g n hi):=by
 simp only [slV]
 cases h1:bound X g 0 lo with
 | none=>rfl
 | some l=>cases h2:bound X g n hi <;> simp [slR,h2]
def lnV (el:Option Nat)(x:Option (List (List DV)))(y:Option SV):Option (Prop × SV):=
 match el,x with
 | some _,some els=>some (True,.v (.prim (.int .i64 els.length)))
 | _,_=>match el,y with
  | some _,some (.v (.prim (.slice _ n _)))=>some (n≤BIG,.v (.prim (.int .i64 n)))
  | _,_=>none
theorem zrn (E:Nat)(els:List (List DV))(y:Option SV):lnV (some E) (some els) y=some (True,.v (.prim (.int .i64 els.length))):=rfl
theorem zro (E:Nat)(q:Option Addr)(n c:Nat):lnV (some E) none (some (.v (.prim (.slice q n c))))=some (n≤BIG,.v (.prim (.int .i64 n))):=rfl
def mxV (x y:Option SV):Option (Prop × SV):=
 match x,y with
 | some (.v (.prim (.int k a))),some (.v (.prim (.int _ b)))=>some (intOK k b,.v (.prim (.int k (if b > a then b else a))))
 | _,_=>none
theorem zrp (k k':IntKind)(a b:Int):mxV (some (.v (.prim (.int k a)))) (some (.v (.prim (.int k' b))))=some (intOK k b,.v (.prim (.int k (max a b)))):=by
 simp only [mxV,Option.some.injEq,Prod.mk.injEq,true_and,SV.v.injEq,DV.prim.injEq,Value.int.injEq]
 split <;> omega
def mnV (x y:Option SV):Option (Prop × SV):=
 match x,y with
 | some (.v (.prim (.int k a))),some (.v (.prim (.int _ b)))=>some (intOK k b,.v (.prim (.int k (if b<a then b else a))))
 | _,_=>none
theorem zrq (k k':IntKind)(a b:Int):mnV (some (.v (.prim (.int k a)))) (some (.v (.prim (.int k' b))))=some (intOK k b,.v (.prim (.int k (min a b)))):=by
 simp only [mnV,Option.some.injEq,Prod.mk.injEq,true_and,SV.v.injEq,DV.prim.injEq,Value.int.injEq]
 split <;> omega
section
variable (esc:List Nat)(d:Tmp)(ty:TypeId)(pos:String)(af:Array Edge)(gd:Option (Nat × Bool))
theorem zrr (x:Operand):stepS X esc s ⟨some d,.move x,ty,pos,af,gd⟩=esK (memN d esc) (put1 X s (some d) (tru (evl X (get s) x))):=by simp only [stepS,pval,escs,esK,za1]
theorem zrs (x:Operand):stepS X esc s ⟨some d,.assign x,ty,pos,af,gd⟩=esK (memN d esc) (put1 X s (some d) (tru (evl X (get s) x))):=by simp only [stepS,pval,escs,esK,za1]
theorem zrt (c x y:Operand):stepS X esc s ⟨some d,.pick c x y,ty,pos,af,gd⟩=esK (memN d esc) (put1 X s (some d) (pickV (evl X (get s) c) (evl X (get s) x) (evl X (get s) y))):=by
 simp only [stepS,pval,escs,esK,za1];rfl
theorem sBin (op:BinOp)(t yt:TypeId)(x y:Operand):stepS X esc s ⟨some d,.binOp op t x y yt,ty,pos,af,gd⟩=esK (memN d esc) (put1 X s (some d) (binV X.P op t (evl X (get s) x) (evl X (get s) y))):=by
 simp only [stepS,pval,escs,esK];rfl
theorem sUn (op:UnOp)(t:TypeId)(x:Operand):stepS X esc s ⟨some d,.unOp op t x,ty,pos,af,gd⟩=esK (memN d esc) (put1 X s (some d) (unV op (evl X (get s) x))):=by
 simp only [stepS,pval,escs,esK];rfl
theorem zru (x:Operand)(i:Nat):stepS X esc s ⟨some d,.extract x i,ty,pos,af,gd⟩=esK (memN d esc) (put1 X s (some d) (exV (evl X (get s) x) i)):=by
 simp only [stepS,pval,escs,esK];rfl
theorem zrv (t:TypeId)(x:Operand)(f:Nat):stepS X esc s ⟨some d,.field t x f,ty,pos,af,gd⟩=esK (memN d esc) (put1 X s (some d) (fdV (fieldT X.P t f) (evl X (get s) x))):=by
 simp only [stepS,pval,escs,esK];rfl
theorem zrw (t:TypeId)(x:Operand)(f:Nat):stepS X esc s ⟨some d,.fieldAddr t x f,ty,pos,af,gd⟩=esK (memN d esc) (put1 X s (some d) (faV (fieldT X.P t f) (evl X (get s) x))):=by
 simp only [stepS,pval,escs,esK];rfl
theorem zrx (t:TypeId)(x i:Operand):stepS X esc s ⟨some d,.indexAddr t x i,ty,pos,af,gd⟩=esK (memN d esc) (put1 X s (some d) (ixV (elemT X.P t) (arrT X.P t) (evl X (get s) x) (evl X (get s) i))):=by
 simp only [stepS,pval,escs,esK];rfl
theorem zry (t:TypeId)(x:Operand):stepS X esc s ⟨some d,.load t x,ty,pos,af,gd⟩=esK (memN d esc) (put1 X s (some d) (tru (ldV X.P (get s) t (evl X (get s) x)))):=by
 simp only [stepS,pval,escs,esK,za1]
 congr 4
 cases evl X (get s) x with
 | none=>rfl
 | some y=>exact (zg3 t y).symm
theorem zrz (t:TypeId)(parts:Array (Nat × Operand)):stepS X esc s ⟨some d,.build t parts,ty,pos,af,gd⟩=esK (memN d esc) (put1 X s (some d) (blV X (get s) (zeroT X.P t) (placesT X.P t) parts.toList)):=by
 simp only [stepS,pval,escs,esK];rfl
theorem zs0 (t:TypeId)(x:Operand):stepS X esc s ⟨some d,.makeInterface t x,ty,pos,af,gd⟩=esK (memN d esc) (put1 X s (some d) (ifV (concT X.P t) t ((evl X (get s) x).bind toD))):=by
 simp only [stepS,pval,escs,esK];rfl
theorem zs1 (x:Operand):stepS X esc s ⟨some d,.nilCheck x,ty,pos,af,gd⟩=esK (memN d esc) (put1 X s (some d) (ncV (evl X (get s) x))):=by
 simp only [stepS,pval,escs,esK];rfl
theorem zs2 (x:Operand)(xt at':TypeId)(ok:Bool):stepS X esc s ⟨some d,.typeAssert x xt at' ok,ty,pos,af,gd⟩=esK (memN d esc) (put1 X s (some d) (taV (concT X.P at') at' ok (zeroP X.P at') (evl X (get s) x))):=by
 simp only [stepS,pval,escs,esK];rfl
theorem zs3 (x:Operand):stepS X esc s ⟨none,.nilCheck x,ty,pos,af,gd⟩=put1 X s none (ncV (evl X (get s) x)):=by
 simp only [stepS,pval,escs];rfl
theorem zs4 (a b:TypeId)(x:Operand):stepS X esc s ⟨some d,.convert a b x,ty,pos,af,gd⟩=esK (memN d esc) (put1 X s (some d) (cvV (evl X (get s) x) (intT X.P a) (intT X.P b))):=by
 simp only [stepS,pval,escs,esK];rfl
theorem zs5 (fn:Fn)(fi ca:Array Operand):stepS X esc s ⟨some d,.makeFunc fn fi ca,ty,pos,af,gd⟩=esK (memN d esc) (put1 X s (some d) (mfV fn (pvls X (get s) fi.toList) (pvls X (get s) ca.toList))):=by
 simp only [stepS,pval,escs,esK];rfl
theorem zs6 (t:TypeId)(x:Operand)(lo hi:Option Operand):stepS X esc s ⟨some d,.slice t x lo hi none,ty,pos,af,gd⟩=esK (memN d esc) (put1 X s (some d) (slV X (get s) (elemT X.P t) ((evl X (get s) x).bind slOf) (evl X (get s) x) lo hi)):=by
 simp only [stepS,pval,escs,esK];rfl
theorem zs7 (t:TypeId)(x m:Operand)(lo hi:Option Operand):stepS X esc s ⟨some d,.slice t x lo hi (some m),ty,pos,af,gd⟩=esK (memN d esc) (stSlice3 X s (some d) (elemT X.P t) ((evl X (get s) x).bind slOf) (bound X (get s) 0 lo) (hiOf X s x hi) (bound X (get s) 0 (some m)) hi.isSome):=by
 simp only [stepS,escs,esK];rfl
theorem sLen (t:TypeId)(x:Operand):stepS X esc s ⟨some d,.call { callee:=.builtin .len,args:=#[x],argTypes:=#[t] },ty,pos,af,gd⟩=esK (memN d esc) (put1 X s (some d) (lnV (elemT X.P t) ((evl X (get s) x).bind slOf) (evl X (get s) x))):=by
 simp only [stepS,pval,escs,esK,isAppend,pcall];rfl
theorem sMax (ts:Array TypeId)(x y:Operand):stepS X esc s ⟨some d,.call { callee:=.builtin .max,args:=#[x,y],argTypes:=ts },ty,pos,af,gd⟩=esK (memN d esc) (put1 X s (some d) (mxV (evl X (get s) x) (evl X (get s) y))):=by
 simp only [stepS,pval,escs,esK,isAppend,pcall];rfl
theorem sMin (ts:Array TypeId)(x y:Operand):stepS X esc s ⟨some d,.call { callee:=.builtin .min,args:=#[x,y],argTypes:=ts },ty,pos,af,gd⟩=esK (memN d esc) (put1 X s (some d) (mnV (evl X (get s) x) (evl X (get s) y))):=by
 simp only [stepS,pval,escs,esK,isAppend,pcall];rfl
theorem zs8 (t:TypeId):stepS X esc s ⟨some d,.alloc t,ty,pos,af,gd⟩=esK (memN d esc) (stAlloc X s (some d) (zeroT X.P t)):=by simp only [stepS,escs,esK];rfl
theorem sBox (t:TypeId)(x:Operand):stepS X esc s ⟨some d,.box t x,ty,pos,af,gd⟩=esK (memN d esc) (stBox X s (some d) (evl X (get s) x)):=by simp only [stepS,escs,esK];rfl
theorem zs9 (t:TypeId)(p x:Operand):stepS X esc s ⟨none,.store t p x,ty,pos,af,gd⟩=stStore s (layT X.P t) (evl X (get s) p) (evl X (get s) x):=by simp only [stepS,escs];rfl
def ltK (X:Ctx)(s:St)(d:Tmp)(len:Nat)(parts:List (Nat × Operand)):Option (Nat × Nat)→Option (Prop × St)
 | some (E,B)=>stLit X s (some d) len (some (E,B)) (litEls X (get s) E 0 parts)
 | none=>none
theorem zsa (len E B:Nat)(parts:List (Nat × Operand)):ltK X s d len parts (some (E,B))=stLit X s (some d) len (some (E,B)) (litEls X (get s) E 0 parts):=rfl
theorem zsb (t len:Nat)(parts:Array (Nat × Operand)):stepS X esc s ⟨some d,.buildSlice t len parts,ty,pos,af,gd⟩=esK (memN d esc) (ltK X s d len parts.toList (elemZ X.P t)):=by
 simp only [stepS,escs,esK,ltK]
 cases elemZ X.P t <;> rfl
theorem zsc (t t2:TypeId)(x y:Operand):stepS X esc s ⟨some d,.call { callee:=.builtin .append,args:=#[x,y],argTypes:=#[t,t2] },ty,pos,af,gd⟩ =
  esK (memN d esc) (stAppend X s (some d) (elemZ X.P t) (elemT X.P t2).isSome (evl X (get s) x) ((evl X (get s) y).bind slOf)):=by
 simp only [stepS,escs,esK,isAppend];rfl
end
theorem zsd {d:Nat}{cs:List SV}(h:(cellBS cs && freshL d s && !anyLoc d cs)=true):stAlloc X s (some d) (some cs)=some (d<X.n,upd (upd s (.slot d) (.one (.loc d 0))) (.loc d) (.row cs)):=by simp only [stAlloc,h,if_true]
theorem zse {d:Nat}{y:SV}(h:(cellBS (cellsS y) && freshL d s && !hasLoc d y)=true):stBox X s (some d) (some y)=some (d<X.n,upd (upd s (.slot d) (.one (.loc d 0))) (.loc d) (.row (cellsS y))):=by simp only [stBox,h,if_true]
def sts (s:St)(k off n:Nat)(xs:List SV):Option LV→Option (Prop × St)
 | some (.row cs)=>if cellBS xs then some (xs.length=n∧off+n≤cs.length,upd s (.loc k) (.row (put cs off xs))) else none
 | _=>none
theorem zsf {k off n:Nat}{xs cs:List SV}(h:cellBS xs=true):sts s k off n xs (some (.row cs))=some (xs.length=n∧off+n≤cs.length,upd s (.loc k) (.row (put cs off xs))):=by simp [sts,h]
theorem zsg (k off n:Nat)(b:Bool)(y:SV):stStore s (some (b,n)) (some (.loc k off)) (some y)=sts s k off n (cellsS y) (get s (.loc k)):=by
 simp only [stStore]
 rfl
def sth (s:St)(b off n:Nat)(xs:Option (List SV)):Option LV→Option (Prop × St)
 | some (.row cs)=>match xs with
  | some ys=>if cellBS ys then some (ys.length=n∧off+n≤cs.length,upd s (.heap b) (.row (put cs off ys))) else none
  | none=>none
 | _=>none
theorem zsh {b off n:Nat}{ys cs:List SV}(h:cellBS ys=true):sth s b off n (some ys) (some (.row cs))=some (ys.length=n∧off+n≤cs.length,upd s (.heap b) (.row (put cs off ys))):=by simp [sth,h]
theorem zsi (b off n:Nat)(bb:Bool)(y:SV):stStore s (some (bb,n)) (some (.v (.prim (.pointer (some ⟨b,off,none⟩))))) (some y)=sth s b off n (asVs (cellsS y)) (get s (.heap b)):=by
 simp only [stStore]
 cases get s (.heap b) with
 | none=>rfl
 | some u=>cases u with
  | row cs=>cases asVs (cellsS y) <;> rfl
  | _=>rfl
theorem zsj:asVs []=some []:=rfl
theorem zsk (x:DV)(r:List SV):asVs (.v x::r)=(asVs r).map (SV.v x::·):=by
 simp only [asVs,asV]
 cases asVs r <;> rfl
theorem zsl (t:Nat)(e:List (List DV))(r:List SV):asVs (.own t e::r)=(asVs r).map (SV.v (.sl e)::·):=by
 simp only [asVs,asV]
 cases asVs r <;> rfl
theorem zsm (d len E B:Nat)(els:List (List DV)):stLit X s (some d) len (some (E,B)) (some els)=some (d<X.n∧els.length=len∧len * E≤16777216∧len≤BIG,upd s (.slot d) (.one (.v (.sl els)))):=rfl
theorem zsn (E n:Nat):litEls X g E n []=some []:=rfl
def ltD (ds:Option (List DV))(E:Nat)(rest:Option (List (List DV))):Option (List (List DV)):=
 match ds with
 | some ds=>if ds.length=E then if cellB ds then rest.map (ds::·) else none else none
 | none=>none
theorem zso {ds:List DV}{E:Nat}(h:ds.length=E∧cellB ds=true)(rest:Option (List (List DV))):ltD (some ds) E rest=rest.map (ds::·):=by simp [ltD,h.1,h.2]
theorem zsp (E n:Nat)(x:Operand)(r:List (Nat × Operand)):litEls X g E n ((n,x)::r)=ltD (((evl X g x).map cellsS).bind toDs) E (litEls X g E (n+1) r):=by
 simp only [litEls,if_true,ltD]
 cases evl X g x with
 | none=>rfl
 | some y=>
  simp only [Option.map_some,Option.bind_some]
  cases toDs (cellsS y) with
  | none=>rfl
  | some ds=>
   simp only
   split
   ·split
    ·cases litEls X g E (n+1) r <;> rfl
    ·rfl
   ·rfl
theorem zsq {d E B t:Nat}{els ys:List (List DV)}(h:(freshT d s && d != 0)=true):stAppend X s (some d) (some (E,B)) true (some (.own t els)) (some ys) =
  some (d<X.n∧(0<B∧B≤1024)∧hasRoom (get s) t E els.length∧els.length+ys.length≤BIG∧(∀ e ∈ els,e.length=E)∧(∀ e ∈ ys,e.length=E),
    upd (upd (del s (.tok t)) (.slot d) (.one (.own d (els++ys)))) (.tok d) (.tk E (els.length+ys.length))):=by simp only [stAppend,Bool.true_and,h,if_true]
theorem zsr (g:Rd)(E n:Nat):hasRoom g 0 E n=True:=by simp [hasRoom]
theorem zss {g:Rd}{t E n:Nat}(h:g (.tok t)=some (.tk E n)):hasRoom g t E n=True:=by simp [hasRoom,h]
theorem zst {d E:Nat}{els:List (List DV)}{l h k:Int}{b:Bool}(hb:(freshT d s && d != 0 && b)=true):stSlice3 X s (some d) (some E) (some els) (some l) (some h) (some k) b =
  some (d<X.n∧0≤l∧l≤h∧h≤els.length∧h=k∧(∀ e ∈ els,e.length=E),upd (upd (del s (.tok 0)) (.slot d) (.one (.own d ((els.take h.toNat).drop l.toNat)))) (.tok d) (.tk E (h.toNat - l.toNat))):=by simp only [stSlice3,hb,if_true]
def hoK (X:Ctx)(s:St)(hi:Option Operand):Option (List (List DV))→Option Int
 | some els=>bound X (get s) els.length hi
 | none=>none
theorem zsu (x:Operand)(hi:Option Operand):hiOf X s x hi=hoK X s hi ((evl X (get s) x).bind slOf):=by
 unfold hiOf hoK
 cases (evl X (get s) x).bind slOf <;> rfl
theorem zsv (hi:Option Operand)(els:List (List DV)):hoK X s hi (some els)=bound X (get s) els.length hi:=rfl
theorem zsw:evlDs X g []=some []:=rfl
def edK (y:Option DV)(r:Option (List DV)):Option (List DV):=
 match y,r with
 | some y,some r=>some (y::r)
 | _,_=>none
theorem zsx (y:DV)(r:List DV):edK (some y) (some r)=some (y::r):=rfl
theorem zsy (x:Operand)(r:List Operand):evlDs X g (x::r)=edK ((evl X g x).bind toD) (evlDs X g r):=by
 simp only [evlDs,edK]
 cases (evl X g x).bind toD <;> cases evlDs X g r <;> rfl
def roK:Option SV→Option DV
 | some x=>toD x
 | none=>none
theorem zsz (x:SV):roK (some x)=toD x:=rfl
theorem zt0 (t:Nat):retOne X g (.tmp t)=roK (oneOf (g (.slot t))):=by
 simp only [retOne,oneOf,roK]
 cases g (.slot t) with
 | none=>rfl
 | some u=>cases u <;> rfl
theorem zt1 (t ty:Nat):retOne X g (.cell t ty)=roK (ldV X.P g ty (oneOf (g (.slot t)))):=by
 simp only [retOne,oneOf,roK]
 cases g (.slot t) with
 | none=>rfl
 | some u=>cases u with
  | one x=>
   simp only
   rw [zg3]
   cases loadAt X g ty x <;> rfl
  | _=>rfl
theorem zt2:retL X g []=some []:=rfl
theorem zt3 (r:ResultVar)(l:List ResultVar):retL X g (r::l)=edK (retOne X g r) (retL X g l):=by
 simp only [retL,edK]
 cases retOne X g r <;> cases retL X g l <;> rfl
def rdK:Option (List DV)→Option DV
 | some [x]=>some x
 | some xs=>some (.tup xs)
 | none=>none
theorem zt4 (x:DV):rdK (some [x])=some x:=rfl
theorem zt5 (x y:DV)(r:List DV):rdK (some (x::y::r))=some (.tup (x::y::r)):=rfl
theorem zt6:rdK (some [])=some (.tup []):=rfl
theorem zt7 (l:List ResultVar):retD X g l=rdK (retL X g l):=by
 unfold retD rdK
 rfl
theorem zt8 (σ:Nat→Nat)(x y:DV):svLe σ (.v x) (.v y)=(x=y):=rfl
theorem zt9 (σ:Nat→Nat)(x:DV)(t:Nat)(e:List (List DV)):svLe σ (.v x) (.own t e)=(x = .sl e):=rfl
theorem zta (σ:Nat→Nat)(x:DV)(e:List DV)(n:List Nat):svLe σ (.v x) (.ag e n)=(x = .agg e):=rfl
theorem ztb (σ:Nat→Nat)(e e':List DV)(n n':List Nat):svLe σ (.ag e n) (.ag e' n')=(e=e'∧n=n'):=rfl
theorem ztc (σ:Nat→Nat)(k o k' o':Nat):svLe σ (.loc k o) (.loc k' o')=(k=k'∧o=o'):=rfl
theorem ztd (σ:Nat→Nat)(e e':List (List DV))(k o k' o':Nat):svLe σ (.dp e k o) (.dp e' k' o')=(e=e'∧k=k'∧o=o'):=rfl
theorem zte (σ:Nat→Nat)(t t':Nat)(e e':List (List DV)):svLe σ (.own t e) (.own t' e')=(σ t=t'∧e=e'):=rfl
theorem ztf (σ:Nat→Nat):rowLe σ [] []=True:=by simp [rowLe]
theorem ztg (σ:Nat→Nat)(x y:SV)(r t:List SV):rowLe σ (x::r) (y::t)=(svLe σ x y∧rowLe σ r t):=by simp [rowLe]
theorem zth (σ:Nat→Nat)(x y:SV):lvLe σ (.one x) (some (.one y))=svLe σ x y:=rfl
theorem zti (σ:Nat→Nat)(r q:List (Int × DV)):lvLe σ (.mp r) (some (.mp q))=(r=q):=rfl
theorem ztj (σ:Nat→Nat)(r q:Loop):lvLe σ (.ob r) (some (.ob q))=(r=q):=rfl
theorem ztk (σ:Nat→Nat)(x y:List SV):lvLe σ (.row x) (some (.row y))=rowLe σ x y:=rfl
theorem ztl (σ:Nat→Nat):subLe σ s []=True:=rfl
theorem ztm (σ:Nat→Nat)(n:Nat)(v:LV)(r:St):subLe σ s ((.slot n,v)::r)=(lvLe σ v (get s (.slot n))∧subLe σ s r):=by simp [subLe,factLe]
theorem ztn (σ:Nat→Nat)(n:Nat)(v:LV)(r:St):subLe σ s ((.loc n,v)::r)=(lvLe σ v (get s (.loc n))∧subLe σ s r):=by simp [subLe,factLe]
theorem zto (σ:Nat→Nat)(n:Nat)(v:LV)(r:St):subLe σ s ((.heap n,v)::r)=(lvLe σ v (get s (.heap n))∧subLe σ s r):=by simp [subLe,factLe]
def tkLe (g:Rd)(t E n:Nat):Prop:=(t=0∧n=0)∨(t ≠ 0∧g (.tok t)=some (.tk E n))
theorem ztp (σ:Nat→Nat)(t E n:Nat)(r:St):subLe σ s ((.tok t,.tk E n)::r)=(tkLe (get s) (σ t) E n∧subLe σ s r):=by simp [subLe,factLe,tkLe]
theorem ztq (E n:Nat):tkLe g 0 E n=(n=0):=by simp [tkLe]
theorem ztr (t E n:Nat):tkLe g (t+1) E n=(g (.tok (t+1))=some (.tk E n)):=by simp [tkLe]
theorem zts (n:Nat):ren [] n=n:=rfl
theorem ztt (x y n:Nat)(r:List (Nat × Nat)):ren ((x,y)::r) n=if n=x then y else ren r n:=rfl
theorem ztu:toksOf []=[]:=rfl
theorem ztv (n:Nat)(v:LV)(r:St):toksOf ((.slot n,v)::r)=toksOf r:=rfl
theorem ztw (n:Nat)(v:LV)(r:St):toksOf ((.loc n,v)::r)=toksOf r:=rfl
theorem ztx (n:Nat)(v:LV)(r:St):toksOf ((.heap n,v)::r)=toksOf r:=rfl
theorem zty (n:Nat)(v:LV)(r:St):toksOf ((.tok n,v)::r)=n::toksOf r:=rfl
theorem ztz (σ:Nat→Nat):tokInj σ []=True:=rfl
theorem zu0 (σ:Nat→Nat)(t:Nat)(r:List Nat):tokInj σ (t::r)=((σ t=0∨∀ t' ∈ r,t' = t∨σ t' ≠ σ t)∧tokInj σ r):=rfl
theorem zu1:objsIn g []=True:=by simp [objsIn]
theorem zu2 (b:Nat)(cs:List DV)(r:Objs):objsIn g ((b,cs)::r)=(g (.heap b)=some (.row (cs.map SV.v))∧objsIn g r):=by
 simp only [objsIn,List.mem_cons,Prod.mk.injEq,eq_iff_iff]
 constructor
 ·intro h
  exact ⟨h b cs (.inl ⟨rfl,rfl⟩),fun b' cs' hm=>h b' cs' (.inr hm)⟩
 ·rintro ⟨h1,h2⟩ b' cs' (⟨rfl,rfl⟩|hm)
  ·exact h1
  ·exact h2 b' cs' hm
theorem zu3 (args:List DV)(φ:Objs):entry args φ=argSt 0 args++heapSt φ:=rfl
theorem zu4 (n:Nat):argSt n []=[]:=rfl
theorem zu5 (n:Nat)(x:DV)(r:List DV):argSt n (x::r)=(.slot n,.one (.v x))::argSt (n+1) r:=rfl
theorem zu6:heapSt []=[]:=rfl
theorem zu7 (b:Nat)(cs:List DV)(r:Objs):heapSt ((b,cs)::r)=(.heap b,.row (cs.map SV.v))::heapSt r:=rfl
theorem zu8:delObjs s []=s:=rfl
theorem zu9 (b:Nat)(cs:List DV)(r:Objs):delObjs s ((b,cs)::r)=delObjs (del s (.heap b)) r:=rfl
theorem zua:addObjs s []=s:=rfl
theorem zub (b:Nat)(cs:List DV)(r:Objs):addObjs s ((b,cs)::r)=upd (addObjs s r) (.heap b) (.row (cs.map SV.v)):=rfl
theorem z1u {esc:List Nat}{ops:Array Oper}{l:List Oper}{K:St→Prop}{d:Tmp}{f:FuncId}{args:Array Operand}{ats:Array TypeId}{ty:TypeId}{pos:String}{af:Array Edge}{P:Program}{gl:Globs}(hP:X.P=P)(hgl:X.gl=gl)
  {ds ds':List DV} {φ φ':Objs} {r:DV} (hc:Con1 P gl f ds' φ r φ') (hargs:evlDs X (get s) args.toList=some ds) (hds:ds=ds') (hφ:objsIn (get s) φ) (hnd:(φ.map (·.1)).Nodup) (hdn:d<X.n)
  (h:vc X esc ops l (addObjs (delObjs (upd s (.slot d) (.one (.v r))) φ) φ') K) :
  vcK X esc ops l K ⟨some d,.call { callee:=.value (.func f),args:=args,argTypes:=ats },ty,pos,af,none⟩ s (stepS X esc s ⟨some d,.call { callee:=.value (.func f),args:=args,argTypes:=ats },ty,pos,af,none⟩):=by
 subst hds
 have e:stepS X esc s ⟨some d,.call { callee:=.value (.func f),args:=args,argTypes:=ats },ty,pos,af,none⟩=none:=by
  simp only [stepS,isAppend,pval,pcall,put1]
  split <;> rfl
 rw [e]
 exact zmd (o:=⟨some d,.call { callee:=.value (.func f),args:=args,argTypes:=ats },ty,pos,af,none⟩) rfl rfl hargs hP hgl hc hφ hnd rfl hdn h
end
theorem zuc {α:Type}(l:List α)(i:Nat):l.toArray[i]? = l[i]?:=by simp
attribute [go_sem] zme zmf zmg zmh zmi zmj zmk zml zmm zmn zmo zmp zmq zmr zms zmt zmu zmv zmw zmx zmy zmz zn0
attribute [go_sem] zn7 zn8 zn9 zna zn2 znj znk znl znm znn zno znp znq znr zns znt znu
attribute [go_sem] zn1 zn3 zn4 zn5 zn6 znb znc znd znf zng znh zni znv znx zny znz zo1 zo6 zo7 zo8 zo9
attribute [go_sem] zoa zob zoc zod zoe zof zog zoh zoi zoj zok zol zom zon zoo zop zou zos zot zoq zor zov zow zox zoy zoz
attribute [go_sem] zp0 zp1 zp2 zp3 zp4 zp6 zp5 zp7 zp8 zp9 zpa zpb zpc zpd zpe zpf zpg zph zpm zpn zpo zpp zpq zpr zps zpt zpu zpv zpw zpx zpy zpz
attribute [go_sem] zqj zqu zq0 zq1 zq2 zq3 zq5 zq6 zq7 zq8 zq9 zqa zqb zqc zqd zqe zqf zqg zqh zqi zqk zql zqm zqn zqo zqp zqq zqr zqv zqs zqt znw
attribute [go_sem] zqw zqx zqy zqz zr0 zr1 zr2 zr7 zr8 zr9 zra zrb zrg zrh zri zrj zrk zrm zrl zrn zro zrp zrq
attribute [go_sem] zrr zrs zrt sBin sUn zru zrv zrw zrx zry zrz zs0 zs1 zs3 zs4 zs5 zrc zrd zre zrf zs6 zs7 sLen sMax sMin zs8 sBox zs9 zsa zsb zsc
attribute [go_sem] zsd zse zsf zsg zsh zsi zsj zsk zsl zsm zsn zso zsp zsq zsr zss zst zsu zsv zsw zsx zsy
attribute [go_sem] zsz zt0 zt1 zt2 zt3 zt4 zt5 zt6 zt7 zt8 zta ztb zt9 ztc ztd zte ztf ztg zth ztj zti ztk ztl ztm ztn zto ztp ztq ztr zts ztt
attribute [go_sem] ztu ztv ztw ztx zty ztz zu0 zu1 zu2 zu3 zu4 zu5 zu6 zu7 zu8 zu9 zua zub
attribute [go_sem] zpi zpj zpk zpl zq4 zr3 zr4 zr5 zr6 zs2 zne zo0
attribute [go_sem] zo2 zo3 zo4 zo5 gsl zuc z57 zlh
end
section
def leS (s1 s:St):Prop:=∀ l v,get s1 l=some v→get s l=some v
theorem Rel.weaken {X:Ctx}{G:Gh}{s s1:St}{a:Act}{w:World}(R:Rel X G s a w)(h:leS s1 s):Rel X G s1 a w:=
 ⟨R.size,R.defers,R.ext,R.wf,R.nil,fun l v hl=>R.holds l v (h l v hl),fun l v l' v' b h1 h2=>R.sep l v l' v' b (h _ _ h1) (h _ _ h2),fun l v b h1=>R.own l v b (h _ _ h1),fun l v b o h1=>R.data l v b o (h _ _ h1)⟩
def Loc.eqB:Loc→Loc→Bool
 | .slot a,.slot b=>a == b
 | .loc a,.loc b=>a == b
 | .heap a,.heap b=>a == b
 | .tok a,.tok b=>a == b
 | _,_=>false
theorem Loc.eqB_iff (a b:Loc):Loc.eqB a b=true↔a=b:=by
 cases a <;> cases b <;> simp [Loc.eqB]
def memL (l:Loc):List Loc→Bool
 | []=>false
 | x::r=>l.eqB x || memL l r
theorem zud (l:Loc)(r:List Loc):memL l r=true↔l ∈ r:=by
 induction r with
 | nil=>simp [memL]
 | cons x r ih=>simp [memL,ih,Loc.eqB_iff]
def disL:List Loc→List Loc→Bool
 | [],_=>true
 | l::r,x=>!memL l x && disL r x
theorem z31 (x y:List Loc):disL x y=true↔∀ l ∈ x,l ∉ y:=by
 induction x with
 | nil=>simp [disL]
 | cons l r ih=>
  simp only [disL,Bool.and_eq_true,Bool.not_eq_true',ih,List.mem_cons,forall_eq_or_imp]
  rw [← Bool.not_eq_true,zud]
def wrL:Eff→List Loc
 | []=>[]
 | (l,_)::r=>l::wrL r
structure Ev where
 fp:List Loc
 e:Eff
 nm:List Nat
def mentV (d:Nat):LV→Bool
 | .one x=>hasLoc d x || hasTok d x
 | .row cs=>anyLoc d cs || anyTok d cs
 | .tk _ _=>false
 | .ob _=>false
 | .mp _=>false
def mentK (d:Nat):Loc→Bool
 | .loc k=>k == d
 | .tok k=>k == d
 | _=>false
def ment (d:Nat):Eff→Bool
 | []=>false
 | (l,none)::r=>mentK d l || ment d r
 | (l,some v)::r=>mentK d l || mentV d v || ment d r
def fresh (d:Nat)(s:St):Bool:=freshL d s && freshT d s
def allN (p:Nat→Bool):List Nat→Bool
 | []=>true
 | x::r=>p x && allN p r
theorem z6f (p:Nat→Bool)(l:List Nat):allN p l=true↔∀ x ∈ l,p x=true:=by
 induction l with
 | nil=>simp [allN]
 | cons x r ih=>simp [allN,ih]
theorem zue {e:Eff}{l:Loc}(h:l ∉ wrL e):e.says l=none:=by
 induction e with
 | nil=>rfl
 | cons p r ih=>
  obtain ⟨m,v⟩:=p
  simp only [wrL,List.mem_cons,not_or] at h
  simp only [Eff.says,ih h.2]
  rw [if_neg (fun e=>h.1 e.symm)]
theorem zuf {e:Eff}{l:Loc}(h:l ∈ wrL e):∃ x,e.says l=some x:=by
 induction e with
 | nil=>cases h
 | cons p r ih=>
  obtain ⟨m,v⟩:=p
  simp only [Eff.says]
  cases hs:Eff.says r l with
  | some x=>exact ⟨x,rfl⟩
  | none=>
   simp only [wrL,List.mem_cons] at h
   rcases h with rfl|h
   ·exact ⟨v,by simp⟩
   ·obtain ⟨x,hx⟩:=ih h
    rw [hs] at hx;cases hx
theorem z7n {e:Eff}{s:St}{l:Loc}(h:l ∉ wrL e):get (apply s e) l=get s l:=by rw [z4k,zue h];rfl
theorem zg4 {d:Nat}{s:St}(l:Loc)(h:fresh d s=true):fresh d (del s l)=true:=by
 induction s with
 | nil=>exact h
 | cons p r ih=>
  obtain ⟨m,v⟩:=p
  simp only [fresh,freshL,freshT,Bool.and_eq_true] at h ih ⊢
  have:=ih ⟨h.1.2,h.2.2⟩
  simp only [del]
  split
  ·exact this
  ·simp only [freshL,freshT,Bool.and_eq_true]
   exact ⟨⟨h.1.1,this.1⟩,⟨h.2.1,this.2⟩⟩
theorem zc4 {d:Nat}:∀ {e:Eff} {s:St},fresh d s=true→ment d e=false→fresh d (apply s e)=true
 | [],s,h,_=>h
 | (l,none)::r,s,h,hm=>by
  simp only [ment,Bool.or_eq_false_iff] at hm
  show fresh d (apply (del s l) r)=true
  exact zc4 (zg4 l h) hm.2
 | (l,some v)::r,s,h,hm=>by
  simp only [ment,Bool.or_eq_false_iff] at hm
  show fresh d (apply (upd s l v) r)=true
  refine zc4 ?_ hm.2
  have hd:=zg4 l h
  simp only [upd,fresh,freshL,freshT,Bool.and_eq_true] at hd ⊢
  have h1:=hm.1.1
  have h2:=hm.1.2
  refine ⟨⟨⟨?_,?_⟩,hd.1⟩,⟨⟨?_,?_⟩,hd.2⟩⟩
  ·cases l <;> simp_all [mentK]
  ·cases v <;> simp_all [mentV]
  ·cases l <;> simp_all [mentK]
  ·cases v <;> simp_all [mentV]
def sel (L:Nat→Bool):Nat→List Ev→St→St
 | _,[],s=>s
 | k,ev::r,s=>sel L (k+1) r (if L k then apply s ev.e else s)
theorem z32 {L L':Nat→Bool}{l:Loc}:∀ (evs:List Ev) (k:Nat) (s s':St),get s l=get s' l→(∀ (j:Nat) (ev:Ev),evs[j]? = some ev→L (k+j) ≠ L' (k+j)→l ∉ wrL ev.e) →
  get (sel L k evs s) l=get (sel L' k evs s') l
 | [],_,_,_,h,_=>h
 | ev::r,k,s,s',h,hd=>by
  simp only [sel]
  refine z32 r (k+1) _ _ ?_ fun j ev' hj hne=>hd (j+1) ev' (by simpa using hj) (by rw [show k+(j+1)=k+1+j from by omega];exact hne)
  by_cases hL:L k=L' k
  ·rw [hL]
   split
   ·rw [z4k,z4k,h]
   ·exact h
  ·have hn:=hd 0 ev rfl (by simpa using hL)
   split <;> split <;> simp only [z7n hn,h]
theorem z4a {L:Nat→Bool}:∀ (evs:List Ev) (k:Nat) (s:St),(∀ j,k≤j→L j=false)→sel L k evs s=s
 | [],_,_,_=>rfl
 | ev::r,k,s,h=>by
  simp only [sel,h k (Nat.le_refl _),Bool.false_eq_true,if_false]
  exact z4a r (k+1) s fun j hj=>h j (by omega)
theorem z7o {L:Nat→Bool}{d:Nat}:∀ (evs:List Ev) (k:Nat) (s:St),fresh d s=true→(∀ (j:Nat) (ev:Ev),evs[j]? = some ev→L (k+j)=true→ment d ev.e=false)→fresh d (sel L k evs s)=true
 | [],_,_,h,_=>h
 | ev::r,k,s,h,hm=>by
  simp only [sel]
  refine z7o r (k+1) _ ?_ fun j ev' hj hL=>hm (j+1) ev' (by simpa using hj) (by rw [show k+(j+1)=k+1+j from by omega];exact hL)
  split
  ·rename_i hk;exact zc4 h (hm 0 ev rfl (by simpa using hk))
  ·exact h
theorem z7p {L:Nat→Bool}{i:Nat}{evi:Ev}{l:Loc}(hLi:L i=false):∀ (evs:List Ev) (k:Nat) (s:St),k≤i→evs[i - k]? = some evi →
  (∀ (j:Nat) (ev:Ev),evs[j]? = some ev→i<k+j→L (k+j)=true→l ∈ wrL evi.e→l ∉ wrL ev.e) →
  get (sel (fun j=>j == i || L j) k evs s) l=get (apply (sel L k evs s) evi.e) l
 | [],k,s,_,h,_=>by cases h
 | ev::r,k,s,hk,hev,hd=>by
  by_cases hki:k=i
  ·subst hki
   simp only [Nat.sub_self,List.getElem?_cons_zero,Option.some.injEq] at hev
   subst hev
   simp only [sel,beq_self_eq_true,Bool.true_or,if_true,hLi,Bool.false_eq_true,if_false]
   by_cases hl:l ∈ wrL ev.e
   ·obtain ⟨x,hx⟩:=zuf hl
    rw [z4k _ (sel L (k+1) r s),hx,Option.getD_some]
    have h1:get (sel (fun j=>j == k || L j) (k+1) r (apply s ev.e)) l=get (sel (fun _=>false) (k+1) r (apply s ev.e)) l:=by
     refine z32 r (k+1) _ _ rfl fun j ev' hj hne=>hd (j+1) ev' (by simpa using hj) (by omega) ?_ hl
     rw [show k+(j+1)=k+1+j from by omega]
     cases hq:L (k+1+j) with
     | true=>rfl
     | false=>
      have:((k+1+j == k) || L (k+1+j))=false:=by rw [hq];simp;omega
      exact absurd this hne
    rw [h1,z4a r (k+1) _ (fun _ _=>rfl),z4k,hx,Option.getD_some]
   ·rw [z7n hl]
    refine z32 r (k+1) _ _ (z7n hl) fun j ev' hj hne=>?_
    exfalso
    apply hne
    have:(k+1+j == k)=false:=by simp;omega
    simp [this]
  ·simp only [sel]
   have hb:((k == i) || L k)=L k:=by
    have:(k == i)=false:=by simpa using hki
    rw [this];rfl
   simp only [hb]
   refine z7p hLi r (k+1) _ (by omega) ?_ fun j ev' hj hlt hL=>hd (j+1) ev' (by simpa using hj) (by omega) (by rw [show k+(j+1)=k+1+j from by omega];exact hL)
   rw [show i - k=(i - (k+1))+1 from by omega] at hev
   simpa using hev
def restr (s:St):List Loc→St
 | []=>[]
 | l::r=>match get s l with
  | some v=>(l,v)::restr s r
  | none=>restr s r
theorem za2 {s:St}{fp:List Loc}{l:Loc}{v:LV}(h:get (restr s fp) l=some v):l ∈ fp∧get s l=some v:=by
 induction fp with
 | nil=>cases h
 | cons m r ih=>
  simp only [restr] at h
  split at h
  ·rename_i u hu
   simp only [get] at h
   split at h
   ·cases h;subst_vars;exact ⟨by simp,hu⟩
   ·have:=ih h;exact ⟨List.mem_cons_of_mem _ this.1,this.2⟩
  ·have:=ih h;exact ⟨List.mem_cons_of_mem _ this.1,this.2⟩
def OpOK (X:Ctx)(ops:Array Oper)(o:Oper)(s s':St):Prop:=
 ∀ (G:Gh) (a:Act) (w:World),Rel X G s a w→∀ (next:Act→World→Prop) (Q:Exit→Act→World→Prop),
  (∀ G' a' w',Rel X G' s' a' w'→next a' w')→if Region.wanted o (yielded ops a.tmps) then o.wpIn X.F 0 X.P a w next Q else next (a.put o.dst undef) w
def LocStep (X:Ctx)(ops:Array Oper)(o:Oper)(s1:St)(e:Eff)(nm:List Nat):Prop:=
 ∀ s,leS s1 s→(∀ d ∈ nm,fresh d s=true)→OpOK X ops o s (apply s e)
def RunL (X:Ctx)(ops:Array Oper):List Oper→St→List Ev→Prop
 | [],_,[]=>True
 | o::l,s,ev::evs=>LocStep X ops o (restr s ev.fp) ev.e ev.nm∧RunL X ops l (apply s ev.e) evs
 | _,_,_=>False
def appAll:St→List Ev→St
 | s,[]=>s
 | s,ev::r=>appAll (apply s ev.e) r
theorem za3 (k:Nat)(evs:List Ev)(s:St):sel (fun _=>true) k evs s=appAll s evs:=by
 induction evs generalizing k s with
 | nil=>rfl
 | cons ev r ih=>simp only [sel,if_true,appAll,ih]
theorem z6g {X:Ctx}{ops:Array Oper}:∀ {l:List Oper} {s:St} {evs:List Ev},RunL X ops l s evs→evs.length=l.length
 | [],_,[],_=>rfl
 | [],_,_::_,h=>h.elim
 | _::_,_,[],h=>h.elim
 | o::l,s,ev::evs,h=>by simp [z6g h.2]
theorem z7q {X:Ctx}{ops:Array Oper}:∀ {l:List Oper} {s:St} {evs:List Ev} (k:Nat),RunL X ops l s evs→∀ (i:Nat) (o:Oper) (ev:Ev),l[i]? = some o→evs[i]? = some ev →
  LocStep X ops o (restr (sel (fun j=>decide (j<k+i)) k evs s) ev.fp) ev.e ev.nm
 | [],_,[],_,_,_,_,_,h,_=>by cases h
 | [],_,_::_,_,h,_,_,_,_,_=>h.elim
 | _::_,_,[],_,h,_,_,_,_,_=>h.elim
 | o::l,s,ev::evs,k,h,i,o',ev',ho,hev=>by
  cases i with
  | zero=>
   simp at ho hev
   subst ho hev
   rw [z4a _ _ _ (fun j hj=>by simp;omega)]
   exact h.1
  | succ i=>
   have:=z7q (k+1) h.2 i o' ev' (by simpa using ho) (by simpa using hev)
   simp only [sel]
   rw [if_pos (by simp)]
   rw [show k+(i+1)=k+1+i from by omega]
   exact this
def maskOf (T:List Nat)(o:Oper):Nat:=o.after.toList.foldl (fun s e=>if Region.binds .any e then s ||| (2 ^ e.on ||| T.getD e.on 0) else s) 0
def tabGo:List Oper→List Nat→List Nat
 | [],T=>T
 | o::r,T=>tabGo r (T++[maskOf T o])
def backB:Nat→List Oper→Bool
 | _,[]=>true
 | n,o::r=>o.after.toList.all (fun e=>!Region.binds .any e || decide (e.on<n)) && backB (n+1) r
def fixB (T:List Nat):List Nat→List Oper→Bool
 | [],[]=>true
 | t::ts,o::r=>t == maskOf T o && fixB T ts r
 | _,_=>false
theorem z4p:∀ {ops:List Oper} {n:Nat},backB n ops=true→∀ (i:Nat) (o:Oper),ops[i]? = some o→∀ e ∈ o.after,Region.binds .any e=true→e.on<n+i
 | [],_,_,i,o,h=>by cases h
 | o::r,n,h,i,o',ho=>by
  simp only [backB,Bool.and_eq_true] at h
  cases i with
  | zero=>
   simp at ho
   subst ho
   intro e he hb
   have:=List.all_eq_true.1 h.1 e (by simpa using he)
   simpa [hb] using this
  | succ i=>
   intro e he hb
   have:=z4p h.2 i o' (by simpa using ho) e he hb
   omega
theorem zg5 {T:List Nat}:∀ {ts:List Nat} {ops:List Oper},fixB T ts ops=true→∀ (i:Nat) (o:Oper),ops[i]? = some o→ts.getD i 0=maskOf T o
 | [],[],_,i,o,h=>by cases h
 | [],_::_,h,_,_,_=>by cases h
 | _::_,[],h,_,_,_=>by cases h
 | t::ts,o::r,h,i,o',ho=>by
  simp only [fixB,Bool.and_eq_true,beq_iff_eq] at h
  cases i with
  | zero=>simp at ho;subst ho;simpa using h.1
  | succ i=>simpa using zg5 h.2 i o' (by simpa using ho)
theorem zg6 {T:List Nat}{i:Nat}:∀ (es:List Edge) (s:Nat),(es.foldl (fun s e=>if Region.binds .any e then s ||| (2 ^ e.on ||| T.getD e.on 0) else s) s).testBit i=true →
  s.testBit i=true∨∃ e ∈ es,Region.binds .any e=true∧(e.on=i∨(T.getD e.on 0).testBit i=true)
 | [],s,h=>.inl h
 | e::r,s,h=>by
  simp only [List.foldl_cons] at h
  rcases zg6 r _ h with h|⟨e',h1,h2⟩
  ·split at h
   ·rename_i hb
    simp only [Nat.testBit_or,Bool.or_eq_true,Nat.testBit_two_pow,decide_eq_true_eq] at h
    rcases h with h|h
    ·exact .inl h
    ·exact .inr ⟨e,by simp,hb,h⟩
   ·exact .inl h
  ·exact .inr ⟨e',List.mem_cons_of_mem _ h1,h2⟩
theorem zug {T:List Nat}{o:Oper}{i:Nat}(h:(maskOf T o).testBit i=true):∃ e ∈ o.after,Region.binds .any e=true∧(e.on=i∨(T.getD e.on 0).testBit i=true):=by
 rcases zg6 _ _ h with h|⟨e,h1,h2⟩
 ·simp at h
 ·exact ⟨e,by simpa using h1,h2⟩
def Closed (ops:Array Oper)(L:Nat→Bool):Prop:=∀ (j:Nat) (o:Oper),L j=true→ops[j]? = some o→∀ e ∈ o.after,Region.binds .any e=true→L e.on=true
theorem z33 {ops:Array Oper}{T:List Nat}(hb:backB 0 ops.toList=true)(hf:fixB T T ops.toList=true){L:Nat→Bool}(hc:Closed ops L){i:Nat}:∀ (j:Nat) (o:Oper),ops[j]? = some o →
  (∀ e ∈ o.after,Region.binds .any e=true→L e.on=true)→(T.getD j 0).testBit i=true→L i=true:=by
 intro j
 induction j using Nat.strongRecOn with
 | _ j ih=>
  intro o ho hall ht
  have ho':ops.toList[j]? = some o:=by simpa using ho
  rw [zg5 hf j o ho'] at ht
  obtain ⟨e,he,heb,h⟩:=zug ht
  have hL:=hall e he heb
  rcases h with rfl|h
  ·exact hL
  ·have hlt:=z4p hb j o ho' e he heb
   have hj:j<ops.size:=(Array.getElem?_eq_some_iff.1 ho).1
   have hlt':e.on<ops.size:=by omega
   exact ih e.on (by omega) _ (Array.getElem?_eq_getElem hlt') (fun e' he' hb'=>hc e.on _ hL (Array.getElem?_eq_getElem hlt') e' he' hb') h
def apart (x y:Ev):Bool:=disL (wrL x.e) y.fp && disL (wrL y.e) x.fp && disL (wrL x.e) (wrL y.e) && allN (fun d=>!ment d y.e) x.nm
def chkAt (T:List Nat)(x:Ev)(i:Nat):Nat→List Ev→Bool
 | _,[]=>true
 | j,y::r=>allN (fun d=>!ment d x.e) y.nm && ((T.getD j 0).testBit i || apart x y) && chkAt T x i (j+1) r
def chkP (T:List Nat):Nat→List Ev→Bool
 | _,[]=>true
 | i,x::r=>chkAt T x i (i+1) r && chkP T (i+1) r
def chkF (s:St):List Ev→Bool
 | []=>true
 | x::r=>allN (fun d=>fresh d s) x.nm && chkF s r
def chkB (ops:List Oper)(s:St)(evs:List Ev):Bool:=
 let T:=tabGo ops []
 backB 0 ops && fixB T T ops && chkF s evs && chkP T 0 evs
theorem z7r {s:St}:∀ {evs:List Ev},chkF s evs=true→∀ (i:Nat) (x:Ev),evs[i]? = some x→∀ d ∈ x.nm,fresh d s=true
 | [],_,_,_,h=>by cases h
 | y::r,h,i,x,hx=>by
  simp only [chkF,Bool.and_eq_true] at h
  cases i with
  | zero=>simp at hx;subst hx;exact (z6f _ _).1 h.1
  | succ i=>exact z7r h.2 i x (by simpa using hx)
theorem zg7 {T:List Nat}{x:Ev}{i:Nat}:∀ {evs:List Ev} {j:Nat},chkAt T x i j evs=true→∀ (k:Nat) (y:Ev),evs[k]? = some y→(∀ d ∈ y.nm,ment d x.e=false)∧((T.getD (j+k) 0).testBit i=true∨apart x y=true)
 | [],_,_,_,_,h=>by cases h
 | z::r,j,h,k,y,hy=>by
  simp only [chkAt,Bool.and_eq_true,Bool.or_eq_true] at h
  cases k with
  | zero=>
   simp at hy
   subst hy
   exact ⟨fun d hd=>by simpa using (z6f _ _).1 h.1.1 d hd,h.1.2⟩
  | succ k=>
   have:=zg7 h.2 k y (by simpa using hy)
   rw [show j+(k+1)=j+1+k from by omega]
   exact this
theorem z2v {T:List Nat}:∀ {evs:List Ev} {n:Nat},chkP T n evs=true→∀ (i j:Nat) (x y:Ev),i<j→evs[i]? = some x→evs[j]? = some y→(∀ d ∈ y.nm,ment d x.e=false)∧((T.getD (n+j) 0).testBit (n+i)=true∨apart x y=true)
 | [],_,_,_,_,_,_,_,h,_=>by cases h
 | z::r,n,h,i,j,x,y,hij,hx,hy=>by
  simp only [chkP,Bool.and_eq_true] at h
  cases i with
  | zero=>
   simp at hx
   subst hx
   obtain ⟨j,rfl⟩:∃ k,j=k+1:=⟨j - 1,by omega⟩
   have:=zg7 h.1 j y (by simpa using hy)
   rw [show n+(j+1)=n+1+j from by omega]
   exact this
  | succ i=>
   obtain ⟨j,rfl⟩:∃ k,j=k+1:=⟨j - 1,by omega⟩
   have:=z2v h.2 i j x y (by omega) (by simpa using hx) (by simpa using hy)
   rw [show n+(j+1)=n+1+j from by omega,show n+(i+1)=n+1+i from by omega]
   exact this
section
variable {X:Ctx}{s0:St}{k:List Item}
def Lof (listed:Array Bool):Nat→Bool:=fun j=>listed.getD j false
theorem z28 {listed:Array Bool}{i:Nat}(hi:i<listed.size):Lof (listed.setIfInBounds i true)=fun j=>j == i || Lof listed j:=by
 funext j
 simp only [Lof,Array.getD_eq_getD_getElem?,Array.getElem?_setIfInBounds]
 by_cases h:i=j
 ·subst h;simp [hi]
 ·have:(j == i)=false:=by simpa using fun e=>h e.symm
  simp [h,this]
theorem z34 {listed:Array Bool}{i:Nat}(hi:i<listed.size):listed.getD i true=Lof listed i:=by
 simp [Lof,hi]
def left (n:Nat)(listed:Array Bool):List Nat:=(List.range n).filter fun j=>!Lof listed j
theorem za4 {n:Nat}{listed:Array Bool}{i:Nat}(hi:i<listed.size)(hn:i<n)(hl:Lof listed i=false):(left n (listed.setIfInBounds i true)).length+1=(left n listed).length:=by
 have hmem:i ∈ left n listed:=by simp [left,hn,hl]
 have hnd:(left n listed).Nodup:=List.Nodup.sublist List.filter_sublist List.nodup_range
 have he:left n (listed.setIfInBounds i true)=(left n listed).erase i:=by
  rw [hnd.erase_eq_filter]
  simp only [left,z28 hi,List.filter_filter]
  congr 1
  funext j
  cases Lof listed j <;> cases h:(j == i) <;> simp_all
 rw [he,List.length_erase_of_mem hmem]
 have:0<(left n listed).length:=List.length_pos_of_mem hmem
 omega
theorem zuh {ops:Array Oper}{evs:List Ev}{K:St→Prop}(hrun:RunL X ops ops.toList s0 evs)(hchk:chkB ops.toList s0 evs=true)(hK:K (appAll s0 evs)) :
  ∀ (fuel:Nat) (listed:Array Bool) (G:Gh) (a:Act) (w:World),listed.size=ops.size→Closed ops (Lof listed)→(left ops.size listed).length≤fuel→Rel X G (sel (Lof listed) 0 evs s0) a w →
   wpAnyIn X.F 0 X.P .any ops (Nrm X K) fuel listed a w:=by
 simp only [chkB,Bool.and_eq_true] at hchk
 obtain ⟨⟨⟨hback,hfix⟩,hfr⟩,hp⟩:=hchk
 generalize tabGo ops.toList []=T at *
 have hlen:evs.length=ops.size:=by simpa using z6g hrun
 have hdone:∀ (listed:Array Bool) (G:Gh) (a:Act) (w:World),(∀ j,j<ops.size→Lof listed j=true)→Rel X G (sel (Lof listed) 0 evs s0) a w→Nrm X K .normal a w:=by
  intro listed G a w hall R
  refine ⟨rfl,G,_,hK,R.congr fun l=>?_⟩
  rw [← za3 0]
  refine z32 evs 0 _ _ rfl fun j ev hj hne=>?_
  have hj':j<ops.size:=by rw [← hlen];exact (List.getElem?_eq_some_iff.1 hj).1
  exact absurd (hall j hj').symm (by simpa using hne)
 have hstuck:∀ (listed:Array Bool),listed.size=ops.size→Region.ready .any ops listed=[]→∀ j,j<ops.size→Lof listed j=true:=by
  intro listed hsz hr j
  induction j using Nat.strongRecOn with
  | _ j ih=>
   intro hj
   cases hq:Lof listed j with
   | true=>rfl
   | false=>
    have:j ∈ Region.ready .any ops listed:=by
     rw [mem_ready]
     refine ⟨by rw [z34 (by omega)];exact hq,ops[j],Array.getElem?_eq_getElem hj,fun e he hb=>?_⟩
     have hlt:=z4p hback j ops[j] (by simp [hj]) e he hb
     exact ih e.on (by omega) (by omega)
    rw [hr] at this
    cases this
 intro fuel
 induction fuel with
 | zero=>
  intro listed G a w hsz hcl hle R
  have hall:∀ j,j<ops.size→Lof listed j=true:=by
   intro j hj
   cases hq:Lof listed j with
   | true=>rfl
   | false=>
    have hm:j ∈ left ops.size listed:=by simp [left,hj,hq]
    have:=List.length_pos_of_mem hm
    omega
  refine ⟨?_,hdone listed G a w hall R⟩
  cases hr:Region.ready .any ops listed with
  | nil=>rfl
  | cons j r=>
   have hm:j ∈ Region.ready .any ops listed:=by rw [hr];simp
   obtain ⟨h1,o,h2,-⟩:=mem_ready.1 hm
   have hj:j<ops.size:=(Array.getElem?_eq_some_iff.1 h2).1
   rw [z34 (by omega),hall j hj] at h1
   cases h1
 | succ fuel ih=>
  intro listed G a w hsz hcl hle R
  refine ⟨fun hr=>hdone listed G a w (hstuck listed hsz hr) R,fun i hi=>?_⟩
  obtain ⟨h1,o,ho,hall⟩:=mem_ready.1 hi
  have hio:i<ops.size:=(Array.getElem?_eq_some_iff.1 ho).1
  have hil:i<listed.size:=by omega
  rw [z34 hil] at h1
  have hall':∀ e ∈ o.after,Region.binds .any e=true→Lof listed e.on=true:=hall
  have hie:i<evs.length:=by omega
  have hev:evs[i]? = some evs[i]:=List.getElem?_eq_getElem hie
  have hstep:=z7q 0 hrun i o evs[i] (by simpa using ho) hev
  have hind1:∀ (j:Nat) (ev:Ev),evs[j]? = some ev→i<j→Lof listed j=true→apart evs[i] ev=true:=by
   intro j ev hj hij hL
   have hjo:j<ops.size:=by rw [← hlen];exact (List.getElem?_eq_some_iff.1 hj).1
   rcases (z2v hp i j _ ev hij hev hj).2 with h|h
   ·have:=z33 hback hfix hcl j ops[j] (Array.getElem?_eq_getElem hjo) (fun e he hb=>hcl j _ hL (Array.getElem?_eq_getElem hjo) e he hb) (by simpa using h)
    rw [h1] at this;cases this
   ·exact h
  have hind2:∀ (j:Nat) (ev:Ev),evs[j]? = some ev→j<i→Lof listed j=false→apart ev evs[i]=true:=by
   intro j ev hj hij hL
   rcases (z2v hp j i ev _ hij hj hev).2 with h|h
   ·have:=z33 hback hfix hcl i o ho hall' (by simpa using h)
    rw [hL] at this;cases this
   ·exact h
  have hop:OpOK X ops o (sel (Lof listed) 0 evs s0) (apply (sel (Lof listed) 0 evs s0) evs[i].e):=by
   refine hstep _ (fun l v hl=>?_) (fun d hd=>?_)
   ·obtain ⟨hfp,hg⟩:=za2 hl
    rw [← hg]
    refine z32 evs 0 _ _ rfl fun j ev hj hne hw=>?_
    simp only [Nat.zero_add] at hne
    by_cases hij:j<i
    ·cases hq:Lof listed j with
     | true=>rw [hq] at hne;simp [hij] at hne
     | false=>
      have:=hind2 j ev hj hij hq
      simp only [apart,Bool.and_eq_true,z31] at this
      exact this.1.1.1 l hw hfp
    ·cases hq:Lof listed j with
     | false=>rw [hq] at hne;simp [hij] at hne
     | true=>
      have hne':j ≠ i:=fun e=>by rw [e,h1] at hq;cases hq
      have:=hind1 j ev hj (by omega) hq
      simp only [apart,Bool.and_eq_true,z31] at this
      exact this.1.1.2 l hw hfp
   ·refine z7o evs 0 s0 (z7r hfr i _ hev d hd) fun j ev hj hL=>?_
    simp only [Nat.zero_add] at hL
    have hne':j ≠ i:=fun e=>by rw [e,h1] at hL;cases hL
    by_cases hij:j<i
    ·exact (z2v hp j i ev _ hij hj hev).1 d hd
    ·have:=hind1 j ev hj (by omega) hL
     simp only [apart,Bool.and_eq_true,z6f] at this
     simpa using this.2 d hd
  have hnext:∀ G' a' w',Rel X G' (apply (sel (Lof listed) 0 evs s0) evs[i].e) a' w'→wpAnyIn X.F 0 X.P .any ops (Nrm X K) fuel (listed.setIfInBounds i true) a' w':=by
   intro G' a' w' R'
   refine ih _ G' a' w' (by simpa using hsz) ?_ ?_ ?_
   ·rw [z28 hil]
    intro j o' hL ho' e he hb
    simp only [Bool.or_eq_true,beq_iff_eq] at hL ⊢
    rcases hL with rfl|hL
    ·rw [ho] at ho';cases ho'
     exact .inr (hall' e he hb)
    ·exact .inr (hcl j o' hL ho' e he hb)
   ·have:=za4 (n:=ops.size) hil hio h1
    omega
   ·rw [z28 hil]
    refine R'.congr fun l=>z7p h1 evs 0 s0 (Nat.zero_le _) hev fun j ev hj hlt hL hw=>?_
    simp only [Nat.zero_add] at hlt hL
    have:=hind1 j ev hj hlt hL
    simp only [apart,Bool.and_eq_true,z31] at this
    exact this.1.2 l hw
  have:=hop G a w R _ (Nrm X K) hnext
  unfold wpOpIn
  simp only [ho]
  split
  ·rename_i hw;simp only [hw,if_true] at this;exact this
  ·rename_i hw;simp only [hw] at this;exact ⟨fun _ _=>trivial,this⟩
def VD (X:Ctx)(ops:Array Oper)(s0:St)(l:List Oper)(s:St)(evR:List Ev)(K:St→Prop):Prop:=
 ∃ evs,RunL X ops l s evs∧chkB ops.toList s0 (evR.reverse++evs)=true∧K (appAll s evs)
theorem zui {ops:Array Oper}{s:St}{evR:List Ev}{K:St→Prop}(h:chkB ops.toList s0 evR.reverse=true)(hK:K s):VD X ops s0 [] s evR K:=⟨[],trivial,by simpa using h,hK⟩
theorem z5e {ops:Array Oper}{o:Oper}{l:List Oper}{s:St}{evR:List Ev}{K:St→Prop}(ev:Ev)(h:LocStep X ops o (restr s ev.fp) ev.e ev.nm)(hl:VD X ops s0 l (apply s ev.e) (ev::evR) K):VD X ops s0 (o::l) s evR K:=by
 obtain ⟨evs,h1,h2,h3⟩:=hl
 exact ⟨ev::evs,⟨h,h1⟩,by simpa using h2,h3⟩
theorem Rel.drawn {G:Gh}{s:St}{a:Act}{w:World}(R:Rel X G s a w)(n:Nat):Rel X G s a { w with drawn:=n }:=by
 have hc:∀ ad,({ w with drawn:=n }:World).cell? ad=w.cell? ad:=fun _=>rfl
 have g:Grow G.D w G.D { w with drawn:=n }:=fun b o h=>⟨h,rfl⟩
 have T0:=Trans.refl X G a w R.nil
 have T:Trans X G a w G a { w with drawn:=n } (fun _=>False):=⟨T0.tmps,T0.defers,rfl,rfl,rfl,Nat.le_refl _,fun _ _ _=>rfl,fun _ h=>h.elim,g,fun _ _ h k=>absurd h k,R.nil⟩
 exact R.step T (fun _ _=>False) (fun l v h=>.inr ⟨h,fun _ _=>rfl,fun _ _ h=>h,fun _ _=>rfl,fun _ _=>rfl⟩) (fun _ _ h=>h.elim) (fun _ _ _ _ _ h=>h.elim)
theorem zuj {id:Nat}{ops:Array Oper}{s:St}(hm:X.P.follows .mixedOrders=true)(h:∀ K:St→Prop,(∀ s',W X k s'→K s')→VD X ops s ops.toList s [] K):W X (.code (.region id ops true)::k) s:=by
 intro G a w b cs hf hk hr R
 obtain ⟨evs,h1,h2,h3⟩:=h (fun s'=>W X k s') (fun _ h=>h)
 have hany:=zuh h1 (by simpa using h2) h3 ops.size (Array.replicate ops.size false) G a { w with drawn:=w.drawn+1 } (by simp) (fun j o hL=>by simp [Lof,Array.getElem?_replicate] at hL;split at hL <;> simp at hL) (Nat.le_trans (List.length_filter_le _ _) (by simp)) (by
  rw [z4a _ _ _ (fun j _=>by simp only [Lof,Array.getD_eq_getD_getElem?,Array.getElem?_replicate];split <;> rfl)]
  exact R.drawn _)
 obtain ⟨e',a',w',⟨rfl,G',s',hK,R'⟩,harr⟩:=wpIn_region_any (F:=X.F) (n:=0) hm hany b k cs hr trivial (z9x _)
 obtain ⟨w'',fr,q1,q2⟩:=hK G' a' w' b cs hf hk hr R'
 exact ⟨w'',fr,q1,Steps.trans (StepsIn.steps harr) q2⟩
end
end
section
section
variable {X:Ctx}{s s1:St}
theorem z3m (hs:leS s1 s){x:Operand}{y:SV}(h:evl X (get s1) x=some y):evl X (get s) x=some y:=by
 cases x with
 | tmp t=>
  simp only [evl] at h ⊢
  split at h
  ·rename_i z hz;rw [hs _ _ hz];exact h
  ·cases h
 | const v=>exact h
 | global b=>exact h
 | func f=>exact h
theorem zc5 (hs:leS s1 s){x:Operand}{α:Type}{f:SV→Option α}{y:α}(h:(evl X (get s1) x).bind f=some y):(evl X (get s) x).bind f=some y:=by
 obtain ⟨z,h1,h2⟩:=Option.bind_eq_some_iff.1 h
 rw [z3m hs h1];exact h2
theorem zc6 (hs:leS s1 s){E:Nat}:∀ {l:List (Nat × Operand)} {n:Nat} {r:List (List DV)},litEls X (get s1) E n l=some r→litEls X (get s) E n l=some r
 | [],_,_,h=>h
 | (i,x)::l,n,r,h=>by
  simp only [litEls] at h ⊢
  split at h
  ·rename_i hin
   rw [if_pos hin]
   split at h
   ·rename_i y hy
    simp only [z3m hs hy]
    split at h
    ·rename_i ds hds
     split at h
     ·rename_i h1
      rw [if_pos h1]
      split at h
      ·rename_i h2
       rw [if_pos h2]
       split at h
       ·rename_i rest hr
        rw [zc6 hs hr];exact h
       ·cases h
      ·cases h
     ·cases h
    ·cases h
   ·cases h
  ·cases h
theorem zc7 (hs:leS s1 s){d:Nat}{x:Option Operand}{r:Int}(h:bound X (get s1) d x=some r):bound X (get s) d x=some r:=by
 cases x with
 | none=>exact h
 | some x=>
  simp only [bound] at h ⊢
  split at h
  ·rename_i k n hy
   rw [z3m hs hy];exact h
  ·cases h
theorem zuk (hs:leS s1 s){t E n:Nat}(h:hasRoom (get s1) t E n):hasRoom (get s) t E n:=h.imp id (hs _ _)
theorem zul (hs:leS s1 s){o:Oper}{c:Prop}{y:SV}(h:pval X (get s1) o=some (c,y))(hc:c){d:Nat}(hd:o.dst=some d)(hn:d<X.n):StepOK X s o (upd s (.slot d) (.one y)):=by
 intro G a w R next Q hK
 obtain ⟨v,h1,h2⟩:=pval_sound (R.weaken hs) h hc
 refine opIn (z3j h) ?_
 rw [h1,z1y,hd]
 exact hK G _ w (R.setSlot (Trans.refl X G a w R.nil) rfl rfl (fun _ h=>h) hn h2)
theorem zum (hs:leS s1 s){o:Oper}{c:Prop}{y:SV}(h:pval X (get s1) o=some (c,y))(hc:c)(hd:o.dst=none):StepOK X s o s:=by
 intro G a w R next Q hK
 obtain ⟨v,h1,h2⟩:=pval_sound (R.weaken hs) h hc
 refine opIn (z3j h) ?_
 rw [h1,z1y,hd]
 exact hK G _ w R
theorem StepOK.congr {o:Oper}{s' s'':St}(h:StepOK X s o s')(he:∀ l,get s'' l=get s' l):StepOK X s o s'':=
 fun G a w R next Q hK=>h G a w R next Q fun G' a' w' R'=>hK G' a' w' (R'.congr he)
end
def slotsOf:List Operand→List Loc
 | []=>[]
 | .tmp t::r=>.slot t::slotsOf r
 | _::r=>slotsOf r
def tgtOf:Option SV→List Loc
 | some (.loc k _)=>[.loc k]
 | some (.v (.prim (.pointer (some ⟨b,_,_⟩))))=>[.heap b]
 | some (.own t _)=>[.tok t]
 | _=>[]
def dstL:Option Tmp→List Loc
 | some d=>[.slot d]
 | none=>[]
def dstA:Option Tmp→List Loc
 | some d=>[.slot d,.loc d]
 | none=>[]
def dstT:Option Tmp→List Loc
 | some d=>[.slot d,.tok d]
 | none=>[]
def exFp (X:Ctx)(g:Rd):Op→List Loc
 | .load _ x=>tgtOf (evl X g x)
 | .store _ p _=>tgtOf (evl X g p)
 | .call c=>match isAppend c with
  | some (x,_,_,_)=>tgtOf (evl X g x)
  | none=>[]
 | _=>[]
def wrOp (X:Ctx)(g:Rd)(d:Option Tmp):Op→List Loc
 | .alloc _=>dstA d
 | .box _ _=>dstA d
 | .store _ p _=>tgtOf (evl X g p)
 | .slice _ _ _ _ (some _)=>.tok 0::dstT d
 | .call c=>match isAppend c with
  | some (x,_,_,_)=>tgtOf (evl X g x)++dstT d
  | none=>dstL d
 | _=>dstL d
def nmOf (d:Option Tmp):Op→List Nat
 | .alloc _=>d.toList
 | .box _ _=>d.toList
 | .slice _ _ _ _ (some _)=>d.toList
 | .call c=>match isAppend c with
  | some _=>d.toList
  | none=>[]
 | _=>[]
def effOf (s1:St):List Loc→Eff
 | []=>[]
 | l::r=>(l,get s1 l)::effOf s1 r
theorem zun (s1:St)(wr:List Loc)(l:Loc):(effOf s1 wr).says l=if l ∈ wr then some (get s1 l) else none:=by
 induction wr with
 | nil=>rfl
 | cons m r ih=>
  simp only [effOf,Eff.says,ih]
  by_cases h:l ∈ r
  ·simp [h]
  ·simp only [h,if_false,List.mem_cons,or_false]
   by_cases hm:m=l
   ·subst hm;simp
   ·simp [hm,(Ne.symm hm:¬ l=m)]
theorem zc8 (s s1:St)(wr:List Loc)(l:Loc):get (apply s (effOf s1 wr)) l=if l ∈ wr then get s1 l else get s l:=by
 rw [z4k,zun]
 split <;> rfl
section
variable {X:Ctx}{s s1:St}
theorem za5 {wr:List Loc}{m:Loc}{v:LV}(hwr:wr=[m])(l:Loc):get (apply s (effOf (upd s1 m v) wr)) l=get (upd s m v) l:=by
 subst hwr
 rw [zc8,z0h,z0h]
 by_cases h:m=l
 ·subst h;simp
 ·simp [h,(Ne.symm h:¬ l=m)]
theorem zg8 {wr:List Loc}{m n:Loc}{v u:LV}(hwr:wr=[m,n])(l:Loc):get (apply s (effOf (upd (upd s1 m v) n u) wr)) l=get (upd (upd s m v) n u) l:=by
 subst hwr
 rw [zc8,z0h,z0h,z0h,z0h]
 by_cases h:n=l
 ·subst h;simp
 ·by_cases h':m=l
  ·subst h';simp [h]
  ·simp [h,h',(Ne.symm h':¬ l=m),(Ne.symm h:¬ l=n)]
theorem zg9 {wr:List Loc}{k m n:Loc}{v u:LV}(hwr:wr=[k,m,n])(l:Loc):get (apply s (effOf (upd (upd (del s1 k) m v) n u) wr)) l=get (upd (upd (del s k) m v) n u) l:=by
 subst hwr
 rw [zc8,z0h,z0h,z0h,z0h,z26,z26]
 by_cases h:n=l
 ·subst h;simp
 ·by_cases h':m=l
  ·subst h';simp [h]
  ·by_cases h2:k=l
   ·subst h2;simp
   ·simp [h,h',h2,(Ne.symm h':¬ l=m),(Ne.symm h:¬ l=n),(Ne.symm h2:¬ l=k)]
theorem z7s {d:Nat}{s:St}(h:fresh d s=true):freshL d s=true∧freshT d s=true:=by simpa [fresh] using h
theorem zga (hs:leS s1 s){o:Oper}{c:Prop}{s1':St}{wr:List Loc}(hwr:wr=dstL o.dst)(h:put1 X s1 o.dst (pval X (get s1) o)=some (c,s1'))(hc:c):StepOK X s o (apply s (effOf s1' wr)):=by
 unfold put1 at h
 split at h
 ·rename_i d c' y hd hp
  cases h
  exact (zul hs hp hc.1 hd hc.2).congr (za5 (by rw [hwr,hd];rfl))
 ·rename_i c' y hd hp
  cases h
  refine (zum hs hp hc hd).congr fun l=>?_
  rw [hwr,hd];rfl
 ·cases h
theorem zuo (k o:Nat):tgtOf (some (.loc k o))=[.loc k]:=rfl
theorem zup {esc:List Nat}{o:Oper}{c:Prop}{s1':St}(hs:leS s1 s)(h:stepS X esc s1 o=some (c,s1'))(hc:c)(hfr:∀ d ∈ nmOf o.dst o.op,fresh d s=true) :
  StepOK X s o (apply s (effOf s1' (wrOp X (get s1) o.dst o.op))):=by
 unfold stepS at h
 split at h
 ·cases h
 ·split at h
  ·rename_i t ho
   unfold stAlloc at h
   split at h
   ·rename_i d cs hd hz
    split at h
    ·rename_i hb
     cases h
     simp only [Bool.and_eq_true] at hb
     have hf:=z7s (hfr d (by rw [ho,hd];simp [nmOf]))
     exact (zf8 ho hd hc hz hb.1.1 hf.1).congr (zg8 (by rw [ho,hd];rfl))
    ·cases h
   ·cases h
  ·rename_i t x ho
   unfold stBox at h
   split at h
   ·rename_i d y hd hy
    split at h
    ·rename_i hb
     cases h
     simp only [Bool.and_eq_true,Bool.not_eq_true'] at hb
     have hf:=z7s (hfr d (by rw [ho,hd];simp [nmOf]))
     exact (zf9 ho hd hc (z3m hs hy) hb.1.1 hf.1 hb.2).congr (zg8 (by rw [ho,hd];rfl))
    ·cases h
   ·cases h
  ·rename_i t p x ho
   split at h
   ·rename_i hdn
    have hd:o.dst=none:=by simpa using hdn
    unfold stStore at h
    split at h
    ·rename_i k' off agg n y hp hl hy
     split at h
     ·rename_i cs hg
      split at h
      ·rename_i hb
       cases h
       exact (zfc ho hd (z3m hs hp) (hs _ _ hg) hl (z3m hs hy) hc hb).congr (za5 (by rw [ho];simp only [wrOp,hp,tgtOf]))
      ·cases h
     ·cases h
    ·rename_i b off agg n y hp hl hy
     split at h
     ·rename_i cs ys hg hys
      split at h
      ·rename_i hb
       cases h
       exact (z9r ho hd (z3m hs hp) (hs _ _ hg) hl (z3m hs hy) hys hc hb).congr (za5 (by rw [ho];simp only [wrOp,hp,tgtOf]))
      ·cases h
     ·cases h
    ·cases h
   ·cases h
  ·rename_i t len parts ho
   split at h
   ·rename_i E B he
    unfold stLit at h
    split at h
    ·rename_i d E' B' els hd he' hels
     cases he'
     cases h
     exact (zff ho hd hc.1 he (zc6 hs hels) hc.2).congr (za5 (by rw [ho,hd];rfl))
    ·cases h
   ·cases h
  ·rename_i t x lo hi m ho
   unfold stSlice3 at h
   split at h
   ·rename_i d E els l h' k' hd hE hx hlo hhi hm
    split at h
    ·rename_i hb
     cases h
     simp only [Bool.and_eq_true,bne_iff_ne,ne_eq] at hb
     unfold hiOf at hhi
     rw [hx] at hhi
     have hf:=z7s (hfr d (by rw [ho,hd];simp [nmOf]))
     exact (zfl ho hd hc.1 hb.1.2 hf.2 hE (zc5 hs hx) (zc7 hs hlo) (zc7 hs hhi) (zc7 hs hm) hb.2 hc.2).congr (zg9 (by rw [ho,hd];rfl))
    ·cases h
   ·cases h
  ·rename_i c' ho
   split at h
   ·rename_i x y t t2 hap
    have hc':c' = { callee:=.builtin .append,args:=#[x,y],argTypes:=#[t,t2] }:=by
     unfold isAppend at hap
     split at hap
     ·rename_i h1 h2 h3
      cases hap
      cases c'
      simp only at h1 h2 h3
      rw [h1,z4m h2,z4m h3]
     ·cases hap
    subst hc'
    unfold stAppend at h
    split at h
    ·rename_i d E B t' els ys hd he hx hy
     split at h
     ·rename_i hb
      cases h
      simp only [Bool.and_eq_true,bne_iff_ne,ne_eq] at hb
      have hf:=z7s (hfr d (by rw [ho,hd];simp [nmOf,hap]))
      exact (zfk ho hd hc.1 hb.2 hf.2 he hc.2.1 hb.1.1 (z3m hs hx) (zc5 hs hy) (zuk hs hc.2.2.1) hc.2.2.2.1 hc.2.2.2.2.1 hc.2.2.2.2.2).congr (zg9 (by rw [ho,hd];simp only [wrOp,hap,hx,tgtOf,dstT,List.cons_append,List.nil_append]))
     ·cases h
    ·cases h
   ·rename_i hap
    exact zga hs (by rw [ho];simp only [wrOp,hap]) h hc
  ·rename_i h1 h2 h3 h4 h5 h6
   refine zga hs ?_ h hc
   cases hop:o.op with
   | alloc t=>exact absurd hop (h1 t)
   | box t x=>exact absurd hop (h2 t x)
   | store t p x=>exact absurd hop (h3 t p x)
   | slice t x lo hi m=>cases m with
    | none=>rfl
    | some m=>exact absurd hop (h5 t x lo hi m)
   | call c=>exact absurd hop (h6 c)
   | _=>rfl
def GuardYes (X:Ctx)(ops:Array Oper)(o:Oper)(s:St):Prop:=
 o.guard=none∨∃ j dj want,o.guard=some (j,want)∧(ops[j]?).bind (·.dst)=some dj∧dj<X.n∧get s (.slot dj)=some (.one (.v (.prim (.bool want))))
theorem zgb {G:Gh}{a:Act}{w:World}(R:Rel X G s a w){ops:Array Oper}{j dj:Nat}(hj:(ops[j]?).bind (·.dst)=some dj)(hn:dj<X.n){b:Bool}(hb:get s (.slot dj)=some (.one (.v (.prim (.bool b))))):yielded ops a.tmps j=some b:=by
 have hv:=(z0o (R.holds _ _ hb)).1
 have hlt:dj<a.tmps.size:=by rw [R.size];exact hn
 have hv':a.tmps[dj]? = some (.bool b):=by
  have h3:a.tmps.getD dj undef=a.tmps[dj]:=by simp [hlt]
  rw [Array.getElem?_eq_getElem hlt,← h3,hv]
 unfold yielded
 rw [hj]
 simp [hv']
theorem z4q {ops:Array Oper}{o:Oper}{s':St}(hg:GuardYes X ops o s)(h:StepOK X s o s'):OpOK X ops o s s':=by
 intro G a w R next Q hK
 have hw:Region.wanted o (yielded ops a.tmps)=true:=by
  rcases hg with hg|⟨j,dj,want,h1,h2,h3,h4⟩
  ·simp [Region.wanted,hg]
  ·simp [Region.wanted,h1,zgb R h2 h3 h4]
 rw [if_pos hw]
 exact h G a w R next Q hK
theorem zuq {ops:Array Oper}{o:Oper}{j dj:Nat}{want:Bool}(h1:o.guard=some (j,want))(h2:(ops[j]?).bind (·.dst)=some dj)(h3:dj<X.n)(h4:get s (.slot dj)=some (.one (.v (.prim (.bool (!want)))))){d:Nat}(hd:o.dst=some d)(hdn:d<X.n) :
  OpOK X ops o s (apply s [(.slot d,some unv)]):=by
 intro G a w R next Q hK
 have hw:Region.wanted o (yielded ops a.tmps)=false:=by
  simp only [Region.wanted,h1,zgb R h2 h3 h4]
  cases want <;> rfl
 simp only [hw,Bool.false_eq_true,if_false,hd]
 exact hK G _ w (R.setSlot (Trans.refl X G a w R.nil) rfl rfl (fun _ h=>h) hdn (x:=.v (.tup [])) z9w)
theorem zur {ops:Array Oper}{o:Oper}{j dj:Nat}{want:Bool}(h1:o.guard=some (j,want))(h2:(ops[j]?).bind (·.dst)=some dj)(h4:get s (.slot dj)=some unv){d:Nat}(hd:o.dst=some d)(hdn:d<X.n) :
  OpOK X ops o s (apply s [(.slot d,some unv)]):=by
 intro G a w R next Q hK
 have hw:Region.wanted o (yielded ops a.tmps)=false:=by
  simp only [Region.wanted,h1,zfu R h2 h4]
  cases want <;> rfl
 simp only [hw,Bool.false_eq_true,if_false,hd]
 exact hK G _ w (R.setSlot (Trans.refl X G a w R.nil) rfl rfl (fun _ h=>h) hdn (x:=.v (.tup [])) z9w)
theorem GuardYes.mono {ops:Array Oper}{o:Oper}(hs:leS s1 s)(h:GuardYes X ops o s1):GuardYes X ops o s:=
 h.imp id fun ⟨j,dj,want,h1,h2,h3,h4⟩=>⟨j,dj,want,h1,h2,h3,hs _ _ h4⟩
theorem zc9 {esc:List Nat}{ops:Array Oper}{o:Oper}{c:Prop}{s1':St}(h:stepS X esc s1 o=some (c,s1'))(hc:c)(hg:GuardYes X ops o s1):LocStep X ops o s1 (effOf s1' (wrOp X (get s1) o.dst o.op)) (nmOf o.dst o.op):=
 fun _ hs hfr=>z4q (hg.mono hs) (zup hs h hc hfr)
end
def vcdD (k:St→List Ev→Prop)(ev:List Ev)(s:St)(fp:List Loc)(nm:List Nat)(e:Eff):Prop:=k (apply s e) (⟨fp,e,nm⟩::ev)
def vcdC (X:Ctx)(ops:Array Oper)(s0:St)(l:List Oper)(K:St→Prop)(k:St→List Ev→Prop)(o:Oper)(ev:List Ev)(s:St)(fp:List Loc)(wr:List Loc):Option (Prop × St)→Prop
 | some (c,s1')=>c∧vcdD k ev s fp (nmOf o.dst o.op) (effOf s1' wr)
 | none=>VD X ops s0 (o::l) s ev K
def vcdB (X:Ctx)(esc:List Nat)(ops:Array Oper)(s0:St)(l:List Oper)(K:St→Prop)(k:St→List Ev→Prop)(o:Oper)(ev:List Ev)(s:St)(fp:List Loc)(s1:St):Prop:=
 vcdC X ops s0 l K k o ev s fp (wrOp X (get s1) o.dst o.op) (stepS X esc s1 o)
def vcdA (X:Ctx)(esc:List Nat)(ops:Array Oper)(s0:St)(l:List Oper)(K:St→Prop)(k:St→List Ev→Prop)(o:Oper)(ev:List Ev)(s:St)(fp:List Loc):Prop:=
 vcdB X esc ops s0 l K k o ev s fp (restr s fp)
def vcdG (X:Ctx)(esc:List Nat)(ops:Array Oper)(s0:St)(l:List Oper)(K:St→Prop)(k:St→List Ev→Prop)(o:Oper)(ev:List Ev)(s:St)(fp:List Loc)(want:Bool)(dj:Nat):Option SV→Prop
 | some (.v (.prim (.bool b)))=>dj<X.n∧(b=want→vcdA X esc ops s0 l K k o ev s (.slot dj::fp))∧(b = !want→match o.dst with
   | some d=>d<X.n∧vcdD k ev s [.slot dj] [] [(.slot d,some unv)]
   | none=>False)
 | some (.v (.tup []))=>match o.dst with
  | some d=>d<X.n∧vcdD k ev s [.slot dj] [] [(.slot d,some unv)]
  | none=>False
 | _=>False
def vcdG0 (X:Ctx)(esc:List Nat)(ops:Array Oper)(s0:St)(l:List Oper)(K:St→Prop)(k:St→List Ev→Prop)(o:Oper)(ev:List Ev)(s:St)(fp:List Loc)(want:Bool):Option Nat→Prop
 | some dj=>vcdG X esc ops s0 l K k o ev s fp want dj (oneOf (get s (.slot dj)))
 | none=>False
def fpOf (X:Ctx)(g:Rd)(op:Op):List Loc:=slotsOf op.operands.toList++exFp X g op
def vcd (X:Ctx)(esc:List Nat)(ops:Array Oper)(s0:St)(K:St→Prop):List Oper→St→List Ev→Prop
 | [],s,ev=>chkB ops.toList s0 ev.reverse=true∧K s
 | o::l,s,ev=>
  match o.guard with
  | none=>vcdA X esc ops s0 l K (vcd X esc ops s0 K l) o ev s (fpOf X (get s) o.op)
  | some (j,want)=>vcdG0 X esc ops s0 l K (vcd X esc ops s0 K l) o ev s (fpOf X (get s) o.op) want (gsl ops j)
section
variable {X:Ctx}{esc:List Nat}{ops:Array Oper}{s0:St}{K:St→Prop}
theorem zgc {l:List Oper}{k:St→List Ev→Prop}(hk:∀ s ev,k s ev→VD X ops s0 l s ev K){o:Oper}{ev:List Ev}{s:St}{fp:List Loc}(hg:GuardYes X ops o (restr s fp))(h:vcdA X esc ops s0 l K k o ev s fp):VD X ops s0 (o::l) s ev K:=by
 unfold vcdA vcdB vcdC at h
 split at h
 ·rename_i c s1' hs
  exact z5e ⟨fp,_,_⟩ (zc9 hs h.1 hg) (hk _ _ h.2)
 ·exact h
theorem z0l:∀ {l:List Oper} {s:St} {ev:List Ev},vcd X esc ops s0 K l s ev→VD X ops s0 l s ev K
 | [],s,ev,h=>zui h.1 h.2
 | o::l,s,ev,h=>by
  unfold vcd at h
  split at h
  ·rename_i hg
   exact zgc (fun _ _=>z0l) (.inl hg) h
  ·rename_i j want hg
   unfold vcdG0 at h
   split at h
   ·rename_i dj hdj
    have hdj':(ops[j]?).bind (·.dst)=some dj:=hdj
    unfold vcdG at h
    split at h
    ·rename_i b hb
     have hgb:get s (.slot dj)=some (.one (.v (.prim (.bool b)))):=by
      unfold oneOf at hb
      split at hb
      ·rename_i x hx;cases hb;exact hx
      ·cases hb
     obtain ⟨h1,h2,h3⟩:=h
     by_cases hbw:b=want
     ·subst hbw
      refine zgc (fun _ _=>z0l) (.inr ⟨j,dj,b,hg,hdj',h1,?_⟩) (h2 rfl)
      simp only [restr,hgb,get,if_true]
     ·have hbn:b = !want:=by cases b <;> cases want <;> simp_all
      have h4:=h3 hbn
      split at h4
      ·rename_i d hd
       refine z5e ⟨[.slot dj],[(.slot d,some unv)],[]⟩ (fun s' hs _=>?_) (z0l h4.2)
       refine zuq hg hdj' h1 ?_ hd h4.1
       refine hs _ _ ?_
       simp only [restr,hgb,get,if_true,hbn]
      ·exact h4.elim
    ·rename_i hb
     have hgb:get s (.slot dj)=some unv:=by
      unfold oneOf at hb
      split at hb
      ·rename_i x hx;cases hb;exact hx
      ·cases hb
     split at h
     ·rename_i d hd
      refine z5e ⟨[.slot dj],[(.slot d,some unv)],[]⟩ (fun s' hs _=>?_) (z0l h.2)
      refine zur hg hdj' ?_ hd h.1
      refine hs _ _ ?_
      simp only [restr,hgb,get,if_true]
     ·exact h.elim
    ·exact h.elim
   ·exact h.elim
theorem z09 {id:Nat}{k:List Item}{s:St}(hm:X.P.follows .mixedOrders=true)(esc:List Nat)(h:∀ K:St→Prop,(∀ s',W X k s'→K s')→vcd X esc ops s K ops.toList s []):W X (.code (.region id ops true)::k) s:=
 zuj hm fun K hK=>z0l (h K hK)
def heapL:Objs→List Loc
 | []=>[]
 | (b,_)::r=>.heap b::heapL r
def delE:Objs→Eff
 | []=>[]
 | (b,_)::r=>(.heap b,none)::delE r
def addE:Objs→Eff
 | []=>[]
 | (b,cs)::r=>addE r++[(.heap b,some (.row (cs.map SV.v)))]
theorem zca (e e':Eff):∀ s,apply s (e++e')=apply (apply s e) e':=by
 induction e with
 | nil=>intro s;rfl
 | cons p r ih=>
  obtain ⟨l,v⟩:=p
  cases v <;> intro s <;> simp only [List.cons_append,apply,ih]
theorem zgd (φ:Objs):∀ s,apply s (delE φ)=delObjs s φ:=by
 induction φ with
 | nil=>intro s;rfl
 | cons p r ih=>intro s;simp only [delE,apply,delObjs,ih]
theorem zge (φ:Objs)(s:St):apply s (addE φ)=addObjs s φ:=by
 induction φ with
 | nil=>rfl
 | cons p r ih=>simp only [addE,zca,ih,addObjs,apply]
theorem z5f {s:St}{l:Loc}{v:LV}:∀ {fp:List Loc},l ∈ fp→get s l=some v→get (restr s fp) l=some v
 | [],h,_=>by cases h
 | m::r,h,hg=>by
  simp only [restr]
  split
  ·rename_i u hu
   simp only [get]
   split
   ·subst_vars;rw [hu] at hg;exact hg
   ·rename_i hne
    rcases List.mem_cons.1 h with rfl|h
    ·exact absurd rfl hne
    ·exact z5f h hg
  ·rename_i hu
   rcases List.mem_cons.1 h with rfl|h
   ·rw [hu] at hg;cases hg
   ·exact z5f h hg
theorem zcb {s s':St}{fp:List Loc}{x:Operand}(hx:∀ t,x = .tmp t→Loc.slot t ∈ fp)(hs:leS (restr s fp) s'){y:SV}(h:evl X (get s) x=some y):evl X (get s') x=some y:=by
 cases x with
 | tmp t=>
  simp only [evl] at h ⊢
  split at h
  ·rename_i z hz
   rw [hs _ _ (z5f (hx t rfl) hz)];exact h
  ·cases h
 | const v=>exact h
 | global b=>exact h
 | func f=>exact h
theorem zcc {s s':St}{fp:List Loc}(hs:leS (restr s fp) s'):∀ {l:List Operand} {ds:List DV},(∀ m ∈ slotsOf l,m ∈ fp)→evlDs X (get s) l=some ds→evlDs X (get s') l=some ds
 | [],_,_,h=>h
 | x::r,ds,hx,h=>by
  simp only [evlDs] at h ⊢
  split at h
  ·rename_i y ys hy hys
   obtain ⟨z,hz,hz'⟩:=Option.bind_eq_some_iff.1 hy
   have h1:evl X (get s') x=some z:=zcb (fun t ht=>hx _ (by subst ht;simp [slotsOf])) hs hz
   have h2:=zcc hs (fun m hm=>hx m (by cases x <;> simp [slotsOf,hm])) hys
   rw [h1,h2,Option.bind_some,hz']
   exact h
  ·cases h
theorem zgf {l m:List Loc}{x:Loc}(h:x ∈ l):x ∈ l++m:=List.mem_append.2 (.inl h)
theorem zgg {φ:Objs}{b:Nat}{cs:List DV}(h:(b,cs) ∈ φ):Loc.heap b ∈ heapL φ:=by
 induction φ with
 | nil=>cases h
 | cons p r ih=>
  rcases List.mem_cons.1 h with rfl|h
  ·simp [heapL]
  ·exact List.mem_cons_of_mem _ (ih h)
theorem z1v {l:List Oper}{k:St→List Ev→Prop}{ev:List Ev}{s:St}{fp wr:List Loc}{d:Tmp}{f:FuncId}{args:Array Operand}{ats:Array TypeId}{ty:TypeId}{pos:String}{af:Array Edge}{s1:St}
  (hk:∀ s ev,k s ev→VD X ops s0 l s ev K) {P:Program} {gl:Globs} (hP:X.P=P) (hgl:X.gl=gl) {ds ds':List DV} {φ φ':Objs} {r:DV} (hc:Con1 P gl f ds' φ r φ') (hargs:evlDs X (get s) args.toList=some ds) (hds:ds=ds') (hφ:objsIn (get s) φ) (hnd:(φ.map (·.1)).Nodup) (hdn:d<X.n)
  (h:vcdD k ev s (slotsOf args.toList++heapL φ) [] ((.slot d,some (.one (.v r)))::(delE φ++addE φ'))) :
  vcdC X ops s0 l K k ⟨some d,.call { callee:=.value (.func f),args:=args,argTypes:=ats },ty,pos,af,none⟩ ev s fp wr (stepS X esc s1 ⟨some d,.call { callee:=.value (.func f),args:=args,argTypes:=ats },ty,pos,af,none⟩):=by
 subst hds
 have e:stepS X esc s1 ⟨some d,.call { callee:=.value (.func f),args:=args,argTypes:=ats },ty,pos,af,none⟩=none:=by
  simp only [stepS,isAppend,pval,pcall,put1]
  split <;> rfl
 rw [e]
 show VD X ops s0 _ s ev K
 refine z5e ⟨slotsOf args.toList++heapL φ,_,[]⟩ (fun s' hs _=>z4q (.inl rfl) ?_) (hk _ _ h)
 refine (za0 (o:=⟨some d,.call { callee:=.value (.func f),args:=args,argTypes:=ats },ty,pos,af,none⟩) rfl (zcc hs (fun m hm=>zgf hm) hargs) (by rw [hP,hgl];exact hc) ?_ hnd rfl hdn).congr fun m=>?_
 ·intro b cs hm
  exact hs _ _ (z5f (List.mem_append.2 (.inr (zgg hm))) (hφ b cs hm))
 ·simp only [apply,zca,zgd,zge]
end
end
section
section
variable {X:Ctx}{esc:List Nat}{ops:Array Oper}{s0:St}{K:St→Prop}{g:Rd}{s:St}
def rsK (l:Loc)(r:St):Option LV→St
 | some v=>(l,v)::r
 | none=>r
theorem zus (l:Loc)(r:St)(v:LV):rsK l r (some v)=(l,v)::r:=rfl
theorem zut (l:Loc)(r:St):rsK l r none=r:=rfl
theorem zuu:restr s []=[]:=rfl
theorem zuv (l:Loc)(r:List Loc):restr s (l::r)=rsK l (restr s r) (get s l):=by
 simp only [restr,rsK]
 all_goals (cases get s l <;> rfl)
theorem zuw:slotsOf []=[]:=rfl
theorem zux (t:Nat)(r:List Operand):slotsOf (.tmp t::r) = .slot t::slotsOf r:=rfl
theorem zuy (v:Value)(r:List Operand):slotsOf (.const v::r)=slotsOf r:=rfl
theorem zuz (v:Nat)(r:List Operand):slotsOf (.global v::r)=slotsOf r:=rfl
theorem zv0 (v:Nat)(r:List Operand):slotsOf (.func v::r)=slotsOf r:=rfl
theorem zv1 (b o:Nat)(q):tgtOf (some (.v (.prim (.pointer (some ⟨b,o,q⟩)))))=[.heap b]:=rfl
theorem zv2 (cs:List DV):tgtOf (some (.v (.ref cs)))=[]:=rfl
theorem zv3 (t:Nat)(e:List (List DV)):tgtOf (some (.own t e))=[.tok t]:=rfl
theorem zv4 (e:List (List DV))(i o:Nat):tgtOf (some (.dp e i o))=[]:=rfl
theorem zv5 (e:List (List DV)):tgtOf (some (.v (.sl e)))=[]:=rfl
theorem zv6 (x:Operand):fpOf X g (.move x)=slotsOf [x]:=by simp [fpOf,exFp,Op.operands]
theorem zv7 (x:Operand):fpOf X g (.assign x)=slotsOf [x]:=by simp [fpOf,exFp,Op.operands]
theorem zv8 (a b c:Operand):fpOf X g (.pick a b c)=slotsOf [a,b,c]:=by simp [fpOf,exFp,Op.operands]
theorem zv9 (t:TypeId):fpOf X g (.alloc t)=[]:=by simp [fpOf,exFp,Op.operands,slotsOf]
theorem fBox (t:TypeId)(x:Operand):fpOf X g (.box t x)=slotsOf [x]:=by simp [fpOf,exFp,Op.operands]
theorem zva (t:TypeId)(ps:Array (Nat × Operand)):fpOf X g (.build t ps)=slotsOf (ps.toList.map (·.2)):=by simp [fpOf,exFp,Op.operands]
theorem zvb (t:TypeId)(n:Nat)(ps:Array (Nat × Operand)):fpOf X g (.buildSlice t n ps)=slotsOf (ps.toList.map (·.2)):=by simp [fpOf,exFp,Op.operands]
theorem zvc (t:TypeId)(x:Operand):fpOf X g (.load t x)=slotsOf [x]++tgtOf (evl X g x):=by simp [fpOf,exFp,Op.operands]
theorem zvd (t:TypeId)(p x:Operand):fpOf X g (.store t p x)=slotsOf [p,x]++tgtOf (evl X g p):=by simp [fpOf,exFp,Op.operands]
theorem zve (x:Operand):fpOf X g (.nilCheck x)=slotsOf [x]:=by simp [fpOf,exFp,Op.operands]
theorem zvf (x:Operand)(xt at':TypeId)(ok:Bool):fpOf X g (.typeAssert x xt at' ok)=slotsOf [x]:=by simp [fpOf,exFp,Op.operands]
theorem fBin (op:BinOp)(t u:TypeId)(x y:Operand):fpOf X g (.binOp op t x y u)=slotsOf [x,y]:=by simp [fpOf,exFp,Op.operands]
theorem fUn (op:UnOp)(t:TypeId)(x:Operand):fpOf X g (.unOp op t x)=slotsOf [x]:=by simp [fpOf,exFp,Op.operands]
theorem zvg (t u:TypeId)(x:Operand):fpOf X g (.convert t u x)=slotsOf [x]:=by simp [fpOf,exFp,Op.operands]
theorem zvh (fn:Fn)(fi ca:Array Operand):fpOf X g (.makeFunc fn fi ca)=slotsOf ((fi++ca).toList):=by simp [fpOf,exFp,Op.operands]
theorem zvi (t:TypeId)(x:Operand):fpOf X g (.makeInterface t x)=slotsOf [x]:=by simp [fpOf,exFp,Op.operands]
theorem zvj (t:TypeId)(x:Operand)(a b c:Option Operand):fpOf X g (.slice t x a b c)=slotsOf (x::(a.toList++b.toList++c.toList)):=by
 simp [fpOf,exFp,Op.operands]
theorem zvk (t:TypeId)(x:Operand)(f:Nat):fpOf X g (.fieldAddr t x f)=slotsOf [x]:=by simp [fpOf,exFp,Op.operands]
theorem zvl (t:TypeId)(x:Operand)(f:Nat):fpOf X g (.field t x f)=slotsOf [x]:=by simp [fpOf,exFp,Op.operands]
theorem zvm (t:TypeId)(x y:Operand):fpOf X g (.indexAddr t x y)=slotsOf [x,y]:=by simp [fpOf,exFp,Op.operands]
theorem zvn (x:Operand)(i:Nat):fpOf X g (.extract x i)=slotsOf [x]:=by simp [fpOf,exFp,Op.operands]
theorem fLen (xs:Array Operand)(ts:Array TypeId):fpOf X g (.call { callee:=.builtin .len,args:=xs,argTypes:=ts })=slotsOf xs.toList:=by simp [fpOf,exFp,Op.operands,Call.operands,isAppend]
theorem fMax (xs:Array Operand)(ts:Array TypeId):fpOf X g (.call { callee:=.builtin .max,args:=xs,argTypes:=ts })=slotsOf xs.toList:=by simp [fpOf,exFp,Op.operands,Call.operands,isAppend]
theorem fMin (xs:Array Operand)(ts:Array TypeId):fpOf X g (.call { callee:=.builtin .min,args:=xs,argTypes:=ts })=slotsOf xs.toList:=by simp [fpOf,exFp,Op.operands,Call.operands,isAppend]
theorem zvo (x y:Operand)(t t2:TypeId):fpOf X g (.call { callee:=.builtin .append,args:=#[x,y],argTypes:=#[t,t2] })=slotsOf [x,y]++tgtOf (evl X g x):=by simp [fpOf,exFp,Op.operands,Call.operands,isAppend]
theorem zvp (d:Nat):dstL (some d)=[.slot d]:=rfl
theorem zvq:dstL none=[]:=rfl
theorem zvr (d:Nat):dstA (some d)=[.slot d,.loc d]:=rfl
theorem zvs (d:Nat):dstT (some d)=[.slot d,.tok d]:=rfl
variable {d:Option Tmp}
theorem zvt (x:Operand):wrOp X g d (.move x)=dstL d:=rfl
theorem zvu (x:Operand):wrOp X g d (.assign x)=dstL d:=rfl
theorem zvv (a b c:Operand):wrOp X g d (.pick a b c)=dstL d:=rfl
theorem zvw (t:TypeId):wrOp X g d (.alloc t)=dstA d:=rfl
theorem wBox (t:TypeId)(x:Operand):wrOp X g d (.box t x)=dstA d:=rfl
theorem zvx (t:TypeId)(ps:Array (Nat × Operand)):wrOp X g d (.build t ps)=dstL d:=rfl
theorem zvy (t:TypeId)(n:Nat)(ps:Array (Nat × Operand)):wrOp X g d (.buildSlice t n ps)=dstL d:=rfl
theorem zvz (t:TypeId)(x:Operand):wrOp X g d (.load t x)=dstL d:=rfl
theorem zw0 (t:TypeId)(p x:Operand):wrOp X g d (.store t p x)=tgtOf (evl X g p):=rfl
theorem zw1 (x:Operand):wrOp X g d (.nilCheck x)=dstL d:=rfl
theorem zw2 (x:Operand)(xt at':TypeId)(ok:Bool):wrOp X g d (.typeAssert x xt at' ok)=dstL d:=rfl
theorem wBin (op:BinOp)(t u:TypeId)(x y:Operand):wrOp X g d (.binOp op t x y u)=dstL d:=rfl
theorem wUn (op:UnOp)(t:TypeId)(x:Operand):wrOp X g d (.unOp op t x)=dstL d:=rfl
theorem zw3 (t u:TypeId)(x:Operand):wrOp X g d (.convert t u x)=dstL d:=rfl
theorem zw4 (fn:Fn)(fi ca:Array Operand):wrOp X g d (.makeFunc fn fi ca)=dstL d:=rfl
theorem zw5 (t:TypeId)(x:Operand):wrOp X g d (.makeInterface t x)=dstL d:=rfl
theorem zw6 (t:TypeId)(x:Operand)(a b:Option Operand):wrOp X g d (.slice t x a b none)=dstL d:=rfl
theorem zw7 (t:TypeId)(x c:Operand)(a b:Option Operand):wrOp X g d (.slice t x a b (some c)) = .tok 0::dstT d:=rfl
theorem zw8 (t:TypeId)(x:Operand)(f:Nat):wrOp X g d (.fieldAddr t x f)=dstL d:=rfl
theorem zw9 (t:TypeId)(x:Operand)(f:Nat):wrOp X g d (.field t x f)=dstL d:=rfl
theorem zwa (t:TypeId)(x y:Operand):wrOp X g d (.indexAddr t x y)=dstL d:=rfl
theorem zwb (x:Operand)(i:Nat):wrOp X g d (.extract x i)=dstL d:=rfl
theorem wLen (xs:Array Operand)(ts:Array TypeId):wrOp X g d (.call { callee:=.builtin .len,args:=xs,argTypes:=ts })=dstL d:=by simp [wrOp,isAppend]
theorem wMax (xs:Array Operand)(ts:Array TypeId):wrOp X g d (.call { callee:=.builtin .max,args:=xs,argTypes:=ts })=dstL d:=by simp [wrOp,isAppend]
theorem wMin (xs:Array Operand)(ts:Array TypeId):wrOp X g d (.call { callee:=.builtin .min,args:=xs,argTypes:=ts })=dstL d:=by simp [wrOp,isAppend]
theorem zwc (x y:Operand)(t t2:TypeId):wrOp X g d (.call { callee:=.builtin .append,args:=#[x,y],argTypes:=#[t,t2] })=tgtOf (evl X g x)++dstT d:=by simp [wrOp,isAppend]
theorem zwd (x:Operand):nmOf d (.move x)=[]:=rfl
theorem zwe (x:Operand):nmOf d (.assign x)=[]:=rfl
theorem zwf (a b c:Operand):nmOf d (.pick a b c)=[]:=rfl
theorem zwg (t:TypeId):nmOf d (.alloc t)=d.toList:=rfl
theorem nBox (t:TypeId)(x:Operand):nmOf d (.box t x)=d.toList:=rfl
theorem zwh (t:TypeId)(ps:Array (Nat × Operand)):nmOf d (.build t ps)=[]:=rfl
theorem zwi (t:TypeId)(n:Nat)(ps:Array (Nat × Operand)):nmOf d (.buildSlice t n ps)=[]:=rfl
theorem zwj (t:TypeId)(x:Operand):nmOf d (.load t x)=[]:=rfl
theorem zwk (t:TypeId)(p x:Operand):nmOf d (.store t p x)=[]:=rfl
theorem zwl (x:Operand):nmOf d (.nilCheck x)=[]:=rfl
theorem zwm (x:Operand)(xt at':TypeId)(ok:Bool):nmOf d (.typeAssert x xt at' ok)=[]:=rfl
theorem nBin (op:BinOp)(t u:TypeId)(x y:Operand):nmOf d (.binOp op t x y u)=[]:=rfl
theorem nUn (op:UnOp)(t:TypeId)(x:Operand):nmOf d (.unOp op t x)=[]:=rfl
theorem zwn (t u:TypeId)(x:Operand):nmOf d (.convert t u x)=[]:=rfl
theorem zwo (fn:Fn)(fi ca:Array Operand):nmOf d (.makeFunc fn fi ca)=[]:=rfl
theorem zwp (t:TypeId)(x:Operand):nmOf d (.makeInterface t x)=[]:=rfl
theorem zwq (t:TypeId)(x:Operand)(a b:Option Operand):nmOf d (.slice t x a b none)=[]:=rfl
theorem zwr (t:TypeId)(x c:Operand)(a b:Option Operand):nmOf d (.slice t x a b (some c))=d.toList:=rfl
theorem zws (t:TypeId)(x:Operand)(f:Nat):nmOf d (.fieldAddr t x f)=[]:=rfl
theorem zwt (t:TypeId)(x:Operand)(f:Nat):nmOf d (.field t x f)=[]:=rfl
theorem zwu (t:TypeId)(x y:Operand):nmOf d (.indexAddr t x y)=[]:=rfl
theorem zwv (x:Operand)(i:Nat):nmOf d (.extract x i)=[]:=rfl
theorem nLen (xs:Array Operand)(ts:Array TypeId):nmOf d (.call { callee:=.builtin .len,args:=xs,argTypes:=ts })=[]:=by simp [nmOf,isAppend]
theorem nMax (xs:Array Operand)(ts:Array TypeId):nmOf d (.call { callee:=.builtin .max,args:=xs,argTypes:=ts })=[]:=by simp [nmOf,isAppend]
theorem nMin (xs:Array Operand)(ts:Array TypeId):nmOf d (.call { callee:=.builtin .min,args:=xs,argTypes:=ts })=[]:=by simp [nmOf,isAppend]
theorem zww (x y:Operand)(t t2:TypeId):nmOf d (.call { callee:=.builtin .append,args:=#[x,y],argTypes:=#[t,t2] })=d.toList:=by simp [nmOf,isAppend]
theorem zwx (s1:St):effOf s1 []=[]:=rfl
theorem zwy (s1:St)(l:Loc)(r:List Loc):effOf s1 (l::r)=(l,get s1 l)::effOf s1 r:=rfl
theorem zwz:apply s []=s:=rfl
theorem zx0 (l:Loc)(v:LV)(r:Eff):apply s ((l,some v)::r)=apply (upd s l v) r:=rfl
theorem zx1 (l:Loc)(r:Eff):apply s ((l,none)::r)=apply (del s l) r:=rfl
theorem zx2:heapL []=[]:=rfl
theorem zx3 (b:Nat)(cs:List DV)(r:Objs):heapL ((b,cs)::r) = .heap b::heapL r:=rfl
theorem zx4:delE []=[]:=rfl
theorem zx5 (b:Nat)(cs:List DV)(r:Objs):delE ((b,cs)::r)=(.heap b,none)::delE r:=rfl
theorem zx6:addE []=[]:=rfl
theorem zx7 (b:Nat)(cs:List DV)(r:Objs):addE ((b,cs)::r)=addE r++[(.heap b,some (.row (cs.map SV.v)))]:=rfl
variable {l:List Oper}{k:St→List Ev→Prop}{ev:List Ev}{fp wr:List Loc}{nm:List Nat}
theorem zx8:vcd X esc ops s0 K [] s ev=(chkB ops.toList s0 ev.reverse=true∧K s):=by rw [vcd]
theorem zx9 (d:Option Tmp)(op:Op)(ty:TypeId)(pos:String)(af:Array Edge) :
  vcd X esc ops s0 K (⟨d,op,ty,pos,af,none⟩::l) s ev=vcdA X esc ops s0 l K (vcd X esc ops s0 K l) ⟨d,op,ty,pos,af,none⟩ ev s (fpOf X (get s) op):=by rw [vcd]
theorem zxa (d:Option Tmp)(op:Op)(ty:TypeId)(pos:String)(af:Array Edge)(j:Nat)(w:Bool) :
  vcd X esc ops s0 K (⟨d,op,ty,pos,af,some (j,w)⟩::l) s ev=vcdG0 X esc ops s0 l K (vcd X esc ops s0 K l) ⟨d,op,ty,pos,af,some (j,w)⟩ ev s (fpOf X (get s) op) w (gsl ops j):=by rw [vcd]
theorem zxb (o:Oper):vcdA X esc ops s0 l K k o ev s fp=vcdB X esc ops s0 l K k o ev s fp (restr s fp):=rfl
theorem zxc (s1:St)(d:Option Tmp)(op:Op)(ty:TypeId)(pos:String)(af:Array Edge)(gd:Option (Nat × Bool)) :
  vcdB X esc ops s0 l K k ⟨d,op,ty,pos,af,gd⟩ ev s fp s1=vcdC X ops s0 l K k ⟨d,op,ty,pos,af,gd⟩ ev s fp (wrOp X (get s1) d op) (stepS X esc s1 ⟨d,op,ty,pos,af,gd⟩):=rfl
theorem zxd (s1:St)(c:Prop)(d:Option Tmp)(op:Op)(ty:TypeId)(pos:String)(af:Array Edge)(gd:Option (Nat × Bool)) :
  vcdC X ops s0 l K k ⟨d,op,ty,pos,af,gd⟩ ev s fp wr (some (c,s1))=(c∧vcdD k ev s fp (nmOf d op) (effOf s1 wr)):=rfl
theorem zxe (e:Eff):vcdD k ev s fp nm e=k (apply s e) (⟨fp,e,nm⟩::ev):=rfl
theorem zxf (o:Oper)(w:Bool)(dj:Nat):vcdG0 X esc ops s0 l K k o ev s fp w (some dj)=vcdG X esc ops s0 l K k o ev s fp w dj (oneOf (get s (.slot dj))):=rfl
theorem zxg (o:Oper)(dj:Nat):vcdG X esc ops s0 l K k o ev s fp true dj (some (.v (.prim (.bool true))))=(dj<X.n∧vcdA X esc ops s0 l K k o ev s (.slot dj::fp)):=by simp [vcdG]
theorem zxh (o:Oper)(dj:Nat):vcdG X esc ops s0 l K k o ev s fp false dj (some (.v (.prim (.bool false))))=(dj<X.n∧vcdA X esc ops s0 l K k o ev s (.slot dj::fp)):=by simp [vcdG]
theorem zxi (d:Tmp)(op:Op)(ty:TypeId)(pos:String)(af:Array Edge)(gd:Option (Nat × Bool))(dj:Nat) :
  vcdG X esc ops s0 l K k ⟨some d,op,ty,pos,af,gd⟩ ev s fp true dj (some (.v (.prim (.bool false))))=(dj<X.n∧d<X.n∧vcdD k ev s [.slot dj] [] [(.slot d,some unv)]):=by simp [vcdG]
theorem zxj (d:Tmp)(op:Op)(ty:TypeId)(pos:String)(af:Array Edge)(gd:Option (Nat × Bool))(dj:Nat) :
  vcdG X esc ops s0 l K k ⟨some d,op,ty,pos,af,gd⟩ ev s fp false dj (some (.v (.prim (.bool true))))=(dj<X.n∧d<X.n∧vcdD k ev s [.slot dj] [] [(.slot d,some unv)]):=by simp [vcdG]
theorem zxk (d:Tmp)(op:Op)(ty:TypeId)(pos:String)(af:Array Edge)(gd:Option (Nat × Bool))(w:Bool)(dj:Nat) :
  vcdG X esc ops s0 l K k ⟨some d,op,ty,pos,af,gd⟩ ev s fp w dj (some (.v (.tup [])))=(d<X.n∧vcdD k ev s [.slot dj] [] [(.slot d,some unv)]):=rfl
theorem zxl {P:Program}(hP:X.P=P){f:FuncId}{fn:Func}(hf:X.f=f)(hfn:X.fn=fn){r:DV}(hR:X.R=(fun x ψ=>x=r∧ψ=[])∧X.md = .fn){kk:List Item}(h:P.funcs[f]? = some fn∧retD X (get s) fn.results.toList=some r):W X (.code .ret::kk) s:=by
 subst hP hf hfn
 exact zfs hR.2 h.1 h.2 (φ:=[]) (fun _ _ h=>by cases h) List.nodup_nil (by rw [hR.1];exact ⟨rfl,rfl⟩)
theorem zxm {P:Program}(hP:X.P=P){f:FuncId}{fn:Func}(hf:X.f=f)(hfn:X.fn=fn){r:DV}(hR:X.R=(fun x ψ=>x=r∧ψ=[])∧X.md = .fn)(h:P.funcs[f]? = some fn∧retD X (get s) fn.results.toList=some r):W X [] s:=by
 subst hP hf hfn
 exact zft hR.2 h.1 h.2 (φ:=[]) (fun _ _ h=>by cases h) List.nodup_nil (by rw [hR.1];exact ⟨rfl,rfl⟩)
theorem z2h (n:Nat)(I:Nat→Prop)(S:Nat→St){c:Code}{kk:List Item}(h0:I 0)(round:∀ i,i<n→I i→(I (i+1)→W X (.inLoop c::kk) (S (i+1)))→W X (.code c::.inLoop c::kk) (S i))(last:I n→W X (.code c::.inLoop c::kk) (S n)) :
  W X (.code (.loop c)::kk) (S 0):=by
 refine z1k (fun i=>i≤n∧I i) S (fun i=>n - i) 0 ⟨Nat.zero_le _,h0⟩ fun i hi ih=>?_
 by_cases h:i<n
 ·exact round i h hi.2 fun h1=>ih (i+1) ⟨h,h1⟩ (by omega)
 ·obtain rfl:i=n:=by omega
  exact last hi.2
theorem z1z {α:Type}(L:List α)(S:List α→List α→St){c:Code}{kk:List Item}(round:∀ done x rest,L=done++x::rest→L[done.length]? = some x→W X (.inLoop c::kk) (S (done++[x]) rest)→W X (.code c::.inLoop c::kk) (S done (x::rest)))(last:W X (.code c::.inLoop c::kk) (S L [])) :
  W X (.code (.loop c)::kk) (S [] L):=by
 have key:=z1k (X:=X) (k:=kk) (c:=c) (fun i:List α × List α=>L=i.1++i.2) (fun i=>S i.1 i.2) (fun i=>i.2.length) ([],L) rfl
 refine key fun ⟨done,rest⟩ hI ih=>?_
 cases rest with
 | nil=>
  simp only [List.append_nil] at hI
  subst hI
  exact last
 | cons x rest=>
  exact round done x rest hI (by rw [hI];simp) (ih (done++[x],rest) (by simp [hI]) (by simp))
end
theorem zxn:BIG=2147483648:=rfl
attribute [go_sem] zxn zvf zw2 zwm
attribute [go_sem] zus zut zuu zuv zuw zux zuy zuz zv0 zuo zv1 zv2 zv3 zv4 zv5
attribute [go_sem] zv6 zv7 zv8 zv9 fBox zva zvb zvc zvd zve fBin fUn zvg zvh zvi zvj zvk zvl zvm zvn fLen fMax fMin zvo
attribute [go_sem] zvp zvq zvr zvs zvt zvu zvv zvw wBox zvx zvy zvz zw0 zw1 wBin wUn zw3 zw4 zw5 zw6 zw7 zw8 zw9 zwa zwb wLen wMax wMin zwc
attribute [go_sem] zwd zwe zwf zwg nBox zwh zwi zwj zwk zwl nBin nUn zwn zwo zwp zwq zwr zws zwt zwu zwv nLen nMax nMin zww
attribute [go_sem] zwx zwy zwz zx0 zx1 zx2 zx3 zx4 zx5 zx6 zx7 zx8 zx9 zxa zxb zxc zxd zxe zxf zxg zxh zxi zxj zxk
end
section
def exSV (k b:Nat):SV→SV
 | .loc j off=>if j=k then .v (.prim (.pointer (some ⟨b,off,none⟩))) else .loc j off
 | x=>x
def exRow (k b:Nat):List SV→List SV
 | []=>[]
 | x::r=>exSV k b x::exRow k b r
def exLV (k b:Nat):LV→LV
 | .one x=>.one (exSV k b x)
 | .row cs=>.row (exRow k b cs)
 | .tk E n=>.tk E n
 | .ob r=>.ob r
 | .mp l=>.mp l
def exLoc (k b:Nat):Loc→Loc
 | .loc j=>if j=k then .heap b else .loc j
 | l=>l
def expose (k b:Nat):St→St
 | []=>[]
 | (l,v)::r=>(exLoc k b l,exLV k b v)::expose k b r
def newB (b:Nat):St→Prop
 | []=>True
 | (.heap b',_)::r=>b' ≠ b∧newB b r
 | _::r=>newB b r
theorem zgh (k b:Nat)(cs:List SV):(exRow k b cs).length=cs.length∧∀ i:Nat,(exRow k b cs)[i]? = cs[i]?.map (exSV k b):=by
 induction cs with
 | nil=>simp [exRow]
 | cons x r ih=>
  refine ⟨by simp [exRow,ih.1],fun i=>?_⟩
  cases i with
  | zero=>simp [exRow]
  | succ i=>simp [exRow,ih.2]
theorem z7t {k b:Nat}{s:St}{l:Loc}{v:LV}(h:get (expose k b s) l=some v):∃ l0 v0,get s l0=some v0∧exLoc k b l0=l∧exLV k b v0=v:=by
 induction s with
 | nil=>cases h
 | cons p r ih=>
  obtain ⟨m,u⟩:=p
  simp only [expose,get] at h
  split at h
  ·rename_i hm;cases h;exact ⟨m,u,by simp [get],hm,rfl⟩
  ·rename_i hm
   obtain ⟨l0,v0,h1,h2,h3⟩:=ih h
   refine ⟨l0,v0,?_,h2,h3⟩
   have:m ≠ l0:=fun e=>hm (by rw [e,h2])
   simp [get,this,h1]
theorem z5g {b:Nat}{s:St}(h:∀ cs,get s (.heap b) ≠ some cs):newB b s:=by
 induction s with
 | nil=>trivial
 | cons p r ih=>
  obtain ⟨m,u⟩:=p
  cases m with
  | heap b'=>
   refine ⟨fun e=>h u (by simp [get,e]),ih fun cs hc=>?_⟩
   by_cases e:b' = b
   ·exact h u (by simp [get,e])
   ·exact h cs (by simp [get,e,hc])
  | slot n=>exact ih fun cs hc=>h cs (by simp [get,hc])
  | loc n=>exact ih fun cs hc=>h cs (by simp [get,hc])
  | tok n=>exact ih fun cs hc=>h cs (by simp [get,hc])
section
variable {X:Ctx}{s:St}
theorem zgi {G:Gh}{w:World}{k:Nat}{x:SV}{v:Value}(h:RSV G w x v):RSV G w (exSV k (G.ν k) x) v:=by
 cases x with
 | loc j off=>
  simp only [exSV]
  split
  ·rename_i hj
   have h':v = .pointer (some ⟨G.ν j,off,none⟩):=h
   rw [h',hj]
   exact .prim _ trivial
  ·exact h
 | _=>exact h
theorem zxo {k b:Nat}{x:SV}(h:x.isCell=true):(exSV k b x).isCell=true:=by
 cases x with
 | loc j off=>simp only [exSV];split <;> rfl
 | _=>exact h
theorem zcd {G:Gh}{k:Nat}{l:Loc}{v:LV}:blkOf G (exLoc k (G.ν k) l) (exLV k (G.ν k) v)=blkOf G l v:=by
 cases l with
 | slot n=>cases v <;> rfl
 | heap n=>cases v <;> rfl
 | tok n=>cases v <;> rfl
 | loc j=>
  simp only [exLoc]
  split
  ·subst_vars;cases v <;> rfl
  ·cases v <;> rfl
theorem Rel.expose {G:Gh}{a:Act}{w:World}(R:Rel X G s a w)(k:Nat):Rel X G (expose k (G.ν k) s) a w:=by
 have htok:∀ l,(exLoc k (G.ν k) l).isTok=l.isTok:=by
  intro l;cases l <;> simp only [exLoc] <;> first|rfl|(split <;> rfl)
 have hrow:∀ b cs,BlkAt G w b cs→BlkAt G w b (exRow k (G.ν k) cs):=by
  rintro b cs ⟨c,e,h1,h2,h3⟩
  refine ⟨c,e,h1,by rw [(zgh _ _ _).1];exact h2,fun i x hx=>?_⟩
  rw [(zgh _ _ _).2] at hx
  cases hq:cs[i]? with
  | none=>simp [hq] at hx
  | some y=>
   simp [hq] at hx
   subst hx
   obtain ⟨q1,v,q2,q3⟩:=h3 i y hq
   exact ⟨zxo q1,v,q2,zgi q3⟩
 refine ⟨R.size,R.defers,R.ext,R.wf,R.nil,fun l v hg=>?_,fun l v l' v' b hg hg' hb hb'=>?_,fun l v b hg hb=>?_,fun l v b o hg hb ht=>?_⟩
 ·obtain ⟨l0,v0,h1,rfl,rfl⟩:=z7t hg
  have hh:=R.holds _ _ h1
  cases l0 with
  | slot n=>cases v0 with
   | one x=>exact zgi hh
   | _=>exact hh.elim
  | tok n=>cases v0 with
   | tk E m=>exact hh
   | _=>exact hh.elim
  | heap n=>cases v0 with
   | row cs=>exact hrow _ _ hh
   | ob r=>exact hh
   | mp l=>exact hh
   | _=>exact hh.elim
  | loc j=>cases v0 with
   | row cs=>
    simp only [exLoc]
    split
    ·subst_vars;exact hrow _ _ hh
    ·exact hrow _ _ hh
   | _=>exact hh.elim
 ·obtain ⟨l0,v0,h1,rfl,rfl⟩:=z7t hg
  obtain ⟨l1,v1,k1,rfl,rfl⟩:=z7t hg'
  rw [zcd] at hb hb'
  rw [R.sep _ _ _ _ b h1 k1 hb hb']
 ·obtain ⟨l0,v0,h1,rfl,rfl⟩:=z7t hg
  rw [zcd] at hb
  rw [htok]
  exact R.own _ _ b h1 hb
 ·obtain ⟨l0,v0,h1,rfl,rfl⟩:=z7t hg
  rw [zcd] at hb
  rw [htok] at ht
  exact R.data _ _ b o h1 hb ht
theorem Rel.newB {G:Gh}{a:Act}{w:World}(R:Rel X G s a w){k:Nat}{cs:List SV}(hk:get s (.loc k)=some (.row cs)):newB (G.ν k) s:=by
 refine z5g fun v hv=>?_
 have hh:=R.holds _ _ hv
 cases v with
 | row cs'=>
  have:=R.sep _ _ _ _ (G.ν k) hk hv rfl rfl
  cases this
 | one x=>exact hh.elim
 | tk E n=>exact hh.elim
 | ob r=>
  have:=R.sep _ _ _ _ (G.ν k) hk hv rfl rfl
  cases this
 | mp l=>
  have:=R.sep _ _ _ _ (G.ν k) hk hv rfl rfl
  cases this
theorem z2w (k:Nat){kk:List Item}{cs:List SV}(hk:get s (.loc k)=some (.row cs))(h:∀ b,newB b s→W X kk (expose k b s)):W X kk s:=
 fun G a w b cs hf hkk hr R=>h (G.ν k) (R.newB hk) G a w b cs hf hkk hr (R.expose k)
theorem zgj {ops:Array Oper}{o:Oper}{l:List Oper}{K:St→Prop}{s':St}(ho:OpOK X ops o s s')(h:VL X ops l s' K):VL X ops (o::l) s K:=by
 intro n hn G a w R
 obtain ⟨h1,h2⟩:=z2g hn
 simp only [List.length_cons,List.range'_succ,wpOpsIn,h1]
 have:=ho G a w R _ (Nrm X K) fun G' a' w' R'=>h (n+1) h2 G' a' w' R'
 split
 ·rename_i hw;simp only [hw,if_true] at this;exact this
 ·rename_i hw;simp only [hw] at this;exact ⟨fun _ _=>trivial,this⟩
theorem z23 {esc:List Nat}{ops:Array Oper}{l:List Oper}{K:St→Prop}{d:Tmp}{f:FuncId}{args:Array Operand}{ats:Array TypeId}{ty:TypeId}{pos:String}{af:Array Edge}{j dj:Nat}{want:Bool}{P:Program}{gl:Globs}(hP:X.P=P)(hgl:X.gl=gl)
  {ds ds':List DV} {φ φ':Objs} {r:DV} (hc:Con1 P gl f ds' φ r φ') (hargs:evlDs X (get s) args.toList=some ds) (hds:ds=ds') (hφ:objsIn (get s) φ) (hnd:(φ.map (·.1)).Nodup) (hdn:d<X.n)
  (hj:gsl ops j=some dj) (hjn:dj<X.n) (hb:get s (.slot dj)=some (.one (.v (.prim (.bool want)))))
  (h:vc X esc ops l (addObjs (delObjs (upd s (.slot d) (.one (.v r))) φ) φ') K) :
  vcK X esc ops l K ⟨some d,.call { callee:=.value (.func f),args:=args,argTypes:=ats },ty,pos,af,some (j,want)⟩ s (stepS X esc s ⟨some d,.call { callee:=.value (.func f),args:=args,argTypes:=ats },ty,pos,af,some (j,want)⟩):=by
 subst hds
 have e:stepS X esc s ⟨some d,.call { callee:=.value (.func f),args:=args,argTypes:=ats },ty,pos,af,some (j,want)⟩=none:=by
  simp only [stepS,isAppend,pval,pcall,put1]
  split <;> rfl
 rw [e]
 refine zgj (z4q (.inr ⟨j,dj,want,rfl,hj,hjn,hb⟩) (za0 (o:=⟨some d,.call { callee:=.value (.func f),args:=args,argTypes:=ats },ty,pos,af,some (j,want)⟩) rfl hargs (by rw [hP,hgl];exact hc) hφ hnd rfl hdn)) (z1c h)
theorem z24 {esc:List Nat}{ops:Array Oper}{s0:St}{K:St→Prop}{l:List Oper}{k:St→List Ev→Prop}{ev:List Ev}{fp wr:List Loc}{d:Tmp}{f:FuncId}{args:Array Operand}{ats:Array TypeId}{ty:TypeId}{pos:String}{af:Array Edge}{j dj:Nat}{want:Bool}{s1:St}
  (hk:∀ s ev,k s ev→VD X ops s0 l s ev K) {P:Program} {gl:Globs} (hP:X.P=P) (hgl:X.gl=gl) {ds ds':List DV} {φ φ':Objs} {r:DV} (hc:Con1 P gl f ds' φ r φ') (hargs:evlDs X (get s) args.toList=some ds) (hds:ds=ds') (hφ:objsIn (get s) φ) (hnd:(φ.map (·.1)).Nodup) (hdn:d<X.n)
  (hj:gsl ops j=some dj) (hjn:dj<X.n) (hb:get s (.slot dj)=some (.one (.v (.prim (.bool want)))))
  (h:vcdD k ev s (.slot dj::(slotsOf args.toList++heapL φ)) [] ((.slot d,some (.one (.v r)))::(delE φ++addE φ'))) :
  vcdC X ops s0 l K k ⟨some d,.call { callee:=.value (.func f),args:=args,argTypes:=ats },ty,pos,af,some (j,want)⟩ ev s fp wr (stepS X esc s1 ⟨some d,.call { callee:=.value (.func f),args:=args,argTypes:=ats },ty,pos,af,some (j,want)⟩):=by
 subst hds
 have e:stepS X esc s1 ⟨some d,.call { callee:=.value (.func f),args:=args,argTypes:=ats },ty,pos,af,some (j,want)⟩=none:=by
  simp only [stepS,isAppend,pval,pcall,put1]
  split <;> rfl
 rw [e]
 show VD X ops s0 _ s ev K
 refine z5e ⟨.slot dj::(slotsOf args.toList++heapL φ),_,[]⟩ (fun s' hs _=>z4q (.inr ⟨j,dj,want,rfl,hj,hjn,hs _ _ (z5f (by simp) hb)⟩) ?_) (hk _ _ h)
 refine (za0 (o:=⟨some d,.call { callee:=.value (.func f),args:=args,argTypes:=ats },ty,pos,af,some (j,want)⟩) rfl (zcc hs (fun m hm=>List.mem_cons_of_mem _ (zgf hm)) hargs) (by rw [hP,hgl];exact hc) ?_ hnd rfl hdn).congr fun m=>?_
 ·intro b cs hm
  exact hs _ _ (z5f (List.mem_cons_of_mem _ (List.mem_append.2 (.inr (zgg hm)))) (hφ b cs hm))
 ·simp only [apply,zca,zgd,zge]
theorem z7u {esc:List Nat}{ops:Array Oper}{l:List Oper}{K:St→Prop}{d:Tmp}{f:FuncId}{args:Array Operand}{ats:Array TypeId}{ty:TypeId}{pos:String}{af:Array Edge}{P:Program}{gl:Globs}(hP:X.P=P)(hgl:X.gl=gl)
  {ds ds':List DV} {φ:Objs} {R:DV→Objs→Prop} (hc:Con P gl f ds' φ R) (hargs:evlDs X (get s) args.toList=some ds) (hds:ds=ds') (hφ:objsIn (get s) φ) (hnd:(φ.map (·.1)).Nodup) (hdn:d<X.n)
  (h:∀ r φ',R r φ'→(∀ b ∈ φ'.map (·.1),b ∈ φ.map (·.1)∨newB b s)→vc X esc ops l (addObjs (delObjs (upd s (.slot d) (.one (.v r))) φ) φ') K) :
  vcK X esc ops l K ⟨some d,.call { callee:=.value (.func f),args:=args,argTypes:=ats },ty,pos,af,none⟩ s (stepS X esc s ⟨some d,.call { callee:=.value (.func f),args:=args,argTypes:=ats },ty,pos,af,none⟩):=by
 subst hds
 have e:stepS X esc s ⟨some d,.call { callee:=.value (.func f),args:=args,argTypes:=ats },ty,pos,af,none⟩=none:=by
  simp only [stepS,isAppend,pval,pcall,put1]
  split <;> rfl
 rw [e]
 intro n hn G a w R0
 obtain ⟨h1,h2⟩:=z2g hn
 simp only [List.length_cons,List.range'_succ,wpOpsIn,h1,Region.wanted,if_true]
 refine (z9z (o:=⟨some d,.call { callee:=.value (.func f),args:=args,argTypes:=ats },ty,pos,af,none⟩) (fi:=#[]) (ca:=#[]) (ds:=ds) rfl rfl ⟨ds,hargs,by simp⟩ (by simp) (by rw [hP,hgl];exact hc) hφ hnd rfl hdn R0 _ _ fun r φ' G' a' w' hR hids R'=>?_)
 refine z1c (h r φ' hR fun b hb=>(hids b hb).imp id fun hh=>z5g fun v hv=>?_) (n+1) h2 G' a' w' R'
 have hho:=R0.holds _ _ hv
 cases v with
 | row cs=>exact hh _ _ hv rfl
 | ob r=>exact hh _ _ hv rfl
 | mp l=>exact hh _ _ hv rfl
 | one x=>exact hho.elim
 | tk E n=>exact hho.elim
theorem zxp {esc:List Nat}{ops:Array Oper}{l:List Oper}{K:St→Prop}{d:Tmp}{x:Operand}{f:FuncId}{fi ca:Array Value}{args:Array Operand}{ats:Array TypeId}{ty:TypeId}{pos:String}{af:Array Edge}{P:Program}{gl:Globs}(hP:X.P=P)(hgl:X.gl=gl)
  (hx:evl X (get s) x=some (.v (.prim (.func (.func f) fi ca)))) (hprim:∀ v ∈ fi.toList++ca.toList,primOK v)
  {ds ds':List DV} {φ φ':Objs} {r:DV} (hc:Con1 P gl f ds' φ r φ') (hargs:evlDs X (get s) args.toList=some ds) (hds:fi.toList.map DV.prim++ds++ca.toList.map DV.prim=ds') (hφ:objsIn (get s) φ) (hnd:(φ.map (·.1)).Nodup) (hdn:d<X.n)
  (h:vc X esc ops l (addObjs (delObjs (upd s (.slot d) (.one (.v r))) φ) φ') K) :
  vcK X esc ops l K ⟨some d,.call { callee:=.value x,args:=args,argTypes:=ats },ty,pos,af,none⟩ s (stepS X esc s ⟨some d,.call { callee:=.value x,args:=args,argTypes:=ats },ty,pos,af,none⟩):=by
 subst hds
 have e:stepS X esc s ⟨some d,.call { callee:=.value x,args:=args,argTypes:=ats },ty,pos,af,none⟩=none:=by
  simp only [stepS,isAppend,pval,pcall,put1]
  split <;> rfl
 rw [e]
 refine zgj (z4q (.inl rfl) (s':=addObjs (delObjs (upd s (.slot d) (.one (.v r))) φ) φ') ?_) (z1c h)
 intro G a w R0 next Q hK
 refine z9z (o:=⟨some d,.call { callee:=.value x,args:=args,argTypes:=ats },ty,pos,af,none⟩) (ds:=fi.toList.map DV.prim++ds++ca.toList.map DV.prim) rfl hx ⟨ds,hargs,rfl⟩ hprim (by rw [hP,hgl];exact hc) hφ hnd rfl hdn R0 next Q ?_
 rintro r' ψ G' a' w' ⟨rfl,rfl⟩ _ R'
 exact hK G' a' w' R'
theorem zxq {esc:List Nat}{ops:Array Oper}{l:List Oper}{K:St→Prop}{d:Tmp}{x:Operand}{f:FuncId}{args:Array Operand}{ats:Array TypeId}{ty:TypeId}{pos:String}{af:Array Edge}{P:Program}{gl:Globs}(hP:X.P=P)(hgl:X.gl=gl)
  {ds ds':List DV} {φ φ':Objs} {r:DV} (hc:Con1 P gl f ds' φ r φ') (hx:evl X (get s) x=some (.v (.prim (.func (.func f) #[] #[])))) (hargs:evlDs X (get s) args.toList=some ds) (hds:ds=ds') (hφ:objsIn (get s) φ) (hnd:(φ.map (·.1)).Nodup) (hdn:d<X.n)
  (h:vc X esc ops l (addObjs (delObjs (upd s (.slot d) (.one (.v r))) φ) φ') K) :
  vcK X esc ops l K ⟨some d,.call { callee:=.value x,args:=args,argTypes:=ats },ty,pos,af,none⟩ s (stepS X esc s ⟨some d,.call { callee:=.value x,args:=args,argTypes:=ats },ty,pos,af,none⟩):=
 zxp hP hgl hx (by simp) hc hargs (by simpa using hds) hφ hnd hdn h
theorem zce {c:Code}{kk:List Item}(S:St)(h1:W X kk S→W X (.code c::kk) s)(h2:W X kk S):W X (.code c::kk) s:=h1 h2
theorem z35 {α:Type}(L:List α)(I:List α→Prop)(S:List α→List α→St){c:Code}{kk:List Item}(h0:I [])(round:∀ done x rest,L=done++x::rest→L[done.length]? = some x→I done→(I (done++[x])→W X (.inLoop c::kk) (S (done++[x]) rest))→W X (.code c::.inLoop c::kk) (S done (x::rest)))(last:I L→W X (.code c::.inLoop c::kk) (S L [])) :
  W X (.code (.loop c)::kk) (S [] L):=by
 have key:=z1k (X:=X) (k:=kk) (c:=c) (fun i:List α × List α=>L=i.1++i.2∧I i.1) (fun i=>S i.1 i.2) (fun i=>i.2.length) ([],L) ⟨rfl,h0⟩
 refine key fun ⟨done,rest⟩ hI ih=>?_
 obtain ⟨hI,hJ⟩:=hI
 cases rest with
 | nil=>
  simp only [List.append_nil] at hI
  subst hI
  exact last hJ
 | cons x rest=>
  exact round done x rest hI (by rw [hI];simp) hJ (fun hj=>ih (done++[x],rest) ⟨by simp [hI],hj⟩ (by simp))
theorem za6 {c:Code}{kk:List Item}(E:Prop)(S:St)(h1:(E→W X kk S)→W X (.code c::kk) s)(h2:E→W X kk S):W X (.code c::kk) s:=h1 h2
theorem z0k {P:Program}(hP:X.P=P){f:FuncId}{fn:Func}(hf:X.f=f)(hfn:X.fn=fn){kk:List Item}(r:DV)(φ:Objs)(h:P.funcs[f]? = some fn∧retD X (get s) fn.results.toList=some r)(hφ:objsIn (get s) φ)(hnd:(φ.map (·.1)).Nodup)(hR:X.R r φ)(hmd:X.md = .fn):W X (.code .ret::kk) s:=by
 subst hP hf hfn
 exact zfs hmd h.1 h.2 hφ hnd hR
theorem z0m {P:Program}(hP:X.P=P){f:FuncId}{fn:Func}(hf:X.f=f)(hfn:X.fn=fn)(r:DV)(φ:Objs)(h:P.funcs[f]? = some fn∧retD X (get s) fn.results.toList=some r)(hφ:objsIn (get s) φ)(hnd:(φ.map (·.1)).Nodup)(hR:X.R r φ)(hmd:X.md = .fn):W X [] s:=by
 subst hP hf hfn
 exact zft hmd h.1 h.2 hφ hnd hR
end
theorem zxr (k b off:Nat):exSV k b (.loc k off) = .v (.prim (.pointer (some ⟨b,off,none⟩))):=by simp [exSV]
theorem zxs {k j:Nat}(b off:Nat)(h:j ≠ k):exSV k b (.loc j off) = .loc j off:=by simp [exSV,h]
theorem zxt (k b:Nat)(x:DV):exSV k b (.v x) = .v x:=rfl
theorem zxu (k b:Nat)(e:List (List DV))(i o:Nat):exSV k b (.dp e i o) = .dp e i o:=rfl
theorem zxv (k b:Nat)(e:List DV)(n:List Nat):exSV k b (.ag e n) = .ag e n:=rfl
theorem zxw (k b t:Nat)(e:List (List DV)):exSV k b (.own t e) = .own t e:=rfl
theorem zxx (k b:Nat):exRow k b []=[]:=rfl
theorem zxy (k b:Nat)(x:SV)(r:List SV):exRow k b (x::r)=exSV k b x::exRow k b r:=rfl
theorem zxz (k b:Nat):expose k b []=[]:=rfl
theorem zy0 (k b n:Nat)(x:SV)(r:St):expose k b ((.slot n,.one x)::r)=(.slot n,.one (exSV k b x))::expose k b r:=rfl
theorem zy1 (k b:Nat)(cs:List SV)(r:St):expose k b ((.loc k,.row cs)::r)=(.heap b,.row (exRow k b cs))::expose k b r:=by simp [expose,exLoc,exLV]
theorem zy2 {k j:Nat}(b:Nat)(cs:List SV)(r:St)(h:j ≠ k):expose k b ((.loc j,.row cs)::r)=(.loc j,.row (exRow k b cs))::expose k b r:=by simp [expose,exLoc,exLV,h]
theorem zy3 (k b n:Nat)(cs:List SV)(r:St):expose k b ((.heap n,.row cs)::r)=(.heap n,.row (exRow k b cs))::expose k b r:=rfl
theorem zy4 (k b n:Nat)(q:List (Int × DV))(r:St):expose k b ((.heap n,.mp q)::r)=(.heap n,.mp q)::expose k b r:=rfl
theorem zy5 (k b n:Nat)(q:Loop)(r:St):expose k b ((.heap n,.ob q)::r)=(.heap n,.ob q)::expose k b r:=rfl
theorem zy6 (k b t E n:Nat)(r:St):expose k b ((.tok t,.tk E n)::r)=(.tok t,.tk E n)::expose k b r:=rfl
theorem zy7 (b:Nat):newB b []=True:=rfl
theorem zy8 (b n:Nat)(v:LV)(r:St):newB b ((.heap n,v)::r)=(n ≠ b∧newB b r):=rfl
theorem zy9 (b n:Nat)(v:LV)(r:St):newB b ((.slot n,v)::r)=newB b r:=rfl
theorem zya (b n:Nat)(v:LV)(r:St):newB b ((.loc n,v)::r)=newB b r:=rfl
theorem zyb (b n:Nat)(v:LV)(r:St):newB b ((.tok n,v)::r)=newB b r:=rfl
attribute [go_sem] zy5 zy4 zxr zxs zxt zxu zxv zxw zxx zxy zxz zy0 zy1 zy2 zy3 zy6 zy7 zy8 zy9 zya zyb
end
section
def YC (P:Program)(gl:Globs)(D0:Nat→Nat→Prop)(w0:World)(l:Nat)(r:Loop)(args:List DV)(φ:Objs)(R:Bool→Objs→Loop→Prop):Prop:=
 ∀ (D:Nat→Nat→Prop) (w:World) (vs:Array Value),Grow D0 w0 D w→w0.heap.size≤w.heap.size→Wf gl D w→vs.size=args.length→(∀ (i:Nat) (x:DV) (v:Value),args[i]? = some x→vs[i]? = some v→RV D w x v)→HeapOK D w φ→w.heap[l]? = some (.loop r) →
  RoundIn Fence.wide 0 P l r.fn ((r.params.zip vs).foldl (fun tmps (t,a)=>tmps.setIfInBounds t a) r.tmps) r.assign r.body w fun e w'=>∃ b D' φ' r',e = .returned (.bool b)∧R b φ' r'∧Ext (l::φ.map (·.1)) D w D' w'∧Wf gl D' w'∧HeapOK D' w' φ'∧w'.heap[l]? = some (.loop r')∧∀ b ∈ φ'.map (·.1),b ∈ φ.map (·.1)∨w.heap.size≤b
def ItC (P:Program)(gl:Globs)(f:FuncId)(args:List DV)(φ:Objs)(l:Nat)(r:Loop)(Y:(Nat→Nat→Prop)→World→Prop)(R:Objs→Loop→Prop):Prop:=
 Callable P f∧∀ (D:Nat→Nat→Prop) (w:World) (vs:Array Value),Wf gl D w→vs.size=args.length→(∀ (i:Nat) (x:DV) (v:Value),args[i]? = some x→vs[i]? = some v→RV D w x v)→HeapOK D w φ→w.heap[l]? = some (.loop r)→Y D w →
  Calls P f vs w fun e w'=>∃ v D' φ' r',e = .returned v∧R φ' r'∧Ext (l::φ.map (·.1)) D w D' w'∧Wf gl D' w'∧HeapOK D' w' φ'∧w'.heap[l]? = some (.loop r')∧∀ b ∈ φ'.map (·.1),b ∈ φ.map (·.1)∨w.heap.size≤b
theorem z6h {D:Nat→Nat→Prop}{w:World}{gl:Globs}{φ:Objs}{l:Nat}{r:Loop}(hwf:Wf gl D w)(hh:HeapOK D w φ)(hl:w.heap[l]? = some (.loop r)):(∀ o,¬ D l o)∧l ∉ φ.map (·.1):=by
 refine ⟨fun o hd=>?_,fun hm=>?_⟩
 ·obtain ⟨v,hv⟩:=hwf.there l o hd
  simp [World.cell?,hl] at hv
 ·obtain ⟨⟨b,cs⟩,hq,rfl⟩:=List.mem_map.1 hm
  obtain ⟨c,e,h1,_⟩:=hh.rows b cs hq
  simp only at hl
  rw [hl] at h1
  cases h1
section
variable {X:Ctx}{s:St}{k:List Item}
def entryL (args:List DV)(φ:Objs)(l:Nat)(r:Loop):St:=(.heap l,.ob r)::entry args φ
theorem zyc {args:List DV}{φ:Objs}{l:Loc}{v:LV}(hl:get (entry args φ) l=some v):(∃ i x,l = .slot i∧v = .one (.v x)∧args[i]? = some x)∨∃ b cs,l = .heap b∧v = .row (cs.map SV.v)∧(b,cs) ∈ φ:=by
 unfold entry at hl
 rw [z3l] at hl
 rcases Option.or_eq_some_iff.1 hl with hl|⟨-,hl⟩
 ·obtain ⟨i,x,h1,h2,h3⟩:=zc2 hl
  exact .inl ⟨i,x,by simpa using h1,h2,h3⟩
 ·exact .inr (z5d hl)
theorem zcf {P : Program} {gl : Globs} {f : FuncId} {args : List DV} {φ : Objs} {l : Nat} {r : Loop} {Y : (Nat → Nat → Prop) → World → Prop} {R : Objs → Loop → Prop} {fn : Func} {body : Code} (hf : P.funcs[f]? = some fn) (hb : fn.body = some body) (hname : (fn.name == "runtime.NumGoroutine") = false)
  (hn:args.length≤fn.ntmps)
  (h:∀ X:Ctx,X.P=P→X.gl=gl→X.f=f→X.fn=fn→X.n=fn.ntmps→X.md = .it l R→X.ids=l::φ.map (·.1)→(∀ x ∈ args,DV.fit x)→l ∉ φ.map (·.1)→Y X.D0 X.w0→W X [.code body] (entryL args φ l r)):ItC P gl f args φ l r Y R:=by
 refine ⟨⟨fn,hf,by simp [hb],hname⟩,?_⟩
 intro D w vs hwf hsz hargs hheap hloop hY cs
 obtain ⟨hnd,hnm⟩:=z6h hwf hheap hloop
 let X:Ctx:={ P:=P,gl:=gl,f:=f,fn:=fn,n:=fn.ntmps,ids:=l::φ.map (·.1),D0:=D,w0:=w,R:=fun _ _=>False,md:=.it l R }
 have hfit:∀ x ∈ args,DV.fit x:=by
  intro x hx
  obtain ⟨i,hi,rfl⟩:=List.mem_iff_getElem.1 hx
  exact RV.fit (hargs i _ vs[i] (List.getElem?_eq_getElem hi) (Array.getElem?_eq_getElem (by omega)))
 have hW:=h X rfl rfl rfl rfl rfl rfl rfl hfit hnm hY
 let a:Act:={ tmps:=vs++Array.replicate (fn.ntmps - vs.size) undef,defers:=[] }
 have Rl:Rel X { D:=D,ν:=fun _=>0,τ:=fun _=>(none,0) } (entryL args φ l r) a w:=by
  have hget:∀ m v,get (entryL args φ l r) m=some v→(m = .heap l∧v = .ob r)∨(∃ i x,m = .slot i∧v = .one (.v x)∧args[i]? = some x)∨∃ b cs,m = .heap b∧v = .row (cs.map SV.v)∧(b,cs) ∈ φ:=by
   intro m v hm
   simp only [entryL,get] at hm
   split at hm
   ·rename_i e;cases hm;exact .inl ⟨e.symm,rfl⟩
   ·exact .inr (zyc hm)
  refine ⟨by simp [a,X];omega,⟨[],rfl,List.nodup_nil,by simp⟩,Ext.refl _ _ _,hwf,rfl,fun m v hm=>?_,fun m v m' v' b hm hm' hb hb'=>?_,fun m v b hm hb=>?_,fun m v b o hm hb _=>?_⟩
  ·rcases hget m v hm with ⟨rfl,rfl⟩|⟨i,x,rfl,rfl,hx⟩|⟨b,cs,rfl,rfl,hq⟩
   ·exact hloop
   ·have hi:i<vs.size:=by rw [hsz];exact (List.getElem?_eq_some_iff.1 hx).1
    have hv:vs[i]? = some vs[i]:=Array.getElem?_eq_getElem hi
    show RV D w x _
    have:a.tmps.getD i undef=vs[i]:=by
     simp [a,Array.getElem?_append_left hi,hv]
    rw [this]
    exact hargs i x _ hx hv
   ·exact z6e (G:={ D:=D,ν:=fun _=>0,τ:=fun _=>(none,0) }) hheap hq
  ·have blk:∀ m v,((m = .heap l∧v = .ob r)∨(∃ i x,m = .slot i∧v = .one (.v x)∧args[i]? = some x)∨∃ b cs,m = .heap b∧v = .row (cs.map SV.v)∧(b,cs) ∈ φ)→blkOf { D:=D,ν:=fun _=>0,τ:=fun _=>(none,0) } m v=some b→m = .heap b:=by
    rintro m v (⟨rfl,rfl⟩|⟨i,x,rfl,rfl,hx⟩|⟨b',cs,rfl,rfl,hm⟩) hb
    ·simp only [blkOf,Option.some.injEq] at hb;rw [hb]
    ·cases hb
    ·simp only [blkOf,Option.some.injEq] at hb;rw [hb]
   rw [blk m v (hget m v hm) hb,blk m' v' (hget m' v' hm') hb']
  ·rcases hget m v hm with ⟨rfl,rfl⟩|⟨i,x,rfl,rfl,hx⟩|⟨b1,cs,rfl,rfl,hq⟩
   ·simp only [blkOf,Option.some.injEq] at hb
    subst hb
    exact .inr ⟨by simp [X],rfl⟩
   ·cases hb
   ·simp only [blkOf,Option.some.injEq] at hb
    subst hb
    exact .inr ⟨List.mem_cons_of_mem _ (List.mem_map.2 ⟨_,hq,rfl⟩),rfl⟩
  ·rcases hget m v hm with ⟨rfl,rfl⟩|⟨i,x,rfl,rfl,hx⟩|⟨b1,cs,rfl,rfl,hq⟩
   ·simp only [blkOf,Option.some.injEq] at hb
    subst hb
    exact hnd o
   ·cases hb
   ·simp only [blkOf,Option.some.injEq] at hb
    subst hb
    exact hheap.nodata _ _ hq o
 let b:Frame:={ (default:Frame) with fn:=f,kind:=.normal }
 have henter:Frame.enter P f vs .normal=b.atR a [.code body]:=by
  simp [Frame.enter,Frame.atR,hf,hb,b,a];rfl
 obtain ⟨w',fr,⟨v,D',φ',r',k1,⟨k2,k3,k4,k5⟩,k6,k7,k8⟩,h2⟩:=hW _ a w b cs rfl rfl rfl Rl
 rw [← henter] at h2
 refine ⟨.returned v,w',fr,⟨v,D',φ',r',rfl,k1,k2,k3,k4,k6,fun b hb=>?_⟩,h2,k7,k8⟩
 rcases k5 b hb with h|h
 ·rcases List.mem_cons.1 h with rfl|h
  ·exact absurd hb (z6h k3 k4 k6).2
  ·exact .inl h
 ·exact .inr h
theorem Rel.yield {G:Gh}{a:Act}{w:World}(R:Rel X G s a w){φ φ':Objs}(hφ:objsIn (get s) φ){l:Nat}{r r':Loop}(hl:get s (.heap l)=some (.ob r)){D':Nat→Nat→Prop}{w':World}(hx:Ext (l::φ.map (·.1)) G.D w D' w')(hwf:Wf X.gl D' w'){x:DV}{v:Value}(hr:RV D' w' x v)
  (hh:HeapOK D' w' φ') (hl':w'.heap[l]? = some (.loop r')) (hids:∀ b ∈ φ'.map (·.1),b ∈ φ.map (·.1)∨w.heap.size≤b) {d:Nat} (hd:d<X.n) :
  Rel X { D:=D',ν:=G.ν,τ:=G.τ } (upd (addObjs (delObjs (upd s (.slot d) (.one (.v x))) φ) φ') (.heap l) (.ob r')) (a.put (some d) v) w':=by
 have hp:=z3k a (some d) v
 have hφb:∀ b ∈ φ.map (·.1),∃ cs,get s (.heap b)=some (.row (List.map SV.v cs)):=by
  intro b hb
  obtain ⟨⟨b',cs'⟩,hm,rfl⟩:=List.mem_map.1 hb
  exact ⟨cs',hφ b' cs' hm⟩
 have hlw:w.heap[l]? = some (.loop r):=R.holds _ _ hl
 obtain ⟨hnd',hnm'⟩:=z6h hwf hh hl'
 have T:Trans X G a w { D:=D',ν:=G.ν,τ:=G.τ } (a.put (some d) v) w' (fun b=>b ∈ l::φ.map (·.1)):=by
  refine ⟨hp.1,fun h=>h.keep hp.2 fun D hD=>(hx.block D (Array.getElem?_eq_some_iff.1 hD).1 fun hm=>?_).trans hD,hx.os,hx.tape,hx.output,hx.size,fun b hb hn=>hx.block b hb hn,fun b hb=>?_,hx.grow,fun b o hD hn=>⟨.inl (hx.new b o hD hn),hwf.there b o hD⟩,R.nil⟩
  ·rcases List.mem_cons.1 hm with rfl|hm
   ·rw [hlw] at hD;cases hD
   ·obtain ⟨cs,hg⟩:=hφb D hm
    obtain ⟨c,e,h4,_⟩:=R.holds _ _ hg
    rw [hD] at h4;cases h4
  ·rcases List.mem_cons.1 hb with rfl|hb
   ·exact (R.own _ _ b hl rfl).imp id And.left
   ·obtain ⟨cs,hg⟩:=hφb b hb
    exact (R.own _ _ b hg rfl).imp id And.left
 refine R.step T (fun m u=>(m = .heap l∧u = .ob r')∨(m = .slot d∧u = .one (.v x))∨∃ b cs,m = .heap b∧u = .row (cs.map SV.v)∧(b,cs) ∈ φ') (fun m u h=>?_) (fun m u h=>?_) (fun m u m' u' b h h' hb hb'=>?_)
 ·rw [z0h] at h
  split at h
  ·rename_i e;cases h;exact .inl (.inl ⟨e.symm,rfl⟩)
  ·rename_i hml
   rcases z9y _ _ _ _ h with h|⟨h,hne⟩
   ·exact .inl (.inr (.inr h))
   ·obtain ⟨h,hn⟩:=zc3 _ _ _ _ h
    rw [z0h] at h
    split at h
    ·rename_i hl;cases h;exact .inl (.inr (.inl ⟨hl.symm,rfl⟩))
    ·rename_i hsl
     refine .inr ⟨h,fun n hn=>z5b _ _ _ _ (fun e=>hsl (by rw [hn,e])),fun b hb hB=>?_,fun _ _=>rfl,fun _ _=>rfl⟩
     rcases List.mem_cons.1 hB with rfl|hB
     ·exact hml (R.sep _ _ _ _ b hl h rfl hb)
     ·obtain ⟨cs,hg⟩:=hφb b hB
      exact hn b hB (R.sep _ _ _ _ b hg h rfl hb).symm
 ·rcases h with ⟨rfl,rfl⟩|⟨rfl,rfl⟩|⟨b,cs,rfl,rfl,hm⟩
  ·refine ⟨hl',fun b hb=>?_⟩
   simp only [blkOf,Option.some.injEq] at hb
   subst hb
   exact ⟨.inr (by simp),R.own _ _ l hl rfl,fun _ o=>hnd' o⟩
  ·refine ⟨?_,fun b hb=>by cases hb⟩
   show RV D' w' x _
   rw [z5a _ _ _ (by rw [R.size];exact hd)]
   exact hr
  ·refine ⟨z6e hh hm,fun b' hb'=>?_⟩
   simp only [blkOf,Option.some.injEq] at hb'
   subst hb'
   have hmm:b ∈ φ'.map (·.1):=List.mem_map.2 ⟨_,hm,rfl⟩
   refine ⟨(hids b hmm).symm.imp id (List.mem_cons_of_mem _),?_,fun _ o=>hh.nodata b cs hm o⟩
   rcases hids b hmm with h1|h1
   ·obtain ⟨cs',hg⟩:=hφb b h1
    exact R.own _ _ b hg rfl
   ·exact .inl (Nat.le_trans R.ext.size h1)
 ·have blk:∀ m u,((m = .heap l∧u = .ob r')∨(m = .slot d∧u = .one (.v x))∨∃ b cs,m = .heap b∧u = .row (cs.map SV.v)∧(b,cs) ∈ φ')→blkOf { D:=D',ν:=G.ν,τ:=G.τ } m u=some b→m = .heap b:=by
   rintro m u (⟨rfl,rfl⟩|⟨rfl,rfl⟩|⟨b',cs,rfl,rfl,hm⟩) hb
   ·simp only [blkOf,Option.some.injEq] at hb;rw [hb]
   ·cases hb
   ·simp only [blkOf,Option.some.injEq] at hb;rw [hb]
  rw [blk m u h hb,blk m' u' h' hb']
theorem zgk {o:Oper}{y:Operand}{args:Array Operand}{ats:Array TypeId}(ho:o.op = .call { callee:=.value y,args:=args,argTypes:=ats }){l:Nat}(hy:evl X (get s) y=some (.v (.prim (.func (.yield l) #[] #[]))))
  {ds:List DV} (hargs:evlDs X (get s) args.toList=some ds) {r:Loop} (hps:r.params.size=ds.length) {φ:Objs} {R:Bool→Objs→Loop→Prop} (hc:YC X.P X.gl X.D0 X.w0 l r ds φ R) (hφ:objsIn (get s) φ) (hnd:(φ.map (·.1)).Nodup) (hl:get s (.heap l)=some (.ob r))
  {d:Nat} (hd:o.dst=some d) (hdn:d<X.n) {G:Gh} {a:Act} {w:World} (R0:Rel X G s a w) (next:Act→World→Prop) (Q:Exit→Act→World→Prop)
  (hk:∀ b φ' r' G' a' w',R b φ' r'→(∀ c ∈ φ'.map (·.1),c ∈ φ.map (·.1)∨∀ m v,get s m=some v→blkOf G m v ≠ some c)→Rel X G' (upd (addObjs (delObjs (upd s (.slot d) (.one (.v (.prim (.bool b))))) φ) φ') (.heap l) (.ob r')) a' w'→next a' w'):o.wpIn X.F 0 X.P a w next Q:=by
 have hyv:=(z0o (z0d R0 hy)).1
 obtain ⟨q1,q2⟩:=zbt R0 hargs
 have q1':args.size=ds.length:=by simpa using q1
 have hlw:w.heap[l]? = some (.loop r):=R0.holds _ _ hl
 have hrun:(execOp a.eval o).run X.P w = .ok (.round l r.fn ((r.params.zip (args.map a.eval)).foldl (fun tmps (t,a)=>tmps.setIfInBounds t a) r.tmps) r.assign r.body) w:=by
  simp [execOp,ho,resolve,hyv,Deferred.ofValue,invoke,run_yield hlw,hps,q1',Sem.run_bind]
 refine ⟨fun _ _=>trivial,?_⟩
 rw [Oper.semAt_eq _ _ _ (by intro c e;rw [ho] at e;cases e),hrun,Oper.uponIn_round]
 refine ⟨fun h=>(by cases h),?_⟩
 refine RoundIn.mono (hc G.D w (args.map a.eval) R0.ext.grow R0.ext.size R0.wf (by simp [q1']) (fun i x v hx hv=>?_) (z9u R0 hφ hnd) hlw) ?_
 ·refine q2 i x v hx ?_
  rw [← Array.getElem?_toList] at hv
  simpa using hv
 ·rintro e w' ⟨b,D',φ',r',rfl,hR,hx,hwf,hh,hl',hids⟩
  simp only [hd]
  refine hk b φ' r' _ _ w' hR (fun c hc=>(hids c hc).imp id fun h m v hg hbl=>?_) (R0.yield hφ hl hx hwf (.prim (.bool b) trivial) hh hl' hids hdn)
  have:=z1x (R0.holds m v hg) hbl
  omega
theorem za7 {l:Nat}{r:Loop}(hrd:X.rd=some l)(hl:get s (.heap l)=some (.ob r))(hr:r.state = .ready)(h:W X k (upd s (.heap l) (.ob { r with state:=.busy }))):W X (.beginRound::k) s:=by
 intro G a w b cs hf hk hro R
 have hlw:w.heap[l]? = some (.loop r):=R.holds _ _ hl
 have hrun:=run_beginRound (P:=X.P) hlw hr
 have hne:∀ b,b ≠ l→(w.putObj l (.loop { r with state:=.busy })).heap[b]? = w.heap[b]?:=fun b hb=>World.putObj_heap_other hb
 have hsame:(w.putObj l (.loop { r with state:=.busy })).heap[l]? = some (.loop { r with state:=.busy }):=World.putObj_heap_same (Array.getElem?_eq_some_iff.1 hlw).1
 have hnot:∀ b o,G.D b o→b ≠ l:=fun b o hd e=>by
  subst e
  obtain ⟨v,hv⟩:=R.wf.there b o hd
  simp [World.cell?,hlw] at hv
 have T:Trans X G a w G a (w.putObj l (.loop { r with state:=.busy })) (fun b=>b=l):=by
  refine ⟨rfl,fun h=>h.keep rfl fun D hD=>(hne D fun e=>by subst e;rw [hlw] at hD;cases hD).trans hD,rfl,rfl,rfl,by simp,fun b _ hb=>hne b hb,fun b hb=>by subst hb;exact (R.own _ _ b hl rfl).imp id And.left,fun b o hd=>⟨hd,?_⟩,fun _ _ h k=>absurd h k,R.nil⟩
  simp only [World.cell?]
  rw [hne b (hnot b o hd)]
 have R':Rel X G (upd s (.heap l) (.ob { r with state:=.busy })) a (w.putObj l (.loop { r with state:=.busy })):=by
  refine R.step T (fun m u=>m = .heap l∧u = .ob { r with state:=.busy }) (fun m u hm=>?_) (fun m u hm=>?_) (fun m u m' u' b h h' _ _=>h.1.trans h'.1.symm)
  ·rw [z0h] at hm
   split at hm
   ·rename_i e;cases hm;exact .inl ⟨e.symm,rfl⟩
   ·rename_i e
    refine .inr ⟨hm,fun _ _=>rfl,fun b hb he=>?_,fun _ _=>rfl,fun _ _=>rfl⟩
    subst he
    exact e (R.sep _ _ _ _ b hl hm rfl hb)
  ·obtain ⟨rfl,rfl⟩:=hm
   refine ⟨hsame,fun b hb=>?_⟩
   simp only [blkOf,Option.some.injEq] at hb
   subst hb
   exact ⟨.inr rfl,R.own _ _ l hl rfl,fun _ o hd=>hnot l o hd rfl⟩
 obtain ⟨w',fr,h1,h2⟩:=h G a _ b cs hf hk hro R'
 exact ⟨w',fr,h1,.head (stepR_beginRound (hro.trans hrd) hrun) h2⟩
end
end
section
def setL (tmps:Array Value):List (Nat × Value)→Array Value
 | []=>tmps
 | (t,v)::r=>setL (tmps.setIfInBounds t v) r
theorem zyd (l:List (Nat × Value)):∀ tmps:Array Value,l.foldl (fun tmps p=>tmps.setIfInBounds p.1 p.2) tmps=setL tmps l:=by
 induction l with
 | nil=>intro tmps;rfl
 | cons p r ih=>intro tmps;exact ih _
theorem zye (l:List (Nat × Value)):∀ tmps:Array Value,(setL tmps l).size=tmps.size:=by
 induction l with
 | nil=>intro tmps;rfl
 | cons p r ih=>intro tmps;simp only [setL,ih,Array.size_setIfInBounds]
theorem zgl {n:Nat}(l:List (Nat × Value)):∀ tmps:Array Value,n ∉ l.map (·.1)→(setL tmps l).getD n undef=tmps.getD n undef:=by
 induction l with
 | nil=>intro tmps _;rfl
 | cons p r ih=>
  intro tmps h
  simp only [List.map_cons,List.mem_cons,not_or] at h
  simp only [setL,ih _ h.2]
  simp [Array.getElem?_setIfInBounds_ne (Ne.symm h.1)]
theorem zyf {n:Nat}{v:Value}(l:List (Nat × Value)):∀ tmps:Array Value,(l.map (·.1)).Nodup→(n,v) ∈ l→n<tmps.size→(setL tmps l).getD n undef=v:=by
 induction l with
 | nil=>intro tmps _ h;cases h
 | cons p r ih=>
  intro tmps hn h hlt
  simp only [List.map_cons,List.nodup_cons] at hn
  simp only [setL]
  rcases List.mem_cons.1 h with rfl|h
  ·rw [zgl _ _ hn.1]
   simp [hlt]
  ·exact ih _ hn.2 h (by simpa using hlt)
def FrameOK (D0:Nat→Nat→Prop)(w0:World)(tmps:Array Value)(SL:List (Nat × DV)):Prop:=∀ n x,(n,x) ∈ SL→RV D0 w0 x (tmps.getD n undef)
def slotSt:List (Nat × DV)→St
 | []=>[]
 | (n,x)::r=>(.slot n,.one (.v x))::slotSt r
theorem zyg {SL:List (Nat × DV)}{l:Loc}{v:LV}(h:get (slotSt SL) l=some v):∃ n x,l = .slot n∧v = .one (.v x)∧(n,x) ∈ SL:=by
 induction SL with
 | nil=>cases h
 | cons p r ih=>
  obtain ⟨n,x⟩:=p
  simp only [slotSt,get] at h
  split at h
  ·rename_i e;cases h;exact ⟨n,x,e.symm,rfl,by simp⟩
  ·obtain ⟨n',x',h1,h2,h3⟩:=ih h
   exact ⟨n',x',h1,h2,List.mem_cons_of_mem _ h3⟩
def parSt:List Nat→List DV→St
 | p::ps,x::xs=>(.slot p,.one (.v x))::parSt ps xs
 | _,_=>[]
theorem zyh {ps:List Nat}{xs:List DV}{l:Loc}{v:LV}(h:get (parSt ps xs) l=some v):∃ (i p:Nat) (x:DV),l = .slot p∧v = .one (.v x)∧ps[i]? = some p∧xs[i]? = some x:=by
 induction ps generalizing xs with
 | nil=>cases h
 | cons p ps ih=>
  cases xs with
  | nil=>cases h
  | cons x xs=>
   simp only [parSt,get] at h
   split at h
   ·rename_i e;cases h;exact ⟨0,p,x,e.symm,rfl,rfl,rfl⟩
   ·obtain ⟨i,p',x',h1,h2,h3,h4⟩:=ih h
    exact ⟨i+1,p',x',h1,h2,by simpa using h3,by simpa using h4⟩
def entryR (ps:List Nat)(args:List DV)(SL:List (Nat × DV))(φ:Objs)(l:Nat)(r:Loop):St:=(.heap l,.ob r)::(parSt ps args++(slotSt SL++heapSt φ))
def pastL (r:Loop)(j:Option Code):Loop:={ r with state:=if j.isNone then .ready else .done,pending:=j }
theorem zcg {P:Program}{gl:Globs}{D0:Nat→Nat→Prop}{w0:World}{l:Nat}{r:Loop}{args:List DV}{φ:Objs}{R:Bool→Objs→Loop→Prop}(n:Nat)(hsize:r.tmps.size=n){SL:List (Nat × DV)}(hSL:FrameOK D0 w0 r.tmps SL)(hst:r.state = .ready)
  (hps:r.params.size=args.length) (hpn:∀ p ∈ r.params.toList,p<n) (hnd:r.params.toList.Nodup) (hdis:∀ p ∈ r.params.toList,p ∉ SL.map (·.1))
  (h:∀ X:Ctx,X.P=P→X.gl=gl→X.f=r.fn→X.n=n→X.md = .rd l r (fun j φ'=>R j.isNone φ' (pastL r j))→X.ids=l::φ.map (·.1)→l ∉ φ.map (·.1)→(∀ x ∈ args,DV.fit x)→W X [.code r.assign,.beginRound,.code r.body] (entryR r.params.toList args SL φ l r)):YC P gl D0 w0 l r args φ R:=by
 intro D w vs hgrow _ hwf hsz hargs hheap hloop
 obtain ⟨hnD,hnm⟩:=z6h hwf hheap hloop
 have hfit:∀ x ∈ args,DV.fit x:=by
  intro x hx
  obtain ⟨i,hi,rfl⟩:=List.mem_iff_getElem.1 hx
  exact RV.fit (hargs i _ vs[i] (List.getElem?_eq_getElem hi) (Array.getElem?_eq_getElem (by omega)))
 let X:Ctx:={ P:=P,gl:=gl,f:=r.fn,fn:=default,n:=n,ids:=l::φ.map (·.1),D0:=D,w0:=w,R:=fun _ _=>False,md:=.rd l r (fun j φ'=>R j.isNone φ' (pastL r j)) }
 have hW:=h X rfl rfl rfl rfl rfl rfl hnm hfit
 have htm:(r.params.zip vs).foldl (fun tmps (t,a)=>tmps.setIfInBounds t a) r.tmps=setL r.tmps (r.params.toList.zip vs.toList):=by
  rw [← Array.foldl_toList,Array.toList_zip]
  exact zyd _ _
 rw [htm]
 have hkeys:(r.params.toList.zip vs.toList).map (·.1)=r.params.toList:=by
  rw [List.map_fst_zip]
  simp only [Array.length_toList];omega
 let a:Act:={ tmps:=setL r.tmps (r.params.toList.zip vs.toList),defers:=[] }
 have Rl:Rel X { D:=D,ν:=fun _=>0,τ:=fun _=>(none,0) } (entryR r.params.toList args SL φ l r) a w:=by
  have hget:∀ m v,get (entryR r.params.toList args SL φ l r) m=some v→(m = .heap l∧v = .ob r)∨(∃ (i p:Nat) (x:DV),m = .slot p∧v = .one (.v x)∧r.params.toList[i]? = some p∧args[i]? = some x)∨(∃ n x,m = .slot n∧v = .one (.v x)∧(n,x) ∈ SL)∨∃ b cs,m = .heap b∧v = .row (cs.map SV.v)∧(b,cs) ∈ φ:=by
   intro m v hm
   simp only [entryR,get] at hm
   split at hm
   ·rename_i e;cases hm;exact .inl ⟨e.symm,rfl⟩
   ·rw [z3l] at hm
    rcases Option.or_eq_some_iff.1 hm with hm|⟨-,hm⟩
    ·exact .inr (.inl (zyh hm))
    ·rw [z3l] at hm
     rcases Option.or_eq_some_iff.1 hm with hm|⟨-,hm⟩
     ·exact .inr (.inr (.inl (zyg hm)))
     ·exact .inr (.inr (.inr (z5d hm)))
  have blk:∀ m v b,get (entryR r.params.toList args SL φ l r) m=some v→blkOf { D:=D,ν:=fun _=>0,τ:=fun _=>(none,0) } m v=some b→m = .heap b:=by
   intro m v b hm hb
   rcases hget m v hm with ⟨rfl,rfl⟩|⟨i,p,x,rfl,rfl,hx⟩|⟨p,x,rfl,rfl,hx⟩|⟨b',cs,rfl,rfl,hq⟩
   ·simp only [blkOf,Option.some.injEq] at hb;rw [hb]
   ·cases hb
   ·cases hb
   ·simp only [blkOf,Option.some.injEq] at hb;rw [hb]
  refine ⟨by simp [a,X,zye,hsize],⟨[],rfl,List.nodup_nil,by simp⟩,Ext.refl _ _ _,hwf,rfl,fun m v hm=>?_,fun m v m' v' b hm hm' hb hb'=>?_,fun m v b hm hb=>?_,fun m v b o hm hb _=>?_⟩
  ·rcases hget m v hm with ⟨rfl,rfl⟩|⟨i,p,x,rfl,rfl,hp,hx⟩|⟨p,x,rfl,rfl,hx⟩|⟨b',cs,rfl,rfl,hq⟩
   ·exact hloop
   ·have hi:i<vs.size:=by rw [hsz];exact (List.getElem?_eq_some_iff.1 hx).1
    have hv:vs[i]? = some vs[i]:=Array.getElem?_eq_getElem hi
    show RV D w x _
    have hmem:(p,vs[i]) ∈ r.params.toList.zip vs.toList:=by
     refine List.mem_of_getElem? (i:=i) ?_
     rw [List.getElem?_zip_eq_some]
     exact ⟨hp,by simp [hv]⟩
    have:a.tmps.getD p undef=vs[i]:=zyf _ _ (by rw [hkeys];exact hnd) hmem (by rw [hsize];exact hpn p (List.mem_of_getElem? hp))
    rw [this]
    exact hargs i x _ hx hv
   ·show RV D w x _
    have:a.tmps.getD p undef=r.tmps.getD p undef:=zgl _ _ (by rw [hkeys];exact fun hm=>hdis p hm (List.mem_map.2 ⟨_,hx,rfl⟩))
    rw [this]
    exact (hSL p x hx).mono hgrow
   ·exact z6e (G:={ D:=D,ν:=fun _=>0,τ:=fun _=>(none,0) }) hheap hq
  ·rw [blk m v b hm hb,blk m' v' b hm' hb']
  ·rcases hget m v hm with ⟨rfl,rfl⟩|⟨i,p,x,rfl,rfl,hp,hx⟩|⟨p,x,rfl,rfl,hx⟩|⟨b',cs,rfl,rfl,hq⟩
   ·simp only [blkOf,Option.some.injEq] at hb
    subst hb
    exact .inr ⟨by simp [X],rfl⟩
   ·cases hb
   ·cases hb
   ·simp only [blkOf,Option.some.injEq] at hb
    subst hb
    exact .inr ⟨List.mem_cons_of_mem _ (List.mem_map.2 ⟨_,hq,rfl⟩),rfl⟩
  ·rcases hget m v hm with ⟨rfl,rfl⟩|⟨i,p,x,rfl,rfl,hp,hx⟩|⟨p,x,rfl,rfl,hx⟩|⟨b',cs,rfl,rfl,hq⟩
   ·simp only [blkOf,Option.some.injEq] at hb
    subst hb
    exact hnD o
   ·cases hb
   ·cases hb
   ·simp only [blkOf,Option.some.injEq] at hb
    subst hb
    exact hheap.nodata _ _ hq o
 refine ⟨trivial,fun c cs _=>?_⟩
 let b:Frame:={ (default:Frame) with fn:=r.fn,kind:=.normal,roundOf:=some l }
 have hb0:Frame.round l r.fn (setL r.tmps (r.params.toList.zip vs.toList)) r.assign r.body .normal=b.atR a [.code r.assign,.beginRound,.code r.body]:=by
  simp [Frame.round,Frame.atR,b,a]
 obtain ⟨w1,fr,⟨a1,k1,j,D',φ',rfl,hj,hR,⟨q1,q2,q3,q4⟩,hl1⟩,hsteps⟩:=hW _ a w b (c::cs) rfl rfl rfl Rl
 have hend:=run_endRound (P:=P) j hl1
 have hlt:l<w1.heap.size:=(Array.getElem?_eq_some_iff.1 hl1).1
 have hne:∀ b',b' ≠ l→(w1.putObj l (.loop (pastL r j))).heap[b']? = w1.heap[b']?:=fun b' hb=>World.putObj_heap_other hb
 have hstep:step P (lone (b.atR a1 k1) (c::cs) w1) = .next (lone (c.finish (.bool j.isNone)) cs (w1.putObj l (.loop (pastL r j)))):=by
  cases j with
  | none=>obtain rfl:=hj;exact stepR_round_end rfl rfl hend
  | some jc=>
   cases jc with
   | ret=>obtain ⟨k2,rfl⟩:=hj;exact stepR_round_ret rfl rfl hend
   | exit id=>obtain ⟨k2,rfl,hx⟩:=hj;exact stepR_round_exit rfl rfl hx hend
   | goto t=>obtain ⟨k2,rfl,hx⟩:=hj;exact stepR_round_goto rfl rfl hx hend
   | _=>exact hj.elim
 obtain ⟨hnD1,hnm1⟩:=z6h q2 q3 hl1
 have hnot:∀ b' o,D' b' o→b' ≠ l:=fun b' o hd e=>by subst e;exact hnD1 o hd
 have hcell:∀ b' o,D' b' o→(w1.putObj l (.loop (pastL r j))).cell? ⟨b',o,none⟩=w1.cell? ⟨b',o,none⟩:=fun b' o hd=>by
  simp only [World.cell?];rw [hne b' (hnot b' o hd)]
 have g2:Grow D' w1 D' (w1.putObj l (.loop (pastL r j))):=fun b' o hd=>⟨hd,hcell b' o hd⟩
 refine ⟨.returned (.bool j.isNone),w1.putObj l (.loop (pastL r j)),⟨j.isNone,D',φ',pastL r j,rfl,hR,?_,?_,?_,World.putObj_heap_same hlt,fun b' hb'=>?_⟩,?_⟩
 ·refine ⟨q1.os,q1.tape,q1.output,by simpa using q1.size,fun b' hb' hn=>?_,q1.grow.trans g2,q1.new⟩
  have:b' ≠ l:=fun e=>hn (by simp [e])
  exact (hne b' this).trans (q1.block b' hb' hn)
 ·refine ⟨fun b' o hd=>?_,fun g els hg=>?_⟩
  ·obtain ⟨v,hv⟩:=q2.there b' o hd
   exact ⟨v,(hcell b' o hd).trans hv⟩
  ·obtain ⟨cap,hr⟩:=q2.globs g els hg
   exact ⟨cap,hr.mono g2⟩
 ·refine ⟨fun b' cs' hm=>?_,q3.nodata,q3.nodup⟩
  obtain ⟨c',e',h1,h2,h3⟩:=q3.rows b' cs' hm
  have hbl:b' ≠ l:=fun e=>hnm1 (by rw [← e];exact List.mem_map.2 ⟨_,hm,rfl⟩)
  refine ⟨c',e',(hne b' hbl).trans h1,h2,fun i x hx=>?_⟩
  obtain ⟨k1,v,k2,k3⟩:=h3 i x hx
  exact ⟨k1,v,k2,k3.mono g2⟩
 ·rcases q4 b' hb' with h|h
  ·rcases List.mem_cons.1 h with rfl|h
   ·exact absurd hb' hnm1
   ·exact .inl h
  ·exact .inr h
 ·show StepsIn _ _ _ _
  rw [hb0]
  exact stepsIn_wide.2 (Steps.trans hsteps (.head hstep (.refl _ _)))
theorem zyi {gl:Globs}{D:Nat→Nat→Prop}{w w':World}(g:Grow D w D w')(h:Wf gl D w):Wf gl D w':=by
 refine ⟨fun b o hd=>?_,fun i els hg=>?_⟩
 ·obtain ⟨v,hv⟩:=h.there b o hd
  exact ⟨v,(g b o hd).2.trans hv⟩
 ·obtain ⟨cap,hr⟩:=h.globs i els hg
  exact ⟨cap,hr.mono g⟩
theorem zgm {D:Nat→Nat→Prop}{w w':World}{φ:Objs}(g:Grow D w D w')(hb:∀ b ∈ φ.map (·.1),w'.heap[b]? = w.heap[b]?)(h:HeapOK D w φ):HeapOK D w' φ:=by
 refine ⟨fun b cs hm=>?_,h.nodata,h.nodup⟩
 obtain ⟨c,e,h1,h2,h3⟩:=h.rows b cs hm
 refine ⟨c,e,(hb b (List.mem_map.2 ⟨_,hm,rfl⟩)).trans h1,h2,fun i x hx=>?_⟩
 obtain ⟨k1,v,k2,k3⟩:=h3 i x hx
 exact ⟨k1,v,k2,k3.mono g⟩
section
variable {X:Ctx}{s:St}{k:List Item}
theorem zch (hmd:X.md = .fn){g:Operand}{ps:Array Tmp}{assign body:Code}{f:FuncId}{fi ca:Array Value}(hg:evl X (get s) g=some (.v (.prim (.func (.func f) fi ca))))(hprim:∀ v ∈ fi.toList++ca.toList,primOK v)
  {φ:Objs} (hφ:objsIn (get s) φ) (hnd:(φ.map (·.1)).Nodup) {Y:Nat→Loop→(Nat→Nat→Prop)→World→Prop} {R:Objs→Loop→Prop} {SL:List (Nat × DV)} (hSL:∀ n x,(n,x) ∈ SL→get s (.slot n)=some (.one (.v x)))
  (hit:∀ l r,r.state = .ready→r.pending=none→r.params=ps→l ∉ φ.map (·.1)→ItC X.P X.gl f (fi.toList.map DV.prim++DV.prim (.func (.yield l) #[] #[])::ca.toList.map DV.prim) φ l r (Y l r) R)
  (hY:∀ l r D0 w0,r.state = .ready→r.pending=none→r.params=ps→r.fn=X.f→r.tmps.size=X.n→r.assign=assign→r.body=body→l ∉ φ.map (·.1)→FrameOK D0 w0 r.tmps SL→Y l r D0 w0)
  (hst:∀ φ' r',R φ' r'→r'.state ≠ .busy)
  (after:∀ φ' r',R φ' r'→(∀ b ∈ φ'.map (·.1),b ∈ φ.map (·.1)∨newB b s)→W X ((r'.pending.map Item.code).toList++k) (addObjs (delObjs s φ) φ')):W X (.code (.rangeFunc g ps assign body)::k) s:=by
 intro G a w b cs hf hk hro R0
 have hrn:=hro.trans (zfq hmd)
 have hgv:=(z0o (z0d R0 hg)).1
 let r:Loop:={ state:=.ready,pending:=none,fn:=b.fn,tmps:=a.tmps,params:=ps,assign,body,defers:=w.heap.size }
 let w1:World:=(w.alloc (.deferred (some []))).alloc (.loop r)
 have hsz1:w1.heap.size=w.heap.size+2:=by simp [w1]
 have hold:∀ b',b'<w.heap.size→w1.heap[b']? = w.heap[b']?:=fun b' hb=>(z1t _ _ b' (by simp;omega)).trans (z1t w _ b' hb)
 have hloop:w1.heap[w.heap.size+1]? = some (.loop r):=by
  have:=z6b (w.alloc (.deferred (some []))) (.loop r)
  rw [show (w.alloc (.deferred (some []))).heap.size=w.heap.size+1 by simp] at this
  exact this
 have hdef:w1.heap[w.heap.size]? = some (.deferred (some [])):=(z1t _ _ _ (by simp)).trans (z6b w _)
 have hcell1:∀ b' o,G.D b' o→w1.cell? ⟨b',o,none⟩=w.cell? ⟨b',o,none⟩:=fun b' o hd=>by
  simp only [World.cell?];rw [hold b' (R0.wf.lt hd)]
 have g1:Grow G.D w G.D w1:=fun b' o hd=>⟨hd,hcell1 b' o hd⟩
 have he:(Instr.enterLoop b.fn a.tmps ps assign body b.roundOf).run X.P w = .ok (w.heap.size+1,[mark w.heap.size]) w1:=by
  rw [hrn];exact run_enterLoop_outer _ _ _ _ _
 have hφlt:∀ b' ∈ φ.map (·.1),b'<w.heap.size:=fun b' hb=>by
  obtain ⟨⟨b2,cs'⟩,hm,rfl⟩:=List.mem_map.1 hb
  exact z1x (R0.holds _ _ (hφ b2 cs' hm)) rfl
 have hlφ:w.heap.size+1 ∉ φ.map (·.1):=fun hm=>by have:=hφlt _ hm;omega
 have hwf1:=zyi g1 R0.wf
 have hh1:=zgm g1 (fun b' hb=>hold b' (hφlt b' hb)) (z9u R0 hφ hnd)
 obtain ⟨hcallable,hcall⟩:=hit (w.heap.size+1) r rfl rfl rfl hlφ
 have hframe:FrameOK G.D w1 r.tmps SL:=fun n x hm=>RV.mono g1 (R0.holds _ _ (hSL n x hm))
 have hYr:=hY (w.heap.size+1) r G.D w1 rfl rfl rfl hf R0.size rfl rfl hlφ hframe
 have hres:(resolve a.eval (rangeCall g (w.heap.size+1)) 0).run X.P w1 = .ok { target:=.fn (.func f) ca,args:=fi++#[.func (.yield (w.heap.size+1)) #[] #[]] } w1:=by
  have e:(#[Operand.const (.func (.yield (w.heap.size+1)) #[] #[])]:Array Operand).map a.eval = #[.func (.yield (w.heap.size+1)) #[] #[]]:=by simp [Act.eval]
  simp only [resolve,rangeCall,e,hgv]
  rfl
 have hinv:(invoke (.fn (.func f) ca) (fi++#[.func (.yield (w.heap.size+1)) #[] #[]])).run X.P w1 = .ok (.enter f (fi++#[.func (.yield (w.heap.size+1)) #[] #[]]++ca)) w1:=by
  simp only [invoke];exact zfv hcallable _ _
 have henter:=stepR_rangeFunc (P:=X.P) (b:=b) (a:=a) (k:=k) (cs:=cs) (w:=w) he hres hinv
 obtain ⟨e,w2,fr,⟨v,D',φ',r',rfl,hR,hx,hwf2,hh2,hl2,hids⟩,hsteps,hfn,hleave⟩:=hcall G.D w1 (fi++#[.func (.yield (w.heap.size+1)) #[] #[]]++ca) hwf1 (by simp;omega) (by
  have hp:∀ v ∈ (fi++#[Value.func (.yield (w.heap.size+1)) #[] #[]]++ca).toList,primOK v:=by
   intro v hv
   simp only [Array.toList_append,List.mem_append] at hv
   rcases hv with (hv|hv)|hv
   ·exact hprim v (List.mem_append.2 (.inl hv))
   ·simp only [List.mem_singleton] at hv;subst hv;trivial
   ·exact hprim v (List.mem_append.2 (.inr hv))
  intro i x v hx hv
  have hv':(fi++#[Value.func (.yield (w.heap.size+1)) #[] #[]]++ca).toList[i]? = some v:=by rw [Array.getElem?_toList];exact hv
  have he:fi.toList.map DV.prim++DV.prim (.func (.yield (w.heap.size+1)) #[] #[])::ca.toList.map DV.prim=((fi++#[Value.func (.yield (w.heap.size+1)) #[] #[]]++ca).toList).map DV.prim:=by simp
  rw [he,List.getElem?_map,hv'] at hx
  cases hx
  exact .prim v (hp v (List.mem_of_getElem? hv'))) hh1 hloop hYr (b.atR { a with defers:=[mark w.heap.size]++a.defers } (.inRangeFunc (w.heap.size+1)::k)::cs)
 have hback:=step_leave_returned (cs:=cs) (c:=b.atR { a with defers:=[mark w.heap.size]++a.defers } (.inRangeFunc (w.heap.size+1)::k)) hleave
 rw [finish_atR_inRangeFunc] at hback
 have hend:=run_endLoop (P:=X.P) hl2 (hst φ' r' hR)
 have hstep3:=stepR_endRangeFunc (P:=X.P) (b:=b) (a:={ a with defers:=[mark w.heap.size]++a.defers }) (k:=k) (cs:=cs) hend
 let w3:World:=w2.putObj (w.heap.size+1) (.loop { r' with state:=.exhausted })
 obtain ⟨hnD2,hnm2⟩:=z6h hwf2 hh2 hl2
 have hne:∀ b',b' ≠ w.heap.size+1→w3.heap[b']? = w2.heap[b']?:=fun b' hb=>World.putObj_heap_other hb
 have hcell3:∀ b' o,D' b' o→w3.cell? ⟨b',o,none⟩=w2.cell? ⟨b',o,none⟩:=fun b' o hd=>by
  simp only [World.cell?];rw [hne b' (fun e=>by subst e;exact hnD2 o hd)]
 have g3:Grow D' w2 D' w3:=fun b' o hd=>⟨hd,hcell3 b' o hd⟩
 have hsz3:w.heap.size+2≤w3.heap.size:=by simp only [w3,World.putObj_size];have:=hx.size;omega
 have hφb:∀ b ∈ φ.map (·.1),∃ cs,get s (.heap b)=some (.row (List.map SV.v cs)):=by
  intro b hb
  obtain ⟨⟨b',cs'⟩,hm,rfl⟩:=List.mem_map.1 hb
  exact ⟨cs',hφ b' cs' hm⟩
 have hkeep:∀ b',b'<w.heap.size→b' ∉ φ.map (·.1)→w3.heap[b']? = w.heap[b']?:=fun b' hb hn=>by
  refine (hne b' (by omega)).trans ((hx.block b' (by omega) ?_).trans (hold b' hb))
  simp only [List.mem_cons,not_or]
  exact ⟨by omega,hn⟩
 have hD3:w3.heap[w.heap.size]? = some (.deferred (some [])):=by
  refine (hne _ (by omega)).trans ((hx.block _ (by omega) ?_).trans hdef)
  simp only [List.mem_cons,not_or]
  exact ⟨by omega,fun hm=>by have:=hφlt _ hm;omega⟩
 have hφD:∀ D ∈ φ.map (·.1),w.heap[D]? ≠ some (.deferred (some [])):=fun D hm hD=>by
  obtain ⟨cs,hg⟩:=hφb D hm
  obtain ⟨c,e,h4,_⟩:=R0.holds _ _ hg
  rw [hD] at h4;cases h4
 have T:Trans X G a w { D:=D',ν:=G.ν,τ:=G.τ } { a with defers:=[mark w.heap.size]++a.defers } w3 (fun b'=>b' ∈ φ.map (·.1)):=by
  refine ⟨rfl,fun ⟨Ds,h1,h2,h3⟩=>⟨w.heap.size::Ds,by simp [h1],List.nodup_cons.2 ⟨fun hm=>?_,h2⟩,fun D hD=>?_⟩,hx.os,hx.tape,hx.output,by omega,hkeep,fun b' hb=>?_,(g1.trans hx.grow).trans g3,fun b' o hd hn=>⟨.inl ?_,?_⟩,R0.nil⟩
  ·have:=(Array.getElem?_eq_some_iff.1 (h3 _ hm).1).1;omega
  ·rcases List.mem_cons.1 hD with rfl|hD
   ·exact ⟨hD3,R0.ext.size⟩
   ·have h4:=h3 D hD
    exact ⟨(hkeep D (Array.getElem?_eq_some_iff.1 h4.1).1 (fun hm=>hφD D hm h4.1)).trans h4.1,h4.2⟩
  ·obtain ⟨cs,hg⟩:=hφb b' hb
   exact (R0.own _ _ b' hg rfl).imp id And.left
  ·have:=hx.new b' o hd hn;omega
  ·obtain ⟨u,hu⟩:=hwf2.there b' o hd
   exact ⟨u,(hcell3 b' o hd).trans hu⟩
 have hids':∀ b' ∈ φ'.map (·.1),b' ∈ φ.map (·.1)∨w.heap.size≤b':=fun b' hb=>(hids b' hb).imp id fun h=>by omega
 have hh3:HeapOK D' w3 φ':=zgm g3 (fun b' hb=>hne b' (fun e=>by subst e;exact hnm2 hb)) hh2
 have R3:Rel X { D:=D',ν:=G.ν,τ:=G.τ } (addObjs (delObjs s φ) φ') { a with defers:=[mark w.heap.size]++a.defers } w3:=by
  refine R0.step T (fun m u=>∃ b' cs,m = .heap b'∧u = .row (cs.map SV.v)∧(b',cs) ∈ φ') (fun m u h=>?_) (fun m u h=>?_) (fun m u m' u' b' h h' hb hb'=>?_)
  ·rcases z9y _ _ _ _ h with h|⟨h,hne'⟩
   ·exact .inl h
   ·obtain ⟨h,hn⟩:=zc3 _ _ _ _ h
    refine .inr ⟨h,fun _ _=>rfl,fun b' hb hB=>?_,fun _ _=>rfl,fun _ _=>rfl⟩
    obtain ⟨cs,hg⟩:=hφb b' hB
    exact hn b' hB (R0.sep _ _ _ _ b' hg h rfl hb).symm
  ·obtain ⟨b',cs,rfl,rfl,hm⟩:=h
   refine ⟨z6e hh3 hm,fun b2 hb'=>?_⟩
   simp only [blkOf,Option.some.injEq] at hb'
   subst hb'
   have hmm:b' ∈ φ'.map (·.1):=List.mem_map.2 ⟨_,hm,rfl⟩
   refine ⟨(hids' b' hmm).symm,?_,fun _ o=>hh3.nodata b' cs hm o⟩
   rcases hids' b' hmm with h1|h1
   ·obtain ⟨cs',hg⟩:=hφb b' h1
    exact R0.own _ _ b' hg rfl
   ·exact .inl (Nat.le_trans R0.ext.size h1)
  ·obtain ⟨b1,cs1,rfl,rfl,hm1⟩:=h
   obtain ⟨b2,cs2,rfl,rfl,hm2⟩:=h'
   simp only [blkOf,Option.some.injEq] at hb hb'
   rw [hb,hb']
 obtain ⟨w',fr',h1,h2⟩:=after φ' r' hR (fun b' hb=>(hids' b' hb).imp id fun h=>z5g fun u hu=>by
  have hho:=R0.holds _ _ hu
  cases u with
  | row cs=>have:=z1x hho rfl;omega
  | ob q=>have:=z1x hho rfl;omega
  | mp q=>have:=z1x hho rfl;omega
  | one x=>exact hho.elim
  | tk E n=>exact hho.elim) _ _ w3 b cs hf hk hro R3
 exact ⟨w',fr',h1,.head henter (Steps.trans hsteps (.head hback (.head hstep3 h2)))⟩
theorem zyj {A:St}{φ φ':Objs}{d l:Nat}{x:DV}{r':Loop}(hA:∀ m v,(m,v) ∈ A→get s m=some v∧m ≠ .slot d∧m ≠ .heap l∧∀ b ∈ φ.map (·.1),m ≠ .heap b)(hnd:(φ'.map (·.1)).Nodup)(hl:l ∉ φ'.map (·.1))(hids:∀ c ∈ φ'.map (·.1),c ∈ φ.map (·.1)∨newB c s) :
  leS ((.slot d,.one (.v x))::(.heap l,.ob r')::(A++heapSt φ')) (upd (addObjs (delObjs (upd s (.slot d) (.one (.v x))) φ) φ') (.heap l) (.ob r')):=by
 have hadd:∀ (φ':Objs) (s:St) (b:Nat) (cs:List DV),(φ'.map (·.1)).Nodup→(b,cs) ∈ φ'→get (addObjs s φ') (.heap b)=some (.row (cs.map SV.v)):=by
  intro φ'
  induction φ' with
  | nil=>intro s b cs _ h;cases h
  | cons p r ih=>
   obtain ⟨b0,c0⟩:=p
   intro s b cs hn h
   simp only [List.map_cons,List.nodup_cons] at hn
   simp only [addObjs,z0h]
   rcases List.mem_cons.1 h with e|h
   ·cases e;simp
   ·have:b0 ≠ b:=fun e=>hn.1 (by rw [e];exact List.mem_map.2 ⟨_,h,rfl⟩)
    simp only [Loc.heap.injEq,this,if_false]
    exact ih s b cs hn.2 h
 have hno:∀ (φ':Objs) (s:St) (m:Loc),(∀ b ∈ φ'.map (·.1),m ≠ .heap b)→get (addObjs s φ') m=get s m:=by
  intro φ'
  induction φ' with
  | nil=>intro s m _;rfl
  | cons p r ih=>
   obtain ⟨b0,c0⟩:=p
   intro s m h
   simp only [addObjs,z0h]
   rw [if_neg (fun e=>h b0 (by simp) e.symm)]
   exact ih s m fun b hb=>h b (by simp [hb])
 have hdel:∀ (φ:Objs) (s:St) (m:Loc),(∀ b ∈ φ.map (·.1),m ≠ .heap b)→get (delObjs s φ) m=get s m:=by
  intro φ
  induction φ with
  | nil=>intro s m _;rfl
  | cons p r ih=>
   obtain ⟨b0,c0⟩:=p
   intro s m h
   simp only [delObjs]
   rw [ih _ m fun b hb=>h b (by simp [hb]),z26,if_neg (fun e=>h b0 (by simp) e.symm)]
 intro m v hm
 simp only [get] at hm
 rw [z0h]
 split at hm
 ·rename_i e;subst e
  cases hm
  simp only [reduceCtorEq,if_false]
  rw [hno _ _ _ (by simp),hdel _ _ _ (by simp),z0h,if_pos rfl]
 ·rename_i hsl
  split at hm
  ·rename_i e;subst e
   cases hm
   simp
  ·rename_i hhl
   rw [if_neg hhl]
   rw [z3l] at hm
   rcases Option.or_eq_some_iff.1 hm with hm|⟨-,hm⟩
   ·obtain ⟨h1,h2,h3,h4⟩:=hA m v (z7k hm)
    have h5:∀ b ∈ φ'.map (·.1),m ≠ .heap b:=by
     rintro b hb rfl
     rcases hids b hb with h|h
     ·exact h4 b h rfl
     ·have key:∀ s:St,newB b s→get s (.heap b)=none:=by
       intro s
       induction s with
       | nil=>intro _;rfl
       | cons p r ih=>
        obtain ⟨m,u⟩:=p
        intro hn
        cases m with
        | heap b'=>simp only [newB] at hn;simp only [get,Loc.heap.injEq,hn.1,if_false];exact ih hn.2
        | slot n=>simp only [newB] at hn;simp only [get,reduceCtorEq,if_false];exact ih hn
        | loc n=>simp only [newB] at hn;simp only [get,reduceCtorEq,if_false];exact ih hn
        | tok n=>simp only [newB] at hn;simp only [get,reduceCtorEq,if_false];exact ih hn
      rw [key s h] at h1;cases h1
    rw [hno _ _ _ h5,hdel _ _ _ h4,z0h,if_neg (fun e=>h2 e.symm)]
    exact h1
   ·obtain ⟨b,cs,rfl,rfl,hmem⟩:=z5d hm
    exact hadd _ _ b cs hnd hmem
theorem zci {esc:List Nat}{ops:Array Oper}{ll:List Oper}{K:St→Prop}{d:Tmp}{y:Operand}{args:Array Operand}{ats:Array TypeId}{ty:TypeId}{pos:String}{af:Array Edge}{l:Nat}(hy:evl X (get s) y=some (.v (.prim (.func (.yield l) #[] #[]))))
  {ds ds':List DV} {P:Program} {gl:Globs} (hP:X.P=P) (hgl:X.gl=gl) {r:Loop} {φ:Objs} {R:Bool→Objs→Loop→Prop} (hc:YC P gl X.D0 X.w0 l r ds' φ R) (hps:r.params.size=ds'.length) (hargs:evlDs X (get s) args.toList=some ds) (hds:ds=ds') (hφ:objsIn (get s) φ) (hnd:(φ.map (·.1)).Nodup) (hl:get s (.heap l)=some (.ob r)) (hdn:d<X.n)
  (A:St) (hA:∀ m v,(m,v) ∈ A→get s m=some v∧m ≠ .slot d∧m ≠ .heap l∧∀ b ∈ φ.map (·.1),m ≠ .heap b)
  (h:∀ b φ' r',R b φ' r'→(φ'.map (·.1)).Nodup∧l ∉ φ'.map (·.1)) (hk:∀ b φ' r',R b φ' r'→(∀ c ∈ φ'.map (·.1),c ∈ φ.map (·.1)∨newB c s)→vc X esc ops ll ((.slot d,.one (.v (.prim (.bool b))))::(.heap l,.ob r')::(A++heapSt φ')) K) :
  vcK X esc ops ll K ⟨some d,.call { callee:=.value y,args:=args,argTypes:=ats },ty,pos,af,none⟩ s (stepS X esc s ⟨some d,.call { callee:=.value y,args:=args,argTypes:=ats },ty,pos,af,none⟩):=by
 subst hds
 have e:stepS X esc s ⟨some d,.call { callee:=.value y,args:=args,argTypes:=ats },ty,pos,af,none⟩=none:=by
  simp only [stepS,isAppend,pval,pcall,put1]
  split <;> rfl
 rw [e]
 intro n hn G a w R0
 obtain ⟨h1,h2⟩:=z2g hn
 simp only [List.length_cons,List.range'_succ,wpOpsIn,h1,Region.wanted,if_true]
 refine zgk (o:=⟨some d,.call { callee:=.value y,args:=args,argTypes:=ats },ty,pos,af,none⟩) rfl hy hargs hps (by rw [hP,hgl];exact hc) hφ hnd hl rfl hdn R0 _ _ fun b φ' r' G' a' w' hR hids R'=>?_
 have hids':∀ c ∈ φ'.map (·.1),c ∈ φ.map (·.1)∨newB c s:=fun c hc=>(hids c hc).imp id fun hh=>z5g fun v hv=>by
  have hho:=R0.holds _ _ hv
  cases v with
  | row cs=>exact hh _ _ hv rfl
  | ob r=>exact hh _ _ hv rfl
  | mp l=>exact hh _ _ hv rfl
  | one x=>exact hho.elim
  | tk E n=>exact hho.elim
 exact z1c (hk b φ' r' hR hids') (n+1) h2 G' a' w' (R'.weaken (zyj hA (h b φ' r' hR).1 (h b φ' r' hR).2 hids'))
theorem zyk (φ:Objs)(n:Nat):get (heapSt φ) (.slot n)=none:=by
 induction φ with
 | nil=>rfl
 | cons p r ih=>obtain ⟨b,cs⟩:=p;simp [heapSt,get,ih]
theorem zyl (φ:Objs)(n:Nat):get (heapSt φ) (.loc n)=none:=by
 induction φ with
 | nil=>rfl
 | cons p r ih=>obtain ⟨b,cs⟩:=p;simp [heapSt,get,ih]
theorem zym (φ:Objs)(n:Nat):get (heapSt φ) (.tok n)=none:=by
 induction φ with
 | nil=>rfl
 | cons p r ih=>obtain ⟨b,cs⟩:=p;simp [heapSt,get,ih]
theorem zyn (φ:Objs)(n:Nat):del (heapSt φ) (.slot n)=heapSt φ:=by
 induction φ with
 | nil=>rfl
 | cons p r ih=>obtain ⟨b,cs⟩:=p;simp [heapSt,del,ih]
theorem zyo (φ:Objs)(n:Nat):del (heapSt φ) (.loc n)=heapSt φ:=by
 induction φ with
 | nil=>rfl
 | cons p r ih=>obtain ⟨b,cs⟩:=p;simp [heapSt,del,ih]
theorem zyp (φ:Objs)(n:Nat):del (heapSt φ) (.tok n)=heapSt φ:=by
 induction φ with
 | nil=>rfl
 | cons p r ih=>obtain ⟨b,cs⟩:=p;simp [heapSt,del,ih]
theorem zyq (φ:Objs):toksOf (heapSt φ)=[]:=by
 induction φ with
 | nil=>rfl
 | cons p r ih=>obtain ⟨b,cs⟩:=p;simp [heapSt,toksOf,ih]
theorem za8 (d:Nat)(cs:List DV):anyLoc d (cs.map SV.v)=false:=by
 induction cs with
 | nil=>rfl
 | cons c r ih=>simp [anyLoc,hasLoc,ih]
theorem za9 (d:Nat)(cs:List DV):anyTok d (cs.map SV.v)=false:=by
 induction cs with
 | nil=>rfl
 | cons c r ih=>simp [anyTok,hasTok,ih]
theorem zyr (d:Nat)(φ:Objs):freshL d (heapSt φ)=true:=by
 induction φ with
 | nil=>rfl
 | cons p r ih=>obtain ⟨b,cs⟩:=p;simp [heapSt,freshL,ih,za8]
theorem zys (d:Nat)(φ:Objs):freshT d (heapSt φ)=true:=by
 induction φ with
 | nil=>rfl
 | cons p r ih=>obtain ⟨b,cs⟩:=p;simp [heapSt,freshT,ih,za9]
theorem zcj {φ:Objs}(hn:(φ.map (·.1)).Nodup):∀ {A:St},(∀ m v,(m,v) ∈ A→∀ b ∈ φ.map (·.1),m ≠ .heap b)→objsIn (get (A++heapSt φ)) φ:=by
 intro A hA b cs hm
 have h1:get (heapSt φ) (.heap b)=some (.row (cs.map SV.v)):=by
  induction φ with
  | nil=>cases hm
  | cons p r ih=>
   obtain ⟨b0,c0⟩:=p
   simp only [List.map_cons,List.nodup_cons] at hn
   simp only [heapSt,get]
   rcases List.mem_cons.1 hm with e|hm
   ·cases e;simp
   ·have:b0 ≠ b:=fun e=>hn.1 (by rw [e];exact List.mem_map.2 ⟨_,hm,rfl⟩)
    simp only [Loc.heap.injEq,this,if_false]
    exact ih hn.2 (fun m v h b hb=>hA m v h b (by simp [hb])) hm
 rw [z3l,h1]
 cases hq:get A (.heap b) with
 | none=>rfl
 | some v=>exact absurd rfl (hA _ _ (z7k hq) b (List.mem_map.2 ⟨_,hm,rfl⟩))
theorem zaa {A A':St}{φ:Objs}{kk:List Item}(hA:∀ m v,(m,v) ∈ A'→get A m=some v)(h:W X kk (A'++heapSt φ))(hd:∀ m v,(m,v) ∈ A→∀ b ∈ φ.map (·.1),m ≠ .heap b):W X kk (A++heapSt φ):=by
 intro G a w b cs hf hk hr R
 refine h G a w b cs hf hk hr (R.weaken fun m v hm=>?_)
 rw [z3l] at hm ⊢
 rcases Option.or_eq_some_iff.1 hm with hm|⟨-,hm⟩
 ·rw [hA m v (z7k hm)];rfl
 ·obtain ⟨b,cs,rfl,rfl,hmem⟩:=z5d hm
  cases hq:get A (.heap b) with
  | none=>exact hm
  | some u=>exact absurd rfl (hd _ _ (z7k hq) b (List.mem_map.2 ⟨_,hmem,rfl⟩))
theorem z6i {φ:Objs}{n:Nat}{v:LV}(h:objsIn (get s) φ):objsIn (get ((.slot n,v)::s)) φ:=fun b cs hm=>by
 simp only [get,reduceCtorEq,if_false];exact h b cs hm
theorem z6j {φ:Objs}{n:Nat}{v:LV}(hn:n ∉ φ.map (·.1))(h:objsIn (get s) φ):objsIn (get ((.heap n,v)::s)) φ:=fun b cs hm=>by
 have:n ≠ b:=fun e=>hn (by rw [e];exact List.mem_map.2 ⟨_,hm,rfl⟩)
 simp only [get,Loc.heap.injEq,this,if_false];exact h b cs hm
theorem z4r {φ:Objs}(hn:(φ.map (·.1)).Nodup):objsIn (get (heapSt φ)) φ:=zcj (A:=[]) hn (by simp)
theorem z0v {φ:Objs}{b:Nat}{cs:List DV}(h:get s (.heap b)=some (.row (cs.map SV.v)))(h':objsIn (get s) φ):objsIn (get s) ((b,cs)::φ):=by
 intro b' cs' hm
 rcases List.mem_cons.1 hm with e|hm
 ·cases e;exact h
 ·exact h' b' cs' hm
attribute [go_sem] zyk zyl zym zyn zyo zyp zyq zyr zys
end
end
section
section
variable {X:Ctx}{s:St}
theorem zab {E:Nat}:∀ {ys:List (List DV)},(∀ e ∈ ys,e.length=E)→∀ {k:Nat} {d:DV},ys.flatten[k]? = some d→∃ i j e,ys[i]? = some e∧e[j]? = some d∧k=i * E+j
 | [],_,k,d,h=>by simp at h
 | e::r,hE,k,d,h=>by
  have he:=hE e (by simp)
  by_cases hk:k<e.length
  ·rw [List.flatten_cons,List.getElem?_append_left hk] at h
   exact ⟨0,k,e,by simp,h,by simp⟩
  ·rw [List.flatten_cons,List.getElem?_append_right (by omega)] at h
   obtain ⟨i,j,e',h1,h2,h3⟩:=zab (fun e he=>hE e (by simp [he])) h
   refine ⟨i+1,j,e',by simpa using h1,h2,?_⟩
   rw [Nat.add_mul]
   omega
theorem z6k {E:Nat}:∀ {ys:List (List DV)},(∀ e ∈ ys,e.length=E)→ys.flatten.length=ys.length * E
 | [],_=>by simp
 | e::r,hE=>by
  have:=z6k (ys:=r) fun e he=>hE e (by simp [he])
  rw [List.flatten_cons,List.length_append,this,hE e (by simp),List.length_cons,Nat.add_mul]
  omega
def arrRow (ys:List (List DV)):List SV:=ys.flatten.map SV.v
def frzSV (b:Nat)(ys:List (List DV)):SV→SV
 | .v (.prim (.slice (some ⟨b',0,none⟩) n cap))=>if b' = b∧n=ys.length∧n≤cap then .v (.sl ys) else .v (.prim (.slice (some ⟨b',0,none⟩) n cap))
 | x=>x
def frzRow (b:Nat)(ys:List (List DV)):List SV→List SV
 | []=>[]
 | x::r=>frzSV b ys x::frzRow b ys r
def frzLV (b:Nat)(ys:List (List DV)):LV→LV
 | .one x=>.one (frzSV b ys x)
 | .row cs=>.row (frzRow b ys cs)
 | .tk E n=>.tk E n
 | .ob r=>.ob r
 | .mp l=>.mp l
def frz (b:Nat)(ys:List (List DV)):St→St
 | []=>[]
 | (l,v)::r=>(l,frzLV b ys v)::frz b ys r
theorem zck (b:Nat)(ys:List (List DV))(s:St)(l:Loc):get (frz b ys s) l=(get s l).map (frzLV b ys):=by
 induction s with
 | nil=>rfl
 | cons p r ih=>
  obtain ⟨m,v⟩:=p
  simp only [frz,get]
  split
  ·rfl
  ·exact ih
theorem zyt (b:Nat)(ys:List (List DV))(cs:List SV):(frzRow b ys cs).length=cs.length∧∀ i:Nat,(frzRow b ys cs)[i]? = cs[i]?.map (frzSV b ys):=by
 induction cs with
 | nil=>simp [frzRow]
 | cons x r ih=>
  refine ⟨by simp [frzRow,ih.1],fun i=>?_⟩
  cases i with
  | zero=>simp [frzRow]
  | succ i=>simp [frzRow,ih.2]
theorem zgn {b:Nat}{ys:List (List DV)}{G:Gh}{w:World}(hsl:∀ cap,ys.length≤cap→RV G.D w (.sl ys) (.slice (some ⟨b,0,none⟩) ys.length cap)){x:SV}{v:Value}(h:RSV G w x v):RSV G w (frzSV b ys x) v:=by
 unfold frzSV
 split
 ·rename_i b' n cap
  split
  ·rename_i hc
   obtain ⟨rfl,rfl,hcap⟩:=hc
   have:=(z0o h).1
   rw [this]
   exact hsl cap hcap
  ·exact h
 ·exact h
theorem zyu {b:Nat}{ys:List (List DV)}{x:SV}(h:x.isCell=true):(frzSV b ys x).isCell=true:=by
 unfold frzSV
 split
 ·split <;> rfl
 ·exact h
theorem Rel.told {G:Gh}{a:Act}{w:World}(R:Rel X G s a w)(b:Nat)(ys:List (List DV))(hsl:∀ cap,ys.length≤cap→RV G.D w (.sl ys) (.slice (some ⟨b,0,none⟩) ys.length cap)):Rel X G (frz b ys s) a w:=by
 have hblk:∀ l v,blkOf G l (frzLV b ys v)=blkOf G l v:=by
  intro l v
  cases v <;> cases l <;> rfl
 have hget:∀ l v,get (frz b ys s) l=some v→∃ v0,get s l=some v0∧v=frzLV b ys v0:=by
  intro l v h
  rw [zck] at h
  obtain ⟨v0,h1,h2⟩:=Option.map_eq_some_iff.1 h
  exact ⟨v0,h1,h2.symm⟩
 have hrow:∀ k cs,BlkAt G w k cs→BlkAt G w k (frzRow b ys cs):=by
  rintro k cs ⟨c,e,h1,h2,h3⟩
  obtain ⟨f1,f2⟩:=zyt b ys cs
  refine ⟨c,e,h1,by omega,fun i x hx=>?_⟩
  rw [f2] at hx
  obtain ⟨x0,h4,rfl⟩:=Option.map_eq_some_iff.1 hx
  obtain ⟨k1,v,k2,k3⟩:=h3 i x0 h4
  exact ⟨zyu k1,v,k2,zgn hsl k3⟩
 refine ⟨R.size,R.defers,R.ext,R.wf,R.nil,fun l v hg=>?_,fun l v l' v' b' hg hg' hb hb'=>?_,fun l v b' hg hb=>?_,fun l v b' o hg hb ht=>?_⟩
 ·obtain ⟨v0,h1,rfl⟩:=hget l v hg
  have hh:=R.holds l v0 h1
  cases l <;> cases v0 <;> first|exact hh.elim|exact zgn hsl hh|exact hrow _ _ hh|exact hh
 ·obtain ⟨v0,h1,rfl⟩:=hget l v hg
  obtain ⟨v1,h2,rfl⟩:=hget l' v' hg'
  rw [hblk] at hb hb'
  exact R.sep l v0 l' v1 b' h1 h2 hb hb'
 ·obtain ⟨v0,h1,rfl⟩:=hget l v hg
  rw [hblk] at hb
  exact R.own l v0 b' h1 hb
 ·obtain ⟨v0,h1,rfl⟩:=hget l v hg
  rw [hblk] at hb
  exact R.data l v0 b' o h1 hb ht
theorem Rel.freeze {G:Gh}{a:Act}{w:World}(R:Rel X G s a w){b E:Nat}{ys:List (List DV)}(hE:∀ e ∈ ys,e.length=E)(hbig:ys.length≤BIG)(hw:X.w0.heap.size≤b)(hrow:get s (.heap b)=some (.row (arrRow ys))) :
  ∃ G',Rel X G' (frz b ys (del s (.heap b))) a w:=by
 obtain ⟨c,e,h1,h2,h3⟩:=R.holds _ _ hrow
 have hlen:=z6k hE
 have hal:(arrRow ys).length=ys.length * E:=by simp only [arrRow,List.length_map];exact hlen
 rw [hal] at h2
 have hcell:∀ k,w.cell? ⟨b,k,none⟩=c[k]?:=fun k=>by simp [World.cell?,h1]
 let G':Gh:={ D:=withData G.D b 0 (ys.length * E),ν:=G.ν,τ:=G.τ }
 have T:Trans X G a w G' a w (fun b'=>b' = b):=by
  refine ⟨rfl,fun h=>h,rfl,rfl,rfl,Nat.le_refl _,fun _ _ _=>rfl,fun b' hb=>by subst hb;exact .inl hw,fun _ _ hD=>⟨.inl hD,rfl⟩,fun b' k hD hnD=>?_,R.nil⟩
  rcases hD with hD|⟨rfl,_,hk⟩
  ·exact absurd hD hnD
  ·exact ⟨.inr ⟨rfl,hw⟩,_,(hcell k).trans (Array.getElem?_eq_getElem (by omega))⟩
 have R1:Rel X G' (del s (.heap b)) a w:=by
  refine R.step T (fun _ _=>False) (fun l u h=>?_) (fun l u h=>h.elim) (fun l u l' u' b h _ _ _=>h.elim)
  rw [z26] at h
  by_cases hl:Loc.heap b=l
  ·rw [if_pos hl] at h;cases h
  ·rw [if_neg hl] at h
   refine .inr ⟨h,fun _ _=>rfl,fun b' hb' he=>?_,fun _ _=>rfl,fun _ _=>rfl⟩
   subst he
   exact hl (R.sep _ _ _ _ b' hrow h rfl hb')
 refine ⟨G',R1.told b ys fun cap hcap=>?_⟩
 have hget:∀ i j e' d,ys[i]? = some e'→e'[j]? = some d→d.isCell=true∧∃ v,c[i * E+j]? = some v∧RV G.D w d v:=by
  intro i j e' d hi hj
  have hk:ys.flatten[i * E+j]? = some d:=by
   clear h2 h3 hal hlen hrow R1 T G' hbig hcap
   induction ys generalizing i with
   | nil=>simp at hi
   | cons y r ih=>
    have hy:=hE y (by simp)
    cases i with
    | zero=>
     simp at hi;subst hi
     have hjl:=(List.getElem?_eq_some_iff.1 hj).1
     rw [Nat.zero_mul,Nat.zero_add,List.flatten_cons,List.getElem?_append_left hjl]
     exact hj
    | succ i=>
     rw [List.flatten_cons,List.getElem?_append_right (by rw [hy,Nat.add_mul];omega),hy]
     rw [show (i+1) * E+j - E=i * E+j by rw [Nat.add_mul];omega]
     exact ih (fun e he=>hE e (by simp [he])) i (by simpa using hi)
  obtain ⟨k1,v,k2,k3⟩:=h3 (i * E+j) (.v d) (by simp only [arrRow,List.getElem?_map,hk];rfl)
  exact ⟨k1,v,k2,k3⟩
 refine z9s (E:=E) (f:=fun k=>c[k]?.getD undef) hbig hcap hE (fun e' he' d hd=>?_) (fun k hk=>?_) (fun i j e' d hi hj=>?_)
 ·obtain ⟨i,hi⟩:=List.mem_iff_getElem?.1 he'
  obtain ⟨j,hj⟩:=List.mem_iff_getElem?.1 hd
  exact (hget i j e' d hi hj).1
 ·have hlt:k<c.size:=by omega
  refine ⟨?_,.inr ⟨rfl,by omega,by omega⟩⟩
  rw [Nat.zero_add,hcell,Array.getElem?_eq_getElem hlt]
  rfl
 ·obtain ⟨-,v,k2,k3⟩:=hget i j e' d hi hj
  simp only [k2,Option.getD_some]
  exact k3.mono T.grow
theorem z7v {b E:Nat}{ys:List (List DV)}{kk:List Item}(hrow:get s (.heap b)=some (.row (arrRow ys)))(hE:∀ e ∈ ys,e.length=E)(hbig:ys.length≤BIG)(hw:X.w0.heap.size≤b)(h:W X kk (frz b ys (del s (.heap b)))):W X kk s:=by
 intro G a w b' cs hf hkk hr R
 obtain ⟨G',R'⟩:=R.freeze hE hbig hw hrow
 exact h G' a w b' cs hf hkk hr R'
theorem zgo {E:Nat}{ys:List (List DV)}(hE:∀ e ∈ ys,e.length=E){i:Nat}(hi:i<ys.length){z:List DV}(hz:z.length=E):put (arrRow ys) (i * E) (z.map SV.v)=arrRow (ys.set i z):=by
 have hlen:=z6k hE
 have hal:(arrRow ys).length=ys.length * E:=by simp only [arrRow,List.length_map];exact hlen
 have hle:i * E+(z.map SV.v).length≤(arrRow ys).length:=by
  rw [hal,List.length_map,hz]
  calc i * E+E=(i+1) * E:=by rw [Nat.add_mul,Nat.one_mul]
   _≤ys.length * E:=Nat.mul_le_mul_right _ hi
 apply List.ext_getElem?
 intro k
 rw [z58 _ _ _ _ hle]
 clear hle hal hlen
 simp only [arrRow,List.length_map,hz,List.getElem?_map]
 induction ys generalizing i k with
 | nil=>simp at hi
 | cons y r ih=>
  have hy:=hE y (by simp)
  cases i with
  | zero=>
   simp only [Nat.zero_mul,Nat.zero_le,true_and,Nat.zero_add,Nat.sub_zero,List.set_cons_zero,List.flatten_cons]
   split
   ·rename_i hk
    rw [List.getElem?_append_left (by omega)]
   ·rename_i hk
    rw [List.getElem?_append_right (by omega),List.getElem?_append_right (by omega),hy,hz]
  | succ i=>
   simp only [List.set_cons_succ,List.flatten_cons]
   have ih':=ih (fun e he=>hE e (by simp [he])) (i:=i) (by simpa using hi) (k - E)
   by_cases hk:k<E
   ·rw [if_neg (by rw [Nat.add_mul];omega),List.getElem?_append_left (by omega),List.getElem?_append_left (by omega)]
   ·rw [List.getElem?_append_right (by omega),List.getElem?_append_right (by omega),hy,← ih']
    have e1:(i+1) * E=i * E+E:=by rw [Nat.add_mul,Nat.one_mul]
    by_cases h2:i * E≤k - E∧k - E<i * E+E
    ·rw [if_pos h2,if_pos (by omega)]
     congr 2;omega
    ·rw [if_neg h2,if_neg (by omega)]
end
end
section
structure Hid (p:Prop):Prop where
 out:p
theorem j2 {p q:Prop}(a:p)(b:q):p∧q:=⟨a,b⟩
def Wren (_:List (Nat × Nat)):Prop:=True
theorem wr (l:List (Nat × Nat)):Wren l:=trivial
theorem t_a {q p:Prop}(k:q)(h:Hid q→p:=by
 intro zk
 repeat (first|refine z0a ?_|refine z01 ?_|refine z0b ?_|refine z03 ?_|refine z02 ?_|refine z04 rfl ?_)
 exact zk.out):p:=h ⟨k⟩
theorem t_b {q p:Prop}(k:q)(h:Hid q→p:=by
 intro zk
 repeat (first|refine z03 ?_|refine z01 ?_|refine z02 ?_|refine z04 rfl ?_)
 exact zk.out):p:=h ⟨k⟩
theorem t_e {q p:Prop}(k:q)(h:Hid q→p:=by
 intro zk
 repeat (refine ⟨by omega,?_⟩)
 first|refine hK _ ?_|refine ⟨by rfl,hK _ ?_⟩
 exact zk.out):p:=h ⟨k⟩
theorem t_s0 {q p:Prop}(k:q)(h:Hid q→p:=by
 intro zk
 simp [go_sem,hP,hgl,hn]
 exact zk.out):p:=h ⟨k⟩
theorem z00 {q p:Prop}(k:q)(h:Hid q→p:=by
 intro zk
 repeat (first|refine z0a ?_|refine z01 ?_|refine z0b ?_|refine z03 ?_|refine z02 ?_|refine z04 rfl ?_)
 first|refine z05 [] fun K hK=>?_|refine z09 (by rw [hP];exact z08) [] fun K hK=>?_
 simp [go_sem,hP,hgl,hn]
 repeat (refine ⟨by omega,?_⟩)
 first|refine hK _ ?_|refine ⟨by rfl,hK _ ?_⟩
 clear hK K
 exact zk.out):p:=h ⟨k⟩
theorem t_g0 {q p:Prop}(k:q)(h:Hid q→p:=by
 intro zk
 repeat (first|refine z0a ?_|refine z01 ?_|refine z0b ?_|refine z03 ?_|refine z02 ?_|refine z04 rfl ?_|((first|refine z05 [] fun K hK=>?_|refine z09 (by rw [hP];exact z08) [] fun K hK=>?_);simp [go_sem,hP,hgl,hn];(repeat (refine ⟨by omega,?_⟩));(first|refine hK _ ?_|refine ⟨by rfl,hK _ ?_⟩);clear hK K)|refine z0f rfl (fun _=>?_) (fun hq=>False.elim (by first|(simp;done)|(simp;omega)|(simp at hq;done)|(simp at hq;omega)))|refine z0f rfl (fun hq=>False.elim (by first|(simp;done)|(simp;omega)|(simp at hq;done)|(simp at hq;omega))) (fun _=>?_))
 exact zk.out):p:=h ⟨k⟩
theorem t_s {pze q p:Prop}(ze:pze)(k:q)(h:pze→Hid q→p:=by
 intro ze zk
 simp [go_sem,hP,hgl,hn,ze]
 exact zk.out):p:=h ze ⟨k⟩
theorem t_rg {pze q p:Prop}(ze:pze)(k:q)(h:pze→Hid q→p:=by
 intro ze zk
 repeat (first|refine z0a ?_|refine z01 ?_|refine z0b ?_|refine z03 ?_|refine z02 ?_|refine z04 rfl ?_)
 first|refine z05 [] fun K hK=>?_|refine z09 (by rw [hP];exact z08) [] fun K hK=>?_
 simp [go_sem,hP,hgl,hn,ze]
 repeat (refine ⟨by omega,?_⟩)
 first|refine hK _ ?_|refine ⟨by rfl,hK _ ?_⟩
 clear hK K
 exact zk.out):p:=h ze ⟨k⟩
theorem t_g {pze q p:Prop}(ze:pze)(k:q)(h:pze→Hid q→p:=by
 intro ze zk
 repeat (first|refine z0a ?_|refine z01 ?_|refine z0b ?_|refine z03 ?_|refine z02 ?_|refine z04 rfl ?_|((first|refine z05 [] fun K hK=>?_|refine z09 (by rw [hP];exact z08) [] fun K hK=>?_);simp [go_sem,hP,hgl,hn,ze];(repeat (refine ⟨by omega,?_⟩));(first|refine hK _ ?_|refine ⟨by rfl,hK _ ?_⟩);clear hK K)|refine z0f rfl (fun _=>?_) (fun hq=>False.elim (by first|(simp [ze];done)|(simp [ze];omega)|(simp [ze] at hq;done)|(simp [ze] at hq;omega)))|refine z0f rfl (fun hq=>False.elim (by first|(simp [ze];done)|(simp [ze];omega)|(simp [ze] at hq;done)|(simp [ze] at hq;omega))) (fun _=>?_))
 exact zk.out):p:=h ze ⟨k⟩
theorem t_y {pze q p:Prop}(ze:pze)(k:q)(h:pze→Hid q→p:=by
 intro ze zk
 repeat (first|refine z0a ?_|refine z01 ?_|refine z0b ?_|refine z03 ?_|refine z02 ?_|refine z04 rfl ?_)
 refine z0f rfl ?_ ?_
 rotate_left
 ·intro hq;first|(simp [ze] at hq;done)|(simp [ze] at hq;omega)
 intro _
 exact zk.out):p:=h ze ⟨k⟩
theorem t_n {pze q p:Prop}(ze:pze)(k:q)(h:pze→Hid q→p:=by
 intro ze zk
 repeat (first|refine z0a ?_|refine z01 ?_|refine z0b ?_|refine z03 ?_|refine z02 ?_|refine z04 rfl ?_)
 refine z0f rfl ?_ ?_
 ·intro hq;first|(simp [ze] at hq;done)|(simp [ze] at hq;omega)
 intro _
 exact zk.out):p:=h ze ⟨k⟩
theorem z07 {q p:Prop}(k:q)(h:Hid q→p:=by
 intro zk
 repeat (first|refine z0a ?_|refine z01 ?_|refine z0b ?_|refine z03 ?_|refine z02 ?_|refine z04 rfl ?_)
 refine z0f rfl ?_ ?_
 rotate_left
 ·intro h;simp at h;try omega
 intro _
 exact zk.out):p:=h ⟨k⟩
theorem t_no {q p:Prop}(k:q)(h:Hid q→p:=by
 intro zk
 repeat (first|refine z0a ?_|refine z01 ?_|refine z0b ?_|refine z03 ?_|refine z02 ?_|refine z04 rfl ?_)
 refine z0f rfl ?_ ?_
 ·intro h;simp at h;try omega
 intro _
 exact zk.out):p:=h ⟨k⟩
theorem t_c {pze pc q p:Prop}(ze:pze)(c:pc)(k:q)(h:pze→pc→Hid q→p:=by
 intro ze c zk
 repeat (refine ⟨by omega,?_⟩)
 first|refine z1u hP hgl c (by simp [go_sem,hP,hgl,hn,ze]) rfl (by simp [go_sem]) (by simp) (by rw [hn];exact Nat.le_of_ble_eq_true rfl) ?_|refine z1v (fun _ _=>z0l) hP hgl c (by simp [go_sem,hP,hgl,hn,ze]) rfl (by simp [go_sem]) (by simp) (by rw [hn];exact Nat.le_of_ble_eq_true rfl) ?_|refine z23 hP hgl c (by simp [go_sem,hP,hgl,hn,ze]) rfl (by simp [go_sem]) (by simp) (by rw [hn];exact Nat.le_of_ble_eq_true rfl) (by simp [go_sem];rfl) (by rw [hn];exact Nat.le_of_ble_eq_true rfl) (by simp [go_sem]) ?_|refine z24 (fun _ _=>z0l) hP hgl c (by simp [go_sem,hP,hgl,hn,ze]) rfl (by simp [go_sem]) (by simp) (by rw [hn];exact Nat.le_of_ble_eq_true rfl) (by simp [go_sem];rfl) (by rw [hn];exact Nat.le_of_ble_eq_true rfl) (by simp [go_sem]) ?_
 simp [go_sem,hP,hgl,hn,ze]
 exact zk.out):p:=h ze c ⟨k⟩
theorem t_c1 {pze pc1 q p:Prop}(ze:pze)(c1:pc1)(k:q)(h:pze→pc1→Hid q→p:=by
 intro ze c1 zk
 repeat (first|refine z0a ?_|refine z01 ?_|refine z0b ?_|refine z03 ?_|refine z02 ?_|refine z04 rfl ?_)
 first|refine z05 [] fun K hK=>?_|refine z09 (by rw [hP];exact z08) [] fun K hK=>?_
 simp [go_sem,hP,hgl,hn,ze]
 refine t_c ze c1 ?_
 repeat (refine ⟨by omega,?_⟩)
 first|refine hK _ ?_|refine ⟨by rfl,hK _ ?_⟩
 clear hK K
 exact zk.out):p:=h ze c1 ⟨k⟩
theorem t_c2 {pze pc1 pc2 q p:Prop}(ze:pze)(c1:pc1)(c2:pc2)(k:q)(h:pze→pc1→pc2→Hid q→p:=by
 intro ze c1 c2 zk
 repeat (first|refine z0a ?_|refine z01 ?_|refine z0b ?_|refine z03 ?_|refine z02 ?_|refine z04 rfl ?_)
 first|refine z05 [] fun K hK=>?_|refine z09 (by rw [hP];exact z08) [] fun K hK=>?_
 simp [go_sem,hP,hgl,hn,ze]
 refine t_c ze c1 ?_
 refine t_c ze c2 ?_
 repeat (refine ⟨by omega,?_⟩)
 first|refine hK _ ?_|refine ⟨by rfl,hK _ ?_⟩
 clear hK K
 exact zk.out):p:=h ze c1 c2 ⟨k⟩
theorem t_c3 {pze pc1 pc2 pc3 q p:Prop}(ze:pze)(c1:pc1)(c2:pc2)(c3:pc3)(k:q)(h:pze→pc1→pc2→pc3→Hid q→p:=by
 intro ze c1 c2 c3 zk
 repeat (first|refine z0a ?_|refine z01 ?_|refine z0b ?_|refine z03 ?_|refine z02 ?_|refine z04 rfl ?_)
 first|refine z05 [] fun K hK=>?_|refine z09 (by rw [hP];exact z08) [] fun K hK=>?_
 simp [go_sem,hP,hgl,hn,ze]
 refine t_c ze c1 ?_
 refine t_c ze c2 ?_
 refine t_c ze c3 ?_
 repeat (refine ⟨by omega,?_⟩)
 first|refine hK _ ?_|refine ⟨by rfl,hK _ ?_⟩
 clear hK K
 exact zk.out):p:=h ze c1 c2 c3 ⟨k⟩
theorem t_c4 {pze pc1 pc2 pc3 pc4 q p:Prop}(ze:pze)(c1:pc1)(c2:pc2)(c3:pc3)(c4:pc4)(k:q)(h:pze→pc1→pc2→pc3→pc4→Hid q→p:=by
 intro ze c1 c2 c3 c4 zk
 repeat (first|refine z0a ?_|refine z01 ?_|refine z0b ?_|refine z03 ?_|refine z02 ?_|refine z04 rfl ?_)
 first|refine z05 [] fun K hK=>?_|refine z09 (by rw [hP];exact z08) [] fun K hK=>?_
 simp [go_sem,hP,hgl,hn,ze]
 refine t_c ze c1 ?_
 refine t_c ze c2 ?_
 refine t_c ze c3 ?_
 refine t_c ze c4 ?_
 repeat (refine ⟨by omega,?_⟩)
 first|refine hK _ ?_|refine ⟨by rfl,hK _ ?_⟩
 clear hK K
 exact zk.out):p:=h ze c1 c2 c3 c4 ⟨k⟩
theorem t_c5 {pze pc1 pc2 pc3 pc4 pc5 q p:Prop}(ze:pze)(c1:pc1)(c2:pc2)(c3:pc3)(c4:pc4)(c5:pc5)(k:q)(h:pze→pc1→pc2→pc3→pc4→pc5→Hid q→p:=by
 intro ze c1 c2 c3 c4 c5 zk
 repeat (first|refine z0a ?_|refine z01 ?_|refine z0b ?_|refine z03 ?_|refine z02 ?_|refine z04 rfl ?_)
 first|refine z05 [] fun K hK=>?_|refine z09 (by rw [hP];exact z08) [] fun K hK=>?_
 simp [go_sem,hP,hgl,hn,ze]
 refine t_c ze c1 ?_
 refine t_c ze c2 ?_
 refine t_c ze c3 ?_
 refine t_c ze c4 ?_
 refine t_c ze c5 ?_
 repeat (refine ⟨by omega,?_⟩)
 first|refine hK _ ?_|refine ⟨by rfl,hK _ ?_⟩
 clear hK K
 exact zk.out):p:=h ze c1 c2 c3 c4 c5 ⟨k⟩
theorem t_c6 {pze pc1 pc2 pc3 pc4 pc5 pc6 q p:Prop}(ze:pze)(c1:pc1)(c2:pc2)(c3:pc3)(c4:pc4)(c5:pc5)(c6:pc6)(k:q)(h:pze→pc1→pc2→pc3→pc4→pc5→pc6→Hid q→p:=by
 intro ze c1 c2 c3 c4 c5 c6 zk
 repeat (first|refine z0a ?_|refine z01 ?_|refine z0b ?_|refine z03 ?_|refine z02 ?_|refine z04 rfl ?_)
 first|refine z05 [] fun K hK=>?_|refine z09 (by rw [hP];exact z08) [] fun K hK=>?_
 simp [go_sem,hP,hgl,hn,ze]
 refine t_c ze c1 ?_
 refine t_c ze c2 ?_
 refine t_c ze c3 ?_
 refine t_c ze c4 ?_
 refine t_c ze c5 ?_
 refine t_c ze c6 ?_
 repeat (refine ⟨by omega,?_⟩)
 first|refine hK _ ?_|refine ⟨by rfl,hK _ ?_⟩
 clear hK K
 exact zk.out):p:=h ze c1 c2 c3 c4 c5 c6 ⟨k⟩
theorem t_c7 {pze pc1 pc2 pc3 pc4 pc5 pc6 pc7 q p:Prop}(ze:pze)(c1:pc1)(c2:pc2)(c3:pc3)(c4:pc4)(c5:pc5)(c6:pc6)(c7:pc7)(k:q)(h:pze→pc1→pc2→pc3→pc4→pc5→pc6→pc7→Hid q→p:=by
 intro ze c1 c2 c3 c4 c5 c6 c7 zk
 repeat (first|refine z0a ?_|refine z01 ?_|refine z0b ?_|refine z03 ?_|refine z02 ?_|refine z04 rfl ?_)
 first|refine z05 [] fun K hK=>?_|refine z09 (by rw [hP];exact z08) [] fun K hK=>?_
 simp [go_sem,hP,hgl,hn,ze]
 refine t_c ze c1 ?_
 refine t_c ze c2 ?_
 refine t_c ze c3 ?_
 refine t_c ze c4 ?_
 refine t_c ze c5 ?_
 refine t_c ze c6 ?_
 refine t_c ze c7 ?_
 repeat (refine ⟨by omega,?_⟩)
 first|refine hK _ ?_|refine ⟨by rfl,hK _ ?_⟩
 clear hK K
 exact zk.out):p:=h ze c1 c2 c3 c4 c5 c6 c7 ⟨k⟩
theorem t_c8 {pze pc1 pc2 pc3 pc4 pc5 pc6 pc7 pc8 q p:Prop}(ze:pze)(c1:pc1)(c2:pc2)(c3:pc3)(c4:pc4)(c5:pc5)(c6:pc6)(c7:pc7)(c8:pc8)(k:q)(h:pze→pc1→pc2→pc3→pc4→pc5→pc6→pc7→pc8→Hid q→p:=by
 intro ze c1 c2 c3 c4 c5 c6 c7 c8 zk
 repeat (first|refine z0a ?_|refine z01 ?_|refine z0b ?_|refine z03 ?_|refine z02 ?_|refine z04 rfl ?_)
 first|refine z05 [] fun K hK=>?_|refine z09 (by rw [hP];exact z08) [] fun K hK=>?_
 simp [go_sem,hP,hgl,hn,ze]
 refine t_c ze c1 ?_
 refine t_c ze c2 ?_
 refine t_c ze c3 ?_
 refine t_c ze c4 ?_
 refine t_c ze c5 ?_
 refine t_c ze c6 ?_
 refine t_c ze c7 ?_
 refine t_c ze c8 ?_
 repeat (refine ⟨by omega,?_⟩)
 first|refine hK _ ?_|refine ⟨by rfl,hK _ ?_⟩
 clear hK K
 exact zk.out):p:=h ze c1 c2 c3 c4 c5 c6 c7 c8 ⟨k⟩
theorem t_c9 {pze pc1 pc2 pc3 pc4 pc5 pc6 pc7 pc8 pc9 q p:Prop}(ze:pze)(c1:pc1)(c2:pc2)(c3:pc3)(c4:pc4)(c5:pc5)(c6:pc6)(c7:pc7)(c8:pc8)(c9:pc9)(k:q)(h:pze→pc1→pc2→pc3→pc4→pc5→pc6→pc7→pc8→pc9→Hid q→p:=by
 intro ze c1 c2 c3 c4 c5 c6 c7 c8 c9 zk
 repeat (first|refine z0a ?_|refine z01 ?_|refine z0b ?_|refine z03 ?_|refine z02 ?_|refine z04 rfl ?_)
 first|refine z05 [] fun K hK=>?_|refine z09 (by rw [hP];exact z08) [] fun K hK=>?_
 simp [go_sem,hP,hgl,hn,ze]
 refine t_c ze c1 ?_
 refine t_c ze c2 ?_
 refine t_c ze c3 ?_
 refine t_c ze c4 ?_
 refine t_c ze c5 ?_
 refine t_c ze c6 ?_
 refine t_c ze c7 ?_
 refine t_c ze c8 ?_
 refine t_c ze c9 ?_
 repeat (refine ⟨by omega,?_⟩)
 first|refine hK _ ?_|refine ⟨by rfl,hK _ ?_⟩
 clear hK K
 exact zk.out):p:=h ze c1 c2 c3 c4 c5 c6 c7 c8 c9 ⟨k⟩
theorem zyv {pze pc1 pc2 pc3 pc4 pc5 pc6 pc7 pc8 pc9 pc10 q p:Prop}(ze:pze)(c1:pc1)(c2:pc2)(c3:pc3)(c4:pc4)(c5:pc5)(c6:pc6)(c7:pc7)(c8:pc8)(c9:pc9)(c10:pc10)(k:q)(h:pze→pc1→pc2→pc3→pc4→pc5→pc6→pc7→pc8→pc9→pc10→Hid q→p:=by
 intro ze c1 c2 c3 c4 c5 c6 c7 c8 c9 c10 zk
 repeat (first|refine z0a ?_|refine z01 ?_|refine z0b ?_|refine z03 ?_|refine z02 ?_|refine z04 rfl ?_)
 first|refine z05 [] fun K hK=>?_|refine z09 (by rw [hP];exact z08) [] fun K hK=>?_
 simp [go_sem,hP,hgl,hn,ze]
 refine t_c ze c1 ?_
 refine t_c ze c2 ?_
 refine t_c ze c3 ?_
 refine t_c ze c4 ?_
 refine t_c ze c5 ?_
 refine t_c ze c6 ?_
 refine t_c ze c7 ?_
 refine t_c ze c8 ?_
 refine t_c ze c9 ?_
 refine t_c ze c10 ?_
 repeat (refine ⟨by omega,?_⟩)
 first|refine hK _ ?_|refine ⟨by rfl,hK _ ?_⟩
 clear hK K
 exact zk.out):p:=h ze c1 c2 c3 c4 c5 c6 c7 c8 c9 c10 ⟨k⟩
theorem t_gt {pzl pz2 pze pzt p:Prop}(zl:pzl)(z2:pz2)(ze:pze)(zt:pzt)(h:pzl→pz2→pze→pzt→p:=by
 intro zl z2 ze zt
 repeat (first|(refine zyw zl (by simp [go_sem]) (by simp [go_sem,z2] <;> omega) (by simp [go_sem]) zt)|refine z0a ?_|refine z01 ?_|refine z0b ?_|refine z03 ?_|refine z02 ?_|refine z04 rfl ?_|((first|refine z05 [] fun K hK=>?_|refine z09 (by rw [hP];exact z08) [] fun K hK=>?_);simp [go_sem,hP,hgl,hn,ze];(repeat (refine ⟨by omega,?_⟩));(first|refine hK _ ?_|refine ⟨by rfl,hK _ ?_⟩);clear hK K)|refine z0f rfl (fun _=>?_) (fun hq=>False.elim (by first|(simp [ze];done)|(simp [ze];omega)|(simp [ze] at hq;done)|(simp [ze] at hq;omega)))|refine z0f rfl (fun hq=>False.elim (by first|(simp [ze];done)|(simp [ze];omega)|(simp [ze] at hq;done)|(simp [ze] at hq;omega))) (fun _=>?_))):p:=h zl z2 ze zt
theorem t_r {q p:Prop}(k:q)(h:Hid q→p:=by
 intro zk
 repeat (first|refine z0a ?_|refine z01 ?_|refine z0b ?_|refine z03 ?_|refine z02 ?_|refine z04 rfl ?_)
 first|refine zxl hP hf hfn hR ?_|refine zxm hP hf hfn hR ?_
 exact zk.out):p:=h ⟨k⟩
theorem t_cb {pze pc q p:Prop}(ze:pze)(c:pc)(k:q)(h:pze→pc→Hid q→p:=by
 intro ze c zk
 repeat (refine ⟨by omega,?_⟩)
 first|refine z1u hP hgl c (by simp [go_sem,hP,hgl,hn,ze]) rfl (by simp [go_sem,hP,hgl,hn,ze]) (by simp [ze]) (by rw [hn];exact Nat.le_of_ble_eq_true rfl) ?_|refine z1v (fun _ _=>z0l) hP hgl c (by simp [go_sem,hP,hgl,hn,ze]) rfl (by simp [go_sem,hP,hgl,hn,ze]) (by simp [ze]) (by rw [hn];exact Nat.le_of_ble_eq_true rfl) ?_
 simp [go_sem,hP,hgl,hn,ze]
 exact zk.out):p:=h ze c ⟨k⟩
theorem t_ro {pze q p:Prop}(zf0:Objs)(ze:pze)(k:q)(h:∀ zf:Objs,zf=zf0→pze→Hid q→p:=by
 intro zf zw ze zk
 repeat (first|refine z0a ?_|refine z01 ?_|refine z0b ?_|refine z03 ?_|refine z02 ?_|refine z04 rfl ?_)
 first|refine z0k hP hf hfn _ zf (by subst zw;first|(simp [go_sem,hP,hgl,hn,ze];done)|(simp [go_sem,hP,hgl,hn,ze];rfl)) (by subst zw;simp [go_sem,hP,hgl,hn,ze]) (by subst zw;simp [ze]) ?_ hR.2|refine z0m hP hf hfn _ zf (by subst zw;first|(simp [go_sem,hP,hgl,hn,ze];done)|(simp [go_sem,hP,hgl,hn,ze];rfl)) (by subst zw;simp [go_sem,hP,hgl,hn,ze]) (by subst zw;simp [ze]) ?_ hR.2
 rw [hR.1]
 subst zw
 refine ⟨?_,by simp [ze]⟩
 exact zk.out):p:=h zf0 rfl ze ⟨k⟩
theorem t_f {p:Prop}(h:p:=by simp [Ty.dv,Ty.cells_eq,Ty.kind_mk,Ty.args_mk,Tm.dv,Tm.cells_eq,Tm.kind_mk,Tm.index_mk,Tm.type_mk,Tm.args_mk,Val.dv,Val.cells_eq,Val.kind_mk,Val.num_mk,Val.list_mk,Val.args_mk,ints]):p:=h
theorem zyw {X:Ctx}{k:List Item}{s s':St}{l:List (Nat × Nat)}(_:Wren l)(h0:ren l 0=0)(hs:subLe (ren l) s s')(hi:tokInj (ren l) (toksOf s'))(h:W X k s'):W X k s:=z0c l h0 hs hi h
theorem z0e {X:Ctx}{k:List Item}{s s':St}{e:Prop}(l:List (Nat × Nat))(ze:e)(h:W X k s')(h0:ren l 0=0:=by simp [go_sem])(hs:e→subLe (ren l) s s':=by
 intro ze
 simp [go_sem,ze] <;> omega) (hi:tokInj (ren l) (toksOf s'):=by simp [go_sem]):W X k s:=z0c l h0 (hs ze) hi h
theorem t_in {P:Program}{gl:Globs}{f:FuncId}{args:List DV}{φ:Objs}{R:DV→Objs→Prop}{fn:Func}{body:Code}(hf:P.funcs[f]? = some fn)
  (h:∀ X:Ctx,X.P=P→X.gl=gl→X.f=f→X.fn=fn→X.n=fn.ntmps→X.R=R∧X.md = .fn→X.ids=φ.map (·.1)→(∀ x ∈ args,DV.fit x)→W X [.code body] (entry args φ))
  (hb : fn.body = some body := by rfl) (hname : (fn.name == "runtime.NumGoroutine") = false := by kernel_rfl) (hn : args.length ≤ fn.ntmps := by exact Nat.le_of_ble_eq_true rfl) : Con P gl f args φ R :=
 zma hf hb hname hn h
end
end Go.Proofs.YtoamlfmdkbmmpaaGreatDoor.Lift
