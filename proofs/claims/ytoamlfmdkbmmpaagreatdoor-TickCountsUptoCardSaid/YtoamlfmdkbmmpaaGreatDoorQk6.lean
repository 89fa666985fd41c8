import Derived.Test.YtoamlfmdkbmmpaaGreatDoorQk5
namespace Go.Proofs.YtoamlfmdkbmmpaaGreatDoor.Lift
set_option linter.unusedSimpArgs false
set_option linter.unusedVariables false
set_option linter.unnecessarySimpa false
open Go
section
mutual
inductive MVT:(a:T)→MV→a.V→Prop
 | num (n:Nat):MVT .nat (.num n) n
 | list (l:List Nat):MVT .list (.list l) l
 | unit:MVT .unit .unit ()
 | both {a b:T} {x y:MV} {X:a.V} {Y:b.V} (hx:MVT a x X) (hy:MVT b y Y):MVT (.pair a b) (.both x y) (X,Y)
 | clo {Γ:List T} {a r:T} {b:Tm} {f:Env (a::Γ)→r.V} {e:List MV} {ρ:Env Γ} (he:MVE Γ e ρ) (hb:Dn (a::Γ) b r f):MVT (.fn a r) (.clo b e) (fun x=>f (x,ρ))
inductive MVE:(Γ:List T)→List MV→Env Γ→Prop
 | nil:MVE [] [] ()
 | cons {Γ:List T} {a:T} {x:MV} {X:a.V} {e:List MV} {ρ:Env Γ} (h:MVT a x X) (k:MVE Γ e ρ):MVE (a::Γ) (x::e) (X,ρ)
end
theorem MVE.get {Γ:List T}{i:Nat}{a:T}{p:Env Γ→a.V}(h:At Γ i a p):∀ {e:List MV} {ρ:Env Γ},MVE Γ e ρ→∃ x,e[i]? = some x∧MVT a x (p ρ):=by
 induction h with
 | zero=>intro e ρ he;cases he with|cons h k=>exact ⟨_,rfl,h⟩
 | succ h ih=>intro e ρ he;cases he with|cons h k=>obtain ⟨x,e1,e2⟩:=ih k;exact ⟨x,by simpa using e1,e2⟩
theorem z9v {v:MV}{n:Nat}(h:MVT .nat v n):v = .num n:=by cases h;rfl
theorem zc2 {v:MV}{l:List Nat}(h:MVT .list v l):v = .list l:=by cases h;rfl
theorem zc3 {a b:T}{v:MV}{p:(T.pair a b).V}(h:MVT (.pair a b) v p):∃ x y,v = .both x y∧MVT a x p.1∧MVT b y p.2:=by
 cases h with|both hx hy=>exact ⟨_,_,rfl,hx,hy⟩
theorem z17a {a b:T}{v:MV}{f:(T.fn a b).V}(h:MVT (.fn a b) v f):∃ (Γ:List T) (t:Tm) (e:List MV) (ρ:Env Γ) (g:Env (a::Γ)→b.V),v = .clo t e∧MVE Γ e ρ∧Dn (a::Γ) t b g∧f=fun x=>g (x,ρ):=by
 cases h with|clo he hb=>exact ⟨_,_,_,_,_,rfl,he,hb,rfl⟩
def Out (most:Int)(P:MV→Prop)(u:Int)(r:Rn):Prop:=∃ v u' o,r=some (v,u',o)∧u≤u'∧u'≤most∧(o=false→P v)
theorem Out.mono {most u u0:Int}{P Q:MV→Prop}{r:Rn}(h:Out most P u r)(hu:u0≤u)(hq:∀ v,P v→Q v):Out most Q u0 r:=by
 obtain ⟨v,u',o,h1,h2,h3,h4⟩:=h
 exact ⟨v,u',o,h1,by omega,h3,fun h=>hq v (h4 h)⟩
def Evs (most:Int)(d:Nat)(ev:Ev6):Prop:=∀ ⦃Γ:List T⦄ ⦃t:Tm⦄ ⦃a:T⦄ ⦃F:Env Γ→a.V⦄ ⦃e:List MV⦄ ⦃ρ:Env Γ⦄ ⦃u:Int⦄,Dn Γ t a F→MVE Γ e ρ→u≤most→most - u<d→Out most (fun v=>MVT a v (F ρ)) u (ev t e u)
theorem z59 {most:Int}{d:Nat}{ev:Ev6}(H:Evs most d ev){a b:T}{f x:MV}{F:(T.fn a b).V}{X:a.V}(hf:MVT (.fn a b) f F)(hx:MVT a x X){u:Int}(hu:u≤most)(hd:most - u<d) :
  Out most (fun v=>MVT b v (F X)) u (callRun ev f x u):=by
 obtain ⟨Γ,t,e,ρ,g,rfl,he,hb,rfl⟩:=z17a hf
 exact H hb (.cons hx he) hu hd
theorem zhj {most:Int}{d:Nat}{ev:Ev6}(H:Evs most d ev){a:T}{f:MV}{F:(T.fn .nat (.fn a a)).V}(hf:MVT (.fn .nat (.fn a a)) f F):∀ (n k:Nat) {r:MV} {R:a.V} {u:Int},MVT a r R→u≤most→most - u<d →
  Out most (fun v=>MVT a v ((List.range' k n).foldl (fun r i=>F i r) R)) u (recRun ev f n k r u)
 | 0,k,r,R,u,hr,hu,hd=>⟨r,u,false,rfl,by omega,hu,fun _=>hr⟩
 | n+1,k,r,R,u,hr,hu,hd=>by
  obtain ⟨g,u1,o1,h1,l1,m1,q1⟩:=z59 H hf (.num k) hu hd
  cases o1 with
  | true=>exact ⟨r,u1,true,by rw [recRun,h1],l1,m1,fun h=>by cases h⟩
  | false=>
   obtain ⟨r',u2,o2,h2,l2,m2,q2⟩:=z59 H (q1 rfl) hr m1 (by omega)
   cases o2 with
   | true=>exact ⟨r',u2,true,by rw [recRun,h1];simp only [h2],by omega,m2,fun h=>by cases h⟩
   | false=>
    have:=zhj H hf n (k+1) (q2 rfl) m2 (by omega)
    have e:recRun ev f (n+1) k r u=recRun ev f n (k+1) r' u2:=by rw [recRun,h1];simp only [h2]
    rw [e]
    exact this.mono (by omega) fun v h=>h
theorem zhk {most:Int}{d:Nat}{ev:Ev6}(H:Evs most d ev){a:T}{f:MV}{F:(T.fn .nat (.fn .list (.fn a a))).V}(hf:MVT (.fn .nat (.fn .list (.fn a a))) f F)(B:a.V):∀ (l rest:List Nat) {r:MV} {u:Int},MVT a r (listRec B F rest)→u≤most→most - u<d →
  Out most (fun v=>MVT a v (listRec B F (l.reverse++rest))) u (foldRun ev f l rest r u)
 | [],rest,r,u,hr,hu,hd=>⟨r,u,false,rfl,by omega,hu,fun _=>hr⟩
 | x::l,rest,r,u,hr,hu,hd=>by
  obtain ⟨g,u1,o1,h1,l1,m1,q1⟩:=z59 H hf (.num x) hu hd
  cases o1 with
  | true=>exact ⟨r,u1,true,by rw [foldRun,h1],l1,m1,fun h=>by cases h⟩
  | false=>
   obtain ⟨g2,u2,o2,h2,l2,m2,q2⟩:=z59 H (q1 rfl) (.list rest) m1 (by omega)
   cases o2 with
   | true=>exact ⟨r,u2,true,by rw [foldRun,h1];simp only [h2],by omega,m2,fun h=>by cases h⟩
   | false=>
    obtain ⟨r',u3,o3,h3,l3,m3,q3⟩:=z59 H (q2 rfl) hr m2 (by omega)
    cases o3 with
    | true=>exact ⟨r',u3,true,by rw [foldRun,h1];simp only [h2,h3],by omega,m3,fun h=>by cases h⟩
    | false=>
     have:=zhk H hf B l (x::rest) (r:=r') (q3 rfl) m3 (by omega)
     have e:foldRun ev f (x::l) rest r u=foldRun ev f l (x::rest) r' u3:=by rw [foldRun,h1];simp only [h2,h3]
     rw [e]
     refine this.mono (by omega) fun v h=>?_
     simpa using h
def Fits2:List MV→List (MV→Prop)→Prop
 | [],[]=>True
 | v::l,P::r=>P v∧Fits2 l r
 | _,_=>False
theorem zhl {most:Int}{ev:Ev6}{d:Nat}{e:List MV}:∀ (l:List Tm) (Ps:List (MV→Prop)),l.length=Ps.length→(∀ (i:Nat) (t:Tm) (P:MV→Prop),l[i]? = some t→Ps[i]? = some P→∀ u:Int,u≤most→most - u<d→Out most P u (ev t e u))→∀ {u:Int},u≤most→most - u<d →
  ∃ vs u' o,allRun ev l e u=some (vs,u',o)∧u≤u'∧u'≤most∧(o=false→Fits2 vs Ps)
 | [],[],_,_,u,hu,hd=>⟨[],u,false,rfl,by omega,hu,fun _=>trivial⟩
 | [],_::_,hl,_,_,_,_=>by cases hl
 | _::_,[],hl,_,_,_,_=>by cases hl
 | t::l,P::Ps,hl,h,u,hu,hd=>by
  obtain ⟨v,u1,o1,h1,l1,m1,q1⟩:=h 0 t P rfl rfl u hu hd
  cases o1 with
  | true=>exact ⟨[],u1,true,by rw [allRun,h1],l1,m1,fun h=>by cases h⟩
  | false=>
   obtain ⟨vs,u2,o2,h2,l2,m2,q2⟩:=zhl l Ps (by simpa using hl) (fun i t P ht hP=>h (i+1) t P (by simpa using ht) (by simpa using hP)) m1 (by omega)
   exact ⟨v::vs,u2,o2,by rw [allRun,h1];simp only [h2],by omega,m2,fun h=>⟨q1 rfl,q2 h⟩⟩
theorem z3h {most:Int}{d:Nat}{t:Tm}{e:List MV}{u:Int}(h1:t.kind ≠ 1)(h2:t.kind ≠ 2)(hu:u≤most)(Ps:List (MV→Prop))(hl:t.args.length=Ps.length){Q:MV→Prop}(hd:most - u<(d+1:Nat))
  (h:∀ (i:Nat) (x:Tm) (P:MV→Prop),t.args[i]? = some x→Ps[i]? = some P→∀ u:Int,u≤most→most - u<d→Out most P u (ev6 most d x e u))
  (hn:∀ l u,Fits2 l Ps→u≤most→most - u<d→Out most Q u (nodeRun (ev6 most d) t.kind l u)):Out most Q u (ev6 most (d+1) t e u):=by
 rw [ev6]
 by_cases hum:u=most
 ·rw [if_pos hum];exact ⟨_,_,_,rfl,by omega,hu,fun h=>by cases h⟩
 rw [if_neg hum,if_neg h1,if_neg h2]
 obtain ⟨vs,u1,o,e1,l1,m1,q1⟩:=zhl (ev:=ev6 most d) (e:=e) (d:=d) t.args Ps hl h (u:=u+1) (by omega) (by omega)
 rw [e1]
 cases o with
 | true=>exact ⟨_,_,_,rfl,by omega,m1,fun h=>by cases h⟩
 | false=>exact (hn vs u1 (q1 rfl) m1 (by omega)).mono (by omega) fun _ h=>h
theorem zc4 {l:List MV}{P:MV→Prop}(h:Fits2 l [P]):∃ x,l=[x]∧P x:=by
 match l,h with
 | [x],h=>exact ⟨x,rfl,h.1⟩
theorem zc5 {l:List MV}{P Q:MV→Prop}(h:Fits2 l [P,Q]):∃ x y,l=[x,y]∧P x∧Q y:=by
 match l,h with
 | [x,y],h=>exact ⟨x,y,rfl,h.1,h.2.1⟩
theorem zhm {l:List MV}{P Q R:MV→Prop}(h:Fits2 l [P,Q,R]):∃ x y z,l=[x,y,z]∧P x∧Q y∧R z:=by
 match l,h with
 | [x,y,z],h=>exact ⟨x,y,z,rfl,h.1,h.2.1,h.2.2.1⟩
theorem zc6 {l:List MV}(h:Fits2 l []):l=[]:=by
 match l,h with
 | [],_=>rfl
theorem at1 {x:Tm}{P:MV→Prop}{S:Tm→(MV→Prop)→Prop}(h:S x P):∀ (i:Nat) (y:Tm) (Q:MV→Prop),([x]:List Tm)[i]? = some y→([P]:List (MV→Prop))[i]? = some Q→S y Q:=by
 intro i y Q h1 h2
 match i with
 | 0=>simp at h1 h2;subst h1;subst h2;exact h
 | i+1=>simp at h1
theorem at2 {x y:Tm}{P Q:MV→Prop}{S:Tm→(MV→Prop)→Prop}(h:S x P)(k:S y Q):∀ (i:Nat) (z:Tm) (R:MV→Prop),([x,y]:List Tm)[i]? = some z→([P,Q]:List (MV→Prop))[i]? = some R→S z R:=by
 intro i z R h1 h2
 match i with
 | 0=>simp at h1 h2;subst h1;subst h2;exact h
 | 1=>simp at h1 h2;subst h1;subst h2;exact k
 | i+2=>simp at h1
theorem atM3 {x y w:Tm}{P Q P':MV→Prop}{S:Tm→(MV→Prop)→Prop}(h:S x P)(k:S y Q)(j:S w P'):∀ (i:Nat) (z:Tm) (R:MV→Prop),([x,y,w]:List Tm)[i]? = some z→([P,Q,P']:List (MV→Prop))[i]? = some R→S z R:=by
 intro i z R h1 h2
 match i with
 | 0=>simp at h1 h2;subst h1;subst h2;exact h
 | 1=>simp at h1 h2;subst h1;subst h2;exact k
 | 2=>simp at h1 h2;subst h1;subst h2;exact j
 | i+3=>simp at h1
theorem z4h {most u:Int}{P:MV→Prop}{v:MV}(hu:u≤most)(h:P v):Out most P u (some (v,u,false)):=⟨v,u,false,rfl,by omega,hu,fun _=>h⟩
theorem zc7 (most:Int):∀ d:Nat,Evs most d (ev6 most d)
 | 0=>fun Γ t a F e ρ u h he hu hd=>absurd hd (by omega)
 | d+1=>fun Γ t a F e ρ u h he hu hd=>by
  have H:=@zc7 most d
  cases h with
  | var h=>
   obtain ⟨x,e1,e2⟩:=MVE.get h he
   rw [ev6]
   by_cases hum:u=most
   ·rw [if_pos hum];exact ⟨_,_,_,rfl,by omega,hu,fun h=>by cases h⟩
   rw [if_neg hum,if_pos (show (vT _).kind=1 from rfl),if_pos (show 0≤(vT (↑(_:Nat))).index from Int.natCast_nonneg _)]
   have:e[(vT (↑(_:Nat))).index.toNat]? = some x:=e1
   rw [this]
   exact ⟨x,u+1,false,rfl,by omega,by omega,fun _=>e2⟩
  | lam ha hb=>
   rw [ev6]
   by_cases hum:u=most
   ·rw [if_pos hum];exact ⟨_,_,_,rfl,by omega,hu,fun h=>by cases h⟩
   rw [if_neg hum,if_neg (by simp [lamT,Tm.kind]),if_pos (show (lamT _ _).kind=2 from rfl)]
   exact ⟨_,u+1,false,rfl,by omega,by omega,fun _=>.clo he hb⟩
  | app hf hx=>
   refine z3h (by simp [nT,Tm.kind]) (by simp [nT,Tm.kind]) hu [_,_] rfl hd (at2 (S:=fun x P=>∀ u:Int,u≤most→most - u<d→Out most P u (ev6 most d x e u)) (fun u hu hd=>H hf he hu hd) (fun u hu hd=>H hx he hu hd)) fun l u hl hu hd=>?_
   obtain ⟨f,x,rfl,h1,h2⟩:=zc5 hl
   exact z59 H h1 h2 hu hd
  | zero=>
   refine z3h (by simp [nT,Tm.kind]) (by simp [nT,Tm.kind]) hu [] rfl hd (by intro i x P h;simp [nT,Tm.args] at h) fun l u hl hu hd=>?_
   obtain rfl:=zc6 hl
   exact z4h hu (.num 0)
  | succ hx=>
   refine z3h (by simp [nT,Tm.kind]) (by simp [nT,Tm.kind]) hu [_] rfl hd (at1 (S:=fun x P=>∀ u:Int,u≤most→most - u<d→Out most P u (ev6 most d x e u)) (fun u hu hd=>H hx he hu hd)) fun l u hl hu hd=>?_
   obtain ⟨x,rfl,h1⟩:=zc4 hl
   obtain rfl:=z9v h1
   exact z4h hu (.num _)
  | rc ha hb hf hn=>
   refine z3h (by simp [Tm.kind]) (by simp [Tm.kind]) hu [_,_,_] rfl hd (atM3 (S:=fun x P=>∀ u:Int,u≤most→most - u<d→Out most P u (ev6 most d x e u)) (fun u hu hd=>H hb he hu hd) (fun u hu hd=>H hf he hu hd) (fun u hu hd=>H hn he hu hd)) fun l u hl hu hd=>?_
   obtain ⟨b,f,n,rfl,h1,h2,h3⟩:=zhm hl
   obtain rfl:=z9v h3
   refine (zhj H h2 _ 0 h1 hu hd).mono (by omega) fun v hv=>?_
   exact Eq.mpr (congrArg (MVT _ v) (z9q _ _ _)) hv
  | nil=>
   refine z3h (by simp [nT,Tm.kind]) (by simp [nT,Tm.kind]) hu [] rfl hd (by intro i x P h;simp [nT,Tm.args] at h) fun l u hl hu hd=>?_
   obtain rfl:=zc6 hl
   exact z4h hu (.list [])
  | cons hx hl=>
   refine z3h (by simp [nT,Tm.kind]) (by simp [nT,Tm.kind]) hu [_,_] rfl hd (at2 (S:=fun x P=>∀ u:Int,u≤most→most - u<d→Out most P u (ev6 most d x e u)) (fun u hu hd=>H hx he hu hd) (fun u hu hd=>H hl he hu hd)) fun l u hl hu hd=>?_
   obtain ⟨f,x,rfl,h1,h2⟩:=zc5 hl
   obtain rfl:=z9v h1
   obtain rfl:=zc2 h2
   exact z4h hu (.list _)
  | fold ha hb hf hn=>
   refine z3h (by simp [Tm.kind]) (by simp [Tm.kind]) hu [_,_,_] rfl hd (atM3 (S:=fun x P=>∀ u:Int,u≤most→most - u<d→Out most P u (ev6 most d x e u)) (fun u hu hd=>H hb he hu hd) (fun u hu hd=>H hf he hu hd) (fun u hu hd=>H hn he hu hd)) fun l u hl hu hd=>?_
   obtain ⟨b,f,n,rfl,h1,h2,h3⟩:=zhm hl
   obtain rfl:=zc2 h3
   have key:=fun L:List Nat=>zhk H h2 _ L.reverse [] h1 hu hd
   simp only [List.reverse_reverse,List.append_nil] at key
   exact key _
  | pair hx hy=>
   refine z3h (by simp [nT,Tm.kind]) (by simp [nT,Tm.kind]) hu [_,_] rfl hd (at2 (S:=fun x P=>∀ u:Int,u≤most→most - u<d→Out most P u (ev6 most d x e u)) (fun u hu hd=>H hx he hu hd) (fun u hu hd=>H hy he hu hd)) fun l u hl hu hd=>?_
   obtain ⟨f,x,rfl,h1,h2⟩:=zc5 hl
   exact z4h hu (.both h1 h2)
  | fst hx=>
   refine z3h (by simp [nT,Tm.kind]) (by simp [nT,Tm.kind]) hu [_] rfl hd (at1 (S:=fun x P=>∀ u:Int,u≤most→most - u<d→Out most P u (ev6 most d x e u)) (fun u hu hd=>H hx he hu hd)) fun l u hl hu hd=>?_
   obtain ⟨x,rfl,h1⟩:=zc4 hl
   obtain ⟨p,q,rfl,h2,h3⟩:=zc3 h1
   exact z4h hu h2
  | snd hx=>
   refine z3h (by simp [nT,Tm.kind]) (by simp [nT,Tm.kind]) hu [_] rfl hd (at1 (S:=fun x P=>∀ u:Int,u≤most→most - u<d→Out most P u (ev6 most d x e u)) (fun u hu hd=>H hx he hu hd)) fun l u hl hu hd=>?_
   obtain ⟨x,rfl,h1⟩:=zc4 hl
   obtain ⟨p,q,rfl,h2,h3⟩:=zc3 h1
   exact z4h hu h3
  | unit=>
   refine z3h (by simp [nT,Tm.kind]) (by simp [nT,Tm.kind]) hu [] rfl hd (by intro i x P h;simp [nT,Tm.args] at h) fun l u hl hu hd=>?_
   obtain rfl:=zc6 hl
   exact z4h hu .unit
end
section
mutual
def MV.le (n:Int):MV→Prop
 | .num k=>(k:Int)≤n
 | .list l=>(l.length:Int)≤n∧∀ x ∈ l,(x:Int)≤n
 | .both a b=>MV.le n a∧MV.le n b
 | .unit=>True
 | .clo _ e=>(e.length:Int)≤n∧MV.les n e
def MV.les (n:Int):List MV→Prop
 | []=>True
 | x::r=>MV.le n x∧MV.les n r
end
theorem MV.les_iff {n:Int}:∀ {l:List MV},MV.les n l↔∀ x ∈ l,x.le n
 | []=>by simp [MV.les]
 | x::r=>by simp [MV.les,MV.les_iff (l:=r)]
mutual
theorem MV.le_mono {n m:Int}(h:n≤m):∀ {v:MV},v.le n→v.le m
 | .num k,hv=>by simp only [MV.le] at hv ⊢;omega
 | .list l,hv=>by
  simp only [MV.le] at hv ⊢
  exact ⟨by omega,fun x hx=>by have:=hv.2 x hx;omega⟩
 | .both a b,hv=>by
  simp only [MV.le] at hv ⊢
  exact ⟨MV.le_mono h hv.1,MV.le_mono h hv.2⟩
 | .unit,_=>by simp only [MV.le]
 | .clo b e,hv=>by
  simp only [MV.le] at hv ⊢
  exact ⟨by omega,MV.les_mono h hv.2⟩
theorem MV.les_mono {n m:Int}(h:n≤m):∀ {l:List MV},MV.les n l→MV.les m l
 | [],_=>by simp only [MV.les]
 | x::r,hv=>by
  simp only [MV.les] at hv ⊢
  exact ⟨MV.le_mono h hv.1,MV.les_mono h hv.2⟩
end
def Bds (most:Int)(ev:Ev6):Prop:=∀ ⦃t:Tm⦄ ⦃e:List MV⦄ ⦃u M:Int⦄ ⦃v:MV⦄ ⦃u':Int⦄ ⦃o:Bool⦄,ev t e u=some (v,u',o)→u≤most→0≤M→MV.les M e→(e.length:Int)≤M+1→u≤u'∧u'≤most∧v.le (M+(u' - u))
theorem z1c {most:Int}{ev:Ev6}(H:Bds most ev){f x:MV}{u M:Int}{v:MV}{u':Int}{o:Bool}(h:callRun ev f x u=some (v,u',o))(hu:u≤most)(hM:0≤M)(hf:f.le M)(hx:x.le M):u≤u'∧u'≤most∧v.le (M+(u' - u)):=by
 cases f with
 | clo b e=>
  simp only [MV.le] at hf
  exact H h hu hM (by simp only [MV.les];exact ⟨hx,hf.2⟩) (by simp only [List.length_cons];omega)
 | num n=>cases h
 | list l=>cases h
 | both a b=>cases h
 | unit=>cases h
theorem zhn {most:Int}{ev:Ev6}(H:Bds most ev){f:MV}:∀ (n k:Nat) {r:MV} {u M:Int} {v:MV} {u':Int} {o:Bool},recRun ev f n k r u=some (v,u',o)→u≤most→0≤M→f.le M→r.le M→((n:Int)+k≤M)→u≤u'∧u'≤most∧v.le (M+(u' - u))
 | 0,k,r,u,M,v,u',o,h,hu,hM,hf,hr,hk=>by
  simp only [recRun,Option.some.injEq,Prod.mk.injEq] at h
  obtain ⟨rfl,rfl,rfl⟩:=h
  exact ⟨by omega,by omega,MV.le_mono (by omega) hr⟩
 | n+1,k,r,u,M,v,u',o,h,hu,hM,hf,hr,hk=>by
  simp only [recRun] at h
  split at h
  ·cases h
  ·rename_i u1 h1
   obtain ⟨l1,m1,b1⟩:=z1c H h1 hu hM hf (by simp only [MV.le];omega)
   simp only [Option.some.injEq,Prod.mk.injEq] at h
   obtain ⟨rfl,rfl,rfl⟩:=h
   exact ⟨l1,m1,MV.le_mono (by omega) hr⟩
  ·rename_i g u1 h1
   obtain ⟨l1,m1,b1⟩:=z1c H h1 hu hM hf (by simp only [MV.le];omega)
   split at h
   ·cases h
   ·rename_i r' u2 h2
    obtain ⟨l2,m2,b2⟩:=z1c H h2 m1 (by omega) b1 (MV.le_mono (by omega) hr)
    simp only [Option.some.injEq,Prod.mk.injEq] at h
    obtain ⟨rfl,rfl,rfl⟩:=h
    exact ⟨by omega,by omega,MV.le_mono (by omega) b2⟩
   ·rename_i r' u2 h2
    obtain ⟨l2,m2,b2⟩:=z1c H h2 m1 (by omega) b1 (MV.le_mono (by omega) hr)
    obtain ⟨l3,m3,b3⟩:=zhn H n (k+1) h m2 (M:=M+(u2 - u)) (by omega) (MV.le_mono (by omega) hf) (MV.le_mono (by omega) b2) (by omega)
    exact ⟨by omega,by omega,MV.le_mono (by omega) b3⟩
theorem zho {most:Int}{ev:Ev6}(H:Bds most ev){f:MV}:∀ (l rest:List Nat) {r:MV} {u M:Int} {v:MV} {u':Int} {o:Bool},foldRun ev f l rest r u=some (v,u',o)→u≤most→0≤M→f.le M→r.le M→((l.length:Int)+rest.length≤M)→(∀ x ∈ l,(x:Int)≤M)→(∀ x ∈ rest,(x:Int)≤M)→u≤u'∧u'≤most∧v.le (M+(u' - u))
 | [],rest,r,u,M,v,u',o,h,hu,hM,hf,hr,hk,_,_=>by
  simp only [foldRun,Option.some.injEq,Prod.mk.injEq] at h
  obtain ⟨rfl,rfl,rfl⟩:=h
  exact ⟨by omega,by omega,MV.le_mono (by omega) hr⟩
 | x::l,rest,r,u,M,v,u',o,h,hu,hM,hf,hr,hk,hl,hrest=>by
  have hx:=hl x (by simp)
  have hlen:((x::l).length:Int)=l.length+1:=by simp
  simp only [foldRun] at h
  split at h
  ·cases h
  ·rename_i u1 h1
   obtain ⟨l1,m1,b1⟩:=z1c H h1 hu hM hf (by simp only [MV.le];omega)
   simp only [Option.some.injEq,Prod.mk.injEq] at h
   obtain ⟨rfl,rfl,rfl⟩:=h
   exact ⟨l1,m1,MV.le_mono (by omega) hr⟩
  ·rename_i g u1 h1
   obtain ⟨l1,m1,b1⟩:=z1c H h1 hu hM hf (by simp only [MV.le];omega)
   split at h
   ·cases h
   ·rename_i u2 h2
    obtain ⟨l2,m2,b2⟩:=z1c H h2 m1 (by omega) b1 (by simp only [MV.le];exact ⟨by omega,fun y hy=>by have:=hrest y hy;omega⟩)
    simp only [Option.some.injEq,Prod.mk.injEq] at h
    obtain ⟨rfl,rfl,rfl⟩:=h
    exact ⟨by omega,by omega,MV.le_mono (by omega) hr⟩
   ·rename_i g2 u2 h2
    obtain ⟨l2,m2,b2⟩:=z1c H h2 m1 (by omega) b1 (by simp only [MV.le];exact ⟨by omega,fun y hy=>by have:=hrest y hy;omega⟩)
    split at h
    ·cases h
    ·rename_i r' u3 h3
     obtain ⟨l3,m3,b3⟩:=z1c H h3 m2 (by omega) b2 (MV.le_mono (by omega) hr)
     simp only [Option.some.injEq,Prod.mk.injEq] at h
     obtain ⟨rfl,rfl,rfl⟩:=h
     exact ⟨by omega,by omega,MV.le_mono (by omega) b3⟩
    ·rename_i r' u3 h3
     obtain ⟨l3,m3,b3⟩:=z1c H h3 m2 (by omega) b2 (MV.le_mono (by omega) hr)
     obtain ⟨l4,m4,b4⟩:=zho H l (x::rest) h m3 (M:=M+(u3 - u)) (by omega) (MV.le_mono (by omega) hf) (MV.le_mono (by omega) b3) (by simp only [List.length_cons];omega)
      (fun y hy=>by have:=hl y (by simp [hy]);omega) (fun y hy=>by rcases List.mem_cons.1 hy with rfl|hy;omega;have:=hrest y hy;omega)
     exact ⟨by omega,by omega,MV.le_mono (by omega) b4⟩
theorem z81 {most:Int}{ev:Ev6}(H:Bds most ev){e:List MV}:∀ (l:List Tm) {u M:Int} {vs:List MV} {u':Int} {o:Bool},allRun ev l e u=some (vs,u',o)→u≤most→0≤M→MV.les M e→(e.length:Int)≤M+1→u≤u'∧u'≤most∧MV.les (M+(u' - u)) vs
 | [],u,M,vs,u',o,h,hu,hM,he,hl=>by
  simp only [allRun,Option.some.injEq,Prod.mk.injEq] at h
  obtain ⟨rfl,rfl,rfl⟩:=h
  exact ⟨by omega,by omega,by simp only [MV.les]⟩
 | t::r,u,M,vs,u',o,h,hu,hM,he,hl=>by
  simp only [allRun] at h
  split at h
  ·cases h
  ·rename_i u1 h1
   obtain ⟨l1,m1,b1⟩:=H h1 hu hM he hl
   simp only [Option.some.injEq,Prod.mk.injEq] at h
   obtain ⟨rfl,rfl,rfl⟩:=h
   exact ⟨by omega,by omega,by simp only [MV.les]⟩
  ·rename_i v1 u1 h1
   obtain ⟨l1,m1,b1⟩:=H h1 hu hM he hl
   split at h
   ·cases h
   ·rename_i vs2 u2 o2 h2
    obtain ⟨l2,m2,b2⟩:=z81 H r h2 m1 (M:=M+(u1 - u)) (by omega) (MV.les_mono (by omega) he) (by omega)
    simp only [Option.some.injEq,Prod.mk.injEq] at h
    obtain ⟨rfl,rfl,rfl⟩:=h
    exact ⟨by omega,by omega,by simp only [MV.les];exact ⟨MV.le_mono (by omega) b1,MV.les_mono (by omega) b2⟩⟩
theorem z17b {most:Int}{ev:Ev6}(H:Bds most ev){k:Int}{l:List MV}{u M:Int}{v:MV}{u':Int}{o:Bool}(h:nodeRun ev k l u=some (v,u',o))(hu:u≤most)(hM:0≤M)(hl:MV.les M l):u≤u'∧u'≤most∧v.le (M+1+(u' - u)):=by
 unfold nodeRun at h
 split at h
 ·split at h
  ·simp only [MV.les] at hl
   obtain ⟨l1,m1,b1⟩:=z1c H h hu hM hl.1 hl.2.1
   exact ⟨l1,m1,MV.le_mono (by omega) b1⟩
  ·cases h
 split at h
 ·simp only [Option.some.injEq,Prod.mk.injEq] at h
  obtain ⟨rfl,rfl,rfl⟩:=h
  exact ⟨by omega,by omega,by simp only [MV.le];omega⟩
 split at h
 ·split at h
  ·simp only [MV.les,MV.le] at hl
   simp only [Option.some.injEq,Prod.mk.injEq] at h
   obtain ⟨rfl,rfl,rfl⟩:=h
   exact ⟨by omega,by omega,by simp only [MV.le];omega⟩
  ·cases h
 split at h
 ·split at h
  ·simp only [MV.les] at hl
   obtain ⟨a1,a2,a3,-⟩:=hl
   simp only [MV.le] at a3
   obtain ⟨l1,m1,b1⟩:=zhn H _ 0 h hu hM a2 a1 (by omega)
   exact ⟨l1,m1,MV.le_mono (by omega) b1⟩
  ·cases h
 split at h
 ·simp only [Option.some.injEq,Prod.mk.injEq] at h
  obtain ⟨rfl,rfl,rfl⟩:=h
  exact ⟨by omega,by omega,by simp only [MV.le];exact ⟨by simp only [List.length_nil];omega,fun x hx=>by cases hx⟩⟩
 split at h
 ·split at h
  ·simp only [MV.les,MV.le] at hl
   obtain ⟨a1,⟨a2,a3⟩,-⟩:=hl
   simp only [Option.some.injEq,Prod.mk.injEq] at h
   obtain ⟨rfl,rfl,rfl⟩:=h
   exact ⟨by omega,by omega,by simp only [MV.le];exact ⟨by simp only [List.length_cons];omega,fun x hx=>by rcases List.mem_cons.1 hx with rfl|hx;omega;have:=a3 x hx;omega⟩⟩
  ·cases h
 split at h
 ·split at h
  ·simp only [MV.les] at hl
   obtain ⟨a1,a2,a3,-⟩:=hl
   simp only [MV.le] at a3
   obtain ⟨l1,m1,b1⟩:=zho H _ [] h hu hM a2 a1 (by simp only [List.length_reverse,List.length_nil];omega) (fun x hx=>a3.2 x (by simpa using hx)) (fun x hx=>by cases hx)
   exact ⟨l1,m1,MV.le_mono (by omega) b1⟩
  ·cases h
 split at h
 ·split at h
  ·simp only [MV.les] at hl
   simp only [Option.some.injEq,Prod.mk.injEq] at h
   obtain ⟨rfl,rfl,rfl⟩:=h
   exact ⟨by omega,by omega,by simp only [MV.le];exact ⟨MV.le_mono (by omega) hl.1,MV.le_mono (by omega) hl.2.1⟩⟩
  ·cases h
 split at h
 ·split at h
  ·simp only [MV.les,MV.le] at hl
   simp only [Option.some.injEq,Prod.mk.injEq] at h
   obtain ⟨rfl,rfl,rfl⟩:=h
   exact ⟨by omega,by omega,MV.le_mono (by omega) hl.1.1⟩
  ·cases h
 split at h
 ·split at h
  ·simp only [MV.les,MV.le] at hl
   simp only [Option.some.injEq,Prod.mk.injEq] at h
   obtain ⟨rfl,rfl,rfl⟩:=h
   exact ⟨by omega,by omega,MV.le_mono (by omega) hl.1.2⟩
  ·cases h
 ·simp only [Option.some.injEq,Prod.mk.injEq] at h
  obtain ⟨rfl,rfl,rfl⟩:=h
  exact ⟨by omega,by omega,by simp only [MV.le]⟩
theorem zc8 (most:Int):∀ d:Nat,Bds most (ev6 most d)
 | 0=>fun t e u M v u' o h=>by cases h
 | d+1=>fun t e u M v u' o h hu hM he hl=>by
  have H:=@zc8 most d
  rw [ev6] at h
  split at h
  ·simp only [Option.some.injEq,Prod.mk.injEq] at h
   obtain ⟨rfl,rfl,rfl⟩:=h
   exact ⟨by omega,by omega,by simp only [zeroM,MV.le];omega⟩
  split at h
  ·split at h
   ·split at h
    ·rename_i v1 hv
     simp only [Option.some.injEq,Prod.mk.injEq] at h
     obtain ⟨rfl,rfl,rfl⟩:=h
     exact ⟨by omega,by omega,MV.le_mono (by omega) (MV.les_iff.1 he _ (List.mem_of_getElem? hv))⟩
    ·cases h
   ·cases h
  split at h
  ·split at h
   ·simp only [Option.some.injEq,Prod.mk.injEq] at h
    obtain ⟨rfl,rfl,rfl⟩:=h
    exact ⟨by omega,by omega,by simp only [MV.le];exact ⟨by omega,MV.les_mono (by omega) he⟩⟩
   ·cases h
  split at h
  ·cases h
  ·rename_i u1 h1
   obtain ⟨l1,m1,b1⟩:=z81 H _ h1 (by omega) hM he hl
   simp only [Option.some.injEq,Prod.mk.injEq] at h
   obtain ⟨rfl,rfl,rfl⟩:=h
   exact ⟨by omega,by omega,by simp only [zeroM,MV.le];omega⟩
  ·rename_i vs u1 h1
   obtain ⟨l1,m1,b1⟩:=z81 H _ h1 (by omega) hM he hl
   obtain ⟨l2,m2,b2⟩:=z17b H h m1 (by omega) b1
   exact ⟨by omega,by omega,MV.le_mono (by omega) b2⟩
end
section
variable {gl:Globs}
mutual
def MV.cells:MV→List DV
 | .num n=>[dint (n:Int),.sl [],.sl [],dint 0,dint 0,dint 0,.sl [],.sl [],.sl []]
 | .list l=>[dint 0,.sl (ints (l.map Int.ofNat)),.sl [],dint 0,dint 0,dint 0,.sl [],.sl [],.sl []]
 | .both a b=>[dint 0,.sl [],.sl [MV.cells a,MV.cells b],dint 0,dint 0,dint 0,.sl [],.sl [],.sl []]
 | .unit=>[dint 0,.sl [],.sl [],dint 0,dint 0,dint 0,.sl [],.sl [],.sl []]
 | .clo b e=>[dint 0,.sl [],.sl [],dint b.kind,dint b.index,dint b.type.kind,.sl (List.map Ty.cells b.type.args),.sl (List.map Tm.cells b.args),.sl (MV.cellss e).reverse]
def MV.cellss:List MV→List (List DV)
 | []=>[]
 | x::r=>MV.cells x::MV.cellss r
end
namespace MV
set_option linter.unusedSimpArgs false
set_option linter.unusedVariables false
set_option linter.unnecessarySimpa false
theorem cellss_map:∀ l:List MV,cellss l=l.map cells
 | []=>rfl
 | x::r=>by simp only [cellss,List.map_cons,cellss_map r]
def numF:MV→Int | .num n=>n|_=>0
def listF:MV→List Int | .list l=>l.map Int.ofNat|_=>[]
def pairF:MV→List MV | .both a b=>[a,b]|_=>[]
def bodyF:MV→Tm | .clo b _=>b|_=>zeroTm
def envF:MV→List MV | .clo _ e=>e.reverse|_=>[]
theorem cells_eq (v:MV):v.cells=[dint v.numF,.sl (ints v.listF),.sl (v.pairF.map cells),dint v.bodyF.kind,dint v.bodyF.index,dint v.bodyF.type.kind,.sl (v.bodyF.type.args.map Ty.cells),.sl (v.bodyF.args.map Tm.cells),.sl (v.envF.map cells)]:=by
 cases v with
 | num n=>rfl
 | list l=>rfl
 | both a b=>simp only [cells,numF,listF,pairF,bodyF,envF];rfl
 | unit=>rfl
 | clo b e=>simp only [cells,numF,listF,pairF,bodyF,envF,cellss_map,List.map_reverse];rfl
def dv (v:MV):DV:=.agg v.cells
theorem fold (v:MV):DV.agg [dint v.numF,.sl (ints v.listF),.sl (v.pairF.map cells),dint v.bodyF.kind,dint v.bodyF.index,dint v.bodyF.type.kind,.sl (v.bodyF.type.args.map Ty.cells),.sl (v.bodyF.args.map Tm.cells),.sl (v.envF.map cells)]=v.dv:=by rw [dv,cells_eq]
theorem cellsD_dv (v:MV):cellsD v.dv=[dint v.numF,.sl (ints v.listF),.sl (v.pairF.map cells),dint v.bodyF.kind,dint v.bodyF.index,dint v.bodyF.type.kind,.sl (v.bodyF.type.args.map Ty.cells),.sl (v.bodyF.args.map Tm.cells),.sl (v.envF.map cells)]:=by rw [dv,cellsD,cells_eq]
theorem isCell_dv (v:MV):v.dv.isCell=false:=rfl
theorem isAgg_dv (v:MV):v.dv.isAgg=true:=rfl
theorem length_cells (v:MV):v.cells.length=9:=by rw [cells_eq];rfl
theorem wide (l:List MV):(∀ e ∈ List.map cells l,e.length=9)=True:=by simp [length_cells]
theorem numF_num (n:Nat):(MV.num n).numF=n:=rfl
theorem listF_list (l:List Nat):(MV.list l).listF=l.map Int.ofNat:=rfl
theorem pairF_both (a b:MV):(MV.both a b).pairF=[a,b]:=rfl
theorem bodyF_clo (b:Tm)(e:List MV):(MV.clo b e).bodyF=b:=rfl
theorem envF_clo (b:Tm)(e:List MV):(MV.clo b e).envF=e.reverse:=rfl
end MV
attribute [go_sem] MV.cells_eq MV.fold MV.cellsD_dv MV.isCell_dv MV.isAgg_dv MV.wide MV.numF_num MV.listF_list MV.pairF_both MV.bodyF_clo MV.envF_clo
def mach6 (u most:Int)(o:Bool):List DV:=[dint u,dint most,dbool o]
def Walk6 (P:Program)(gl:Globs)(fe:FuncId)(most:Int)(ev:Ev6):Prop:=
 ∀ ⦃t:Tm⦄ ⦃e:List MV⦄ ⦃u:Int⦄ ⦃v:MV⦄ ⦃u':Int⦄ ⦃o:Bool⦄ (b:Nat) (M:Int),ev t e u=some (v,u',o)→0≤u→u≤most→0≤M→M+(most - u)≤1073741824→MV.les M e→(e.length:Int)≤M+1 →
  Con1 P gl fe [ptr b,t.dv,.sl (e.reverse.map MV.cells)] [(b,mach6 u most false)] v.dv [(b,mach6 u' most o)]
theorem z2p {most:Int}(hm:most≤1073741824){ev:Ev6}(H:Walk6 Tryz.prog gl 100 most ev){f x v:MV}{u u':Int}{o:Bool}(b:Nat)(M:Int)
  (h:callRun ev f x u=some (v,u',o)) (hu0:0≤u) (hu:u≤most) (hM:0≤M) (hMb:M+(most - u)≤1073741824) (hf:f.le M) (hx:x.le M) :
  Con1 Tryz.prog gl 101 [ptr b,f.dv,x.dv] [(b,mach6 u most false)] v.dv [(b,mach6 u' most o)]:=by
 cases f with
 | num n=>cases h
 | list l=>cases h
 | both a b=>cases h
 | unit=>cases h
 | clo body e=>
  simp only [MV.le] at hf
  have w:=H (e:=x::e) b M h hu0 hu hM hMb (by simp only [MV.les];exact ⟨hx,hf.2⟩) (by simp only [List.length_cons];omega)
  have hfx:=MV.cells_eq x
  have hft:=Tm.fold body
  have hbF:(MV.clo body e).bodyF=body:=rfl
  have heF:(MV.clo body e).envF=e.reverse:=rfl
  have hl:(e.reverse.length:Int)≤M:=by rw [List.length_reverse];exact hf.1
  have htk:List.take e.reverse.length (e.reverse.map MV.cells)=e.reverse.map MV.cells:=List.take_of_length_le (by simp)
  rw [List.reverse_cons,List.map_append] at w
  generalize e.reverse=r at *
  generalize MV.clo body e=f at *
  unfold mach6 at *
  refine t_in Tryz.func101 ?_
  intro X hP hgl hf hfn hn hR hids hfit
  refine t_g0 ?_
  refine t_c1 (j2 @hft (j2 @hbF (j2 @heF (j2 @htk @hfx)))) w ?_
  refine t_ro [(b,[dint u',dint most,dbool o])] trivial ?_
  try simp
  try all_goals exact t_f
end
section
variable {gl:Globs}
def T.level:T→Nat
 | .pair a b=>Nat.max a.level b.level
 | .fn a b=>Nat.max (a.level+1) b.level
 | _=>0
theorem T.level_le (a:T):a.level<a.size:=by
 induction a with
 | nat=>decide
 | list=>decide
 | unit=>decide
 | pair a b iha ihb=>
  simp only [T.level,T.size,Nat.max_def]
  split <;> omega
 | fn a b iha ihb=>
  simp only [T.level,T.size,Nat.max_def]
  split <;> omega
theorem T.level_plain (a:T):a.level=0↔a.plain:=by
 induction a with
 | nat=>simp [T.level,T.plain]
 | list=>simp [T.level,T.plain]
 | unit=>simp [T.level,T.plain]
 | pair a b iha ihb=>
  simp only [T.level,T.plain,← iha,← ihb,Nat.max_def]
  split <;> omega
 | fn a b iha ihb=>
  simp only [T.level,T.plain,Nat.max_def,iff_false]
  split <;> omega
theorem zhp (x y:Nat):(if (y:Int) > (x:Int) then (y:Int) else (x:Int))=((Nat.max x y:Nat):Int):=by
 simp only [Nat.max_def]
 split <;> split <;> omega
theorem T.ty_nat:T.nat.ty=Ty.mk 1 []:=rfl
theorem T.ty_list:T.list.ty=Ty.mk 2 []:=rfl
theorem T.ty_unit:T.unit.ty=Ty.mk 5 []:=rfl
theorem T.ty_pair (a b:T):(T.pair a b).ty=Ty.mk 3 [a.ty,b.ty]:=rfl
theorem T.ty_fn (a b:T):(T.fn a b).ty=Ty.mk 4 [a.ty,b.ty]:=rfl
theorem z17c (a:T)(hs:a.size≤1000000):Con1 Tryz.prog gl 134 [a.ty.dv] [] (dint (a.level:Nat)) []:=by
 induction a with
 | nat=>
  refine t_in Tryz.func134 ?_
  intro X hP hgl hf hfn hn hR hids hfit
  rw [T.ty_nat]
  refine t_g0 ?_
  refine t_r ?_
  simp [go_sem,hP,hgl,hn,T.level] <;> (try omega)
 | list=>
  refine t_in Tryz.func134 ?_
  intro X hP hgl hf hfn hn hR hids hfit
  rw [T.ty_list]
  refine t_g0 ?_
  refine t_r ?_
  simp [go_sem,hP,hgl,hn,T.level] <;> (try omega)
 | unit=>
  refine t_in Tryz.func134 ?_
  intro X hP hgl hf hfn hn hR hids hfit
  rw [T.ty_unit]
  refine t_g0 ?_
  refine t_r ?_
  simp [go_sem,hP,hgl,hn,T.level] <;> (try omega)
 | pair a b iha ihb=>
  simp only [T.size] at hs
  have la:=T.level_le a
  have lb:=T.level_le b
  have wa:=iha (by omega)
  have wb:=ihb (by omega)
  have hm:=zhp a.level b.level
  have fa:=Ty.fold a.ty
  have fb:=Ty.fold b.ty
  have hL:(T.pair a b).level=Nat.max a.level b.level:=rfl
  rw [hL]
  refine t_in Tryz.func134 ?_
  intro X hP hgl hf hfn hn hR hids hfit
  rw [T.ty_pair]
  generalize a.ty=ta at *
  generalize b.ty=tb at *
  refine t_g0 ?_
  refine t_c2 (j2 @fa @fb) wa wb ?_
  refine t_r ?_
  simp [go_sem,hP,hgl,hn,hm] <;> (try omega)
 | fn a b iha ihb=>
  simp only [T.size] at hs
  have la:=T.level_le a
  have lb:=T.level_le b
  have wa:=iha (by omega)
  have wb:=ihb (by omega)
  have hm:=zhp (a.level+1) b.level
  have fa:=Ty.fold a.ty
  have fb:=Ty.fold b.ty
  have hL:(T.fn a b).level=Nat.max (a.level+1) b.level:=rfl
  rw [hL]
  have h1:((a.level+1:Nat):Int)=(a.level:Int)+1:=by omega
  rw [h1] at hm
  refine t_in Tryz.func134 ?_
  intro X hP hgl hf hfn hn hR hids hfit
  rw [T.ty_fn]
  generalize a.ty=ta at *
  generalize b.ty=tb at *
  refine t_g0 ?_
  refine t_c2 (j2 @fa @fb) wa wb ?_
  refine t_r ?_
  simp [go_sem,hP,hgl,hn,hm] <;> (try omega)
theorem z17d (a:T)(ha:a.ok):Con1 Tryz.prog gl 99 [a.ty.dv] [] (.tup [dbool (decide (a.level=0)),dint 0]) []:=by
 have hs:a.size≤64:=ha
 have hc:=T.ty_count a
 have h0:a.ty.checkN=0:=(Ty.checkN_iff _).2 (T.ok_ty ha)
 have w1:=z5w (gl:=gl) a.ty (by omega)
 have w2:=z17c (gl:=gl) a (by omega)
 have ll:=T.level_le a
 have fa:=Ty.fold a.ty
 rw [h0] at w1
 generalize a.ty=ta at *
 refine t_in Tryz.func99 ?_
 intro X hP hgl hf hfn hn hR hids hfit
 refine t_g0 ?_
 refine t_c1 @fa w1 ?_
 refine t_g0 ?_
 refine t_c1 @fa w2 ?_
 refine t_r ?_
 simp [go_sem,hP,hgl,hn] <;> (try omega)
def ofM:(a:T)→a.V→MV
 | .nat,n=>.num n
 | .list,l=>.list l
 | .unit,_=>.unit
 | .pair a b,p=>.both (ofM a p.1) (ofM b p.2)
 | .fn _ _,_=>.unit
theorem zc9:∀ (a:T) (x:a.V),a.plain→MVT a (ofM a x) x
 | .nat,n,_=>.num n
 | .list,l,_=>.list l
 | .unit,_,_=>.unit
 | .pair a b,p,h=>.both (zc9 a p.1 h.1) (zc9 b p.2 h.2)
 | .fn _ _,_,h=>h.elim
theorem zhq (n:T.nat.V):valOf .nat n=Val.mk 1 (Int.ofNat n) [] []:=rfl
theorem zhr (l:T.list.V):valOf .list l=Val.mk 2 0 (List.map Int.ofNat l) []:=rfl
theorem zhs (u:T.unit.V):valOf .unit u=Val.mk 4 0 [] []:=rfl
theorem zca {a b:T}(p:(T.pair a b).V):valOf (.pair a b) p=Val.mk 3 0 [] [valOf a p.1,valOf b p.2]:=rfl
end
section
variable {gl:Globs}
theorem zht (n:Nat):(MV.num n).thing = .iface 3 (dint (n:Int)):=by rw [MV.thing]
theorem zhu (l:List Nat):(MV.list l).thing = .iface 173 (cellM l):=by rw [MV.thing]
theorem zhv (a b:MV):(MV.both a b).thing = .iface 179 (.ref [a.thing,b.thing]):=by rw [MV.thing]
theorem zhw:MV.unit.thing = .iface 183 (.agg []):=by rw [MV.thing]
theorem z17e (n:Nat):Con1 Tryz.prog gl 141 [(MV.num n).thing] [] (Val.mk 1 (n:Nat) [] []).dv []:=by
 rw [zht]
 refine t_in Tryz.func141 ?_
 intro X hP hgl hf hfn hn hR hids hfit
 refine t_g0 ?_
 refine t_r ?_
 simp [go_sem,hP,hgl,hn] <;> (try omega)
 all_goals exact t_f
theorem z17f:Con1 Tryz.prog gl 141 [MV.unit.thing] [] (Val.mk 4 0 [] []).dv []:=by
 rw [zhw]
 refine t_in Tryz.func141 ?_
 intro X hP hgl hf hfn hn hR hids hfit
 refine t_g0 ?_
 refine t_r ?_
 simp [go_sem,hP,hgl,hn] <;> (try omega)
 all_goals exact t_f
theorem z17g (l:List Nat)(n:Nat):ints (List.map Int.ofNat l)++[[dint (n:Int)]]=ints (List.map Int.ofNat (l++[n])):=by simp [ints]
theorem z17h (l:List Nat)(hl:l.length≤1073741824):Con1 Tryz.prog gl 141 [(MV.list l).thing] [] (Val.mk 2 0 (List.map Int.ofNat l) []).dv []:=by
 rw [zhu]
 refine t_in Tryz.func141 ?_
 intro X hP hgl hf hfn hn hR hids hfit
 refine t_g0 ?_
 refine t_a ?_
 refine z0c [(1005,0)] (by simp [go_sem]) (by simp [go_sem,ints] <;> omega) (by simp [go_sem]) (z1f (fun x:List Nat × List Nat=>x.1++x.2=l) (fun x:List Nat × List Nat=>[(.slot 4,.one (.v (cellM x.2))),(.slot 5,.one (.loc 5 0)),(.loc 5,.row ([.v (dint 2),.v (dint 0),.own 1005 (ints (x.1.map Int.ofNat)),.own 0 []])),(.tok 1005,.tk 1 x.1.length),(.slot 2,.one (.loc 2 0)),(.loc 2,.row ([.v (dint 0),.v (dint 0),.own 0 [],.own 0 []]))]) (fun x:List Nat × List Nat=>x.2.length) (([]:List Nat),l) (rfl) ?_)
 rintro ⟨ds,q⟩ hq ih
 simp only at hq
 have hql:ds.length+q.length=l.length:=by rw [← hq];simp
 cases q with
 | nil=>
  have hcm:=z7z
  rw [hcm]
  have hds:ds=l:=by rw [← hq];simp
  subst hds
  refine z00 ?_
  refine t_no ?_
  refine t_g0 ?_
  refine t_r ?_
  simp [go_sem,hP,hgl,hn] <;> (try omega)
  all_goals exact t_f
 | cons n q=>
  have hcm:=z6h n q
  have hon:=z17g ds n
  have hw1:∀ e:List DV,e ∈ ints (List.map Int.ofNat ds)→e.length=1:=by intro e he;simp only [ints,List.mem_map] at he;obtain ⟨x,-,rfl⟩:=he;rfl
  have hl1:(ints (List.map Int.ofNat ds)).length=ds.length:=by simp [ints]
  have hcl:ds.length≤2147483647:=by simp at hql;omega
  have e2:(ds++[n])++q=l:=by rw [← hq];simp
  have e3:q.length<(n::q).length:=by simp
  have hl2:(ds++[n]).length=ds.length+1:=by simp
  have hl3:(ints (List.map Int.ofNat (ds++[n]))).length=ds.length+1:=by simp [ints]
  have hih:=ih (ds++[n],q) e2 e3
  rw [← hon] at hih
  simp only [hl2] at hih
  rw [hcm]
  generalize ints (List.map Int.ofNat ds)=L at *
  refine z00 ?_
  refine z07 ?_
  refine t_rg (j2 @hcl (j2 @hw1 @hl1)) ?_
  refine z00 ?_
  refine t_b ?_
  refine z0e [(1005,30)] @hl1 hih
theorem z17i (a b:T)(x y:MV)(v w:Val)(h1:Con1 Tryz.prog gl 141 [x.thing] [] v.dv [])(h2:Con1 Tryz.prog gl 141 [y.thing] [] w.dv []) :
  Con1 Tryz.prog gl 141 [(MV.both x y).thing] [] (Val.mk 3 0 [] [v,w]).dv []:=by
 rw [zhv]
 have fv:=Val.fold v
 have fw:=Val.fold w
 refine t_in Tryz.func141 ?_
 intro X hP hgl hf hfn hn hR hids hfit
 refine t_g0 ?_
 refine t_c2 trivial h1 h2 ?_
 refine t_r ?_
 simp [go_sem,hP,hgl,hn] <;> (try omega)
 all_goals exact t_f
theorem zcb:∀ (a:T) (x:a.V),a.plain→(ofM a x).nle 1073741824→Con1 Tryz.prog gl 141 [(ofM a x).thing] [] (valOf a x).dv []
 | .nat,n,_,_=>z17e n
 | .list,l,_,h=>z17h l (by simp only [ofM,MV.nle] at h;exact h.1)
 | .unit,_,_,_=>z17f
 | .pair a b,p,hp,h=>by
  simp only [ofM,MV.nle] at h
  exact z17i a b _ _ _ _ (zcb a p.1 hp.1 h.1) (zcb b p.2 hp.2 h.2)
 | .fn _ _,_,hp,_=>hp.elim
theorem z17j (n:Nat):Con1 Tryz.prog gl 138 [(Val.mk 1 (n:Nat) [] []).dv] [] (MV.num n).thing []:=by
 rw [zht]
 refine t_in Tryz.func138 ?_
 intro X hP hgl hf hfn hn hR hids hfit
 refine t_g0 ?_
 refine t_r ?_
 simp [go_sem,hP,hgl,hn] <;> (try omega)
theorem z17k:Con1 Tryz.prog gl 138 [(Val.mk 4 0 [] []).dv] [] MV.unit.thing []:=by
 rw [zhw]
 refine t_in Tryz.func138 ?_
 intro X hP hgl hf hfn hn hR hids hfit
 refine t_g0 ?_
 refine t_r ?_
 simp [go_sem,hP,hgl,hn] <;> (try omega)
theorem z17l (x y:MV)(v w:Val)(h1:Con1 Tryz.prog gl 138 [v.dv] [] x.thing [])(h2:Con1 Tryz.prog gl 138 [w.dv] [] y.thing []) :
  Con1 Tryz.prog gl 138 [(Val.mk 3 0 [] [v,w]).dv] [] (MV.both x y).thing []:=by
 rw [zhv]
 have fv:=Val.fold v
 have fw:=Val.fold w
 have lv:=Val.length_cells v
 have lw:=Val.length_cells w
 refine t_in Tryz.func138 ?_
 intro X hP hgl hf hfn hn hR hids hfit
 refine t_g0 ?_
 refine t_a ?_
 refine z09 (by rw [hP];exact z08) [34] fun K hK=>?_
 simp [go_sem,hP,hgl,hn,fv,fw,lv,lw]
 refine t_c (j2 @fv @fw) (h1) ?_
 refine t_c (j2 @fv @fw) (h2) ?_
 refine z42 (cs:=[x.thing,y.thing]) (y:=.ag [x.thing,y.thing] []) (fun _ _=>z0l) (by simp [go_sem,hP,hgl,hn]) (by simp [go_sem]) (by simp [go_sem]) (by rw [hn];exact Nat.le_of_ble_eq_true rfl) (by rfl) ?_
 simp [go_sem,hP,hgl,hn]
 refine t_e ?_
 clear hK K
 refine t_r ?_
 simp [go_sem,hP,hgl,hn] <;> (try omega)
set_option maxHeartbeats 1000000 in
theorem z17m (l:List Nat):Con1 Tryz.prog gl 138 [(Val.mk 2 0 (List.map Int.ofNat l) []).dv] [] (MV.list l).thing []:=by
 rw [zhu]
 have hll:(List.map Int.ofNat l).length=l.length:=by simp
 refine t_in Tryz.func138 ?_
 intro X hP hgl hf hfn hn hR hids hfit
 have hl2:=Val.fit_list (hfit (Val.mk 2 0 (List.map Int.ofNat l) []).dv (by simp))
 rw [show (Val.mk 2 0 (List.map Int.ofNat l) []).list=List.map Int.ofNat l from rfl] at hl2
 refine t_g0 ?_
 refine t_a ?_
 first|refine z05 [] fun K hK=>?_|refine z09 (by rw [hP];exact z08) [] fun K hK=>?_
 refine t_s0 ?_
 repeat (refine ⟨by omega,?_⟩)
 refine z70 hP hgl (z11h (List.map Int.ofNat l)) (by simp [go_sem]) rfl (by simp [go_sem]) (by simp) (by rw [hn];exact Nat.le_of_ble_eq_true rfl) ?_
 rintro r ψ ⟨b0,rfl,rfl⟩ -
 simp [go_sem]
 refine t_e ?_
 clear hK K
 refine t_a ?_
 refine z2n 3 (by simp [go_sem];rfl) ?_
 intro b3 hb
 simp [go_sem] at hb ⊢
 have hb':b0 ≠ b3:=hb
 let Φ:Nat→Objs:=fun i=>[(b3,[cellM (l.drop i)])]
 have hlast:cellM (l.drop l.length)=nilP:=by rw [List.drop_length];rfl
 refine zb0 hR.2 (f:=175) (fi:=#[]) (ca:=#[.pointer (some ⟨b0,0,none⟩)]) (by simp [go_sem]) (by simp [primOK]) (φ:=(b0,[.sl (ints (List.map Int.ofNat l))])::Φ l.length) ?_ ?_ (Y:=BackY X.P X.gl (List.map Int.ofNat l) Φ (fun _ _=>False)) (R:=fun φ' r'=>φ' = (b0,[.sl (ints (List.map Int.ofNat l))])::Φ 0∧r'.state = .ready∧r'.pending=none) (SL:=[(3,ptr b3)]) ?_ ?_ ?_ ?_ ?_
 ·refine z0t (by simp [go_sem]) (z0t ?_ (by simp [objsIn]))
  simp only [hlast]
  simp [go_sem,hb']
 ·simp [Φ,hb']
 ·intro n x h
  simp only [List.mem_singleton,Prod.mk.injEq] at h
  obtain ⟨rfl,rfl⟩:=h
  simp [go_sem]
 ·intro lp r h1 h2 h3 h4
  have:=z11i (gl:=gl) (List.map Int.ofNat l) (by omega) b0 Φ (fun _=>rfl) (by simp [Φ]) (by simp [Φ];exact hb') (Stop:=fun _ _=>False) (fun _ _ h=>h.elim) lp r (by rw [h3];rfl)
  rw [hll] at this
  rw [hP,hgl]
  refine ⟨this.1,fun D w vs a1 a2 a3 a4 a5 a6=>(this.2 D w vs a1 a2 a3 a4 a5 a6).mono ?_⟩
  rintro e w' ⟨v1,D',φ',r',rfl,hR',rest⟩
  refine ⟨v1,D',φ',r',rfl,?_,rest⟩
  rcases hR' with ⟨rfl,rfl⟩|⟨ψ,-,h⟩
  ·exact ⟨rfl,h1,h2⟩
  ·exact h.elim
 ·intro lp r D0 w0 h1 h2 h3 h4 h5 h6 h7 h8 h9 i x hx
  rw [hP,hgl]
  refine zaz X.n h5 h9 h1 (by rw [h3];rfl) (by rw [h3,hn];decide) (by rw [h3];decide) (by rw [h3];simp) ?_
  intro X' hP' hgl' hf' hn' hmd' hids' hl' hfit'
  rw [h3,h6,h7]
  obtain ⟨n,rfl,hdrop⟩:∃ n:Nat,x=Int.ofNat n∧l.drop i=n::l.drop (i+1):=by
   obtain ⟨hi,hxx⟩:=List.getElem?_eq_some_iff.1 hx
   have hi':i<l.length:=by simpa using hi
   refine ⟨l[i],?_,List.drop_eq_getElem_cons hi'⟩
   rw [← hxx];simp
  rw [hn] at hn'
  clear hP hgl hn
  have hP:=hP'
  have hgl:=hgl'
  have hn:=hn'
  have hlb3:lp ≠ b3:=by simpa [Φ] using hl'
  have hcm:=z6h n (l.drop (i+1))
  simp only [entryR,Φ,h3,parSt,slotSt,heapSt,List.cons_append,List.nil_append]
  refine t_rg @hlb3 ?_
  refine z8t (r:=r) (l:=lp) (by simp [Ctx.rd,hmd']) (by simp [go_sem]) h1 ?_
  simp [go_sem,hlb3,hlb3.symm]
  refine t_a ?_
  refine z05 [18] fun K hK=>?_
  simp [go_sem,hP,hgl,hn,hlb3,hlb3.symm]
  refine z41 (cs:=[dint (n:Int),cellM (l.drop (i+1))]) (y:=.ag [dint (n:Int),cellM (l.drop (i+1))] []) (by simp [go_sem,hP,hgl,hn]) (by simp [go_sem]) (by simp [go_sem]) (by rw [hn];exact Nat.le_of_ble_eq_true rfl) (by rfl) ?_
  simp [go_sem,hP,hgl,hn,hlb3,hlb3.symm]
  refine t_e ?_
  clear hK K
  refine t_a ?_
  refine z6s hmd' (φ:=Φ i) ?_ (by simp [Φ]) (by simp [go_sem,hlb3.symm]) none rfl ?_
  ·refine z0t ?_ (by simp [objsIn])
   rw [hdrop,hcm]
   simp [go_sem,hlb3,hlb3.symm]
  ·simp only [Option.isNone_none,if_true,true_and]
   cases r;simp only [pastL] at h1 h2 ⊢;subst h1 h2;rfl
 ·rintro φ' r' ⟨-,h,-⟩
  rw [h];simp
 ·rintro φ' r' ⟨rfl,-,h⟩ -
  rw [h]
  simp [go_sem,Φ,hb',hb'.symm]
  refine t_rg @hb' ?_
  refine t_r ?_
  simp [go_sem,hP,hgl,hn] <;> (try omega)
theorem zcc:∀ (a:T) (x:a.V),a.plain→Con1 Tryz.prog gl 138 [(valOf a x).dv] [] (ofM a x).thing []
 | .nat,n,_=>z17j n
 | .list,l,_=>z17m l
 | .unit,_,_=>z17k
 | .pair a b,p,hp=>z17l _ _ _ _ (zcc a p.1 hp.1) (zcc b p.2 hp.2)
 | .fn _ _,_,hp=>hp.elim
end
section
variable {gl:Globs}
theorem z17n (n:Nat):(MV.num n).cells=[dint (n:Int),.sl [],.sl [],dint 0,dint 0,dint 0,.sl [],.sl [],.sl []]:=by rw [MV.cells]
theorem z17o (l:List Nat):(MV.list l).cells=[dint 0,.sl (ints (l.map Int.ofNat)),.sl [],dint 0,dint 0,dint 0,.sl [],.sl [],.sl []]:=by rw [MV.cells]
theorem z17p (a b:MV):(MV.both a b).cells=[dint 0,.sl [],.sl [a.cells,b.cells],dint 0,dint 0,dint 0,.sl [],.sl [],.sl []]:=by rw [MV.cells]
theorem z17q:MV.unit.cells=[dint 0,.sl [],.sl [],dint 0,dint 0,dint 0,.sl [],.sl [],.sl []]:=by rw [MV.cells]
theorem z17r (a:T)(x:a.V)(hp:a.plain):Con1 Tryz.prog gl 102 [(valOf a x).dv] [] (ofM a x).dv []:=by
 induction a with
 | nat=>
  have hc:=z17n x
  have hd:(ofM .nat x).dv = .agg (MV.num x).cells:=rfl
  rw [zhq,hd,hc]
  refine t_in Tryz.func102 ?_
  intro X hP hgl hf hfn hn hR hids hfit
  refine t_g0 ?_
  refine t_a ?_
  refine z0e [] @z5v (z2a (0) (fun i=>True) (fun i=>[(.slot 14,.one (.v (dint i))),(.slot 13,.one (.v (dint 0))),(.slot 12,.one (.v (.sl []))),(.slot 2,.one (.loc 2 0)),(.loc 2,.row ([.v (dint 0),.own 0 [],.own 0 [],.v (dint 0),.v (dint 0),.v (dint 0),.own 0 [],.own 0 [],.own 0 []])),(.slot 3,.one (.loc 3 0)),(.loc 3,.row ([.v (dint (Int.ofNat x)),.v (.sl []),.v (.sl []),.v (dint 0),.v (dint 0),.v (dint 0),.v (.sl []),.v (.sl []),.v (.sl [])]))]) (trivial) ?_ ?_)
  ·intro i hi;exact absurd hi (by omega)
  ·intro _
   refine z00 ?_
   refine t_no ?_
   refine t_g0 ?_
   refine t_r ?_
   simp [go_sem,hP,hgl,hn] <;> (try omega)
   rfl
 | list=>
  have hc:=z17o x
  have hd:(ofM .list x).dv = .agg (MV.list x).cells:=rfl
  rw [zhr,hd,hc]
  refine t_in Tryz.func102 ?_
  intro X hP hgl hf hfn hn hR hids hfit
  refine t_g0 ?_
  refine t_a ?_
  refine z0e [] @z5v (z2a (0) (fun i=>True) (fun i=>[(.slot 14,.one (.v (dint i))),(.slot 13,.one (.v (dint 0))),(.slot 12,.one (.v (.sl []))),(.slot 2,.one (.loc 2 0)),(.loc 2,.row ([.v (dint 0),.own 0 [],.own 0 [],.v (dint 0),.v (dint 0),.v (dint 0),.own 0 [],.own 0 [],.own 0 []])),(.slot 3,.one (.loc 3 0)),(.loc 3,.row ([.v (dint 0),.v (.sl (ints (List.map Int.ofNat x))),.v (.sl []),.v (dint 0),.v (dint 0),.v (dint 0),.v (.sl []),.v (.sl []),.v (.sl [])]))]) (trivial) ?_ ?_)
  ·intro i hi;exact absurd hi (by omega)
  ·intro _
   refine z00 ?_
   refine t_no ?_
   refine t_g0 ?_
   refine t_r ?_
   simp [go_sem,hP,hgl,hn] <;> (try omega)
 | unit=>
  have hc:=z17q
  have hd:(ofM .unit x).dv = .agg MV.unit.cells:=rfl
  rw [zhs,hd,hc]
  refine t_in Tryz.func102 ?_
  intro X hP hgl hf hfn hn hR hids hfit
  refine t_g0 ?_
  refine t_a ?_
  refine z0e [] @z5v (z2a (0) (fun i=>True) (fun i=>[(.slot 14,.one (.v (dint i))),(.slot 13,.one (.v (dint 0))),(.slot 12,.one (.v (.sl []))),(.slot 2,.one (.loc 2 0)),(.loc 2,.row ([.v (dint 0),.own 0 [],.own 0 [],.v (dint 0),.v (dint 0),.v (dint 0),.own 0 [],.own 0 [],.own 0 []])),(.slot 3,.one (.loc 3 0)),(.loc 3,.row ([.v (dint 0),.v (.sl []),.v (.sl []),.v (dint 0),.v (dint 0),.v (dint 0),.v (.sl []),.v (.sl []),.v (.sl [])]))]) (trivial) ?_ ?_)
  ·intro i hi;exact absurd hi (by omega)
  ·intro _
   refine z00 ?_
   refine t_no ?_
   refine t_g0 ?_
   refine t_r ?_
   simp [go_sem,hP,hgl,hn] <;> (try omega)
 | pair a b iha ihb=>
  have w1:=iha x.1 hp.1
  have w2:=ihb x.2 hp.2
  have hc:=z17p (ofM a x.1) (ofM b x.2)
  have hd:(ofM (.pair a b) x).dv = .agg (MV.both (ofM a x.1) (ofM b x.2)).cells:=rfl
  have l1:=MV.length_cells (ofM a x.1)
  have l2:=MV.length_cells (ofM b x.2)
  rw [zca,hd,hc]
  generalize valOf a x.1=v1 at *
  generalize valOf b x.2=v2 at *
  generalize ofM a x.1=m1 at *
  generalize ofM b x.2=m2 at *
  have f1:=Val.fold v1
  have f2:=Val.fold v2
  have g1:=MV.cells_eq m1
  have g2:=MV.cells_eq m2
  refine t_in Tryz.func102 ?_
  intro X hP hgl hf hfn hn hR hids hfit
  refine t_g0 ?_
  refine t_a ?_
  refine z0e [(1003,0)] @z5v (z2a (2) (fun i=>True) (fun i=>[(.slot 14,.one (.v (dint i))),(.slot 13,.one (.v (dint 2))),(.slot 12,.one (.v (.sl [v1.cells,v2.cells]))),(.slot 2,.one (.loc 2 0)),(.loc 2,.row ([.v (dint 0),.own 0 [],.own 0 [],.v (dint 0),.v (dint 0),.v (dint 0),.own 0 [],.own 0 [],.own 0 []])),(.slot 3,.one (.loc 3 0)),(.loc 3,.row ([.v (dint 0),.v (.sl []),.own 1003 ([m1.cells,m2.cells].take i),.v (dint 0),.v (dint 0),.v (dint 0),.v (.sl []),.v (.sl []),.v (.sl [])])),(.tok 1003,.tk 9 i)]) (trivial) ?_ ?_)
  ·intro i hi _ hnext
   match i,hi with
   | 0,_=>
    refine z00 ?_
    refine z07 ?_
    refine t_g0 ?_
    refine t_c1 (j2 @f1 @l1) w1 ?_
    refine t_gt (wr [(1003,23)]) @g1 @l1 (hnext trivial)
   | 1,_=>
    refine z00 ?_
    refine z07 ?_
    refine t_g0 ?_
    refine t_c1 (j2 @f2 (j2 @l1 @l2)) w2 ?_
    refine t_gt (wr [(1003,23)]) (j2 @g1 @g2) (j2 @l1 @l2) (hnext trivial)
  ·intro _
   refine z00 ?_
   refine t_no ?_
   refine t_g0 ?_
   refine t_r ?_
   simp [go_sem,hP,hgl,hn] <;> (try omega)
 | fn a b iha ihb=>exact hp.elim
theorem MV.fit_list {v:MV}(h:v.dv.fit):v.listF.length≤2147483648:=by
 rw [MV.dv,MV.cells_eq] at h
 simp only [DV.fit,DV.fit.fits,zev,BIG] at h
 exact h.2.1.1
theorem z17s {a:T}{v:MV}{x:a.V}(h:MVT a v x)(hp:a.plain):Con1 Tryz.prog gl 103 [v.dv,a.ty.dv] [] (valOf a x).dv []:=by
 induction a generalizing v with
 | nat=>
  obtain rfl:=z9v h
  rw [zhq,T.ty_nat]
  have hq:(MV.num x).numF=Int.ofNat x:=rfl
  generalize MV.num x=m at *
  refine t_in Tryz.func103 ?_
  intro X hP hgl hf hfn hn hR hids hfit
  refine t_g0 ?_
  refine t_r ?_
  simp [go_sem,hP,hgl,hn,hq] <;> (try omega)
  all_goals exact t_f
 | list=>
  obtain rfl:=zc2 h
  rw [zhr,T.ty_list]
  have hq:(MV.list x).listF=List.map Int.ofNat x:=rfl
  generalize MV.list x=m at *
  refine t_in Tryz.func103 ?_
  intro X hP hgl hf hfn hn hR hids hfit
  have hl:=MV.fit_list (hfit m.dv (by simp))
  refine t_g0 ?_
  refine t_r ?_
  simp [go_sem,hP,hgl,hn,hq] <;> (try omega)
  all_goals exact t_f
 | unit=>
  rw [zhs,T.ty_unit]
  refine t_in Tryz.func103 ?_
  intro X hP hgl hf hfn hn hR hids hfit
  refine t_g0 ?_
  refine t_r ?_
  simp [go_sem,hP,hgl,hn] <;> (try omega)
  all_goals exact t_f
 | pair a b iha ihb=>
  obtain ⟨y,z,rfl,hy,hz⟩:=zc3 h
  have w1:=iha hy hp.1
  have w2:=ihb hz hp.2
  rw [zca,T.ty_pair]
  have fa:=Ty.fold a.ty
  have fb:=Ty.fold b.ty
  have fy:=MV.fold y
  have fz:=MV.fold z
  generalize a.ty=ta at *
  generalize b.ty=tb at *
  refine t_in Tryz.func103 ?_
  intro X hP hgl hf hfn hn hR hids hfit
  refine t_g0 ?_
  refine t_c2 (j2 @fa (j2 @fb (j2 @fy @fz))) w1 w2 ?_
  refine t_r ?_
  simp [go_sem,hP,hgl,hn] <;> (try omega)
  all_goals exact t_f
 | fn a b iha ihb=>exact hp.elim
end
section
def FnT:List T→T→T
 | [],r=>r
 | a::l,r=>.fn a (FnT l r)
def appl:(l:List T)→{r:T}→(FnT l r).V→Env l→r.V
 | [],_,f,_=>f
 | _::l,_,f,e=>appl l (f e.1) e.2
def valsOf:(l:List T)→Env l→List Val
 | [],_=>[]
 | a::l,e=>valOf a e.1::valsOf l e.2
def mvsOf:(l:List T)→Env l→List MV
 | [],_=>[]
 | a::l,e=>ofM a e.1::mvsOf l e.2
def Plains:List T→Prop
 | []=>True
 | a::l=>a.plain∧a.ok∧Plains l
theorem zcd:∀ (l:List T) (X:Env l),(valsOf l X).length=l.length
 | [],_=>rfl
 | a::l,X=>by simp only [valsOf,List.length_cons,zcd l X.2]
theorem zce:∀ (l:List T) (X:Env l),(mvsOf l X).length=l.length
 | [],_=>rfl
 | a::l,X=>by simp only [mvsOf,List.length_cons,zce l X.2]
theorem z9w {r:T}:∀ (l:List T) (X:Env l) (i:Nat),i<l.length→Plains l→∃ (a:T) (x:a.V),(valsOf l X)[i]? = some (valOf a x)∧(mvsOf l X)[i]? = some (ofM a x)∧FnT (l.drop i) r = .fn a (FnT (l.drop (i+1)) r)∧a.plain∧a.ok
 | [],X,i,h,_=>absurd h (Nat.not_lt_zero _)
 | a::l,X,0,h,hp=>⟨a,X.1,rfl,rfl,rfl,hp.1,hp.2.1⟩
 | a::l,X,i+1,h,hp=>by
  obtain ⟨b,x,h1,h2,h3,h4⟩:=z9w (r:=r) l X.2 i (by simpa using h) hp.2.2
  exact ⟨b,x,by simpa [valsOf] using h1,by simpa [mvsOf] using h2,by simpa using h3,h4⟩
theorem z9x {a:T}(x:a.V)(hp:a.plain)(hs:a.ok):(valOf a x).checkN=0:=by
 obtain ⟨v1,v2⟩:=z50 a x hp
 have hs:a.size≤64:=hs
 unfold Val.checkN
 rw [if_pos v1,if_neg (by rw [Val.nodes_count _ v1];omega)]
theorem zcf:∀ (a:T) (x:a.V),a.plain→(valOf a x).tyN=a.ty
 | .nat,n,_=>by rw [Val.tyN_eq];rfl
 | .list,l,_=>by rw [Val.tyN_eq];rfl
 | .unit,_,_=>by rw [Val.tyN_eq];rfl
 | .pair a b,p,h=>by
  rw [Val.tyN_eq,zca]
  simp only [Val.kind,Val.args,List.map_cons,List.map_nil,zcf a p.1 h.1,zcf b p.2 h.2]
  rfl
 | .fn _ _,_,h=>h.elim
theorem zhx {a:T}(x:a.V)(hp:a.plain)(hs:a.ok):(valOf a x).typeE=(a.ty,0):=by
 unfold Val.typeE
 rw [z9x x hp hs,zcf a x hp]
 rfl
theorem zhy {t:Tm}{a:T}{F:Env []→a.V}(h:Dn [] t a F):t.typeE []=(a.ty,0)∨(t.typeE []).2=4:=by
 have hc:ctxN []=0:=rfl
 unfold Tm.typeE Tm.typedE
 rw [if_pos hc]
 by_cases h0:t.checkN=0
 ·rw [if_pos h0]
  exact z65 h
 ·rw [if_neg h0]
  right
  have hs:=z1j h
  unfold Tm.checkN at h0 ⊢
  rw [if_pos hs] at h0 ⊢
  split at h0
  ·rename_i hq;rw [if_pos hq]
  ·exact absurd rfl h0
def callsRun (ev:Ev6):MV→List MV→Int→Rn
 | r,[],u=>some (r,u,false)
 | r,x::l,u=>match callRun ev r x u with
  | none=>none
  | some (v,u1,true)=>some (v,u1,true)
  | some (v,u1,false)=>callsRun ev v l u1
def call6N (most:Int)(t:Tm)(xs:List MV):Rn:=
 match ev6 most (most.toNat+1) t [] 0 with
 | none=>none
 | some (v,u,true)=>some (v,u,true)
 | some (v,u,false)=>callsRun (ev6 most (most.toNat+1)) v xs u
theorem zhz {most:Int}{d:Nat}{ev:Ev6}(H:Evs most d ev):∀ (l:List T) {r:T} {f:MV} {F:(FnT l r).V} (X:Env l) {u:Int},MVT (FnT l r) f F→Plains l→u≤most→most - u<d →
  Out most (fun v=>MVT r v (appl l F X)) u (callsRun ev f (mvsOf l X) u)
 | [],r,f,F,X,u,hf,hp,hu,hd=>⟨f,u,false,rfl,by omega,hu,fun _=>hf⟩
 | a::l,r,f,F,X,u,hf,hp,hu,hd=>by
  obtain ⟨g,u1,o1,h1,l1,m1,q1⟩:=z59 H hf (zc9 a X.1 hp.1) hu hd
  simp only [mvsOf,callsRun,h1]
  cases o1 with
  | true=>exact ⟨g,u1,true,rfl,l1,m1,fun h=>by cases h⟩
  | false=>exact (zhz H l X.2 (q1 rfl) hp.2.2 m1 (by omega)).mono l1 fun _ h=>h
theorem zi0 {most:Int}(hm:0≤most){t:Tm}{l:List T}{r:T}{F:Env []→(FnT l r).V}(h:Dn [] t (FnT l r) F)(X:Env l)(hp:Plains l) :
  Out most (fun v=>MVT r v (appl l (F ()) X)) 0 (call6N most t (mvsOf l X)):=by
 have H:=zc7 most (most.toNat+1)
 obtain ⟨v,u,o,h1,l1,m1,q1⟩:=H h .nil hm (by omega)
 unfold call6N
 rw [h1]
 cases o with
 | true=>exact ⟨v,u,true,rfl,l1,m1,fun h=>by cases h⟩
 | false=>exact (zhz H l X (q1 rfl) hp m1 (by omega)).mono l1 fun _ h=>h
def callOut (t:Tm)(l:List T){r:T}(F:(FnT l r).V)(X:Env l)(work:Int):Val × Int × Int:=
 if (t.typeE []).2=0 then match call6N work t (mvsOf l X) with
  | some (_,u,false)=>(valOf r (appl l F X),u,0)
  | _=>(zeroV,0,5)
 else (zeroV,0,(t.typeE []).2)
theorem zi1 {t:Tm}{l:List T}{r:T}{F:Env []→(FnT l r).V}(h:Dn [] t (FnT l r) F)(X:Env l)(work:Int) :
  (callOut t l (F ()) X work).2.2=4∨(callOut t l (F ()) X work).2.2=5∨((callOut t l (F ()) X work).2.2=0∧(callOut t l (F ()) X work).1=valOf r (appl l (F ()) X)):=by
 unfold callOut
 by_cases h0:(t.typeE []).2=0
 ·rw [if_pos h0]
  split
  ·exact .inr (.inr ⟨rfl,rfl⟩)
  ·exact .inr (.inl rfl)
 ·rw [if_neg h0]
  rcases zhy h with h1|h1
  ·rw [h1] at h0;exact absurd rfl h0
  ·exact .inl h1
end
section
theorem zcg:∀ (a:T) {v:MV} {x:a.V},a.plain→Tl a v x→v=ofM a x
 | .nat,_,_,_,h=>h
 | .list,_,_,_,h=>h
 | .unit,_,_,_,h=>h
 | .pair a b,v,p,hp,h=>by
  obtain ⟨x,y,rfl,h1,h2⟩:=h
  rw [zcg a hp.1 h1,zcg b hp.2 h2]
  rfl
 | .fn _ _,_,_,hp,_=>hp.elim
theorem zch:∀ (a:T) (x:a.V),a.plain→Tl a (ofM a x) x
 | .nat,_,_=>rfl
 | .list,_,_=>rfl
 | .unit,_,_=>rfl
 | .pair a b,p,hp=>⟨_,_,rfl,zch a p.1 hp.1,zch b p.2 hp.2⟩
 | .fn _ _,_,hp=>hp.elim
theorem zi2 {r:T}:∀ (l:List T) (X:Env l) {g:MV} {F:(FnT l r).V},Plains l→Tl (FnT l r) g F→∃ (w:MV) (c d0:Nat),(∀ d,d0≤d→callC (evS d) g (mvsOf l X)=some (w,c))∧Tl r w (appl l F X)
 | [],_,g,_,_,h=>⟨g,0,0,fun d _=>z9u _ _,h⟩
 | a::l,X,g,F,hp,h=>by
  obtain ⟨v,c1,d1,hv,h1⟩:=z57 h (zch a X.1 hp.1)
  obtain ⟨w,c2,d2,h2,hw⟩:=zi2 l X.2 hp.2.2 hv
  exact ⟨w,c1+c2,max d1 d2,fun d hd=>h1 d (by omega) _ _ _ (h2 d (by omega)),hw⟩
def callS (d:Nat)(t:Tm)(xs:List MV):Option (MV × Nat):=
 match evS d t [] with
 | none=>none
 | some (g,c1)=>match callC (evS d) g xs with
  | none=>none
  | some (w,c2)=>some (w,c1+c2)
theorem z17t {d:Nat}{t:Tm}{xs:List MV}{w:MV}{c:Nat}(h:callS d t xs=some (w,c)):∃ g c1 c2,evS d t []=some (g,c1)∧callC (evS d) g xs=some (w,c2)∧c=c1+c2:=by
 unfold callS at h
 split at h
 ·cases h
 ·rename_i g c1 h1
  split at h
  ·cases h
  ·rename_i w' c2 h2
   cases h
   exact ⟨g,c1,c2,h1,h2,rfl⟩
theorem zi3 {t:Tm}{l:List T}{r:T}{F:Env []→(FnT l r).V}(h:Dn [] t (FnT l r) F)(X:Env l)(hp:Plains l)(hr:r.plain) :
  ∃ c d0,∀ d,d0≤d→callS d t (mvsOf l X)=some (ofM r (appl l (F ()) X),c):=by
 obtain ⟨g,c1,d1,h1,hg⟩:=z164 h (e:=[]) (ρ:=()) rfl
 obtain ⟨w,c2,d2,h2,hw⟩:=zi2 l X hp hg
 have hw':=zcg r hr hw
 subst hw'
 refine ⟨c1+c2,max d1 d2,fun d hd=>?_⟩
 unfold callS
 rw [h1 d (by omega)]
 simp only
 rw [h2 d (by omega)]
def outC (v:Val)(c:Nat)(work:Int):DV:=if (c:Int)≤work then .tup [v.dv,dint (c:Int),dint 0] else .tup [zeroV.dv,dint 0,dint 5]
theorem z17u {v:Val}{c:Nat}{work:Int}(h:(c:Int)≤work):outC v c work = .tup [v.dv,dint (c:Int),dint 0]:=if_pos h
theorem zi4 {v:Val}{c:Nat}{work:Int}(h:¬ (c:Int)≤work):outC v c work = .tup [zeroV.dv,dint 0,dint 5]:=if_neg h
end
section
variable {gl:Globs}
def things (l:List MV):List (List DV):=l.map fun x=>[x.thing]
theorem z17v:things []=[]:=rfl
theorem z17w (l:List MV):(things l).length=l.length:=by simp [things]
theorem z17x (l:List MV):∀ e ∈ things l,e.length=1:=by
 intro e he
 simp only [things,List.mem_map] at he
 obtain ⟨x,-,rfl⟩:=he
 rfl
theorem z17y {l:List MV}{i:Nat}{v:MV}(h:l[i]? = some v):things (l.take (i+1))=things (l.take i)++[[v.thing]]:=by
 rw [List.take_add_one,h]
 simp [things]
set_option maxHeartbeats 4000000 in
set_option maxRecDepth 100000 in
theorem zi5 (har:globOf gl 0=some arEls)(t:Tm)(l:List T)(r:T)(Z:Env l)(y:r.V)(c d:Nat)(hcs:callS d t (mvsOf l Z)=some (ofM r y,c))(ht:t.checkN=0)(hi:t.inferN []=((FnT l r).ty,0))(hl:Plains l)(hll:l.length≤1000000)(hr:r.plain)(hro:r.ok)(wk:Nat)(hwk:wk≤65536)(M:Nat)(hM:M≤1073000000)(hX:MV.nles M (mvsOf l Z)) :
  Con1 Tryz.prog gl 105 [t.dv,.sl ((valsOf l Z).map Val.cells),dint (wk:Int)] [] (outC (valOf r y) c wk) []:=by
 obtain ⟨g,c1,c2,e1,e2,rfl⟩:=z17t hcs
 have hte:=z9p (gl:=gl) har t _ ht hi
 have hvl:=zcd l Z
 have hml:=zce l Z
 have hft:=Tm.fold t
 have hfz:(Ty.mk 0 []).cells=[dint 0,.sl []]:=rfl
 have hfr:=Ty.fold (FnT l r).ty
 refine t_in Tryz.func105 ?_
 intro X hP hgl hf hfn hn hR hids hfit
 refine t_g0 ?_
 refine t_c1 @hft hte ?_
 refine t_g0 ?_
 refine t_a ?_
 refine z0e [(1011,0)] (j2 @hvl @z17v) (z2a (l.length) (fun i=>True) (fun i=>[(.slot 2,.one (.v (dint (wk:Int)))),(.slot 3,.one (.loc 3 0)),(.loc 3,.row ([.v (dint t.kind),.v (dint t.index),.v (dint t.type.kind),.v (.sl (t.type.args.map Ty.cells)),.v (.sl (t.args.map Tm.cells))])),(.slot 6,.one (.loc 6 0)),(.loc 6,.row ([.v (dint 0),.v (dint 0),.own 0 [],.own 0 []])),(.slot 9,.one (.loc 9 0)),(.loc 9,.row ([.v (dint (FnT (l.drop i) r).ty.kind),.v (.sl ((FnT (l.drop i) r).ty.args.map Ty.cells))])),(.slot 11,.one (.own 1011 (things ((mvsOf l Z).take i)))),(.tok 1011,.tk 1 i),(.slot 30,.one (.v (.sl ((valsOf l Z).map Val.cells)))),(.slot 31,.one (.v (dint l.length))),(.slot 32,.one (.v (dint i)))]) (trivial) ?_ ?_)
 ·intro i hi _ hnext
  obtain ⟨a,x,g1,g2,g3,g4,g5⟩:=z9w (r:=r) l Z i hi hl
  have hvg:(List.map Val.cells (valsOf l Z))[i]? = some (valOf a x).cells:=by rw [List.getElem?_map,g1];rfl
  have hfv:=Val.fold (valOf a x)
  have hcv:=Val.cells_eq (valOf a x)
  have hvc:=(z50 a x g4).2
  have hsz:a.size≤64:=g5
  have w1:=z11k (gl:=gl) (valOf a x) (by omega)
  rw [zhx x g4 g5] at w1
  have w2:=zbr (gl:=gl) a.ty a.ty
  rw [show a.ty.same a.ty=true from (Ty.same_iff _ _).2 rfl] at w2
  have w3:=zcc (gl:=gl) a x g4
  have hti:(FnT (l.drop i) r).ty=Ty.mk 4 [a.ty,(FnT (l.drop (i+1)) r).ty]:=by rw [g3,T.ty_fn]
  have hfa:=Ty.fold a.ty
  have hsn:=z17y g2
  have hln:(things ((mvsOf l Z).take i)).length=i:=by rw [z17w,List.length_take];omega
  have hwid:=z17x ((mvsOf l Z).take i)
  have hil:i≤2147483647:=by omega
  have hil2:i+1≤2147483647:=by omega
  generalize (FnT (l.drop (i+1)) r).ty=ty' at *
  generalize (FnT (l.drop i) r).ty=ty0 at *
  generalize a.ty=ta at *
  generalize things ((mvsOf l Z).take i)=L at *
  generalize things ((mvsOf l Z).take (i+1))=L' at *
  subst hti
  subst hsn
  have hct:=Ty.cells_eq ty'
  refine z00 ?_
  refine z07 ?_
  refine t_g (j2 @hvg @hcv) ?_
  refine t_c1 @hfv w1 ?_
  refine t_g0 ?_
  refine t_c1 @hfa w2 ?_
  refine t_g0 ?_
  refine t_c1 (j2 @hfv (j2 @hwid (j2 @hln (j2 @hil @hil2)))) w3 ?_
  refine t_gt (wr [(1011,62)]) @hct @hln (hnext trivial)
 ·intro _
  have hdl:FnT (l.drop l.length) r=r:=by rw [List.drop_length];rfl
  have htk:(mvsOf l Z).take l.length=mvsOf l Z:=by rw [← hml];exact List.take_length
  rw [hdl,htk]
  have wd:=zc1 (gl:=gl) r hr hro
  have hfr:=Ty.fold r.ty
  have hwn:¬ ((wk:Int)<0):=by omega
  have hwm:¬ (65536<(wk:Int)):=by omega
  have HW:=zc0 (gl:=gl) (most:=wk) (by omega) (fun ev h1 h2=>z16h (by omega) h1 h2) d
  have HN:=z6b wk d
  have ng:=HN M e1 (by simp only [MV.nles])
  refine z00 ?_
  refine t_no ?_
  refine t_g0 ?_
  refine t_c1 @hfr wd ?_
  refine t_g (j2 @hwn @hwm) ?_
  refine z2n 85 (by simp [go_sem];rfl) ?_
  intro b hb
  simp [go_sem] at hb ⊢
  have we:=HW b M e1 (Nat.zero_le _) (by omega) (by simp only [MV.nles])
  have henv:MV.envM []=nilP:=by rw [MV.envM]
  rw [henv,Nat.zero_add,z0i (Nat.zero_le _)] at we
  by_cases hf1:c1≤wk
  ·rw [z26 hf1,z0i hf1] at we
   have wc:=z9t (gl:=gl) (most:=wk) (by omega) HW HN b (M+c1) e2 hf1 (by omega) ng (MV.nles_mono (by omega) _ hX)
   rw [z0i hf1] at wc
   have hmt:(mvsOf l Z).map (fun x=>[x.thing])=things (mvsOf l Z):=rfl
   rw [hmt] at wc
   by_cases hf2:c1+c2≤wk
   ·rw [z26 hf2,z0i hf2] at wc
    have hnl:=z54 HN e2 ng (MV.nles_mono (by omega) _ hX)
    have wp:=zcb (gl:=gl) r y hr (MV.nle_mono (by omega) _ hnl)
    have hfy:=Val.fold (valOf r y)
    rw [z17u (by omega)] at hR
    refine t_c1 @hft we ?_
    refine t_g0 ?_
    refine t_c1 trivial wc ?_
    refine t_g0 ?_
    refine t_c1 trivial wp ?_
    refine t_r ?_
    simp [go_sem,hP,hgl,hn] <;> (try omega)
    all_goals exact t_f
   ·rw [z32 hf2,z27 hf2] at wc
    rw [zi4 (by omega)] at hR
    refine t_c1 @hft we ?_
    refine t_g0 ?_
    refine t_c1 trivial wc ?_
    refine t_g0 ?_
    refine t_r ?_
    simp [go_sem,hP,hgl,hn,zeroV] <;> (try omega)
    all_goals exact t_f
  ·rw [z32 hf1,z27 hf1] at we
   rw [zi4 (by omega)] at hR
   refine t_c1 @hft we ?_
   refine t_g0 ?_
   refine t_r ?_
   simp [go_sem,hP,hgl,hn,zeroV] <;> (try omega)
   all_goals exact t_f
end
section
variable {gl:Globs}
theorem zi6:∀ d,WatchB Tryz.prog gl 59 (evB d)
 | 0=>by intro t e v c k u b M h;cases h
 | d+1=>by
  have H:=zi6 d
  intro t e v c k u b M h hM hu he
  rw [evB] at h
  by_cases h1:t.kind=1
  ·rw [if_pos h1] at h
   split at h
   ·rename_i hi
    cases h
    exact z15s t e u b h1 hi.1 hi.2
   ·cases h
  rw [if_neg h1] at h
  by_cases h2:t.kind=2
  ·rw [if_pos h2] at h
   split at h
   ·cases h
   ·rename_i hl
    cases h
    cases ha:t.args with
    | nil=>rw [ha] at hl;exact absurd rfl hl
    | cons x r=>
     have:t.argN 0=x:=by simp [Tm.argN,ha]
     rw [this]
     exact z15r d t e u b h2 x r ha
  rw [if_neg h2] at h
  split at h
  ·cases h
  rename_i h3
  split at h
  ·cases h
  rename_i l c1 k1 hl
  obtain ⟨⟨w,c2,k2⟩,hn,hq⟩:=Option.map_eq_some_iff.1 h
  cases hq
  exact z162 H t e l c1 k1 w c2 k2 u b M h1 h2 (by omega) hl hn (by omega) (by omega) he
end
section
theorem z17z {l:List Int}{F:Ty→List Ty→Nat→Tm × Nat}{B:Nat}(hB:16≤B)(hD:Draws l F (fun _ _ x=>x.shape=true))(hF:Small l F B):Small l (endD l F) (3 * B+4):=fun t g p ht hg hp=>by
 have:=zgj hD hF t g p ht hg hp
 omega
theorem z180 {l:List Int}{F:Ty→List Ty→Nat→Tm × Nat}{B:Nat}(hB:16≤B)(hD:Draws l F (fun _ _ x=>x.shape=true))(hF:Small l F B)(k:Int):Small l (fun t g p=>stepD l F t g k p) (3 * B+4):=by
 intro t g p ht hg hp
 have hg1:∀ a:List Ty,(∀ x ∈ a,x.small)→∀ x ∈ g++a,x.small:=by
  intro a ha x hx
  rcases List.mem_append.1 hx with hx|hx
  ·exact hg x hx
  ·exact ha x hx
 have hE:=z17z hB hD hF t g p ht hg hp
 obtain ⟨s1,s2⟩:=z4y l (n:=0) hp (by decide)
 show (stepD l F t g k p).1.count≤_
 unfold stepD
 split
 ·have gs:=hg1 [(typeD l 0 p).1] (by simpa using s2)
  have a:=hF t _ _ ht gs s1
  have b:=hF _ g _ s2 hg (hD t _ _ ht gs s1).1
  show 1+((1+(_+0))+(_+0))≤_;omega
 split
 ·have a:=hF t g _ ht hg s1
  have b:=hF _ g _ s2 hg (hD t g _ ht hg s1).1
  show 1+((1+(_+(_+0)))+0)≤_;omega
 split
 ·have gs:=hg1 [Ty.mk 1 [],t] (by intro x hx;simp at hx;rcases hx with rfl|rfl;exact z24;exact ht)
  have d:=(hD t _ _ ht gs hp).1
  have a:=hF t _ _ ht gs hp
  have b:=hF t g _ ht hg d
  have c:=z9n l (F t g (F t (g++[Ty.mk 1 [],t]) p).2).2
  show 1+(_+((1+((1+(_+0))+0))+(_+0)))≤_;omega
 split
 ·have gs:=hg1 [Ty.mk 1 [],Ty.mk 2 [],t] (by intro x hx;simp at hx;rcases hx with rfl|rfl|rfl;exact z24;exact z3e;exact ht)
  have d:=(hD t _ _ ht gs hp).1
  have a:=hF t _ _ ht gs hp
  have b:=hF t g _ ht hg d
  have c:=hF (Ty.mk 2 []) g _ z3e hg (hD t g _ ht hg d).1
  show 1+(_+((1+((1+((1+(_+0))+0))+0))+(_+0)))≤_;omega
 split
 ·have a:=hF _ g _ s2 hg s1
  have b:=hF t g _ ht hg (hD _ g _ s2 hg s1).1
  show 1+((1+(_+(_+0)))+0)≤_;omega
 split
 ·split
  ·rename_i i hi
   obtain ⟨f1,f2,f3⟩:=zbc hi
   obtain ⟨c0,c1,-⟩:=(hg _ (z61 f1).1).arg (.inr f2)
   have a:=hF _ g _ c0 hg hp
   show 1+((1+0)+(_+0))≤_;omega
  ·omega
 ·omega
def drawC:Nat→Nat
 | 0=>45
 | n+1=>3 * drawC n+4
theorem zi7:∀ n,16≤drawC n
 | 0=>by decide
 | n+1=>by have:=zi7 n;simp only [drawC];omega
theorem zi8 (l:List Int):∀ n,Small l (termD l n) (drawC n)
 | 0=>by intro t g p ht hg hp;have:=zgh l t ht g p;have:=ht.2;show _≤45;simp only [termD];omega
 | n+1=>by
  intro t g p ht hg hp
  have hq:=z62 (t:=t) (g:=g) hp
  have ih:=z180 (zi7 n) (z4z z9b n) (zi8 l n)
  unfold termD
  split
  ·rename_i x q hx
   have:=zbs hx
   simp only [drawC];omega
  ·rename_i q hx
   rw [hx] at hq
   exact ih _ t g _ ht hg (z0s hq)
def Tm.closedN:Tm→Nat→Bool
 | .mk k i _ a,n=>if k=1 then decide (0≤i) && decide (i.toNat<n) else closeds a (if k=2 then n+1 else n)
where
 closeds:List Tm→Nat→Bool
  | [],_=>true
  | a::r,n=>a.closedN n && closeds r n
theorem Tm.closedN_eq (t:Tm)(n:Nat):t.closedN n=if t.kind=1 then decide (0≤t.index) && decide (t.index.toNat<n) else closedN.closeds t.args (if t.kind=2 then n+1 else n):=by cases t;rw [closedN];rfl
theorem Tm.closeds_iff (l:List Tm)(n:Nat):closedN.closeds l n=true↔∀ a ∈ l,a.closedN n=true:=by
 induction l with
 | nil=>simp [closedN.closeds]
 | cons a r ih=>simp [closedN.closeds,ih]
theorem zi9 {l:List Tm}{g h:List Ty}(e:∀ a ∈ l,a.inferN g=a.inferN h):Tm.inferN.infers l g=Tm.inferN.infers l h:=by
 induction l with
 | nil=>rfl
 | cons a r ih=>simp only [Tm.inferN.infers,e a (by simp),ih fun x hx=>e x (by simp [hx])]
theorem z181 (t:Tm):∀ (l g:List Ty),t.closedN l.length=true→t.inferN (g++l)=t.inferN l:=by
 induction t using Tm.ind with
 | h t ih=>
 intro l g hc
 rw [Tm.closedN_eq] at hc
 rw [Tm.inferN_eq t (g++l),Tm.inferN_eq t l]
 by_cases h1:t.kind=1
 ·rw [if_pos h1] at hc ⊢
  rw [if_pos h1]
  simp only [Bool.and_eq_true,decide_eq_true_eq] at hc
  have h2:¬ ((g++l).length:Int)≤t.index:=by simp;omega
  have h3:¬ (l.length:Int)≤t.index:=by omega
  rw [if_neg h2,if_neg h3]
  have e:(g++l).length - 1 - t.index.toNat=g.length+(l.length - 1 - t.index.toNat):=by simp;omega
  rw [e,List.getD_eq_getElem?_getD,List.getElem?_append_right (by omega),Nat.add_sub_cancel_left,List.getD_eq_getElem?_getD]
 ·rw [if_neg h1] at hc ⊢
  rw [if_neg h1]
  rw [Tm.closeds_iff] at hc
  have e:Tm.inferN.infers t.args (if t.kind=2 then g++l++[t.type] else g++l)=Tm.inferN.infers t.args (if t.kind=2 then l++[t.type] else l):=by
   by_cases h2:t.kind=2
   ·rw [if_pos h2,if_pos h2]
    rw [if_pos h2] at hc
    refine zi9 fun a ha=>?_
    rw [List.append_assoc]
    exact ih a ha (l++[t.type]) g (by simpa using hc a ha)
   ·rw [if_neg h2,if_neg h2]
    rw [if_neg h2] at hc
    exact zi9 fun a ha=>ih a ha l g (hc a ha)
  rw [e]
theorem zci {t:Tm}(h:t.closedN 0=true)(g:List Ty):t.inferN g=t.inferN []:=by
 have:=z181 t [] g (by simpa using h)
 simpa using this
theorem z33 {k:Int}{y:Ty}{l:List Tm}{g:List Ty}{ts:List Ty}(hk:¬ k=1)(h:Tm.inferN.infers l (if k=2 then g++[y] else g)=(ts,0)):(Tm.mk k 0 y l).inferN g=ruleN k y ts:=by
 rw [Tm.inferN_eq]
 show (if k=1 then _ else if (Tm.inferN.infers l (if k=2 then g++[y] else g)).2=0 then ruleN k y (Tm.inferN.infers l (if k=2 then g++[y] else g)).1 else _)=_
 rw [if_neg hk,h,if_pos rfl]
theorem z9y {a:Tm}{g:List Ty}{s:Ty}(h:a.inferN g=(s,0)):Tm.inferN.infers [a] g=([s],0):=by simp [Tm.inferN.infers,h]
theorem zcj {a b:Tm}{g:List Ty}{s t:Ty}(h:a.inferN g=(s,0))(h':b.inferN g=(t,0)):Tm.inferN.infers [a,b] g=([s,t],0):=by simp [Tm.inferN.infers,h,h']
theorem zia {a b c:Tm}{g:List Ty}{s t u:Ty}(h:a.inferN g=(s,0))(h':b.inferN g=(t,0))(h'':c.inferN g=(u,0)):Tm.inferN.infers [a,b,c] g=([s,t,u],0):=by simp [Tm.inferN.infers,h,h',h'']
theorem zck {y:Ty}(h:y.ok):okN y=(y,0):=by unfold okN;rw [if_pos ((Ty.checkN_iff y).2 h)]
theorem z82 (a:Ty):a.same a=true:=(Ty.same_iff a a).2 rfl
theorem z4i {k:Int}{s t:Ty}(hk:k=3∨k=4)(hs:s.shape=true)(ht:t.shape=true)(hc:1+s.count+t.count≤64):(Ty.mk k [s,t]).ok:=⟨z4x hk hs ht,by rw [show (Ty.mk k [s,t]).count=1+(s.count+(t.count+0)) from rfl];omega⟩
theorem z6i {g:List Ty}{s t:Ty}{f x:Tm}(hf:f.inferN g=(Ty.mk 4 [s,t],0))(hx:x.inferN g=(s,0)):(nT 3 [f,x]).inferN g=(t,0):=by
 unfold nT
 rw [z33 (by decide) (zcj hf hx)]
 unfold ruleN
 rw [if_neg (by decide),if_pos rfl,if_pos ⟨rfl,z82 s⟩]
 rfl
theorem z5a {g:List Ty}{s t:Ty}{x:Tm}(hx:x.inferN (g++[s])=(t,0))(ho:(Ty.mk 4 [s,t]).ok):(Tm.mk 2 0 s [x]).inferN g=(Ty.mk 4 [s,t],0):=by
 rw [z33 (by decide) (by rw [if_pos rfl];exact z9y hx)]
 unfold ruleN
 rw [if_pos rfl]
 exact zck ho
theorem zib {g:List Ty}{s t:Ty}{x y:Tm}(hx:x.inferN g=(s,0))(hy:y.inferN g=(t,0))(ho:(Ty.mk 3 [s,t]).ok):(nT 10 [x,y]).inferN g=(Ty.mk 3 [s,t],0):=by
 unfold nT
 rw [z33 (by decide) (zcj hx hy)]
 exact zck ho
theorem z182 {g:List Ty}{s t:Ty}{x:Tm}(hx:x.inferN g=(Ty.mk 3 [s,t],0)):(nT 11 [x]).inferN g=(s,0):=by
 unfold nT
 rw [z33 (by decide) (z9y hx)]
 rfl
theorem z183 {g:List Ty}{s t:Ty}{x:Tm}(hx:x.inferN g=(Ty.mk 3 [s,t],0)):(nT 12 [x]).inferN g=(t,0):=by
 unfold nT
 rw [z33 (by decide) (z9y hx)]
 rfl
theorem z184 {g:List Ty}{t:Ty}{x f n:Tm}(hx:x.inferN g=(t,0))(hf:f.inferN g=(Ty.mk 4 [Ty.mk 1 [],Ty.mk 4 [t,t]],0))(hn:n.inferN g=(Ty.mk 1 [],0)):(Tm.mk 6 0 t [x,f,n]).inferN g=(t,0):=by
 rw [z33 (by decide) (zia hx hf hn)]
 unfold ruleN
 rw [if_neg (by decide),if_neg (by decide),if_neg (by decide),if_neg (by decide),if_pos rfl,if_pos ⟨z82 t,z82 _,rfl⟩]
theorem z185 {g:List Ty}{t:Ty}{x f n:Tm}(hx:x.inferN g=(t,0))(hf:f.inferN g=(Ty.mk 4 [Ty.mk 1 [],Ty.mk 4 [Ty.mk 2 [],Ty.mk 4 [t,t]]],0))(hn:n.inferN g=(Ty.mk 2 [],0)):(Tm.mk 9 0 t [x,f,n]).inferN g=(t,0):=by
 rw [z33 (by decide) (zia hx hf hn)]
 unfold ruleN
 rw [if_neg (by decide),if_neg (by decide),if_neg (by decide),if_neg (by decide),if_neg (by decide),if_neg (by decide),if_neg (by decide),if_pos rfl,if_pos ⟨z82 t,z82 _,rfl⟩]
theorem zic {g:List Ty}{x:Tm}(hx:x.inferN g=(Ty.mk 1 [],0)):(nT 5 [x]).inferN g=(Ty.mk 1 [],0):=by
 unfold nT
 rw [z33 (by decide) (z9y hx)]
 rfl
theorem z186 {g:List Ty}{x y:Tm}(hx:x.inferN g=(Ty.mk 1 [],0))(hy:y.inferN g=(Ty.mk 2 [],0)):(nT 8 [x,y]).inferN g=(Ty.mk 2 [],0):=by
 unfold nT
 rw [z33 (by decide) (zcj hx hy)]
 rfl
theorem z187 (g:List Ty):(nT 4 []).inferN g=(Ty.mk 1 [],0):=by unfold nT;rw [z33 (by decide) rfl];rfl
theorem z188 (g:List Ty):(nT 7 []).inferN g=(Ty.mk 2 [],0):=by unfold nT;rw [z33 (by decide) rfl];rfl
theorem z189 (g:List Ty):(nT 13 []).inferN g=(Ty.mk 5 [],0):=by unfold nT;rw [z33 (by decide) rfl];rfl
theorem zid (g:List Ty):∀ n:Nat,(numTm n).inferN g=(Ty.mk 1 [],0)
 | 0=>z187 g
 | n+1=>zic (zid g n)
theorem z18a {g:List Ty}{i:Nat}(hi:i<g.length):(vT (i:Nat)).inferN g=(varTy g i,0):=by
 rw [Tm.inferN_eq]
 show (if (1:Int)=1 then if (g.length:Int)≤(i:Int) then _ else (g.getD (g.length - 1 - (i:Int).toNat) zeroTy,0) else _)=_
 rw [if_pos rfl,if_neg (by omega)]
 rfl
theorem z18b (g:List Ty):plusT.inferN g=(Ty.mk 4 [Ty.mk 1 [],Ty.mk 4 [Ty.mk 1 [],Ty.mk 1 []]],0):=by
 rw [zci (by decide) g];rfl
theorem z18c (g:List Ty):subT.inferN g=(Ty.mk 4 [Ty.mk 1 [],Ty.mk 4 [Ty.mk 1 [],Ty.mk 1 []]],0):=by
 rw [zci (by decide) g];rfl
theorem z18d:DrawOK (fun t g x=>x.inferN g=(t,0)) where
 var g i hi:=z18a hi
 num g n _:=zid g n
 app g s t f x hs ht hf hx:=z6i hf hx
 lam g s t x hs ht hx:=z5a hx (z4i (.inr rfl) hs.1 ht.1 (by have:=hs.2;have:=ht.2;omega))
 lam2 g s t r x hs ht hr hx:=by
  have c1:=hs.2;have c2:=ht.2;have c3:=hr.2
  have h1:=z5a (g:=g++[s]) (s:=t) (t:=r) (x:=x) (by rw [List.append_assoc];exact hx) (z4i (.inr rfl) ht.1 hr.1 (by omega))
  exact z5a h1 (z4i (.inr rfl) hs.1 (z4x (.inr rfl) ht.1 hr.1) (by rw [show (Ty.mk 4 [t,r]).count=1+(t.count+(r.count+0)) from rfl];omega))
 lam3 g s t u r x hs ht hu hr hx:=by
  have c1:=hs.2;have c2:=ht.2;have c3:=hr.2;have c4:=hu.2
  have h1:=z5a (g:=g++[s]++[t]) (s:=u) (t:=r) (x:=x) (by simp only [List.append_assoc];exact hx) (z4i (.inr rfl) hu.1 hr.1 (by omega))
  have e1:(Ty.mk 4 [u,r]).count=1+(u.count+(r.count+0)):=rfl
  have h2:=z5a h1 (z4i (.inr rfl) ht.1 (z4x (.inr rfl) hu.1 hr.1) (by rw [e1];omega))
  have e2:(Ty.mk 4 [t,Ty.mk 4 [u,r]]).count=1+(t.count+((Ty.mk 4 [u,r]).count+0)):=rfl
  exact z5a h2 (z4i (.inr rfl) hs.1 (z4x (.inr rfl) ht.1 (z4x (.inr rfl) hu.1 hr.1)) (by rw [e2,e1];omega))
 pair g s t x y hs ht hx hy:=zib hx hy (z4i (.inl rfl) hs.1 ht.1 (by have:=hs.2;have:=ht.2;omega))
 fst g s t x hs ht hx:=z182 hx
 snd g s t x hs ht hx:=z183 hx
 rc g t x f n ht hx hf hn:=z184 hx hf hn
 fold g t x f n ht hx hf hn:=z185 hx hf hn
 succ g x hx:=zic hx
 plus g x y hx hy:=z6i (z6i (z18b g) hx) hy
 sub g x y hx hy:=z6i (z6i (z18c g) hx) hy
 nil g:=z188 g
 cons g x y hx hy:=z186 hx hy
 unit g:=z189 g
end
section
variable {gl:Globs}
abbrev sz0:DV:=.agg [dint 0,.sl [],dint 0]
theorem zie (k:Int)(a b:Ty)(ha64:a.count≤64)(hb64:b.count≤64)(hc:¬ 1+a.count+b.count≤64):Con1 Tryz.prog gl 121 [dint k,.agg (szC a),.agg (szC b)] [] (.tup [sz0,dint 4]) []:=by
 refine t_in Tryz.func121 ?_
 intro X hP hgl hf hfn hn hR hids hfit
 have ha:=z0q a
 have hb:=z0q b
 have hc1:¬ (1:Int)+a.count+b.count≤64:=by omega
 have hc2:(64:Int)<1+a.count+b.count:=by omega
 refine t_g (j2 @ha (j2 @hb (j2 @hc1 @hc2))) ?_
 refine t_r ?_
 simp [go_sem,hP,hgl,hn] <;> (try omega)
 all_goals exact t_f
theorem z18e (t:Tm)(h:t.kind=10)(x y:Ty)(hx64:x.count≤64)(hy64:y.count≤64)(hc:¬ 1+x.count+y.count≤64) :
  Con1 Tryz.prog gl 122 [t.dv,.agg (sz3 [x,y])] [] (.tup [sz0,dint 4]) []:=by
 rw [z6a]
 have wp:=z2z (gl:=gl) 10
 rw [if_neg (by decide),if_neg (by decide),if_neg (by decide),if_neg (by decide),if_neg (by decide)] at wp
 have hi:ints []=[]:=rfl
 rw [hi] at wp
 have wj:=zie (gl:=gl) 3 x y hx64 hy64 hc
 simp only [z0q] at wj ⊢
 refine t_in Tryz.func122 ?_
 intro X hP hgl hf hfn hn hR hids hfit
 refine t_g @h ?_
 refine t_c1 @h wp ?_
 refine t_g @h ?_
 refine t_c1 trivial wj ?_
 refine t_r ?_
 simp [go_sem,hP,hgl,hn] <;> (try omega)
theorem zif {k:Int}{s t:Ty}(hk:k=3∨k=4)(hs:s.ok)(ht:t.ok)(h:(okN (Ty.mk k [s,t])).2 ≠ 0):¬ 1+s.count+t.count≤64:=by
 intro hc
 apply h
 rw [zck (z4i hk hs.1 ht.1 hc)]
theorem z18f {k:Int}{y:Ty}{l:List Ty}(hk2:¬ k=2)(h:(ruleN k y l).2=4):k=10∧(okN (Ty.mk 3 [l.getD 0 zeroTy,l.getD 1 zeroTy])).2 ≠ 0:=by
 unfold ruleN at h
 rw [if_neg hk2] at h
 by_cases h10:k=10
 ·subst h10
  rw [if_neg (by decide),if_neg (by decide),if_neg (by decide),if_neg (by decide),if_neg (by decide),if_neg (by decide),if_neg (by decide),if_pos rfl] at h
  exact ⟨rfl,by rw [h];decide⟩
 ·exfalso
  rw [if_neg h10] at h
  repeat' split at h
  all_goals first|(cases h;done)|contradiction
theorem zig {g:List Ty}:∀ {l:List Tm},(Tm.inferN.infers l g).2=4→∃ (i:Nat) (x:Tm),l[i]? = some x∧(x.inferN g).2=4∧∀ (j:Nat) (y:Tm),j<i→l[j]? = some y→(y.inferN g).2=0
 | [],h=>by cases h
 | a::r,h=>by
  simp only [Tm.inferN.infers] at h
  by_cases e:(a.inferN g).2=0
  ·rw [if_pos e] at h
   by_cases e2:(Tm.inferN.infers r g).2=0
   ·rw [if_pos e2] at h;cases h
   ·rw [if_neg e2] at h
    obtain ⟨i,x,h1,h2,h3⟩:=zig (l:=r) h
    refine ⟨i+1,x,by simpa using h1,h2,fun j y hj hy=>?_⟩
    cases j with
    | zero=>simp at hy;rw [← hy];exact e
    | succ j=>exact h3 j y (by omega) (by simpa using hy)
  ·rw [if_neg e] at h
   exact ⟨0,a,rfl,h,fun j y hj _=>absurd hj (Nat.not_lt_zero _)⟩
set_option maxHeartbeats 1000000 in
theorem z18g (t:Tm)(g:List Ty)(hgt:g.length+t.count≤2147483648)(ht:t.shape=true)(hg:∀ x ∈ g,x.ok)(h:(t.inferN g).2=4) :
  Con1 Tryz.prog gl 73 [.sl (g.map szC),t.dv] [] (.tup [sz0,dint 4]) []:=by
 induction t using Tm.ind generalizing g with
 | h t ih=>
 obtain ⟨ha,hi,hv,hty,hs⟩:=Tm.shape_node ht
 refine t_in Tryz.func73 ?_
 intro X hP hgl hf hfn hn hR hids hfit
 have hlg:=z3y (hfit (.sl (g.map szC)) (by simp))
 simp at hlg
 rw [Tm.inferN_eq t] at h
 by_cases h1:t.kind=1
 ·rw [if_pos h1] at h
  split at h <;> cases h
 rw [if_neg h1] at h
 by_cases hk2:t.kind=2
 ·rw [if_pos hk2] at h
  rw [hk2] at ha
  obtain ⟨b,hb⟩:∃ b,t.args=[b]:=by
   match hh:t.args,ha with
   | [b],_=>exact ⟨b,rfl⟩
  have hbm:b ∈ t.args:=by rw [hb];simp
  rw [if_pos (.inl hk2)] at hty
  have hg':∀ x ∈ g++[t.type],x.ok:=by
   intro x hx
   rcases List.mem_append.1 hx with hx|hx
   ·exact hg x hx
   ·rw [List.mem_singleton.1 hx];exact hty
  have hcb1:t.count=1+(b.count+0):=by rw [Tm.count_eq,hb];rfl
  have hcb2:=Tm.count_pos b
  have hgl1:g.length≤2147483647:=by omega
  have wo:=z3n (gl:=gl) t.type hty
  have fty:=Ty.fold t.type
  have fb:=Tm.fold b
  have hszm:List.map szC (g++[t.type])=List.map szC g++[szC t.type]:=by simp
  have hlm:(List.map szC g).length=g.length:=by simp
  have hwid:∀ e:List DV,e ∈ List.map szC g→e.length=3:=by intro e he;simp only [List.mem_map] at he;obtain ⟨x,-,rfl⟩:=he;rfl
  rw [hb] at h
  simp only [Tm.inferN.infers] at h
  by_cases hb0:(b.inferN (g++[t.type])).2=0
  ·rw [if_pos hb0] at h
   simp only [if_true] at h
   have hbo:=Tm.inferN_ok b (g++[t.type]) (hs b hbm) hg' hb0
   have w1:=z9o (gl:=gl) b (g++[t.type]) (by simp;omega) (hs b hbm) hg' hb0
   generalize (b.inferN (g++[t.type])).1=rb at *
   have hrule:ruleN t.kind t.type [rb]=okN (Ty.mk 4 [t.type,rb]):=by rw [hk2];rfl
   rw [hrule] at h
   have hbig:=zif (.inr rfl) hty hbo (by rw [h];decide)
   have wj:=zie (gl:=gl) 4 t.type rb hty.2 hbo.2 hbig
   rw [hszm] at w1
   simp only [z0q t.type,z0q rb] at w1 wo wj
   generalize List.map szC g=G at *
   have htake:List.take g.length G=G:=by rw [List.take_of_length_le];omega
   refine t_g @hk2 ?_
   refine t_c1 (j2 @hk2 @fty) wo ?_
   refine t_c1 (j2 @hk2 (j2 @hb (j2 @htake (j2 @hlm (j2 @hwid @hgl1))))) w1 ?_
   refine t_g0 ?_
   refine t_c1 trivial wj ?_
   refine t_r ?_
   simp [go_sem,hP,hgl,hn] <;> (try omega)
  ·rw [if_neg hb0] at h
   simp only at h
   rw [if_neg hb0] at h
   have w1:=ih b hbm (g++[t.type]) (by simp;omega) (hs b hbm) hg' h
   rw [hszm] at w1
   simp only [z0q t.type] at w1 wo
   generalize List.map szC g=G at *
   have htake:List.take g.length G=G:=by rw [List.take_of_length_le];omega
   refine t_g @hk2 ?_
   refine t_c1 (j2 @hk2 @fty) wo ?_
   refine t_c1 (j2 @hk2 (j2 @hb (j2 @htake (j2 @hlm (j2 @hwid @hgl1))))) w1 ?_
   refine t_g0 ?_
   refine t_r ?_
   simp [go_sem,hP,hgl,hn] <;> (try omega)
   all_goals exact t_f
 rw [if_neg hk2] at h
 have hlen:=Tm.fit_len (hfit t.dv (by simp))
 have h3:t.args.length≤3:=by
  have:arityI t.kind≤3:=by unfold arityI;(repeat' split) <;> omega
  omega
 have ftt:=Tm.fold t
 have stepOK:∀ (i:Nat) (x:Tm),t.args[i]? = some x→(x.inferN g).2=0→Con1 Tryz.prog gl 73 [.sl (g.map szC),x.dv] [] (.tup [.agg (szC (x.inferN g).1),dint 0]) []:=by
  intro i x hx h0
  have hm:=List.mem_of_getElem? hx
  have hcx:=Tm.count_mem hm
  have hct:=Tm.count_eq t
  exact z9o x g (by omega) (hs x hm) hg h0
 by_cases hI:(Tm.inferN.infers t.args g).2=0
 ·rw [if_pos hI] at h
  obtain ⟨h10,hbg⟩:=z18f hk2 h
  obtain ⟨hdl,hall⟩:=Tm.infers_all t.args g hI
  rw [h10] at ha
  match hargs:t.args,ha with
  | [x,y],_=>
   obtain ⟨x1,x2⟩:=hall 0 x (by rw [hargs];rfl)
   obtain ⟨y1,y2⟩:=hall 1 y (by rw [hargs];rfl)
   have w:=stepOK 0 x (by rw [hargs];rfl) x1
   have v:=stepOK 1 y (by rw [hargs];rfl) y1
   have xo:=Tm.inferN_ok x g (hs x (by rw [hargs];simp)) hg x1
   have yo:=Tm.inferN_ok y g (hs y (by rw [hargs];simp)) hg y1
   have e0:(Tm.inferN.infers t.args g).1.getD 0 zeroTy=(x.inferN g).1:=by rw [List.getD_eq_getElem?_getD,x2];rfl
   have e1:(Tm.inferN.infers t.args g).1.getD 1 zeroTy=(y.inferN g).1:=by rw [List.getD_eq_getElem?_getD,y2];rfl
   rw [e0,e1] at hbg
   have hbig:=zif (.inl rfl) xo yo hbg
   generalize (x.inferN g).1=d at *
   generalize (y.inferN g).1=e at *
   have wn:=z18e (gl:=gl) t h10 d e xo.2 yo.2 hbig
   rw [z6a] at wn
   simp only [z0q] at w v
   clear ih stepOK
   generalize List.map szC g=G at *
   rw [hargs] at ftt
   simp only [List.map_cons,List.map_nil] at ftt
   rw [Tm.cells_eq x,Tm.cells_eq y] at ftt
   refine t_g (j2 @h1 (j2 @hk2 @hargs)) ?_
   refine z0n ?_
   refine t_g @hargs ?_
   refine t_c1 trivial w ?_
   refine t_g0 ?_
   refine z0c [] (s':=[(.slot 0,.one (.v (.sl G))),(.slot 67,.one (.v (dint 1))),(.slot 66,.one (.v (dint 2))),(.slot 65,.one (.v (.sl [x.cells,y.cells]))),(.slot 3,.one (.loc 3 0)),(.loc 3,.row ([.v (dint t.kind),.v (dint t.index),.v (dint t.type.kind),.v (.sl (t.type.args.map Ty.cells)),.v (.sl [x.cells,y.cells])])),(.slot 4,.one (.loc 4 0)),(.loc 4,.row ([.v (dint 0),.own 0 [],.v (dint 0)])),(.slot 9,.one (.loc 9 0)),(.loc 9,.row ([.v (dint d.kind),.v (.sl (d.args.map Ty.cells)),.v (dint (d.count:Int)),.v (dint 0),.own 0 [],.v (dint 0),.v (dint 0),.own 0 [],.v (dint 0)]))]) (by simp [go_sem]) (by simp [go_sem,hargs]) (by simp [go_sem]) ?_
   refine z0j ?_
   refine t_g @hargs ?_
   refine t_c1 trivial v ?_
   refine t_g0 ?_
   refine z0c [] (s':=[(.slot 0,.one (.v (.sl G))),(.slot 67,.one (.v (dint 2))),(.slot 66,.one (.v (dint 2))),(.slot 65,.one (.v (.sl [x.cells,y.cells]))),(.slot 3,.one (.loc 3 0)),(.loc 3,.row ([.v (dint t.kind),.v (dint t.index),.v (dint t.type.kind),.v (.sl (t.type.args.map Ty.cells)),.v (.sl [x.cells,y.cells])])),(.slot 4,.one (.loc 4 0)),(.loc 4,.row ([.v (dint 0),.own 0 [],.v (dint 0)])),(.slot 9,.one (.loc 9 0)),(.loc 9,.row ([.v (dint d.kind),.v (.sl (d.args.map Ty.cells)),.v (dint (d.count:Int)),.v (dint e.kind),.v (.sl (e.args.map Ty.cells)),.v (dint (e.count:Int)),.v (dint 0),.own 0 [],.v (dint 0)]))]) (by simp [go_sem]) (by simp [go_sem,hargs]) (by simp [go_sem]) ?_
   refine z0j ?_
   refine t_g0 ?_
   refine t_c1 @ftt wn ?_
   refine t_r ?_
   simp [go_sem,hP,hgl,hn] <;> (try omega)
 rw [if_neg hI] at h
 obtain ⟨i,z,z1,z2,z3⟩:=zig h
 have zm:=List.mem_of_getElem? z1
 have wz:=ih z zm g (by have hcx:=Tm.count_mem zm;have hct:=Tm.count_eq t;omega) (hs z zm) hg z2
 clear ih
 have hiz:i<t.args.length:=(List.getElem?_eq_some_iff.1 z1).1
 match hargs:t.args,h3 with
 | [],_=>rw [hargs] at hiz;simp at hiz
 | [x],_=>
  rw [hargs] at z1 z3 hiz ftt
  simp only [List.map_cons,List.map_nil] at ftt
  rw [Tm.cells_eq x] at ftt
  match i,hiz,z1,z3 with
  | 0,_,z1,z3=>
   simp at z1
   subst z1
   clear stepOK
   generalize List.map szC g=G at *
   refine t_g (j2 @h1 (j2 @hk2 @hargs)) ?_
   refine z0n ?_
   refine t_g @hargs ?_
   refine t_c1 trivial wz ?_
   refine t_g0 ?_
   refine t_r ?_
   simp [go_sem,hP,hgl,hn] <;> (try omega)
   all_goals exact t_f
  | i+1,hiz,_,_=>exact absurd hiz (by simp)
 | [x,y],_=>
  rw [hargs] at z1 z3 hiz ftt
  simp only [List.map_cons,List.map_nil] at ftt
  rw [Tm.cells_eq x,Tm.cells_eq y] at ftt
  match i,hiz,z1,z3 with
  | 0,_,z1,z3=>
   simp at z1
   subst z1
   clear stepOK
   generalize List.map szC g=G at *
   refine t_g (j2 @h1 (j2 @hk2 @hargs)) ?_
   refine z0n ?_
   refine t_g @hargs ?_
   refine t_c1 trivial wz ?_
   refine t_g0 ?_
   refine t_r ?_
   simp [go_sem,hP,hgl,hn] <;> (try omega)
   all_goals exact t_f
  | 1,_,z1,z3=>
   simp at z1
   subst z1
   have w:=stepOK 0 x (by rw [hargs];rfl) (z3 0 x (by omega) rfl)
   generalize (x.inferN g).1=d at *
   simp only [z0q] at w
   clear stepOK
   generalize List.map szC g=G at *
   refine t_g (j2 @h1 (j2 @hk2 @hargs)) ?_
   refine z0n ?_
   refine t_g @hargs ?_
   refine t_c1 trivial w ?_
   refine t_g0 ?_
   refine z0c [] (s':=[(.slot 0,.one (.v (.sl G))),(.slot 67,.one (.v (dint 1))),(.slot 66,.one (.v (dint 2))),(.slot 65,.one (.v (.sl [x.cells,y.cells]))),(.slot 3,.one (.loc 3 0)),(.loc 3,.row ([.v (dint t.kind),.v (dint t.index),.v (dint t.type.kind),.v (.sl (t.type.args.map Ty.cells)),.v (.sl [x.cells,y.cells])])),(.slot 4,.one (.loc 4 0)),(.loc 4,.row ([.v (dint 0),.own 0 [],.v (dint 0)])),(.slot 9,.one (.loc 9 0)),(.loc 9,.row ([.v (dint d.kind),.v (.sl (d.args.map Ty.cells)),.v (dint (d.count:Int)),.v (dint 0),.own 0 [],.v (dint 0),.v (dint 0),.own 0 [],.v (dint 0)]))]) (by simp [go_sem]) (by simp [go_sem,hargs]) (by simp [go_sem]) ?_
   refine z0j ?_
   refine t_g @hargs ?_
   refine t_c1 trivial wz ?_
   refine t_g0 ?_
   refine t_r ?_
   simp [go_sem,hP,hgl,hn] <;> (try omega)
   all_goals exact t_f
  | i+2,hiz,_,_=>exact absurd hiz (by simp)
 | [x,y,z'],_=>
  rw [hargs] at z1 z3 hiz ftt
  simp only [List.map_cons,List.map_nil] at ftt
  rw [Tm.cells_eq x,Tm.cells_eq y,Tm.cells_eq z'] at ftt
  match i,hiz,z1,z3 with
  | 0,_,z1,z3=>
   simp at z1
   subst z1
   clear stepOK
   generalize List.map szC g=G at *
   refine t_g (j2 @h1 (j2 @hk2 @hargs)) ?_
   refine z0n ?_
   refine t_g @hargs ?_
   refine t_c1 trivial wz ?_
   refine t_g0 ?_
   refine t_r ?_
   simp [go_sem,hP,hgl,hn] <;> (try omega)
   all_goals exact t_f
  | 1,_,z1,z3=>
   simp at z1
   subst z1
   have w:=stepOK 0 x (by rw [hargs];rfl) (z3 0 x (by omega) rfl)
   generalize (x.inferN g).1=d at *
   simp only [z0q] at w
   clear stepOK
   generalize List.map szC g=G at *
   refine t_g (j2 @h1 (j2 @hk2 @hargs)) ?_
   refine z0n ?_
   refine t_g @hargs ?_
   refine t_c1 trivial w ?_
   refine t_g0 ?_
   refine z0c [] (s':=[(.slot 0,.one (.v (.sl G))),(.slot 67,.one (.v (dint 1))),(.slot 66,.one (.v (dint 3))),(.slot 65,.one (.v (.sl [x.cells,y.cells,z'.cells]))),(.slot 3,.one (.loc 3 0)),(.loc 3,.row ([.v (dint t.kind),.v (dint t.index),.v (dint t.type.kind),.v (.sl (t.type.args.map Ty.cells)),.v (.sl [x.cells,y.cells,z'.cells])])),(.slot 4,.one (.loc 4 0)),(.loc 4,.row ([.v (dint 0),.own 0 [],.v (dint 0)])),(.slot 9,.one (.loc 9 0)),(.loc 9,.row ([.v (dint d.kind),.v (.sl (d.args.map Ty.cells)),.v (dint (d.count:Int)),.v (dint 0),.own 0 [],.v (dint 0),.v (dint 0),.own 0 [],.v (dint 0)]))]) (by simp [go_sem]) (by simp [go_sem,hargs]) (by simp [go_sem]) ?_
   refine z0j ?_
   refine t_g @hargs ?_
   refine t_c1 trivial wz ?_
   refine t_g0 ?_
   refine t_r ?_
   simp [go_sem,hP,hgl,hn] <;> (try omega)
   all_goals exact t_f
  | 2,_,z1,z3=>
   simp at z1
   subst z1
   have w:=stepOK 0 x (by rw [hargs];rfl) (z3 0 x (by omega) rfl)
   have v:=stepOK 1 y (by rw [hargs];rfl) (z3 1 y (by omega) rfl)
   generalize (x.inferN g).1=d at *
   generalize (y.inferN g).1=e at *
   simp only [z0q] at w v
   clear stepOK
   generalize List.map szC g=G at *
   refine t_g (j2 @h1 (j2 @hk2 @hargs)) ?_
   refine z0n ?_
   refine t_g @hargs ?_
   refine t_c1 trivial w ?_
   refine t_g0 ?_
   refine z0c [] (s':=[(.slot 0,.one (.v (.sl G))),(.slot 67,.one (.v (dint 1))),(.slot 66,.one (.v (dint 3))),(.slot 65,.one (.v (.sl [x.cells,y.cells,z'.cells]))),(.slot 3,.one (.loc 3 0)),(.loc 3,.row ([.v (dint t.kind),.v (dint t.index),.v (dint t.type.kind),.v (.sl (t.type.args.map Ty.cells)),.v (.sl [x.cells,y.cells,z'.cells])])),(.slot 4,.one (.loc 4 0)),(.loc 4,.row ([.v (dint 0),.own 0 [],.v (dint 0)])),(.slot 9,.one (.loc 9 0)),(.loc 9,.row ([.v (dint d.kind),.v (.sl (d.args.map Ty.cells)),.v (dint (d.count:Int)),.v (dint 0),.own 0 [],.v (dint 0),.v (dint 0),.own 0 [],.v (dint 0)]))]) (by simp [go_sem]) (by simp [go_sem,hargs]) (by simp [go_sem]) ?_
   refine z0j ?_
   refine t_g @hargs ?_
   refine t_c1 trivial v ?_
   refine t_g0 ?_
   refine z0c [] (s':=[(.slot 0,.one (.v (.sl G))),(.slot 67,.one (.v (dint 2))),(.slot 66,.one (.v (dint 3))),(.slot 65,.one (.v (.sl [x.cells,y.cells,z'.cells]))),(.slot 3,.one (.loc 3 0)),(.loc 3,.row ([.v (dint t.kind),.v (dint t.index),.v (dint t.type.kind),.v (.sl (t.type.args.map Ty.cells)),.v (.sl [x.cells,y.cells,z'.cells])])),(.slot 4,.one (.loc 4 0)),(.loc 4,.row ([.v (dint 0),.own 0 [],.v (dint 0)])),(.slot 9,.one (.loc 9 0)),(.loc 9,.row ([.v (dint d.kind),.v (.sl (d.args.map Ty.cells)),.v (dint (d.count:Int)),.v (dint e.kind),.v (.sl (e.args.map Ty.cells)),.v (dint (e.count:Int)),.v (dint 0),.own 0 [],.v (dint 0)]))]) (by simp [go_sem]) (by simp [go_sem,hargs]) (by simp [go_sem]) ?_
   refine z0j ?_
   refine t_g @hargs ?_
   refine t_c1 trivial wz ?_
   refine t_g0 ?_
   refine t_r ?_
   simp [go_sem,hP,hgl,hn] <;> (try omega)
   all_goals exact t_f
  | i+3,hiz,_,_=>exact absurd hiz (by simp)
theorem z18h (har:globOf gl 0=some arEls){t:Tm}{a:T}{F:Env []→a.V}(h:Dn [] t a F)(hc:t.count≤536870912) :
  Con1 Tryz.prog gl 40 [.sl [],t.dv] [] (if (t.typeE []).2=0 then .tup [a.ty.dv,dint 0] else .tup [(Ty.mk 0 []).dv,dint 4]) []:=by
 have hs:=z1j h
 have hct:ctxN []=0:=rfl
 by_cases hk:t.checkN=0
 ·have hty:t.typeE []=t.inferN []:=by
   unfold Tm.typeE Tm.typedE
   rw [if_pos hct,if_pos hk]
  rw [hty]
  have hcc:=((Tm.checkN_iff t).1 hk).2
  rcases z65 h with h1|h1
  ·have h1:t.inferN []=(a.ty,0):=h1
   rw [h1]
   exact z9p har t a.ty hk h1
  ·have h1:(t.inferN []).2=4:=h1
   rw [if_neg (by rw [h1];decide)]
   have w2:=z91 (gl:=gl) har t (z53 t hs) (by omega)
   rw [hk] at w2
   have w3:=z18g (gl:=gl) t [] (by simp;omega) hs (by simp) h1
   have ftt:=Tm.fold t
   have fz:DV.agg [dint 0,.sl []]=(Ty.mk 0 []).dv:=rfl
   simp only [List.map_nil] at w3
   refine t_in Tryz.func40 ?_
   intro X hP hgl hf hfn hn hR hids hfit
   refine t_g0 ?_
   refine t_c1 trivial zbt ?_
   refine t_g0 ?_
   refine t_c1 @ftt w2 ?_
   refine t_g0 ?_
   refine t_c2 @ftt zgl w3 ?_
   refine t_g0 ?_
   refine t_r ?_
   simp [go_sem,hP,hgl,hn] <;> (try omega)
   all_goals exact t_f
 ·have hk4:t.checkN=4:=by
   unfold Tm.checkN at hk ⊢
   rw [if_pos hs] at hk ⊢
   split at hk
   ·rename_i q;rw [if_pos q]
   ·exact absurd rfl hk
  have hty:(t.typeE []).2=4:=by
   unfold Tm.typeE Tm.typedE
   rw [if_pos hct,if_neg hk]
   exact hk4
  rw [if_neg (by rw [hty];decide)]
  have w2:=z91 (gl:=gl) har t (z53 t hs) (by omega)
  rw [hk4] at w2
  have ftt:=Tm.fold t
  have fz:DV.agg [dint 0,.sl []]=(Ty.mk 0 []).dv:=rfl
  refine t_in Tryz.func40 ?_
  intro X hP hgl hf hfn hn hR hids hfit
  refine t_g0 ?_
  refine t_c1 trivial zbt ?_
  refine t_g0 ?_
  refine t_c1 @ftt w2 ?_
  refine t_g0 ?_
  refine t_r ?_
  simp [go_sem,hP,hgl,hn] <;> (try omega)
  all_goals exact t_f
end
section
variable {gl:Globs}
def callR (t:Tm)(v:Val)(c:Nat)(work:Int):Val × Int × Int:=if (t.typeE []).2=0 then (if (c:Int)≤work then (v,(c:Int),0) else (zeroV,0,5)) else (zeroV,0,4)
theorem zih (t:Tm)(v:Val)(c:Nat)(work:Int):(callR t v c work).2.2=4∨(callR t v c work).2.2=5∨((callR t v c work).2.2=0∧(callR t v c work).1=v):=by
 unfold callR
 split
 ·split
  ·exact .inr (.inr ⟨rfl,rfl⟩)
  ·exact .inr (.inl rfl)
 ·exact .inl rfl
theorem z18i {t:Tm}{a:T}{F:Env []→a.V}(h:Dn [] t a F)(h0:(t.typeE []).2=0):t.checkN=0∧t.inferN []=(a.ty,0):=by
 have hct:ctxN []=0:=rfl
 by_cases hk:t.checkN=0
 ·refine ⟨hk,?_⟩
  have hty:t.typeE []=t.inferN []:=by
   unfold Tm.typeE Tm.typedE
   rw [if_pos hct,if_pos hk]
  rcases z65 h with h1|h1
  ·exact h1
  ·have h1:(t.inferN []).2=4:=h1
   rw [hty,h1] at h0
   cases h0
 ·unfold Tm.typeE Tm.typedE at h0
  rw [if_pos hct,if_neg hk] at h0
  exact absurd h0 hk
theorem z18j (har:globOf gl 0=some arEls){t:Tm}{l:List T}{r:T}{F:Env []→(FnT l r).V}(h:Dn [] t (FnT l r) F)(hc:t.count≤536870912)(Z:Env l)(y:r.V)(hl:Plains l)(hll:l.length≤1000000)(hr:r.plain)(hro:r.ok){c d:Nat}(hcs:callS d t (mvsOf l Z)=some (ofM r y,c))(wk:Nat)(hwk:wk≤65536)(M:Nat)(hM:M≤1073000000)(hX:MV.nles M (mvsOf l Z)) :
  Con1 Tryz.prog gl 105 [t.dv,.sl ((valsOf l Z).map Val.cells),dint (wk:Int)] [] (.tup [(callR t (valOf r y) c wk).1.dv,dint (callR t (valOf r y) c wk).2.1,dint (callR t (valOf r y) c wk).2.2]) []:=by
 unfold callR
 by_cases h0:(t.typeE []).2=0
 ·rw [if_pos h0]
  obtain ⟨h1,h2⟩:=z18i h h0
  have w:=zi5 (gl:=gl) har t l r Z _ c d hcs h1 h2 hl hll hr hro wk hwk M hM hX
  unfold outC at w
  split at w
  ·rename_i q;rw [if_pos q];exact w
  ·rename_i q;rw [if_neg q];exact w
 ·rw [if_neg h0]
  have hte:=z18h (gl:=gl) har h hc
  rw [if_neg h0] at hte
  have hft:=Tm.fold t
  have fz:(Ty.mk 0 []).dv = .agg [dint 0,.sl []]:=rfl
  rw [fz] at hte
  refine t_in Tryz.func105 ?_
  intro X hP hgl hf hfn hn hR hids hfit
  refine t_g0 ?_
  refine t_c1 @hft hte ?_
  refine t_g0 ?_
  refine t_r ?_
  simp [go_sem,hP,hgl,hn,zeroV] <;> (try omega)
  all_goals exact t_f
end
section
variable {gl:Globs}
def Fine (e:Int)(M:Int)(t:Tm):Prop:=t.count≤268435456∧(e=0→t.shape=true∧t.idx M)
theorem Fine.mono {e M M':Int}{t:Tm}(h:Fine e M t)(hM:M≤M'):Fine e M' t:=⟨h.1,fun he=>⟨(h.2 he).1,Tm.idx_mono hM (h.2 he).2⟩⟩
theorem Fine.later {e e' M:Int}{t:Tm}(h:Fine e M t)(he:e' = 0→e=0):Fine e' M t:=⟨h.1,fun h'=>h.2 (he h')⟩
end
section
variable {gl:Globs}
theorem z18k (d:Nat)(l:List DV):anyLoc d (l.map SV.v)=false:=by
 induction l with
 | nil=>rfl
 | cons x r ih=>simp [anyLoc,hasLoc,ih]
theorem z18l (d:Nat)(l:List DV):anyTok d (l.map SV.v)=false:=by
 induction l with
 | nil=>rfl
 | cons x r ih=>simp [anyTok,hasTok,ih]
theorem z18m (k b:Nat)(l:List DV):exRow k b (l.map SV.v)=l.map SV.v:=by
 induction l with
 | nil=>rfl
 | cons x r ih=>simp only [List.map_cons,exRow,ih];rfl
attribute [go_sem] z18k z18l z18m
end
section
def TyQ (t:Ty)(g:List Ty)(x:Tm):Prop:=∀ (G:List T) (a:T),g=G.map T.ty→t=a.ty→∃ F:Env G.reverse→a.V,Dn G.reverse x a F
theorem z6j {s t:Ty}{a:T}(h:Ty.mk 4 [s,t]=a.ty):∃ S b,a = .fn S b∧s=S.ty∧t=b.ty:=by
 cases a with
 | fn S b=>simp [T.ty] at h;exact ⟨S,b,rfl,h.1,h.2⟩
 | pair S b=>simp [T.ty] at h
 | nat=>simp [T.ty] at h
 | list=>simp [T.ty] at h
 | unit=>simp [T.ty] at h
theorem z18n {s t:Ty}{a:T}(h:Ty.mk 3 [s,t]=a.ty):∃ S b,a = .pair S b∧s=S.ty∧t=b.ty:=by
 cases a with
 | pair S b=>simp [T.ty] at h;exact ⟨S,b,rfl,h.1,h.2⟩
 | fn S b=>simp [T.ty] at h
 | nat=>simp [T.ty] at h
 | list=>simp [T.ty] at h
 | unit=>simp [T.ty] at h
theorem z9z {a:T}(h:Ty.mk 1 []=a.ty):a = .nat:=by cases a <;> simp [T.ty] at h ⊢
theorem zii {a:T}(h:Ty.mk 2 []=a.ty):a = .list:=by cases a <;> simp [T.ty] at h ⊢
theorem z18o {a:T}(h:Ty.mk 5 []=a.ty):a = .unit:=by cases a <;> simp [T.ty] at h ⊢
theorem z34 {s:Ty}(h:s.small):∃ S:T,s=S.ty∧S.ok∧S.size≤15:=by
 obtain ⟨S,rfl⟩:=T.of_shape s h.1
 have:=h.2
 rw [T.ty_count] at this
 exact ⟨S,rfl,by unfold T.ok;omega,this⟩
theorem zij (Γ:List T):∀ n:Nat,∃ F:Env Γ→T.nat.V,Dn Γ (numTm n) .nat F
 | 0=>⟨_,.zero⟩
 | n+1=>by
  obtain ⟨F,h⟩:=zij Γ n
  exact ⟨_,.succ h⟩
theorem zik:DrawOK TyQ where
 var g i hi G a hg ht:=by
  subst hg
  have hl:i<G.length:=by simpa using hi
  obtain ⟨b,hb⟩:∃ b,G[G.length - 1 - i]? = some b:=⟨_,List.getElem?_eq_getElem (by omega)⟩
  have hv:varTy (G.map T.ty) i=b.ty:=by
   unfold varTy
   rw [List.getD_eq_getElem?_getD,List.length_map,List.getElem?_map,hb]
   rfl
  have hab:a=b:=T.ty_inj (by rw [← ht,hv])
  subst hab
  have hr:G.reverse[i]? = some a:=by rw [List.getElem?_reverse hl,hb]
  obtain ⟨p,hp⟩:=At.of hr
  exact ⟨p,.var hp⟩
 num g n _ G a hg ht:=by
  obtain rfl:=z9z ht
  exact zij _ n
 app g s t f x hs ht hf hx G a hg hta:=by
  obtain ⟨S,rfl,-⟩:=z34 hs
  obtain ⟨F,h1⟩:=hf G (.fn S a) hg (by rw [hta];rfl)
  obtain ⟨X,h2⟩:=hx G S hg rfl
  exact ⟨_,.app h1 h2⟩
 lam g s t x hs ht hx G a hg hta:=by
  obtain ⟨S,b,rfl,rfl,rfl⟩:=z6j hta
  obtain ⟨S',e,ho,-⟩:=z34 hs
  obtain rfl:=T.ty_inj e
  have:=hx (G++[S]) b (by rw [hg,List.map_append];rfl) rfl
  rw [List.reverse_append] at this
  obtain ⟨F,h1⟩:=this
  exact ⟨_,.lam ho h1⟩
 lam2 g s t r x hs ht hr hx G a hg hta:=by
  obtain ⟨S,b1,rfl,rfl,hb1⟩:=z6j hta
  obtain ⟨S2,b,rfl,rfl,rfl⟩:=z6j hb1
  obtain ⟨_,e,ho,-⟩:=z34 hs
  obtain rfl:=T.ty_inj e
  obtain ⟨_,e,ho2,-⟩:=z34 ht
  obtain rfl:=T.ty_inj e
  have:=hx (G++[S,S2]) b (by rw [hg,List.map_append];rfl) rfl
  rw [List.reverse_append] at this
  obtain ⟨F,h1⟩:=this
  exact ⟨_,.lam ho (.lam ho2 h1)⟩
 lam3 g s t u r x hs ht hu hr hx G a hg hta:=by
  obtain ⟨S,b1,rfl,rfl,hb1⟩:=z6j hta
  obtain ⟨S2,b2,rfl,rfl,hb2⟩:=z6j hb1
  obtain ⟨S3,b,rfl,rfl,rfl⟩:=z6j hb2
  obtain ⟨_,e,ho,-⟩:=z34 hs
  obtain rfl:=T.ty_inj e
  obtain ⟨_,e,ho2,-⟩:=z34 ht
  obtain rfl:=T.ty_inj e
  obtain ⟨_,e,ho3,-⟩:=z34 hu
  obtain rfl:=T.ty_inj e
  have:=hx (G++[S,S2,S3]) b (by rw [hg,List.map_append];rfl) rfl
  rw [List.reverse_append] at this
  obtain ⟨F,h1⟩:=this
  exact ⟨_,.lam ho (.lam ho2 (.lam ho3 h1))⟩
 pair g s t x y hs ht hx hy G a hg hta:=by
  obtain ⟨S,b,rfl,rfl,rfl⟩:=z18n hta
  obtain ⟨F,h1⟩:=hx G S hg rfl
  obtain ⟨X,h2⟩:=hy G b hg rfl
  exact ⟨_,.pair h1 h2⟩
 fst g s t x hs ht hx G a hg hta:=by
  obtain ⟨S,rfl,-⟩:=z34 ht
  obtain ⟨F,h1⟩:=hx G (.pair a S) hg (by rw [hta];rfl)
  exact ⟨_,.fst h1⟩
 snd g s t x hs ht hx G a hg hta:=by
  obtain ⟨S,rfl,-⟩:=z34 hs
  obtain ⟨F,h1⟩:=hx G (.pair S a) hg (by rw [hta];rfl)
  exact ⟨_,.snd h1⟩
 rc g t x f n ht hx hf hn G a hg hta:=by
  subst hta
  obtain ⟨_,e,ho,-⟩:=z34 ht
  obtain rfl:=T.ty_inj e
  obtain ⟨B,h1⟩:=hx G a hg rfl
  obtain ⟨F,h2⟩:=hf G (.fn .nat (.fn a a)) hg rfl
  obtain ⟨N,h3⟩:=hn G .nat hg rfl
  exact ⟨_,.rc ho h1 h2 h3⟩
 fold g t x f n ht hx hf hn G a hg hta:=by
  subst hta
  obtain ⟨_,e,ho,-⟩:=z34 ht
  obtain rfl:=T.ty_inj e
  obtain ⟨B,h1⟩:=hx G a hg rfl
  obtain ⟨F,h2⟩:=hf G (.fn .nat (.fn .list (.fn a a))) hg rfl
  obtain ⟨N,h3⟩:=hn G .list hg rfl
  exact ⟨_,.fold ho h1 h2 h3⟩
 succ g x hx G a hg hta:=by
  obtain rfl:=z9z hta
  obtain ⟨F,h1⟩:=hx G .nat hg rfl
  exact ⟨_,.succ h1⟩
 plus g x y hx hy G a hg hta:=by
  obtain rfl:=z9z hta
  obtain ⟨F,h1⟩:=hx G .nat hg rfl
  obtain ⟨X,h2⟩:=hy G .nat hg rfl
  exact ⟨_,.app (.app (z4e _) h1) h2⟩
 sub g x y hx hy G a hg hta:=by
  obtain rfl:=z9z hta
  obtain ⟨F,h1⟩:=hx G .nat hg rfl
  obtain ⟨X,h2⟩:=hy G .nat hg rfl
  exact ⟨_,.app (.app (zfb _) h1) h2⟩
 nil g G a hg hta:=by
  obtain rfl:=zii hta
  exact ⟨_,.nil⟩
 cons g x y hx hy G a hg hta:=by
  obtain rfl:=zii hta
  obtain ⟨F,h1⟩:=hx G .nat hg rfl
  obtain ⟨X,h2⟩:=hy G .list hg rfl
  exact ⟨_,.cons h1 h2⟩
 unit g G a hg hta:=by
  obtain rfl:=z18o hta
  exact ⟨_,.unit⟩
theorem zil (l:List Int)(n:Nat){t:Ty}{g:List Ty}{p:Nat}(ht:t.small)(hg:∀ x ∈ g,x.small)(hp:p≤l.length){G:List T}{a:T}(eg:g=G.map T.ty)(et:t=a.ty) :
  ∃ F:Env G.reverse→a.V,Dn G.reverse (termD l n t g p).1 a F:=(z4z zik n t g p ht hg hp).2 G a eg et
end
section
theorem za0 (l:List Int)(p:Nat):∃ a:T,(plainD l p).1=a.ty∧a.plain∧a.size≤3:=by
 rcases z97 l p with h|h|h|h|h
 ·exact ⟨.nat,h,trivial,by decide⟩
 ·exact ⟨.list,h,trivial,by decide⟩
 ·exact ⟨.unit,h,trivial,by decide⟩
 ·exact ⟨.pair .nat .list,h,⟨trivial,trivial⟩,by decide⟩
 ·exact ⟨.pair .nat .nat,h,⟨trivial,trivial⟩,by decide⟩
theorem za1 {a:T}(h:a.size≤15):a.ty.small:=⟨T.ty_shape a,by rw [T.ty_count];exact h⟩
end
section
variable {gl:Globs}
theorem zim {ev:Ev6}{e:List MV}{x:Tm}{rest:List Tm}:∀ (done:List Tm) {u:Int} {r:List MV × Int × Bool} {vs:List MV} {uk:Int},allRun ev (done++x::rest) e u=some r→allRun ev done e u=some (vs,uk,false) →
  ∃ v u1 o,ev x e uk=some (v,u1,o)∧(o=true→r.2.1=u1∧r.2.2=true)∧(o=false→allRun ev (done++[x]) e u=some (vs++[v],u1,false))
 | [],u,r,vs,uk,h,hd=>by
  simp only [allRun,Option.some.injEq,Prod.mk.injEq] at hd
  obtain ⟨rfl,rfl,-⟩:=hd
  simp only [List.nil_append,allRun] at h ⊢
  split at h
  ·cases h
  ·rename_i v1 u1 h1
   obtain rfl:=Option.some.inj h
   exact ⟨v1,u1,true,h1,fun _=>⟨rfl,rfl⟩,fun h=>by cases h⟩
  ·rename_i v1 u1 h1
   exact ⟨v1,u1,false,h1,fun h=>(by cases h),fun _=>(by simp only [h1])⟩
 | t::done,u,r,vs,uk,h,hd=>by
  simp only [List.cons_append,allRun] at h hd ⊢
  split at hd
  ·cases hd
  ·simp at hd
  ·rename_i v1 u1 h1
   simp only [h1] at h ⊢
   split at hd
   ·cases hd
   ·rename_i vs2 u2 o2 h2
    simp only [Option.some.injEq,Prod.mk.injEq] at hd
    obtain ⟨rfl,rfl,rfl⟩:=hd
    split at h
    ·cases h
    ·rename_i vs3 u3 o3 h3
     obtain ⟨v,u4,o4,g1,g2,g3⟩:=zim done h3 h2
     obtain rfl:=Option.some.inj h
     exact ⟨v,u4,o4,g1,g2,fun h=>by simp only [g3 h];rfl⟩
def vsD (ev:Ev6)(e:List MV)(u:Int)(l:List Tm):List MV:=((allRun ev l e u).getD ([],0,false)).1
def ukD (ev:Ev6)(e:List MV)(u:Int)(l:List Tm):Int:=((allRun ev l e u).getD ([],0,false)).2.1
theorem allD {ev:Ev6}{e:List MV}{u:Int}{l:List Tm}(h:∃ vs uk,allRun ev l e u=some (vs,uk,false)):allRun ev l e u=some (vsD ev e u l,ukD ev e u l,false):=by
 obtain ⟨vs,uk,h⟩:=h
 simp only [vsD,ukD,h,Option.getD_some]
theorem zcl {ev:Ev6}{e:List MV}:∀ {l:List Tm} {u:Int} {vs:List MV} {uk:Int},allRun ev l e u=some (vs,uk,false)→vs.length=l.length
 | [],u,vs,uk,h=>by
  simp only [allRun,Option.some.injEq,Prod.mk.injEq] at h
  obtain ⟨rfl,-,-⟩:=h
  rfl
 | t::l,u,vs,uk,h=>by
  simp only [allRun] at h
  split at h
  ·cases h
  ·simp at h
  ·rename_i v1 u1 h1
   split at h
   ·cases h
   ·rename_i vs2 u2 o2 h2
    simp only [Option.some.injEq,Prod.mk.injEq] at h
    obtain ⟨rfl,rfl,rfl⟩:=h
    simp [zcl h2]
theorem z18p (ev:Ev6)(e:List MV)(u:Int):vsD ev e u []=[]:=rfl
theorem z18q (ev:Ev6)(e:List MV)(u:Int):ukD ev e u []=u:=rfl
theorem z83 (n:Nat):(MV.num n).dv = .agg [dint (n:Int),.sl [],.sl [],dint 0,dint 0,dint 0,.sl [],.sl [],.sl []]:=by rw [MV.dv,MV.cells]
theorem zcm (l:List Nat):(MV.list l).dv = .agg [dint 0,.sl (ints (l.map Int.ofNat)),.sl [],dint 0,dint 0,dint 0,.sl [],.sl [],.sl []]:=by rw [MV.dv,MV.cells]
theorem z18r (a b:MV):(MV.both a b).dv = .agg [dint 0,.sl [],.sl [a.cells,b.cells],dint 0,dint 0,dint 0,.sl [],.sl [],.sl []]:=by rw [MV.dv,MV.cells]
theorem zin:MV.unit.dv = .agg [dint 0,.sl [],.sl [],dint 0,dint 0,dint 0,.sl [],.sl [],.sl []]:=by rw [MV.dv,MV.cells]
theorem zio (b:Tm)(e:List MV):(MV.clo b e).dv = .agg [dint 0,.sl [],.sl [],dint b.kind,dint b.index,dint b.type.kind,.sl (List.map Ty.cells b.type.args),.sl (List.map Tm.cells b.args),.sl (e.reverse.map MV.cells)]:=by rw [MV.dv,MV.cells,MV.cellss_map,List.map_reverse]
theorem z84:zeroM.dv = .agg [dint 0,.sl [],.sl [],dint 0,dint 0,dint 0,.sl [],.sl [],.sl []]:=by rw [zeroM,z83];rfl
end
section
variable {gl:Globs}
theorem z18s {α:Type}{e:List α}{i:Nat}{x:α}(h:e[i]? = some x):e.reverse[e.length - 1 - i]? = some x:=by
 have hi:=(List.getElem?_eq_some_iff.1 h).1
 rw [List.getElem?_reverse (by omega),← h]
 congr 1
 omega
set_option maxHeartbeats 4000000 in
set_option maxRecDepth 100000 in
theorem z18t {most:Int}(hm:most≤1073741824){d:Nat}(H:Walk6 Tryz.prog gl 100 most (ev6 most d)):Walk6 Tryz.prog gl 100 most (ev6 most (d+1)):=fun t e u v u' o b M h hu0 hu hM hMb he hel=>by
 have B:=@zc8 most d
 rw [ev6] at h
 have hft:=Tm.fold t
 have hlen:e.reverse.length=e.length:=List.length_reverse
 unfold mach6
 refine t_in Tryz.func100 ?_
 intro X hP hgl hf hfn hn hR hids hfit
 have hlt:=Tm.fit_len (hfit t.dv (by simp))
 by_cases hum:u=most
 ·rw [if_pos hum] at h
  simp only [Option.some.injEq,Prod.mk.injEq] at h
  obtain ⟨rfl,rfl,rfl⟩:=h
  subst hum
  refine t_g0 ?_
  refine t_ro [(b,[dint u,dint u,dbool true])] @z84 ?_
  try simp [z84]
  try all_goals exact t_f
 rw [if_neg hum] at h
 by_cases h1:t.kind=1
 ·rw [if_pos h1] at h
  split at h
  ·rename_i hi0
   split at h
   ·rename_i v1 hv
    simp only [Option.some.injEq,Prod.mk.injEq] at h
    obtain ⟨rfl,rfl,rfl⟩:=h
    have hgv:=z18s hv
    have hl1:=(List.getElem?_eq_some_iff.1 hv).1
    generalize e.reverse=r at *
    have hix:(e.length:Int) - 1 - t.index=((e.length - 1 - t.index.toNat:Nat):Int):=by omega
    refine t_g (j2 @hum (j2 @h1 (j2 @hlen (j2 @hix @hgv)))) ?_
    refine t_ro [(b,[dint (u+1),dint most,dbool false])] trivial ?_
    try simp
    try all_goals exact t_f
   ·cases h
  ·cases h
 rw [if_neg h1] at h
 by_cases h2:t.kind=2
 ·rw [if_pos h2] at h
  split at h
  ·rename_i body r hargs
   simp only [Option.some.injEq,Prod.mk.injEq] at h
   obtain ⟨rfl,rfl,rfl⟩:=h
   have hg0:t.args[0]? = some body:=by rw [hargs];rfl
   refine t_g (j2 @hum (j2 @h1 (j2 @h2 @hg0))) ?_
   refine t_ro [(b,[dint (u+1),dint most,dbool false])] @zio ?_
   try simp [zio]
   try all_goals exact t_f
  ·cases h
 rw [if_neg h2] at h
 obtain ⟨r,hall⟩:∃ r,allRun (ev6 most d) t.args e (u+1)=some r:=by
  cases hq:allRun (ev6 most d) t.args e (u+1) with
  | none=>rw [hq] at h;cases h
  | some r=>exact ⟨r,rfl⟩
 rw [hall] at h
 obtain ⟨el,hela⟩:∃ el,el=e.reverse:=⟨_,rfl⟩
 refine t_g (j2 @hum (j2 @h1 @h2)) ?_
 refine t_a ?_
 refine z0e [(1007,0)] (j2 @z18p @z18q) (z3a (t.args) (fun done=>(∃ vs uk,allRun (ev6 most d) done e (u+1)=some (vs,uk,false))) (fun done rest=>[(.slot 66,.one (.v (dint done.length))),(.slot 65,.one (.v (dint t.args.length))),(.slot 64,.one (.v (.sl (t.args.map Tm.cells)))),(.slot 0,.one (.v (ptr b))),(.slot 2,.one (.v (.sl (e.reverse.map MV.cells)))),(.slot 4,.one (.loc 4 0)),(.loc 4,.row ([.v (dint t.kind),.v (dint t.index),.v (dint t.type.kind),.v (.sl (t.type.args.map Ty.cells)),.v (.sl (t.args.map Tm.cells))])),(.slot 6,.one (.loc 6 0)),(.loc 6,.row ([.v (dint 0),.own 0 [],.own 0 [],.v (dint 0),.v (dint 0),.v (dint 0),.own 0 [],.own 0 [],.own 0 []])),(.slot 7,.one (.own 1007 ((vsD (ev6 most d) e (u+1) done).map MV.cells))),(.tok 1007,.tk 9 (vsD (ev6 most d) e (u+1) done).length),(.heap  b,.row ([.v (dint (ukD (ev6 most d) e (u+1) done)),.v (dint most),.v (dbool false)]))]) (⟨[],u+1,rfl⟩) ?_ ?_)
 ·intro done x rest hL hg0 hI hnext
  have hlt1:done.length<t.args.length:=by rw [hL];simp
  have hd:=allD hI
  rw [hL] at hall
  obtain ⟨v1,u1,o1,g1,g2,g3⟩:=zim done hall hd
  obtain ⟨b1,b2,b3⟩:=z81 B done hd (by omega) hM he hel
  have hlv:=zcl hd
  have w:=H b M g1 (by omega) b2 hM (by omega) he hel
  unfold mach6 at w
  have hfx:=Tm.fold x
  refine z00 ?_
  refine z07 ?_
  refine t_g @hg0 ?_
  cases o1 with
  | true=>
   obtain ⟨k1,k2⟩:=g2 rfl
   obtain ⟨rv,ru,ro⟩:=r
   simp only at k1 k2
   subst k1 k2
   simp only [Option.some.injEq,Prod.mk.injEq] at h
   obtain ⟨rfl,rfl,rfl⟩:=h
   refine t_c1 (j2 @hg0 @hfx) w ?_
   refine t_g0 ?_
   refine t_ro [(b,[dint ru,dint most,dbool true])] @z84 ?_
   try simp [z84]
   try all_goals exact t_f
  | false=>
   have g3:=g3 rfl
   have e1:vsD (ev6 most d) e (u+1) (done++[x])=vsD (ev6 most d) e (u+1) done++[v1]:=by simp only [vsD,g3,Option.getD_some]
   have e2:ukD (ev6 most d) e (u+1) (done++[x])=u1:=by simp only [ukD,g3,Option.getD_some]
   have hv1:=MV.cells_eq v1
   refine t_c1 (j2 @hg0 @hfx) w ?_
   refine t_gt (wr [(1007,76)]) (j2 @e1 (j2 @e2 (j2 @hlv @hv1))) @hlv (hnext ⟨_,_,g3⟩)
 ·intro hI
  have hd:=allD hI
  rw [hd] at hall
  obtain rfl:=Option.some.inj hall
  simp only at h
  obtain ⟨b1,b2,b3⟩:=z81 B _ hd (by omega) hM he hel
  have hll:=zcl hd
  clear hall hI
  clear hd
  generalize vsD (ev6 most d) e (u+1) t.args=l at *
  generalize ukD (ev6 most d) e (u+1) t.args=u1 at *
  obtain ⟨M2,hM2⟩:∃ M2,M2=M+(u1 - (u+1)):=⟨_,rfl⟩
  rw [← hM2] at b3
  have hM20:0≤M2:=by omega
  have hM2b:M2+(most - u1)≤1073741824:=by omega
  unfold nodeRun at h
  refine z00 ?_
  refine t_no ?_
  by_cases h3:t.kind=3
  ·rw [if_pos h3] at h
   split at h
   ·rename_i f x
    simp only [MV.les] at b3
    have w:=z2p hm H b M2 h (by omega) b2 hM20 hM2b b3.1 b3.2.1
    unfold mach6 at w
    refine t_g @h3 ?_
    refine t_c1 @h3 w ?_
    refine t_ro [(b,[dint u',dint most,dbool o])] trivial ?_
    try simp
    try all_goals exact t_f
   ·cases h
  rw [if_neg h3] at h
  by_cases h4:t.kind=4
  ·rw [if_pos h4] at h
   simp only [Option.some.injEq,Prod.mk.injEq] at h
   obtain ⟨rfl,rfl,rfl⟩:=h
   have hz:(MV.num 0).dv=_:=z84
   refine t_g @h4 ?_
   refine t_ro [(b,[dint u1,dint most,dbool false])] @hz ?_
   try simp [hz]
   try all_goals exact t_f
  rw [if_neg h4] at h
  by_cases h5:t.kind=5
  ·rw [if_pos h5] at h
   split at h
   ·rename_i n
    simp only [Option.some.injEq,Prod.mk.injEq] at h
    obtain ⟨rfl,rfl,rfl⟩:=h
    simp only [MV.les,MV.le] at b3
    have hz:=z83 (n+1)
    have hq:((n+1:Nat):Int)=(n:Int)+1:=by omega
    rw [hq] at hz
    refine t_g @h5 ?_
    refine t_ro [(b,[dint u1,dint most,dbool false])] @hz ?_
    try simp [hz]
    try all_goals exact t_f
   ·cases h
  rw [if_neg h5] at h
  by_cases h6:t.kind=6
  ·rw [if_pos h6] at h
   split at h
   ·rename_i b0 f n
    simp only [MV.les] at b3
    obtain ⟨c1,c2,c3,-⟩:=b3
    simp only [MV.le] at c3
    have hq1:=MV.numF_num n
    have hc1:=MV.cells_eq f
    have hf1:=MV.fold f
    generalize hnn:MV.num n=nn at *
    refine t_g @h6 ?_
    refine t_a ?_
    refine z0e [] trivial (z1f (fun x:Nat × MV × Int × Bool=>x.1≤n∧u1≤x.2.2.1∧x.2.2.1≤most∧x.2.1.le (M2+(x.2.2.1 - u1))∧(x.2.2.2=false→recRun (ev6 most d) f (n - x.1) x.1 x.2.1 x.2.2.1=some (v,u',o))∧(x.2.2.2=true→v=x.2.1∧u' = x.2.2.1∧o=true)) (fun x:Nat × MV × Int × Bool=>[(.slot 0,.one (.v (ptr b))),(.slot 6,.one (.loc 6 0)),(.loc 6,.row ([.v (dint 0),.own 0 [],.own 0 [],.v (dint 0),.v (dint 0),.v (dint 0),.own 0 [],.own 0 [],.own 0 []])),(.slot 7,.one (.v (.sl [b0.cells,f.cells,nn.cells]))),(.slot 10,.one (.loc 10 0)),(.loc 10,.row ([.v (dint x.2.1.numF),.v (.sl (ints x.2.1.listF)),.v (.sl (x.2.1.pairF.map MV.cells)),.v (dint x.2.1.bodyF.kind),.v (dint x.2.1.bodyF.index),.v (dint x.2.1.bodyF.type.kind),.v (.sl (x.2.1.bodyF.type.args.map Ty.cells)),.v (.sl (x.2.1.bodyF.args.map Tm.cells)),.v (.sl (x.2.1.envF.map MV.cells))])),(.slot 11,.one (.v (dint x.1))),(.heap  b,.row ([.v (dint x.2.2.1),.v (dint most),.v (dbool x.2.2.2)]))]) (fun x:Nat × MV × Int × Bool=>n - x.1) (0,b0,u1,false) (⟨Nat.zero_le _,Int.le_refl u1,b2,MV.le_mono (by show M2≤M2+(u1 - u1);omega) c1,fun _=>h,fun h=>(by cases h)⟩) ?_)
    rintro ⟨k,r,uk,ok⟩ ⟨i1,i2,i3,i4,i5,i6⟩ ih
    simp only at i1 i2 i3 i4 i5 i6
    have hr1:=MV.fold r
    cases ok with
    | true=>
     obtain ⟨rfl,rfl,rfl⟩:=i6 rfl
     by_cases hk:(k:Int)<n
     ·refine t_g (j2 @hk @hq1) ?_
      refine t_ro [(b,[dint u',dint most,dbool true])] trivial ?_
      try simp
      try all_goals exact t_f
     ·refine t_g (j2 @hk @hq1) ?_
      refine t_ro [(b,[dint u',dint most,dbool true])] trivial ?_
      try simp
      try all_goals exact t_f
    | false=>
     have i5:=i5 rfl
     by_cases hk:(k:Int)<n
     rotate_left
     ·have hk0:n - k=0:=by omega
      rw [hk0] at i5
      simp only [recRun,Option.some.injEq,Prod.mk.injEq] at i5
      obtain ⟨rfl,rfl,rfl⟩:=i5
      refine t_g (j2 @hk @hq1) ?_
      refine t_ro [(b,[dint uk,dint most,dbool false])] trivial ?_
      try simp
      try all_goals exact t_f
     ·have hk0:n - k=(n - (k+1))+1:=by omega
      rw [hk0] at i5
      simp only [recRun] at i5
      have hk1:((k+1:Nat):Int)=(k:Int)+1:=by omega
      split at i5
      ·cases i5
      ·rename_i g u2 g1
       have w:=z2p (gl:=gl) hm H b (M2+(uk - u1)) g1 (by omega) i3 (by omega) (by omega) (MV.le_mono (by omega) c2) (by simp only [MV.le];omega)
       obtain ⟨d1,d2,d3⟩:=z1c B g1 i3 (M:=M2+(uk - u1)) (by omega) (MV.le_mono (by omega) c2) (by simp only [MV.le];omega)
       simp only [Option.some.injEq,Prod.mk.injEq] at i5
       obtain ⟨rfl,rfl,rfl⟩:=i5
       unfold mach6 at w
       have hkd:=z83 k
       refine t_g (j2 @hk @hq1) ?_
       refine t_c1 (j2 @hkd @hf1) w ?_
       refine t_gt (wr []) @hk1 trivial (ih (k+1,r,u2,true) ⟨by show k+1≤n;omega,by show u1≤u2;omega,d2,MV.le_mono (by show _≤M2+(u2 - u1);omega) i4,fun h=>(by cases h),fun _=>⟨rfl,rfl,rfl⟩⟩ (by show n - (k+1)<n - k;omega))
      ·rename_i g u2 g1
       have w:=z2p (gl:=gl) hm H b (M2+(uk - u1)) g1 (by omega) i3 (by omega) (by omega) (MV.le_mono (by omega) c2) (by simp only [MV.le];omega)
       obtain ⟨d1,d2,d3⟩:=z1c B g1 i3 (M:=M2+(uk - u1)) (by omega) (MV.le_mono (by omega) c2) (by simp only [MV.le];omega)
       have hg1:=MV.fold g
       have hkd:=z83 k
       split at i5
       ·cases i5
       ·rename_i r2 u3 g2
        have w2:=z2p (gl:=gl) hm H b (M2+(u2 - u1)) g2 (by omega) d2 (by omega) (by omega) (MV.le_mono (by omega) d3) (MV.le_mono (by omega) i4)
        obtain ⟨d4,d5,d6⟩:=z1c B g2 d2 (M:=M2+(u2 - u1)) (by omega) (MV.le_mono (by omega) d3) (MV.le_mono (by omega) i4)
        simp only [Option.some.injEq,Prod.mk.injEq] at i5
        obtain ⟨rfl,rfl,rfl⟩:=i5
        unfold mach6 at w w2
        have hr2:=MV.cells_eq r2
        refine t_g (j2 @hk @hq1) ?_
        refine t_c1 (j2 @hkd @hf1) w ?_
        refine t_g0 ?_
        refine t_c1 (j2 @hg1 @hr1) w2 ?_
        refine t_gt (wr []) (j2 @hk1 @hr2) trivial (ih (k+1,r2,u3,true) ⟨by show k+1≤n;omega,by show u1≤u3;omega,d5,MV.le_mono (by show _≤M2+(u3 - u1);omega) d6,fun h=>(by cases h),fun _=>⟨rfl,rfl,rfl⟩⟩ (by show n - (k+1)<n - k;omega))
       ·rename_i r2 u3 g2
        have w2:=z2p (gl:=gl) hm H b (M2+(u2 - u1)) g2 (by omega) d2 (by omega) (by omega) (MV.le_mono (by omega) d3) (MV.le_mono (by omega) i4)
        obtain ⟨d4,d5,d6⟩:=z1c B g2 d2 (M:=M2+(u2 - u1)) (by omega) (MV.le_mono (by omega) d3) (MV.le_mono (by omega) i4)
        unfold mach6 at w w2
        have hr2:=MV.cells_eq r2
        refine t_g (j2 @hk @hq1) ?_
        refine t_c1 (j2 @hkd @hf1) w ?_
        refine t_g0 ?_
        refine t_c1 (j2 @hg1 @hr1) w2 ?_
        refine t_gt (wr []) (j2 @hk1 @hr2) trivial (ih (k+1,r2,u3,false) ⟨by show k+1≤n;omega,by show u1≤u3;omega,d5,MV.le_mono (by show _≤M2+(u3 - u1);omega) d6,fun _=>i5,fun h=>(by cases h)⟩ (by show n - (k+1)<n - k;omega))
   ·cases h
  rw [if_neg h6] at h
  by_cases h7:t.kind=7
  ·rw [if_pos h7] at h
   simp only [Option.some.injEq,Prod.mk.injEq] at h
   obtain ⟨rfl,rfl,rfl⟩:=h
   have hz:(MV.list []).dv = .agg [dint 0,.sl [],.sl [],dint 0,dint 0,dint 0,.sl [],.sl [],.sl []]:=zcm []
   refine t_g @h7 ?_
   refine t_ro [(b,[dint u1,dint most,dbool false])] @hz ?_
   try simp [hz]
   try all_goals exact t_f
  rw [if_neg h7] at h
  by_cases h8:t.kind=8
  ·rw [if_pos h8] at h
   split at h
   ·rename_i n rl
    simp only [Option.some.injEq,Prod.mk.injEq] at h
    obtain ⟨rfl,rfl,rfl⟩:=h
    simp only [MV.les,MV.le] at b3
    have hz:=zcm (n::rl)
    have hq:ints (List.map Int.ofNat (n::rl))=[dint (n:Int)]::ints (List.map Int.ofNat rl):=rfl
    rw [hq] at hz
    have hrl:=b3.2.1.1
    refine t_g @h8 ?_
    refine z09 (by rw [hP];exact z08) [146] fun K hK=>?_
    simp [go_sem,hP,hgl,hn]
    refine z14u (E:=1) (els:=[[dint (n:Int)]]) (fun _ _=>z0l) (by simp [go_sem,hP];rfl) (by simp [go_sem,hP,hgl,hn]) ⟨rfl,by decide,by decide⟩ (by rw [hn];exact Nat.le_of_ble_eq_true rfl) (by decide) (by rfl) ?_
    simp [go_sem,hP,hgl,hn]
    refine t_e ?_
    clear hK K
    refine t_ro [(b,[dint u1,dint most,dbool false])] @hz ?_
    try simp [hz]
    try all_goals exact t_f
   ·cases h
  rw [if_neg h8] at h
  by_cases h10:t.kind=10
  ·rw [if_neg (show ¬ t.kind=9 by omega),if_pos h10] at h
   split at h
   ·rename_i p q
    simp only [Option.some.injEq,Prod.mk.injEq] at h
    obtain ⟨rfl,rfl,rfl⟩:=h
    have hz:=z18r p q
    have hp1:=MV.cells_eq p
    have hp2:=MV.cells_eq q
    refine t_g @h10 ?_
    refine t_ro [(b,[dint u1,dint most,dbool false])] (j2 @hz (j2 @hp1 @hp2)) ?_
    try simp [hz,hp1,hp2]
    try all_goals exact t_f
   ·cases h
  by_cases h11:t.kind=11
  ·rw [if_neg (show ¬ t.kind=9 by omega),if_neg h10,if_pos h11] at h
   split at h
   ·rename_i p q
    simp only [Option.some.injEq,Prod.mk.injEq] at h
    obtain ⟨rfl,rfl,rfl⟩:=h
    have hf1:=MV.fold p
    refine t_g @h11 ?_
    refine t_ro [(b,[dint u1,dint most,dbool false])] @hf1 ?_
    try simp [hf1]
    try all_goals exact t_f
   ·cases h
  by_cases h12:t.kind=12
  ·rw [if_neg (show ¬ t.kind=9 by omega),if_neg h10,if_neg h11,if_pos h12] at h
   split at h
   ·rename_i p q
    simp only [Option.some.injEq,Prod.mk.injEq] at h
    obtain ⟨rfl,rfl,rfl⟩:=h
    have hf1:=MV.fold q
    refine t_g @h12 ?_
    refine t_ro [(b,[dint u1,dint most,dbool false])] @hf1 ?_
    try simp [hf1]
    try all_goals exact t_f
   ·cases h
  by_cases h9:t.kind=9
  rotate_left
  ·rw [if_neg h9,if_neg h10,if_neg h11,if_neg h12] at h
   simp only [Option.some.injEq,Prod.mk.injEq] at h
   obtain ⟨rfl,rfl,rfl⟩:=h
   refine t_g (j2 @h3 (j2 @h4 (j2 @h5 (j2 @h6 (j2 @h7 (j2 @h8 (j2 @h9 (j2 @h10 (j2 @h11 @h12))))))))) ?_
   refine t_ro [(b,[dint u1,dint most,dbool false])] @zin ?_
   try simp [zin]
   try all_goals exact t_f
  rw [if_pos h9] at h
  split at h
  ·rename_i b0 f L
   simp only [MV.les] at b3
   obtain ⟨c1,c2,c3,-⟩:=b3
   simp only [MV.le] at c3
   obtain ⟨c3,c4⟩:=c3
   have hq1:=MV.listF_list L
   have hc1:=MV.cells_eq f
   have hf1:=MV.fold f
   generalize hnn:MV.list L=nn at *
   have hL8:=c3
   refine t_g (j2 @h9 @hq1) ?_
   refine t_a ?_
   refine z0e [] @hq1 (z1f (fun x:Nat × MV × Int × Bool=>x.1≤L.length∧u1≤x.2.2.1∧x.2.2.1≤most∧x.2.1.le (M2+(x.2.2.1 - u1))∧(x.2.2.2=false→foldRun (ev6 most d) f (L.take x.1).reverse (L.drop x.1) x.2.1 x.2.2.1=some (v,u',o))∧(x.2.2.2=true→v=x.2.1∧u' = x.2.2.1∧o=true)) (fun x:Nat × MV × Int × Bool=>[(.slot 0,.one (.v (ptr b))),(.slot 6,.one (.loc 6 0)),(.loc 6,.row ([.v (dint 0),.own 0 [],.own 0 [],.v (dint 0),.v (dint 0),.v (dint 0),.own 0 [],.own 0 [],.own 0 []])),(.slot 7,.one (.v (.sl [b0.cells,f.cells,nn.cells]))),(.slot 13,.one (.loc 13 0)),(.loc 13,.row ([.v (dint x.2.1.numF),.v (.sl (ints x.2.1.listF)),.v (.sl (x.2.1.pairF.map MV.cells)),.v (dint x.2.1.bodyF.kind),.v (dint x.2.1.bodyF.index),.v (dint x.2.1.bodyF.type.kind),.v (.sl (x.2.1.bodyF.type.args.map Ty.cells)),.v (.sl (x.2.1.bodyF.args.map Tm.cells)),.v (.sl (x.2.1.envF.map MV.cells))])),(.slot 14,.one (.v (dint ((x.1:Int) - 1)))),(.heap  b,.row ([.v (dint x.2.2.1),.v (dint most),.v (dbool x.2.2.2)]))]) (fun x:Nat × MV × Int × Bool=>x.1) (L.length,b0,u1,false) (⟨Nat.le_refl _,Int.le_refl u1,b2,MV.le_mono (by show M2≤M2+(u1 - u1);omega) c1,fun _=>by simpa using h,fun h=>(by cases h)⟩) ?_)
   rintro ⟨j,r,uk,ok⟩ ⟨i1,i2,i3,i4,i5,i6⟩ ih
   simp only at i1 i2 i3 i4 i5 i6
   have hr1:=MV.fold r
   cases ok with
   | true=>
    obtain ⟨rfl,rfl,rfl⟩:=i6 rfl
    cases j with
    | zero=>
     refine t_g0 ?_
     refine t_ro [(b,[dint u',dint most,dbool true])] trivial ?_
     try simp
     try all_goals exact t_f
    | succ m=>
     have hk:(0:Int)≤m:=by omega
     refine t_g @hk ?_
     refine t_ro [(b,[dint u',dint most,dbool true])] trivial ?_
     try simp
     try all_goals exact t_f
   | false=>
    have i5:=i5 rfl
    cases j with
    | zero=>
     simp only [List.take_zero,List.reverse_nil,foldRun,Option.some.injEq,Prod.mk.injEq] at i5
     obtain ⟨rfl,rfl,rfl⟩:=i5
     refine t_g0 ?_
     refine t_ro [(b,[dint uk,dint most,dbool false])] trivial ?_
     try simp
     try all_goals exact t_f
    | succ m=>
     have hk:(0:Int)≤m:=by omega
     obtain ⟨y,hy⟩:∃ y,L[m]? = some y:=⟨_,List.getElem?_eq_getElem (by omega)⟩
     have htk:L.take (m+1)=L.take m++[y]:=by rw [List.take_add_one,hy];rfl
     have hdr:L.drop m=y::L.drop (m+1):=by
      obtain ⟨q1,q2⟩:=List.getElem?_eq_some_iff.1 hy
      rw [List.drop_eq_getElem_cons q1,q2]
     rw [htk,List.reverse_append,List.reverse_singleton,List.singleton_append] at i5
     simp only [foldRun] at i5
     rw [← hdr] at i5
     have hyM:(y:Int)≤M2:=c4 y (List.mem_of_getElem? hy)
     have hgy:(ints (List.map Int.ofNat L))[m]? = some [dint (y:Int)]:=by
      have:(List.map Int.ofNat L)[m]? = some (y:Int):=by rw [List.getElem?_map,hy];rfl
      exact z3i this
     have hsl:List.drop (m+1) (List.take L.length (ints (List.map Int.ofNat L)))=ints (List.drop (m+1) (List.map Int.ofNat L)):=by
      rw [List.take_of_length_le (by simp [ints])]
      simp only [ints,List.map_drop]
     have hm1:((m+1:Nat):Int) - 1=(m:Int):=by omega
     have hm2:((m+1:Nat):Int) - 1 - 1=(m:Int) - 1:=by omega
     have hyd:=z83 y
     have hrd:=zcm (L.drop (m+1))
     have hle1:(MV.num y).le (M2+(uk - u1)):=by simp only [MV.le];omega
     have hrest:∀ N:Int,M2≤N→(MV.list (L.drop (m+1))).le N:=by
      intro N hN
      simp only [MV.le,List.length_drop]
      exact ⟨by omega,fun z hz=>by have:=c4 z (List.mem_of_mem_drop hz);omega⟩
     split at i5
     ·cases i5
     ·rename_i g u2 g1
      have w1:=z2p (gl:=gl) hm H b (M2+(uk - u1)) g1 (by omega) i3 (by omega) (by omega) (MV.le_mono (by omega) c2) hle1
      obtain ⟨d1,d2,d3⟩:=z1c B g1 i3 (M:=M2+(uk - u1)) (by omega) (MV.le_mono (by omega) c2) hle1
      simp only [Option.some.injEq,Prod.mk.injEq] at i5
      obtain ⟨rfl,rfl,rfl⟩:=i5
      unfold mach6 at w1
      refine t_g (j2 @hk @hq1) ?_
      refine t_c1 (j2 @hyd (j2 @hf1 (j2 @hq1 @hgy))) w1 ?_
      refine t_gt (wr []) @hq1 trivial (ih (m,r,u2,true) ⟨by show m≤L.length;omega,by show u1≤u2;omega,d2,MV.le_mono (by show _≤M2+(u2 - u1);omega) i4,fun h=>(by cases h),fun _=>⟨rfl,rfl,rfl⟩⟩ (by show m<m+1;omega))
     ·rename_i g u2 g1
      have w1:=z2p (gl:=gl) hm H b (M2+(uk - u1)) g1 (by omega) i3 (by omega) (by omega) (MV.le_mono (by omega) c2) hle1
      obtain ⟨d1,d2,d3⟩:=z1c B g1 i3 (M:=M2+(uk - u1)) (by omega) (MV.le_mono (by omega) c2) hle1
      have hg1:=MV.fold g
      have hle2:=hrest (M2+(u2 - u1)) (by omega)
      split at i5
      ·cases i5
      ·rename_i g' u3 g2
       have w2:=z2p (gl:=gl) hm H b (M2+(u2 - u1)) g2 (by omega) d2 (by omega) (by omega) (MV.le_mono (by omega) d3) hle2
       obtain ⟨d4,d5,d6⟩:=z1c B g2 d2 (M:=M2+(u2 - u1)) (by omega) (MV.le_mono (by omega) d3) hle2
       simp only [Option.some.injEq,Prod.mk.injEq] at i5
       obtain ⟨rfl,rfl,rfl⟩:=i5
       unfold mach6 at w1 w2
       refine t_g (j2 @hk @hq1) ?_
       refine t_c1 (j2 @hyd (j2 @hf1 (j2 @hq1 @hgy))) w1 ?_
       refine t_g0 ?_
       refine t_c1 (j2 @hg1 (j2 @hq1 (j2 @hsl @hrd))) w2 ?_
       refine t_gt (wr []) @hq1 trivial (ih (m,r,u3,true) ⟨by show m≤L.length;omega,by show u1≤u3;omega,d5,MV.le_mono (by show _≤M2+(u3 - u1);omega) i4,fun h=>(by cases h),fun _=>⟨rfl,rfl,rfl⟩⟩ (by show m<m+1;omega))
      ·rename_i g' u3 g2
       have w2:=z2p (gl:=gl) hm H b (M2+(u2 - u1)) g2 (by omega) d2 (by omega) (by omega) (MV.le_mono (by omega) d3) hle2
       obtain ⟨d4,d5,d6⟩:=z1c B g2 d2 (M:=M2+(u2 - u1)) (by omega) (MV.le_mono (by omega) d3) hle2
       have hg2:=MV.fold g'
       split at i5
       ·cases i5
       ·rename_i r2 u4 g3
        have w3:=z2p (gl:=gl) hm H b (M2+(u3 - u1)) g3 (by omega) d5 (by omega) (by omega) (MV.le_mono (by omega) d6) (MV.le_mono (by omega) i4)
        obtain ⟨d7,d8,d9⟩:=z1c B g3 d5 (M:=M2+(u3 - u1)) (by omega) (MV.le_mono (by omega) d6) (MV.le_mono (by omega) i4)
        simp only [Option.some.injEq,Prod.mk.injEq] at i5
        obtain ⟨rfl,rfl,rfl⟩:=i5
        have hr2:=MV.cells_eq r2
        unfold mach6 at w1 w2 w3
        refine t_g (j2 @hk @hq1) ?_
        refine t_c1 (j2 @hyd (j2 @hf1 (j2 @hq1 @hgy))) w1 ?_
        refine t_g0 ?_
        refine t_c1 (j2 @hg1 (j2 @hq1 (j2 @hsl @hrd))) w2 ?_
        refine t_g0 ?_
        refine t_c1 (j2 @hg2 @hr1) w3 ?_
        refine t_gt (wr []) (j2 @hr2 @hq1) trivial (ih (m,r2,u4,true) ⟨by show m≤L.length;omega,by show u1≤u4;omega,d8,MV.le_mono (by show _≤M2+(u4 - u1);omega) d9,fun h=>(by cases h),fun _=>⟨rfl,rfl,rfl⟩⟩ (by show m<m+1;omega))
       ·rename_i r2 u4 g3
        have w3:=z2p (gl:=gl) hm H b (M2+(u3 - u1)) g3 (by omega) d5 (by omega) (by omega) (MV.le_mono (by omega) d6) (MV.le_mono (by omega) i4)
        obtain ⟨d7,d8,d9⟩:=z1c B g3 d5 (M:=M2+(u3 - u1)) (by omega) (MV.le_mono (by omega) d6) (MV.le_mono (by omega) i4)
        have hr2:=MV.cells_eq r2
        unfold mach6 at w1 w2 w3
        refine t_g (j2 @hk @hq1) ?_
        refine t_c1 (j2 @hyd (j2 @hf1 (j2 @hq1 @hgy))) w1 ?_
        refine t_g0 ?_
        refine t_c1 (j2 @hg1 (j2 @hq1 (j2 @hsl @hrd))) w2 ?_
        refine t_g0 ?_
        refine t_c1 (j2 @hg2 @hr1) w3 ?_
        refine t_gt (wr []) (j2 @hr2 @hq1) trivial (ih (m,r2,u4,false) ⟨by show m≤L.length;omega,by show u1≤u4;omega,d8,MV.le_mono (by show _≤M2+(u4 - u1);omega) d9,fun _=>i5,fun h=>(by cases h)⟩ (by show m<m+1;omega))
  ·cases h
theorem ziq {most:Int}(hm:most≤1073741824):∀ d:Nat,Walk6 Tryz.prog gl 100 most (ev6 most d)
 | 0=>fun t e u v u' o b M h=>by cases h
 | d+1=>z18t hm (ziq hm d)
end
section
variable {gl:Globs}
theorem z18u (t:Tm)(h:t.shape=true):t.tys:=by
 induction t using Tm.ind with
 | h t ih=>
 obtain ⟨-,-,-,h4,h5⟩:=Tm.shape_node h
 rw [Tm.tys_eq]
 refine ⟨?_,fun a ha=>ih a ha (h5 a ha)⟩
 split at h4
 ·have:=h4.2;omega
 ·unfold Ty.zero at h4
  simp at h4
  rw [Ty.count_eq,h4.2]
  decide
theorem z18v {Γ:List T}{t:Tm}{a:T}{F:Env Γ→a.V}(h:Dn Γ t a F):t.tys:=z18u _ (z1j h)
set_option maxHeartbeats 4000000 in
set_option maxRecDepth 100000 in
theorem z18w (t:Tm)(l:List T)(r:T)(F:Env []→(FnT l r).V)(Z:Env l)(work M:Int)(h:Dn [] t (FnT l r) F)(hc:t.count≤536870912)(hl:Plains l)(hll:l.length≤1000000)(hr:r.plain)(hro:r.ok)(hw0:0≤work)(hw:work≤65536)(hM:0≤M)(hMb:M+work≤1073741824)(hX:MV.les M (mvsOf l Z)) :
  Con1 Tryz.prog gl 56 [t.dv,.sl ((valsOf l Z).map Val.cells),dint work] [] (.tup [(callOut t l (F ()) Z work).1.dv,dint (callOut t l (F ()) Z work).2.1,dint (callOut t l (F ()) Z work).2.2]) []:=by
 have hte:=z11q (gl:=gl) t [] (by simp) (z18v h) (by omega)
 have hco:=zi1 h Z work
 have hvl:=zcd l Z
 have hml:=zce l Z
 have hft:=Tm.fold t
 have hfz:(Ty.mk 0 []).cells=[dint 0,.sl []]:=rfl
 refine t_in Tryz.func56 ?_
 intro X hP hgl hf hfn hn hR hids hfit
 unfold callOut at hR
 refine t_g0 ?_
 refine t_c1 @hft hte ?_
 by_cases he:(t.typeE []).2=0
 rotate_left
 ·rw [if_neg he] at hR
  refine t_g @he ?_
  refine t_r ?_
  simp [go_sem,hP,hgl,hn,zeroV] <;> (try omega)
  all_goals exact t_f
 rw [if_pos he] at hR
 have hty:(t.typeE []).1=(FnT l r).ty:=by
  rcases zhy h with h1|h1
  ·rw [h1]
  ·rw [he] at h1;cases h1
 have hfr:=Ty.fold (FnT l r).ty
 refine t_g @he ?_
 refine t_a ?_
 refine z0e [] (j2 @hty @hvl) (z2a (l.length) (fun i=>True) (fun i=>[(.slot 1,.one (.v (.sl ((valsOf l Z).map Val.cells)))),(.slot 2,.one (.v (dint work))),(.slot 3,.one (.loc 3 0)),(.loc 3,.row ([.v (dint t.kind),.v (dint t.index),.v (dint t.type.kind),.v (.sl (t.type.args.map Ty.cells)),.v (.sl (t.args.map Tm.cells))])),(.slot 6,.one (.loc 6 0)),(.loc 6,.row ([.v (dint 0),.v (dint 0),.own 0 [],.own 0 []])),(.slot 9,.one (.loc 9 0)),(.loc 9,.row ([.v (dint (FnT (l.drop i) r).ty.kind),.v (.sl ((FnT (l.drop i) r).ty.args.map Ty.cells))])),(.slot 30,.one (.v (.sl ((valsOf l Z).map Val.cells)))),(.slot 31,.one (.v (dint l.length))),(.slot 32,.one (.v (dint i)))]) (trivial) ?_ ?_)
 ·intro i hi _ hnext
  obtain ⟨a,x,g1,g2,g3,g4,g5⟩:=z9w (r:=r) l Z i hi hl
  have hvg:(List.map Val.cells (valsOf l Z))[i]? = some (valOf a x).cells:=by rw [List.getElem?_map,g1];rfl
  have hfv:=Val.fold (valOf a x)
  have hcv:=Val.cells_eq (valOf a x)
  have hvc:=(z50 a x g4).2
  have hsz:a.size≤64:=g5
  have w1:=z12u (gl:=gl) (valOf a x) (by omega)
  rw [zhx x g4 g5] at w1
  have w2:=z1l (gl:=gl) a.ty a.ty
  rw [show a.ty.same a.ty=true from (Ty.same_iff _ _).2 rfl] at w2
  have hti:(FnT (l.drop i) r).ty=Ty.mk 4 [a.ty,(FnT (l.drop (i+1)) r).ty]:=by rw [g3,T.ty_fn]
  have hfa:=Ty.fold a.ty
  generalize (FnT (l.drop (i+1)) r).ty=ty' at *
  generalize (FnT (l.drop i) r).ty=ty0 at *
  generalize a.ty=ta at *
  subst hti
  have hct:=Ty.cells_eq ty'
  refine z00 ?_
  refine z07 ?_
  refine t_g (j2 @hvg @hcv) ?_
  refine t_c1 @hfv w1 ?_
  refine t_g0 ?_
  refine t_c1 @hfa w2 ?_
  refine t_g0 ?_
  refine t_gt (wr []) @hct trivial (hnext trivial)
 ·intro _
  have hdl:FnT (l.drop l.length) r=r:=by rw [List.drop_length];rfl
  rw [hdl]
  have wd:=z17d (gl:=gl) r hro
  rw [show decide (r.level=0)=true from decide_eq_true ((T.level_plain r).2 hr)] at wd
  have hfr:=Ty.fold r.ty
  have hwn:¬ (work<0):=by omega
  have hwm:¬ (65536<work):=by omega
  have hH:=ziq (gl:=gl) (most:=work) (by omega) (work.toNat+1)
  have hB:=zc8 work (work.toNat+1)
  obtain ⟨v0,u0,o0,e1,l1,m1,q1⟩:=zc7 work (work.toNat+1) h .nil hw0 (by omega)
  obtain ⟨cr,hcr⟩:∃ cr,cr=call6N work t (mvsOf l Z):=⟨_,rfl⟩
  have hout:=zi0 hw0 h Z hl
  rw [← hcr] at hR hout
  obtain ⟨vf,uf,of,r1,r2,r3,r4⟩:=hout
  unfold call6N at hcr
  rw [e1] at hcr
  obtain ⟨k1,k2,k3⟩:=hB e1 hw0 hM trivial (by simp only [List.length_nil];omega)
  refine z00 ?_
  refine t_no ?_
  refine t_g0 ?_
  refine t_c1 @hfr wd ?_
  refine t_g (j2 @hwn @hwm) ?_
  refine z2n 80 (by simp [go_sem];rfl) ?_
  intro b hb
  simp [go_sem] at hb ⊢
  have we:=hH b M e1 (by omega) hw0 hM (by omega) trivial (by simp only [List.length_nil];omega)
  unfold mach6 at we
  have hv0:=MV.cells_eq v0
  refine t_c1 @hft we ?_
  refine t_g0 ?_
  refine t_a ?_
  refine z0e [] (j2 @hv0 @hvl) (z1f (fun x:Nat × MV × Int × Bool=>x.1≤l.length∧0≤x.2.2.1∧x.2.2.1≤work∧x.2.1.le (M+x.2.2.1)∧(x.2.2.2=false→callsRun (ev6 work (work.toNat+1)) x.2.1 ((mvsOf l Z).drop x.1) x.2.2.1=cr)∧(x.2.2.2=true→of=true)) (fun x:Nat × MV × Int × Bool=>[(.slot 17,.one (.v (ptr b))),(.slot 6,.one (.loc 6 0)),(.loc 6,.row ([.v (dint 0),.v (dint 0),.own 0 [],.own 0 []])),(.slot 9,.one (.loc 9 0)),(.loc 9,.row ([.v (dint r.ty.kind),.v (.sl (r.ty.args.map Ty.cells))])),(.slot 18,.one (.loc 18 0)),(.loc 18,.row ([.v (dint x.2.1.numF),.v (.sl (ints x.2.1.listF)),.v (.sl (x.2.1.pairF.map MV.cells)),.v (dint x.2.1.bodyF.kind),.v (dint x.2.1.bodyF.index),.v (dint x.2.1.bodyF.type.kind),.v (.sl (x.2.1.bodyF.type.args.map Ty.cells)),.v (.sl (x.2.1.bodyF.args.map Tm.cells)),.v (.sl (x.2.1.envF.map MV.cells))])),(.slot 84,.one (.v (.sl ((valsOf l Z).map Val.cells)))),(.slot 85,.one (.v (dint l.length))),(.slot 86,.one (.v (dint x.1))),(.heap  b,.row ([.v (dint x.2.2.1),.v (dint work),.v (dbool x.2.2.2)]))]) (fun x:Nat × MV × Int × Bool=>l.length - x.1) (0,v0,u0,o0) (⟨Nat.zero_le _,by show 0≤u0;omega,m1,MV.le_mono (by show M+(u0 - 0)≤M+u0;omega) k3,fun h=>?_,fun h=>?_⟩) ?_)
  ·have h:o0=false:=h
   subst h
   exact hcr.symm
  ·have h:o0=true:=h
   subst h
   have hcr:cr=some (v0,u0,true):=hcr
   rw [hcr] at r1
   cases r1
   rfl
  rintro ⟨i,m,u,ok⟩ ⟨i1,i2,i3,i4,i5,i6⟩ ih
  simp only at i1 i2 i3 i4 i5 i6
  by_cases hi:i<l.length
  ·obtain ⟨a,x,g1,g2,-,g4,g5⟩:=z9w (r:=r) l Z i hi hl
   have hvg:(List.map Val.cells (valsOf l Z))[i]? = some (valOf a x).cells:=by rw [List.getElem?_map,g1];rfl
   have hfv:=Val.fold (valOf a x)
   have hcv:=Val.cells_eq (valOf a x)
   cases ok with
   | true=>
    refine z00 ?_
    refine z07 ?_
    refine t_g (j2 @hvg @hcv) ?_
    refine t_gt (wr []) trivial trivial (ih (i+1,m,u,true) ⟨by show i+1≤l.length;omega,i2,i3,i4,fun h=>(by cases h),fun _=>i6 rfl⟩ (by show l.length - (i+1)<l.length - i;omega))
   | false=>
    have i5:=i5 rfl
    have hdr:(mvsOf l Z).drop i=ofM a x::(mvsOf l Z).drop (i+1):=by
     obtain ⟨p1,p2⟩:=List.getElem?_eq_some_iff.1 g2
     rw [List.drop_eq_getElem_cons p1,p2]
    rw [hdr] at i5
    simp only [callsRun] at i5
    have hxM:(ofM a x).le (M+u):=MV.le_mono (by omega) (MV.les_iff.1 hX _ (List.mem_of_getElem? g2))
    have wo:=z17r (gl:=gl) a x g4
    have hfm:=MV.fold m
    split at i5
    ·rw [← i5] at r1;cases r1
    ·rename_i v1 u1 c1
     have w:=z2p (gl:=gl) (by omega) hH b (M+u) c1 i2 i3 (by omega) (by omega) i4 hxM
     obtain ⟨d1,d2,d3⟩:=z1c hB c1 i3 (M:=M+u) (by omega) i4 hxM
     have hof:of=true:=by rw [← i5] at r1;cases r1;rfl
     have hv1:=MV.cells_eq v1
     unfold mach6 at w
     generalize valOf a x=vx at *
     generalize ofM a x=mx at *
     refine z00 ?_
     refine z07 ?_
     refine t_g (j2 @hvg @hcv) ?_
     refine t_c2 (j2 @hfv @hfm) wo w ?_
     refine t_gt (wr []) @hv1 trivial (ih (i+1,v1,u1,true) ⟨by show i+1≤l.length;omega,by show 0≤u1;omega,d2,MV.le_mono (by show _≤M+u1;omega) d3,fun h=>(by cases h),fun _=>hof⟩ (by show l.length - (i+1)<l.length - i;omega))
    ·rename_i v1 u1 c1
     have w:=z2p (gl:=gl) (by omega) hH b (M+u) c1 i2 i3 (by omega) (by omega) i4 hxM
     obtain ⟨d1,d2,d3⟩:=z1c hB c1 i3 (M:=M+u) (by omega) i4 hxM
     have hv1:=MV.cells_eq v1
     unfold mach6 at w
     generalize valOf a x=vx at *
     generalize ofM a x=mx at *
     refine z00 ?_
     refine z07 ?_
     refine t_g (j2 @hvg @hcv) ?_
     refine t_c2 (j2 @hfv @hfm) wo w ?_
     refine t_gt (wr []) @hv1 trivial (ih (i+1,v1,u1,false) ⟨by show i+1≤l.length;omega,by show 0≤u1;omega,d2,MV.le_mono (by show _≤M+u1;omega) d3,fun _=>i5,fun h=>(by cases h)⟩ (by show l.length - (i+1)<l.length - i;omega))
  ·have hin:i=l.length:=by omega
   subst hin
   cases ok with
   | true=>
    have hof:=i6 rfl
    subst hof
    rw [r1] at hR
    refine z00 ?_
    refine t_no ?_
    refine t_g0 ?_
    refine t_r ?_
    simp [go_sem,hP,hgl,hn,zeroV] <;> (try omega)
    all_goals exact t_f
   | false=>
    have i5:=i5 rfl
    have hdr:(mvsOf l Z).drop l.length=[]:=by rw [← hml,List.drop_length]
    rw [hdr] at i5
    simp only [callsRun] at i5
    rw [← i5] at r1 hR
    have hq:m=vf∧of=false:=by cases r1;exact ⟨rfl,rfl⟩
    have r4:=r4 hq.2
    rw [← hq.1] at r4
    have wp:=z17s (gl:=gl) r4 hr
    have hfm:=MV.fold m
    generalize valOf r (appl l (F ()) Z)=vr at *
    refine z00 ?_
    refine t_no ?_
    refine t_g0 ?_
    refine t_c1 (j2 @hfm @hfr) wp ?_
    refine t_r ?_
    simp [go_sem,hP,hgl,hn] <;> (try omega)
    all_goals exact t_f
end
section
variable {gl:Globs}
theorem z18x (t:Tm)(r:T)(F:Env []→r.V)(work:Int)(h:Dn [] t r F)(hc:t.count≤536870912)(hr:r.plain)(hro:r.ok)(hw0:0≤work)(hw:work≤65536) :
  Con1 Tryz.prog gl 20 [t.dv,dint work] [] (.tup [(callOut t [] (r:=r) (F ()) () work).1.dv,dint (callOut t [] (r:=r) (F ()) () work).2.1,dint (callOut t [] (r:=r) (F ()) () work).2.2]) []:=by
 have w:=z18w (gl:=gl) t [] r F () work 0 h hc trivial (by decide) hr hro hw0 hw (by omega) (by omega) trivial
 have hft:=Tm.fold t
 generalize callOut t [] (r:=r) (F ()) () work=c at *
 refine t_in Tryz.func20 ?_
 intro X hP hgl hf hfn hn hR hids hfit
 have e0:DV.sl (List.map Val.cells (valsOf [] ())) = .sl []:=rfl
 rw [e0] at w
 have hfc:=Val.fold c.1
 refine t_g0 ?_
 refine t_c1 @hft w ?_
 refine t_g0 ?_
 refine t_r ?_
 simp [go_sem,hP,hgl,hn] <;> (try omega)
 all_goals exact t_f
end
section
variable {gl:Globs}
theorem z18y (a b:Ty):Con1 Tryz.prog gl 34 [a.dv,b.dv] [] (Ty.mk 4 [a,b]).dv []:=by
 refine t_in Tryz.func34 ?_
 intro X hP hgl hf hfn hn hR hids hfit
 refine t_g0 ?_
 refine t_r ?_
 simp [go_sem,hP,hgl,hn] <;> (try omega)
 all_goals exact t_f
end
section
def Agree6 (b:Ev6)(s:Evl):Prop:=∀ t e u v u' r,b t e u=some (v,u',false)→s t e=some r→v=r.1∧u' = u+r.2
theorem z6k {b:Ev6}{s:Evl}(h:Agree6 b s){f x v:MV}{u u':Int}{r:MV × Nat}(h1:callRun b f x u=some (v,u',false))(h2:callC s f [x]=some r):v=r.1∧u' = u+r.2:=by
 cases f with
 | clo t e=>
  simp only [callRun] at h1
  simp only [callC] at h2
  split at h2
  ·cases h2
  rename_i w c hw
  simp only [z6c,Nat.add_zero] at h2
  cases h2
  exact h _ _ _ _ _ _ h1 hw
 | _=>cases h1
theorem zir {b:Ev6}{s:Evl}(h:Agree6 b s):∀ {l:List Tm} {e:List MV} {u u':Int} {v:List MV} {r:List MV × Nat},allRun b l e u=some (v,u',false)→allC s l e=some r→v=r.1∧u' = u+r.2
 | [],_,_,_,_,_,h1,h2=>by simp only [allRun,allC] at h1 h2;cases h1;cases h2;exact ⟨rfl,by simp⟩
 | x::l,e,u,u',v,r,h1,h2=>by
  simp only [allRun,allC] at h1 h2
  split at h1
  ·cases h1
  ·cases h1
  rename_i v1 u1 e1
  split at h1
  ·cases h1
  rename_i l2 u2 o e2
  cases h1
  split at h2
  ·cases h2
  rename_i w c e3
  split at h2
  ·cases h2
  rename_i l3 c3 e4
  cases h2
  obtain ⟨rfl,rfl⟩:=h _ _ _ _ _ _ e1 e3
  obtain ⟨rfl,rfl⟩:=zir h e2 e4
  exact ⟨rfl,by simp only [Int.natCast_add];omega⟩
theorem zis {b:Ev6}{s:Evl}(h:Agree6 b s){f:MV}:∀ {n k:Nat} {x v:MV} {u u':Int} {r:MV × Nat},recRun b f n k x u=some (v,u',false)→recC s f n k x=some r→v=r.1∧u' = u+r.2
 | 0,_,_,_,_,_,_,h1,h2=>by simp only [recRun,recC] at h1 h2;cases h1;cases h2;exact ⟨rfl,by simp⟩
 | n+1,k,x,v,u,u',r,h1,h2=>by
  simp only [recRun] at h1
  simp only [recC] at h2
  split at h1
  ·cases h1
  ·cases h1
  rename_i g u1 e1
  split at h1
  ·cases h1
  ·cases h1
  rename_i r2 u2 e2
  split at h2
  ·cases h2
  rename_i y c e3
  split at h2
  ·cases h2
  rename_i z c2 e4
  cases h2
  rw [z6d] at e3
  obtain ⟨⟨g',c3⟩,q1,q2⟩:=Option.bind_eq_some_iff.1 e3
  obtain ⟨⟨y',c4⟩,q3,q4⟩:=Option.map_eq_some_iff.1 q2
  cases q4
  obtain ⟨rfl,rfl⟩:=z6k h e1 q1
  obtain ⟨rfl,rfl⟩:=z6k h e2 q3
  obtain ⟨rfl,rfl⟩:=zis h h1 e4
  exact ⟨rfl,by simp only [Int.natCast_add];omega⟩
theorem zit {b:Ev6}{s:Evl}(h:Agree6 b s){f x0:MV}:∀ {L rest:List Nat} {x v:MV} {u u':Int} {c0:Nat} {r:MV × Nat},foldRun b f L rest x u=some (v,u',false)→foldC s f x0 rest=some (x,c0)→foldC s f x0 (L.reverse++rest)=some r→v=r.1∧u'+c0=u+r.2
 | [],rest,x,v,u,u',c0,r,h1,h2,h3=>by
  simp only [foldRun] at h1
  simp only [List.reverse_nil,List.nil_append] at h3
  rw [h2] at h3
  cases h1;cases h3
  exact ⟨rfl,rfl⟩
 | y::L,rest,x,v,u,u',c0,r,h1,h2,h3=>by
  simp only [foldRun] at h1
  have hr:(y::L).reverse++rest=L.reverse++(y::rest):=by simp
  rw [hr] at h3
  split at h1
  ·cases h1
  ·cases h1
  rename_i g u1 e1
  split at h1
  ·cases h1
  ·cases h1
  rename_i g2 u2 e2
  split at h1
  ·cases h1
  ·cases h1
  rename_i x' u3 e3
  obtain ⟨r0,cr⟩:=r
  obtain ⟨v1,c1,hd,-⟩:=zbz L.reverse.length h3
  rw [List.drop_left] at hd
  obtain ⟨v2,c2,c3,k1,k2,k3⟩:=zhd hd
  rw [h2] at k1
  cases k1
  rw [z6d] at k2
  obtain ⟨⟨g',c4⟩,q1,q2⟩:=Option.bind_eq_some_iff.1 k2
  obtain ⟨⟨y',c5⟩,q3,q4⟩:=Option.map_eq_some_iff.1 q2
  rw [z6d] at q3
  obtain ⟨⟨g3,c6⟩,q5,q6⟩:=Option.bind_eq_some_iff.1 q3
  obtain ⟨⟨y3,c7⟩,q7,q8⟩:=Option.map_eq_some_iff.1 q6
  cases q8
  cases q4
  obtain ⟨rfl,rfl⟩:=z6k h e1 q1
  obtain ⟨rfl,rfl⟩:=z6k h e2 q5
  obtain ⟨rfl,rfl⟩:=z6k h e3 q7
  obtain ⟨rfl,k5⟩:=zit h h1 hd h3
  refine ⟨rfl,?_⟩
  simp only at k5 k3 ⊢
  omega
theorem z18z {b:Ev6}{s:Evl}(h:Agree6 b s){k:Int}{l:List MV}{v:MV}{u u':Int}{r:MV × Nat}(h1:nodeRun b k l u=some (v,u',false))(h2:nodeS s k l=some r):v=r.1∧u' = u+r.2:=by
 unfold nodeS at h2
 split at h2
 rotate_left
 ·cases h2
 rename_i hk
 unfold nodeRun at h1
 unfold nodeC at h2
 by_cases h3:k=3
 ·rw [if_pos h3] at h1 h2
  split at h1
  ·exact z6k h h1 h2
  ·cases h1
 rw [if_neg h3] at h1 h2
 by_cases h4:k=4
 ·rw [if_pos h4] at h1 h2
  cases h1;cases h2;exact ⟨rfl,by simp⟩
 rw [if_neg h4] at h1 h2
 by_cases h5:k=5
 ·rw [if_pos h5] at h1 h2
  split at h1
  ·cases h1;cases h2;exact ⟨rfl,by simp⟩
  ·cases h1
 rw [if_neg h5] at h1 h2
 by_cases h6:k=6
 ·rw [if_pos h6] at h1 h2
  split at h1
  ·exact zis h h1 h2
  ·cases h1
 rw [if_neg h6] at h1 h2
 by_cases h7:k=7
 ·rw [if_pos h7] at h1 h2
  cases h1;cases h2;exact ⟨rfl,by simp⟩
 rw [if_neg h7] at h1 h2
 by_cases h8:k=8
 ·rw [if_pos h8] at h1 h2
  split at h1
  ·cases h1;cases h2;exact ⟨rfl,by simp⟩
  ·cases h1
 rw [if_neg h8] at h1 h2
 by_cases h9:k=9
 ·rw [if_pos h9] at h1 h2
  split at h1
  ·rename_i x f m
   have:=zit h h1 (show foldC s f x []=some (x,0) from rfl) (show foldC s f x (m.reverse.reverse++[])=some r by rw [List.reverse_reverse,List.append_nil];exact h2)
   exact ⟨this.1,by have:=this.2;omega⟩
  ·cases h1
 rw [if_neg h9] at h1 h2
 by_cases h10:k=10
 ·rw [if_pos h10] at h1 h2
  split at h1
  ·cases h1;cases h2;exact ⟨rfl,by simp⟩
  ·cases h1
 rw [if_neg h10] at h1 h2
 by_cases h11:k=11
 ·rw [if_pos h11] at h1 h2
  split at h1
  ·cases h1;cases h2;exact ⟨rfl,by simp⟩
  ·cases h1
 rw [if_neg h11] at h1 h2
 by_cases h12:k=12
 ·rw [if_pos h12] at h1 h2
  split at h1
  ·cases h1;cases h2;exact ⟨rfl,by simp⟩
  ·cases h1
 rw [if_neg h12] at h1 h2
 cases h1;cases h2;exact ⟨rfl,by simp⟩
theorem ziu (most:Int):∀ d d',Agree6 (ev6 most d) (evS d')
 | 0,_=>fun t e u v u' r h=>by cases h
 | d+1,0=>fun t e u v u' r _ h=>by cases h
 | d+1,d'+1=>fun t e u v u' r h1 h2=>by
  have ih:=ziu most d d'
  rw [ev6] at h1
  rw [evS] at h2
  split at h1
  ·cases h1
  by_cases k1:t.kind=1
  ·rw [if_pos k1] at h1 h2
   split at h2
   ·rename_i hi
    rw [if_pos hi.1,List.getElem?_eq_getElem hi.2] at h1
    cases h1;cases h2
    refine ⟨?_,rfl⟩
    simp [List.getD,List.getElem?_eq_getElem hi.2]
   ·cases h2
  rw [if_neg k1] at h1 h2
  by_cases k2:t.kind=2
  ·rw [if_pos k2] at h1 h2
   split at h1
   ·rename_i b r' hb
    split at h2
    ·cases h2
    cases h1;cases h2
    refine ⟨?_,rfl⟩
    simp [Tm.argN,hb]
   ·cases h1
  rw [if_neg k2] at h1 h2
  split at h2
  ·cases h2
  split at h2
  ·cases h2
  rename_i l c hl
  split at h2
  ·cases h2
  rename_i w c' hw
  cases h2
  split at h1
  ·cases h1
  ·cases h1
  rename_i l' u1 e1
  obtain ⟨rfl,rfl⟩:=zir ih e1 hl
  obtain ⟨rfl,rfl⟩:=z18z ih h1 hw
  exact ⟨rfl,by simp only [Int.natCast_add];omega⟩
end
end Go.Proofs.YtoamlfmdkbmmpaaGreatDoor.Lift
