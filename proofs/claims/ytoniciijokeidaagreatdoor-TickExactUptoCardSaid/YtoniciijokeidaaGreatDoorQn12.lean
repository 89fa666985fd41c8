import Derived.Test.YtoniciijokeidaaGreatDoorQn11
set_option maxHeartbeats 8000000
set_option maxRecDepth 100000
set_option linter.unusedSimpArgs false
set_option linter.unusedVariables false
set_option linter.unnecessarySimpa false
namespace Go.Proofs.YtoniciijokeidaaGreatDoor.Lift
open Go
section
inductive KV where
 | num (k:Int) (n:Nat)
 | list (k:Int) (l:List Nat)
 | both (a b:KV)
 | unit
 | clo (b:Tm) (e:List KV)
mutual
def KV.er:KV->MV
 | .num _ n=>.num n
 | .list _ l=>.list l
 | .both a b=>.both (KV.er a) (KV.er b)
 | .unit=>.unit
 | .clo b e=>.clo b (KV.ers e)
def KV.ers:List KV->List MV
 | []=>[]
 | x::r=>KV.er x::KV.ers r
end
mutual
def KV.le (M:Nat):KV->Prop
 | .num _ n=>n<=M
 | .list _ l=>l.length<=M/\∀n∈l,n<=M
 | .both a b=>KV.le M a/\KV.le M b
 | .unit=>True
 | .clo b e=>b.shape=true/\e.length<=M/\KV.les M e
def KV.les (M:Nat):List KV->Prop
 | []=>True
 | v::e=>KV.le M v/\KV.les M e
end
mutual
theorem KV.le_mono {M N:Nat}(h:M<=N):∀v:KV,v.le M->v.le N
 | .num _ n,hv=>by simp only[KV.le]at hv ⊢;omega
 | .list _ l,hv=>by simp only[KV.le]at hv ⊢;exact⟨oO,fun n hn=>by have:=hv.2 n hn;omega⟩
 | .both a b,hv=>by simp only[KV.le]at hv ⊢;exact⟨KV.le_mono h a hv.1,KV.le_mono h b hv.2⟩
 | .unit,_=>by simp only[KV.le]
 | .clo b e,hv=>by simp only[KV.le]at hv ⊢;exact⟨hv.1,oO,KV.les_mono h e hv.2.2⟩
theorem KV.les_mono {M N:Nat}(h:M<=N):∀e:List KV,KV.les M e->KV.les N e
 | [],_=>by simp only[KV.les]
 | v::e,hv=>by simp only[KV.les]at hv ⊢;exact⟨KV.le_mono h v hv.1,KV.les_mono h e hv.2⟩
end
theorem KV.ers_len:∀e:List KV,(KV.ers e).length=e.length
 | []=>by simp[KV.ers]
 | _::r=>by simp only[KV.ers,List.length_cons,KV.ers_len r]
theorem KV.ers_get:∀(e:List KV) (i:Nat),i<e.length->((KV.ers e).getD i .unit)=KV.er (e.getD i .unit)
 | [],i,h=>absurd h (Nat.not_lt_zero _)
 | x::r,0,_=>by simp only[KV.ers,List.getD_cons_zero]
 | x::r,i+1,h=>by simp only[KV.ers,List.getD_cons_succ];exact KV.ers_get r i (by simpa using h)
theorem KV.les_get {M:Nat}:∀(e:List KV) (i:Nat),i<e.length->KV.les M e->(e.getD i .unit).le M
 | [],i,h,_=>absurd h (Nat.not_lt_zero _)
 | x::r,0,_,h=>by simp only[KV.les,List.getD_cons_zero]at h ⊢;exact h.1
 | x::r,i+1,hi,h=>by simp only[KV.les,List.getD_cons_succ]at h ⊢;exact KV.les_get r i (by simpa using hi) h.2
abbrev wV:=Tm->List KV->Option (KV × Nat × Nat)
def PO (ev:wV):List Tm->List KV->Option (List KV × Nat × Nat)
 | [],_=>some ([],0,0)
 | x::r,e=>match ev x e with
  | none=>none
  | some (v,c,k)=>match PO ev r e with
   | none=>none
   | some (l,c',k')=>some (v::l,c+c',k+k')
def PP (ev:wV):KV->KV->Option (KV × Nat × Nat)
 | .clo b e,x=>ev b (x::e)
 | _,_=>none
def dA (ev:wV)(f:KV):Nat->Nat->KV->Option (KV × Nat × Nat)
 | 0,_,r=>some (r,0,0)
 | n+1,k,r=>match PP ev f (.num 1 k) with
  | none=>none
  | some (g,c1,k1)=>match PP ev g r with
   | none=>none
   | some (r',c2,k2)=>match dA ev f n (k+1) r' with
    | none=>none
    | some (w,c3,k3)=>some (w,c1+c2+c3,1+k1+k2+k3)
def OG (ev:wV)(f r:KV):List Nat->Option (KV × Nat × Nat)
 | []=>some (r,0,0)
 | x::l=>match OG ev f r l with
  | none=>none
  | some (r',c0,k0)=>match PP ev f (.num 1 x) with
   | none=>none
   | some (g,c1,k1)=>match PP ev g (.list 2 l) with
    | none=>none
    | some (h,c2,k2)=>match PP ev h r' with
     | none=>none
     | some (w,c3,k3)=>some (w,c0+(c1+c2+c3),k0+1+k1+k2+k3)
def gJ (ev:wV)(k:Int)(l:List KV):Option (KV × Nat × Nat):=
 if k=3 then match l with
  | [f,x]=>(PP ev f x).map fun r=>(r.1,r.2.1,1+r.2.2)
  | _=>none
 else if k=4 then some (.num 0 0,0,0)
 else if k=5 then match l with
  | [.num _ n]=>some (.num 1 (n+1),0,0)
  | _=>none
 else if k=6 then match l with
  | [b,f,.num _ n]=>dA ev f n 0 b
  | _=>none
 else if k=7 then some (.list 0 [],0,0)
 else if k=8 then match l with
  | [.num _ n,.list _ m]=>some (.list 2 (n::m),0,0)
  | _=>none
 else if k=9 then match l with
  | [b,f,.list _ m]=>OG ev f b m
  | _=>none
 else if k=10 then match l with
  | [x,y]=>some (.both x y,0,0)
  | _=>none
 else if k=11 then match l with
  | [.both x _]=>some (x,0,0)
  | _=>none
 else if k=12 then match l with
  | [.both _ y]=>some (y,0,0)
  | _=>none
 else if k=13 then some (.unit,0,0)
 else none
def wW:Nat->wV
 | 0,_,_=>none
 | d+1,t,e=>
  if t.kind=1 then if 0<=t.index/\t.index.toNat<e.length then some (e.getD t.index.toNat .unit,1,0) else none
  else if t.kind=2 then if t.args.length=0 then none else some (.clo (t.argN 0) e,1,0)
  else if 3<t.args.length then none
  else match PO (wW d) t.args e with
   | none=>none
   | some (l,c,k)=>(gJ (wW d) t.kind l).map fun r=>(r.1,1+c+r.2.1,k+r.2.2)
def z4w (b:SD)(s:wV):Prop:=∀(t:Tm) (E:List KV) (v:MV) (c k:Nat),b t (KV.ers E)=some (v,c,k)->∃V:KV,s t E=some (V,c,k)/\V.er=v
section
variable {b:SD}{s:wV}
theorem TB (h:z4w b s){F X:KV}{v:MV}{c k:Nat}(h1:FP b F.er X.er=some (v,c,k)):∃V:KV,PP s F X=some (V,c,k)/\V.er=v:=by
 cases F with
 | clo t e=>
  simp only[KV.er,FP]at h1;exact h t (X::e) v c k (by simp only[KV.ers];exact h1)
 | num k n=>simp only[KV.er,FP]at h1;cases h1
 | list k n=>simp only[KV.er,FP]at h1;cases h1
 | both a b=>simp only[KV.er,FP]at h1;cases h1
 | unit=>simp only[KV.er,FP]at h1;cases h1
theorem zc8 (h:z4w b s):∀{l:List Tm} {E:List KV} {vs:List MV} {c k:Nat},KL b l (KV.ers E)=some (vs,c,k)->∃Vs:List KV,PO s l E=some (Vs,c,k)/\KV.ers Vs=vs
 | [],E,vs,c,k,h1=>by
  simp only[KL,uC,uD]at h1;obtain⟨rfl,rfl,rfl⟩:=h1;exact⟨[],rfl,by simp only[KV.ers]⟩
 | x::r,E,vs,c,k,h1=>by
  simp only[KL]at h1;split at h1;· cases h1
  rename_i v1 c1 k1 e1;split at h1;· cases h1
  rename_i l2 c2 k2 e2;cases h1;obtain⟨V,a1,a2⟩:=h x E _ _ _ e1;obtain⟨Vs,b1,b2⟩:=zc8 h e2;exact⟨V::Vs,by simp only[PO,a1,b1],by simp only[KV.ers,a2,b2]⟩
theorem zc9 (h:z4w b s){F:KV}:∀{n j:Nat} {R:KV} {v:MV} {c k:Nat},SE b F.er n j R.er=some (v,c,k)->∃V:KV,dA s F n j R=some (V,c,k)/\V.er=v
 | 0,j,R,v,c,k,h1=>by
  simp only[SE,uC,uD]at h1;obtain⟨rfl,rfl,rfl⟩:=h1;exact⟨R,rfl,rfl⟩
 | n+1,j,R,v,c,k,h1=>by
  simp only[SE]at h1;split at h1;· cases h1
  rename_i g c1 k1 e1;split at h1;· cases h1
  rename_i r' c2 k2 e2;split at h1;· cases h1
  rename_i w c3 k3 e3;cases h1;obtain⟨G,a1,a2⟩:=TB h (F:=F) (X:=.num 1 j) (by simp only[KV.er];exact e1);rw[<- a2]at e2;obtain⟨R',b1,b2⟩:=TB h e2;rw[<- b2]at e3;obtain⟨V,d1,d2⟩:=zc9 h e3;exact⟨V,by simp only[dA,a1,b1,d1],d2⟩
theorem zJ (h:z4w b s){F R:KV}:∀{l:List Nat} {v:MV} {c k:Nat},JY b F.er R.er l=some (v,c,k)->∃V:KV,OG s F R l=some (V,c,k)/\V.er=v
 | [],v,c,k,h1=>by
  simp only[JY,uC,uD]at h1;obtain⟨rfl,rfl,rfl⟩:=h1;exact⟨R,rfl,rfl⟩
 | x::l,v,c,k,h1=>by
  simp only[JY]at h1;split at h1;· cases h1
  rename_i r' c0 k0 e0;split at h1;· cases h1
  rename_i g c1 k1 e1;split at h1;· cases h1
  rename_i g2 c2 k2 e2;split at h1;· cases h1
  rename_i w c3 k3 e3;cases h1;obtain⟨R',z1,z2⟩:=zJ h e0;obtain⟨G,a1,a2⟩:=TB h (F:=F) (X:=.num 1 x) (by simp only[KV.er];exact e1);rw[<- a2]at e2;obtain⟨G2,b1,b2⟩:=TB h (X:=.list 2 l) (by simp only[KV.er];exact e2);rw[<- b2,<- z2]at e3;obtain⟨V,d1,d2⟩:=TB h e3;exact⟨V,by simp only[OG,z1,a1,b1,d1],d2⟩
theorem zK {l:List KV}{x:MV}(h:KV.ers l=[x]):∃X,l=[X]/\X.er=x:=by
 match l,h with
 | [X],h=>simp only[KV.ers,List.cons.injEq,and_true]at h;exact⟨X,rfl,h⟩
 | [],h=>simp only[KV.ers]at h;cases h
 | _::_::_,h=>simp only[KV.ers,List.cons.injEq]at h;cases h.2
theorem zL {l:List KV}{x y:MV}(h:KV.ers l=[x,y]):∃X Y,l=[X,Y]/\X.er=x/\Y.er=y:=by
 match l,h with
 | X::r,h=>
  simp only[KV.ers,List.cons.injEq]at h;obtain⟨Y,rfl,h2⟩:=zK h.2;exact⟨X,Y,rfl,h.1,h2⟩
 | [],h=>simp only[KV.ers]at h;cases h
theorem zj9 {l:List KV}{x y z:MV}(h:KV.ers l=[x,y,z]):∃X Y Z,l=[X,Y,Z]/\X.er=x/\Y.er=y/\Z.er=z:=by
 match l,h with
 | X::r,h=>
  simp only[KV.ers,List.cons.injEq]at h;obtain⟨Y,Z,rfl,h2,h3⟩:=zL h.2;exact⟨X,Y,Z,rfl,h.1,h2,h3⟩
 | [],h=>simp only[KV.ers]at h;cases h
theorem wX {X:KV}{n:Nat}(h:X.er = .num n):∃k,X = .num k n:=by
 cases X <;> simp only[KV.er]at h <;> cases h;exact⟨_,rfl⟩
theorem zM {X:KV}{l:List Nat}(h:X.er = .list l):∃k,X = .list k l:=by
 cases X <;> simp only[KV.er]at h <;> cases h;exact⟨_,rfl⟩
theorem zN {X:KV}{a b:MV}(h:X.er = .both a b):∃A B,X = .both A B/\A.er=a/\B.er=b:=by
 cases X <;> simp only[KV.er]at h <;> cases h;exact⟨_,_,rfl,rfl,rfl⟩
theorem zhw (h:z4w b s){k:Int}{L:List KV}{v:MV}{c t:Nat}(h1:R6 b k (KV.ers L)=some (v,c,t)):∃V:KV,gJ s k L=some (V,c,t)/\V.er=v:=by
 unfold R6 at h1;unfold gJ;by_cases k3:k=3
 ·rw[if_pos k3]at h1 ⊢;split at h1;rotate_left;· cases h1
  rename_i f x hl;obtain⟨X,Y,rfl,rfl,rfl⟩:=zL hl;obtain⟨⟨v1,c1,t1⟩,q1,q2⟩:=Option.map_eq_some_iff.1 h1;cases q2;obtain⟨V,a1,a2⟩:=TB h q1;exact⟨V,by simp only[a1];rfl,a2⟩
 rw[if_neg k3]at h1 ⊢;by_cases k4:k=4
 ·rw[if_pos k4]at h1 ⊢;cases h1;exact⟨_,rfl,by simp only[KV.er]⟩
 rw[if_neg k4]at h1 ⊢;by_cases k5:k=5
 ·rw[if_pos k5]at h1 ⊢;split at h1;rotate_left;· cases h1
  rename_i n hl;obtain⟨X,rfl,hx⟩:=zK hl;obtain⟨q,rfl⟩:=wX hx;cases h1;exact⟨_,rfl,by simp only[KV.er]⟩
 rw[if_neg k5]at h1 ⊢;by_cases k6:k=6
 ·rw[if_pos k6]at h1 ⊢;split at h1;rotate_left;· cases h1
  rename_i x f n hl;obtain⟨X,Y,Z,rfl,rfl,rfl,hz⟩:=zj9 hl;obtain⟨q,rfl⟩:=wX hz;exact zc9 h h1
 rw[if_neg k6]at h1 ⊢;by_cases k7:k=7
 ·rw[if_pos k7]at h1 ⊢;cases h1;exact⟨_,rfl,by simp only[KV.er]⟩
 rw[if_neg k7]at h1 ⊢;by_cases k8:k=8
 ·rw[if_pos k8]at h1 ⊢;split at h1;rotate_left;· cases h1
  rename_i n m hl;obtain⟨X,Y,rfl,hx,hy⟩:=zL hl;obtain⟨q,rfl⟩:=wX hx;obtain⟨q2,rfl⟩:=zM hy;cases h1;exact⟨_,rfl,by simp only[KV.er]⟩
 rw[if_neg k8]at h1 ⊢;by_cases k9:k=9
 ·rw[if_pos k9]at h1 ⊢;split at h1;rotate_left;· cases h1
  rename_i x f m hl;obtain⟨X,Y,Z,rfl,rfl,rfl,hz⟩:=zj9 hl;obtain⟨q,rfl⟩:=zM hz;exact zJ h h1
 rw[if_neg k9]at h1 ⊢;by_cases Gu:k=10
 ·rw[if_pos Gu]at h1 ⊢;split at h1;rotate_left;· cases h1
  rename_i x y hl;obtain⟨X,Y,rfl,rfl,rfl⟩:=zL hl;cases h1;exact⟨_,rfl,by simp only[KV.er]⟩
 rw[if_neg Gu]at h1 ⊢;by_cases Kl:k=11
 ·rw[if_pos Kl]at h1 ⊢;split at h1;rotate_left;· cases h1
  rename_i x y hl;obtain⟨X,rfl,hx⟩:=zK hl;obtain⟨A,B,rfl,rfl,rfl⟩:=zN hx;cases h1;exact⟨_,rfl,rfl⟩
 rw[if_neg Kl]at h1 ⊢;by_cases Kp:k=12
 ·rw[if_pos Kp]at h1 ⊢;split at h1;rotate_left;· cases h1
  rename_i x y hl;obtain⟨X,rfl,hx⟩:=zK hl;obtain⟨A,B,rfl,rfl,rfl⟩:=zN hx;cases h1;exact⟨_,rfl,rfl⟩
 rw[if_neg Kp]at h1 ⊢;by_cases Dt:k=13
 ·rw[if_pos Dt]at h1 ⊢;cases h1;exact⟨_,rfl,by simp only[KV.er]⟩
 rw[if_neg Dt]at h1;cases h1
theorem zja:∀d,z4w (R7 d) (wW d)
 | 0=>fun t E v c k h=>by cases h
 | d+1=>fun t E v c k h=>by
  have ih:=zja d;rw[R7]at h;rw[wW];by_cases k1:t.kind=1
  ·rw[if_pos k1]at h ⊢;split at h;rotate_left;· cases h
   rename_i hi;rw[KV.ers_len]at hi;rw[if_pos hi];cases h;exact⟨_,rfl,(KV.ers_get E _ hi.2).symm⟩
  rw[if_neg k1]at h ⊢;by_cases k2:t.kind=2
  ·rw[if_pos k2]at h ⊢;split at h;· cases h
   rename_i hi;rw[if_neg hi];cases h;exact⟨_,rfl,by simp only[KV.er]⟩
  rw[if_neg k2]at h ⊢;split at h;· cases h
  rename_i hi;rw[if_neg hi];split at h;· cases h
  rename_i l c1 t1 hl;obtain⟨⟨v1,c2,t2⟩,q1,q2⟩:=Option.map_eq_some_iff.1 h;cases q2;obtain⟨Vs,a1,rfl⟩:=zc8 ih hl;obtain⟨V,b1,b2⟩:=zhw ih q1;exact⟨V,by simp only[a1,b1];rfl,b2⟩
end
def LeN (s:wV):Prop:=∀ ⦃t:Tm⦄ ⦃E:List KV⦄ ⦃v:KV⦄ ⦃c k:Nat⦄ ⦃M:Nat⦄,s t E=some (v,c,k)->t.shape=true->KV.les M E->E.length<=M+1->v.le (M+c)
variable {s:wV}
theorem KG (h:LeN s){F X v:KV}{c k M:Nat}(h1:PP s F X=some (v,c,k))(hF:F.le M)(hX:X.le M):v.le (M+c):=by
 cases F with
 | clo t e=>
  simp only[PP]at h1;simp only[KV.le]at hF;exact h h1 hF.1 (by simp only[KV.les];exact⟨hX,hF.2.2⟩) (by simp only[List.length_cons];omega)
 | _=>cases h1
theorem wZ (h:LeN s):∀{l:List Tm} {E vs:List KV} {c k M:Nat},PO s l E=some (vs,c,k)->(∀x∈l,x.shape=true)->KV.les M E->E.length<=M+1->KV.les (M+c) vs
 | [],E,vs,c,k,M,h1,hs,hE,hl=>by
  simp only[PO,uC,uD]at h1;obtain⟨rfl,rfl,rfl⟩:=h1;simp only[KV.les]
 | x::r,E,vs,c,k,M,h1,hs,hE,hl=>by
  simp only[PO]at h1;split at h1;· cases h1
  rename_i v1 c1 k1 e1;split at h1;· cases h1
  rename_i l2 c2 k2 e2;cases h1;simp only[KV.les];exact⟨KV.le_mono oO _ (h e1 (hs x (List.mem_cons_self ..)) hE hl),KV.les_mono oO _ (wZ h e2 (fun y hy=>hs y (List.mem_cons_of_mem _ hy)) hE hl)⟩
theorem zca (h:LeN s){F:KV}:∀{n j:Nat} {R v:KV} {c k M:Nat},dA s F n j R=some (v,c,k)->F.le M->R.le M->j+n<=M->v.le (M+c)
 | 0,j,R,v,c,k,M,h1,hF,hR,hj=>by
  simp only[dA,uC,uD]at h1;obtain⟨rfl,rfl,rfl⟩:=h1;exact hR
 | n+1,j,R,v,c,k,M,h1,hF,hR,hj=>by
  simp only[dA]at h1;split at h1;· cases h1
  rename_i g c1 k1 e1;split at h1;· cases h1
  rename_i r' c2 k2 e2;split at h1;· cases h1
  rename_i w c3 k3 e3;cases h1;have p1:=KG h e1 hF (by simp only[KV.le];omega);have p2:=KG h e2 p1 (KV.le_mono oO _ hR);exact KV.le_mono oO _ (zca h e3 (KV.le_mono oO _ hF) p2 oO)
theorem UP {F R:KV}{x:Nat}{l:List Nat}{v:KV}{c k:Nat}(h:OG s F R (x::l)=some (v,c,k)):∃r' c0 k0 g c1 k1 g2 c2 k2 c3 k3,OG s F R l=some (r',c0,k0)/\PP s F (.num 1 x)=some (g,c1,k1)/\PP s g (.list 2 l)=some (g2,c2,k2)/\PP s g2 r' = some (v,c3,k3)/\c=c0+(c1+c2+c3)/\k=k0+1+k1+k2+k3:=by
 simp only[OG]at h;split at h;· cases h
 rename_i r' c0 k0 e0;split at h;· cases h
 rename_i g c1 k1 e1;split at h;· cases h
 rename_i g2 c2 k2 e2;split at h;· cases h
 rename_i w c3 k3 e3;cases h;exact⟨r',c0,k0,g,c1,k1,g2,c2,k2,c3,k3,e0,e1,e2,e3,rfl,rfl⟩
theorem dB {F R:KV}:∀{l:List Nat} {v:KV} {c k:Nat},OG s F R l=some (v,c,k)->∀j,∃v' c' k',OG s F R (l.drop j)=some (v',c',k')/\c'<=c/\k'<=k
 | l,v,c,k,h,0=>⟨v,c,k,h,Nat.le_refl _,Nat.le_refl _⟩
 | [],v,c,k,h,j+1=>⟨v,c,k,h,Nat.le_refl _,Nat.le_refl _⟩
 | x::l,v,c,k,h,j+1=>by
  obtain⟨r',c0,k0,g,c1,k1,g2,c2,k2,c3,k3,e0,-,-,-,q1,q2⟩:=UP h;obtain⟨v',c',k',a1,a2,a3⟩:=dB e0 j;exact⟨v',c',k',a1,oO,oO⟩
theorem zO (h:LeN s){F R:KV}{M:Nat}(hF:F.le M)(hR:R.le M):∀{l:List Nat} {v:KV} {c k:Nat},OG s F R l=some (v,c,k)->(l.length<=M/\∀n∈l,n<=M)->v.le (M+c)
 | [],v,c,k,h1,_=>by
  simp only[OG,uC,uD]at h1;obtain⟨rfl,rfl,rfl⟩:=h1;exact hR
 | x::l,v,c,k,h1,hl=>by
  obtain⟨r',c0,k0,g,c1,k1,g2,c2,k2,c3,k3,e0,e1,e2,e3,q1,q2⟩:=UP h1;have Fu:l.length<=M:=by have:=hl.1;simp only[List.length_cons]at this;omega
  have Gf:∀n∈l,n<=M:=fun n hn=>hl.2 n (List.mem_cons_of_mem _ hn);have p0:=zO h hF hR e0 ⟨Fu,Gf⟩;have p1:=KG h e1 hF (by simp only[KV.le];exact hl.2 x (List.mem_cons_self ..));have p2:=KG h e2 p1 (by simp only[KV.le];exact⟨oO,fun n hn=>by have:=Gf n hn;omega⟩);exact KV.le_mono oO _ (KG h e3 (M:=M+c0+c1+c2) (KV.le_mono oO _ p2) (KV.le_mono oO _ p0))
theorem zhx (h:LeN s){k:Int}{L:List KV}{v:KV}{c t M:Nat}(h1:gJ s k L=some (v,c,t))(hL:KV.les M L):v.le (M+1+c):=by
 unfold gJ at h1;by_cases k3:k=3
 ·rw[if_pos k3]at h1;split at h1;rotate_left;· cases h1
  rename_i f x;obtain⟨⟨v1,c1,t1⟩,q1,q2⟩:=Option.map_eq_some_iff.1 h1;cases q2;simp only[KV.les]at hL;exact KV.le_mono (by simp only;omega) _ (KG h q1 hL.1 hL.2.1)
 rw[if_neg k3]at h1;by_cases k4:k=4
 ·rw[if_pos k4]at h1;cases h1;simp only[KV.le];omega
 rw[if_neg k4]at h1;by_cases k5:k=5
 ·rw[if_pos k5]at h1;split at h1;rotate_left;· cases h1
  rename_i q n;cases h1;simp only[KV.les,KV.le]at hL ⊢;omega
 rw[if_neg k5]at h1;by_cases k6:k=6
 ·rw[if_pos k6]at h1;split at h1;rotate_left;· cases h1
  rename_i x f q n;simp only[KV.les,KV.le]at hL;exact KV.le_mono oO _ (zca h h1 hL.2.1 hL.1 oO)
 rw[if_neg k6]at h1;by_cases k7:k=7
 ·rw[if_pos k7]at h1;cases h1;simp only[KV.le];exact⟨sS,fun n hn=>by cases hn⟩
 rw[if_neg k7]at h1;by_cases k8:k=8
 ·rw[if_pos k8]at h1;split at h1;rotate_left;· cases h1
  rename_i q n q2 m;cases h1;simp only[KV.les,KV.le]at hL ⊢;refine⟨by simp only[List.length_cons];omega,fun i hi=>?_⟩;rcases List.mem_cons.1 hi with rfl|hi;· omega
  ·have:=hL.2.1.2 i hi;omega
 rw[if_neg k8]at h1;by_cases k9:k=9
 ·rw[if_pos k9]at h1;split at h1;rotate_left;· cases h1
  rename_i x f q m;simp only[KV.les,KV.le]at hL;exact KV.le_mono oO _ (zO h hL.2.1 hL.1 h1 hL.2.2.1)
 rw[if_neg k9]at h1;by_cases Gu:k=10
 ·rw[if_pos Gu]at h1;split at h1;rotate_left;· cases h1
  rename_i x y;cases h1;simp only[KV.les,KV.le]at hL ⊢;exact⟨KV.le_mono oO _ hL.1,KV.le_mono oO _ hL.2.1⟩
 rw[if_neg Gu]at h1;by_cases Kl:k=11
 ·rw[if_pos Kl]at h1;split at h1;rotate_left;· cases h1
  rename_i x y;cases h1;simp only[KV.les,KV.le]at hL ⊢;exact KV.le_mono oO _ hL.1.1
 rw[if_neg Kl]at h1;by_cases Kp:k=12
 ·rw[if_pos Kp]at h1;split at h1;rotate_left;· cases h1
  rename_i x y;cases h1;simp only[KV.les,KV.le]at hL ⊢;exact KV.le_mono oO _ hL.1.2
 rw[if_neg Kp]at h1;by_cases Dt:k=13
 ·rw[if_pos Dt]at h1;cases h1;simp only[KV.le]
 rw[if_neg Dt]at h1;cases h1
theorem zP:∀d,LeN (wW d)
 | 0=>fun t E v c k M h hs=>by cases h
 | d+1=>fun t E v c k M h hs hE hl=>by
  obtain⟨-,-,-,-,Co⟩:=Tm.shape_node hs;have ih:=zP d;rw[wW]at h;by_cases k1:t.kind=1
  ·rw[if_pos k1]at h;split at h;rotate_left;· cases h
   rename_i hi;cases h;exact KV.le_mono oO _ (KV.les_get E _ hi.2 hE)
  rw[if_neg k1]at h;by_cases k2:t.kind=2
  ·rw[if_pos k2]at h;split at h;· cases h
   rename_i hi;cases h;simp only[KV.le];refine⟨?_,hl,KV.les_mono oO _ hE⟩
   match ha:t.args,hi with
   | x::r,_=>
    have:t.argN 0=x:=by simp[Tm.argN,ha]
    rw[this];exact Co x (by rw[ha];simp)
   | [],hi=>exact absurd rfl hi
  rw[if_neg k2]at h;split at h;· cases h
  split at h;· cases h
  rename_i l c1 t1 Fu;obtain⟨⟨v1,c2,t2⟩,q1,q2⟩:=Option.map_eq_some_iff.1 h;cases q2;exact KV.le_mono (by simp only;omega) _ (zhx ih q1 (wZ ih Fu Co hE hl))
end
section
variable {gl:AF}
mutual
def KV.cells:KV->List DV
 | .num k n=>[A0 k,A0 (n:Int),.sl [],.sl [],.sl [],A0 0,A0 0,A0 0,.sl [],.sl [],.sl []]
 | .list k l=>[A0 k,A0 0,.sl (AP (l.map Int.ofNat)),.sl [],.sl [],A0 0,A0 0,A0 0,.sl [],.sl [],.sl []]
 | .both a b=>[A0 0,A0 0,.sl [],.sl [],.sl [KV.cells a,KV.cells b],A0 0,A0 0,A0 0,.sl [],.sl [],.sl []]
 | .unit=>[A0 0,A0 0,.sl [],.sl [],.sl [],A0 0,A0 0,A0 0,.sl [],.sl [],.sl []]
 | .clo b e=>[A0 0,A0 0,.sl [],.sl [],.sl [],A0 b.kind,A0 b.index,A0 b.type.kind,.sl (List.map Ty.cells b.type.args),.sl (List.map Tm.cells b.args),.sl (KV.cellss e).reverse]
def KV.cellss:List KV->List (List DV)
 | []=>[]
 | x::r=>KV.cells x::KV.cellss r
end
namespace KV
theorem cellss_map:∀l:List KV,cellss l=l.map cells
 | []=>rfl
 | x::r=>by simp only[cellss,List.map_cons,cellss_map r]
def kindF:KV->Int | .num k _=>k | .list k _=>k|_=>0
def numF:KV->Int | .num _ n=>n|_=>0
def listF:KV->List Int | .list _ l=>l.map Int.ofNat|_=>[]
def pairF:KV->List KV | .both a b=>[a,b]|_=>[]
def bodyF:KV->Tm | .clo b _=>b|_=>AA
def envF:KV->List KV | .clo _ e=>e.reverse|_=>[]
theorem cells_eq (v:KV):v.cells=[A0 v.kindF,A0 v.numF,.sl (AP v.listF),.sl [],.sl (v.pairF.map cells),A0 v.bodyF.kind,A0 v.bodyF.index,A0 v.bodyF.type.kind,.sl (v.bodyF.type.args.map Ty.cells),.sl (v.bodyF.args.map Tm.cells),.sl (v.envF.map cells)]:=by
 cases v with
 | num k n=>rfl
 | list k l=>rfl
 | both a b=>simp only[cells,kindF,numF,listF,pairF,bodyF,envF];rfl
 | unit=>rfl
 | clo b e=>simp only[cells,kindF,numF,listF,pairF,bodyF,envF,cellss_map,List.map_reverse];rfl
def dv (v:KV):DV:=.agg v.cells
theorem fold (v:KV):DV.agg [A0 v.kindF,A0 v.numF,.sl (AP v.listF),.sl [],.sl (v.pairF.map cells),A0 v.bodyF.kind,A0 v.bodyF.index,A0 v.bodyF.type.kind,.sl (v.bodyF.type.args.map Ty.cells),.sl (v.bodyF.args.map Tm.cells),.sl (v.envF.map cells)]=v.dv:=by rw[dv,cells_eq]
theorem cellsD_dv (v:KV):D6 v.dv=[A0 v.kindF,A0 v.numF,.sl (AP v.listF),.sl [],.sl (v.pairF.map cells),A0 v.bodyF.kind,A0 v.bodyF.index,A0 v.bodyF.type.kind,.sl (v.bodyF.type.args.map Ty.cells),.sl (v.bodyF.args.map Tm.cells),.sl (v.envF.map cells)]:=by rw[dv,D6,cells_eq]
theorem isCell_dv (v:KV):v.dv.isCell=false:=rfl
theorem isAgg_dv (v:KV):v.dv.isAgg=true:=rfl
theorem length_cells (v:KV):v.cells.length=11:=by rw[cells_eq];rfl
theorem wide (l:List KV):(∀e∈List.map cells l,e.length=11)=True:=by simp[length_cells]
theorem numF_num (k:Int)(n:Nat):(KV.num k n).numF=n:=rfl
theorem listF_list (k:Int)(l:List Nat):(KV.list k l).listF=l.map Int.ofNat:=rfl
theorem pairF_both (a b:KV):(KV.both a b).pairF=[a,b]:=rfl
theorem bodyF_clo (b:Tm)(e:List KV):(KV.clo b e).bodyF=b:=rfl
theorem envF_clo (b:Tm)(e:List KV):(KV.clo b e).envF=e.reverse:=rfl
theorem num_dv (k:Int)(n:Nat):(KV.num k n).dv = .agg [A0 k,A0 (n:Int),.sl [],.sl [],.sl [],A0 0,A0 0,A0 0,.sl [],.sl [],.sl []]:=by rw[dv,cells]
theorem list_dv (k:Int)(l:List Nat):(KV.list k l).dv = .agg [A0 k,A0 0,.sl (AP (l.map Int.ofNat)),.sl [],.sl [],A0 0,A0 0,A0 0,.sl [],.sl [],.sl []]:=by rw[dv,cells]
theorem both_dv (a b:KV):(KV.both a b).dv = .agg [A0 0,A0 0,.sl [],.sl [],.sl [a.cells,b.cells],A0 0,A0 0,A0 0,.sl [],.sl [],.sl []]:=by rw[dv,cells]
theorem unit_dv:KV.unit.dv = .agg [A0 0,A0 0,.sl [],.sl [],.sl [],A0 0,A0 0,A0 0,.sl [],.sl [],.sl []]:=by rw[dv,cells]
theorem clo_dv (b:Tm)(e:List KV):(KV.clo b e).dv = .agg [A0 0,A0 0,.sl [],.sl [],.sl [],A0 b.kind,A0 b.index,A0 b.type.kind,.sl (List.map Ty.cells b.type.args),.sl (List.map Tm.cells b.args),.sl (e.reverse.map KV.cells)]:=by rw[dv,cells,cellss_map,List.map_reverse]
end KV
attribute [go_sem] KV.cells_eq KV.fold KV.cellsD_dv KV.isCell_dv KV.isAgg_dv KV.wide KV.numF_num KV.listF_list KV.pairF_both KV.bodyF_clo KV.envF_clo
def jV (P:Program)(gl:AF)(fe:FuncId)(ev:wV):Prop:=
 ∀ ⦃t:Tm⦄ ⦃e:List KV⦄ ⦃v:KV⦄ ⦃c k:Nat⦄ (u b M:Nat),ev t e=some (v,c,k)->t.shape=true->M+c<=1073741824->u+k<=1073741824->KV.les M e->e.length<=M+1 ->
  U8 P gl fe [BC b,t.dv,.sl (e.reverse.map KV.cells)] [(b,[A0 (u:Int)])] v.dv [(b,[A0 ((u+k:Nat):Int)])]
theorem N6 {ev:wV}(H:jV Tryz.prog gl 61 ev){f x v:KV}{c k:Nat}(u b M:Nat)
  (h:PP ev f x=some (v,c,k)) (hM:M+c<=1073741824) (hu:u+k<=1073741824) (hf:f.le M) (hx:x.le M) :
  cT gl 109 [BC b,f.dv,x.dv] [(b,[A0 (u:Int)])] v.dv [(b,[A0 ((u+k:Nat):Int)])]:=by
 cases f with
 | num k n=>cases h
 | list k l=>cases h
 | both a b=>cases h
 | unit=>cases h
 | clo body e=>
  simp only[KV.le]at hf;have w:=H (e:=x::e) u b M h hf.1 hM hu (by simp only[KV.les];exact⟨hx,hf.2.2⟩) (by simp only[List.length_cons];omega);have Bi:=KV.cells_eq x;have Av:=Tm.fold body;have hbF:(KV.clo body e).bodyF=body:=rfl;have heF:(KV.clo body e).envF=e.reverse:=rfl;have hl:e.reverse.length<=M:=by rw[List.length_reverse];exact hf.2.1
  have Nq:List.take e.reverse.length (e.reverse.map KV.cells)=e.reverse.map KV.cells:=List.take_of_length_le sS;have Gf:e.reverse.length<=2147483647:=oO;rw[List.reverse_cons,List.map_append]at w;generalize e.reverse=r at *;generalize KV.clo body e=f at *;refine A8 Tryz.func109 ?_;intro X hP u7 hf u9 hn hR u6 u5;refine A7 @Gf ?_;refine A3 (j6 @Av @hbF @heF @Nq @Bi @Gf) w ?_;exact AI [(b,[A0 ((u+k:Nat):Int)])] tT
theorem OH {s:wV}{l:List Tm}{E:List KV}{X:KV}{L:List KV}{c k:Nat}(h:PO s l E=some (X::L,c,k)):∃x r c1 k1 c2 k2,l=x::r/\s x E=some (X,c1,k1)/\PO s r E=some (L,c2,k2)/\c=c1+c2/\k=k1+k2:=by
 match l,h with
 | [],h=>cases h
 | x::r,h=>
  simp only[PO]at h;split at h;· cases h
  rename_i v1 c1 k1 e1;split at h;· cases h
  rename_i l2 c2 k2 e2;cases h;exact⟨x,r,c1,k1,c2,k2,rfl,e1,e2,rfl,rfl⟩
theorem zhy {s:wV}{l:List Tm}{E:List KV}{c k:Nat}(h:PO s l E=some ([],c,k)):l=[]/\c=0/\k=0:=by
 match l,h with
 | [],h=>cases h;exact⟨rfl,rfl,rfl⟩
 | x::r,h=>
  simp only[PO]at h
  (repeat' split at h) <;> cases h
theorem OI {s:wV}{l:List Tm}{E:List KV}{X:KV}{c k:Nat}(h:PO s l E=some ([X],c,k)):∃x,l=[x]/\s x E=some (X,c,k):=by
 obtain⟨x,r,c1,k1,c2,k2,rfl,h1,h2,rfl,rfl⟩:=OH h;obtain⟨rfl,rfl,rfl⟩:=zhy h2;exact⟨x,rfl,h1⟩
theorem zhz {e:List KV}{i:Nat}(h:i<e.length):e.reverse[e.length - 1 - i]? = some (e.getD i .unit):=by
 refine zay ?_;rw[uB h,List.getD_eq_getElem?_getD,uB h];rfl
theorem zi0 (t:Tm)(hk:t.kind=1)(e:List KV)(u b:Nat)(Cq:e.length<=1073741825)(hi:0<=t.index)(Jt:t.index.toNat<e.length):cT gl 61 [BC b,t.dv,.sl (e.reverse.map KV.cells)] [(b,[A0 (u:Int)])] (e.getD t.index.toNat .unit).dv [(b,[A0 ((u+0:Nat):Int)])]:=by
 have Av:=Tm.fold t;have hgv:=zhz Jt;have hlen:e.reverse.length=e.length:=List.length_reverse;have Nb:(e.length:Int) - 1 - t.index=((e.length - 1 - t.index.toNat:Nat):Int):=oO;generalize e.getD t.index.toNat .unit=v at *;generalize e.reverse=r at *;refine A8 Tryz.func61 ?_;intro X hP u7 hf u9 hn hR u6 u5;refine A7 (j4 @hk @hlen @Nb @hgv) ?_;exact AI [(b,[A0 ((u+0:Nat):Int)])] tT
theorem zi1 (t:Tm)(hk:t.kind=2)(e:List KV)(u b:Nat)(Cq:e.length<=1073741825)(body:Tm)(Aq:t.args[0]? = some body):cT gl 61 [BC b,t.dv,.sl (e.reverse.map KV.cells)] [(b,[A0 (u:Int)])] (KV.clo body e).dv [(b,[A0 ((u+0:Nat):Int)])]:=by
 have Av:=Tm.fold t;have Ly:=KV.clo_dv body e;refine A8 Tryz.func61 ?_;intro X hP u7 hf u9 hn hR u6 u5;refine A7 (j2 @hk @Aq) ?_;exact AI [(b,[A0 ((u+0:Nat):Int)])] @Ly
theorem zcb (t:Tm)(hk:t.kind=4)(e:List KV)(u b:Nat)(Cq:e.length<=1073741825):cT gl 61 [BC b,t.dv,.sl (e.reverse.map KV.cells)] [(b,[A0 (u:Int)])] (KV.num 0 0).dv [(b,[A0 ((u+0:Nat):Int)])]:=by
 have Av:=Tm.fold t;have Ly:(KV.num 0 0).dv=_:=KV.num_dv 0 0;refine A8 Tryz.func61 ?_;intro X hP u7 hf u9 hn hR u6 u5;refine A7 @hk ?_;exact AI [(b,[A0 ((u+0:Nat):Int)])] @Ly
theorem zi2 (t:Tm)(hk:t.kind=7)(e:List KV)(u b:Nat)(Cq:e.length<=1073741825):cT gl 61 [BC b,t.dv,.sl (e.reverse.map KV.cells)] [(b,[A0 (u:Int)])] (KV.list 0 []).dv [(b,[A0 ((u+0:Nat):Int)])]:=by
 have Av:=Tm.fold t;have Ly:(KV.list 0 []).dv = .agg [A0 0,A0 0,.sl [],.sl [],.sl [],A0 0,A0 0,A0 0,.sl [],.sl [],.sl []]:=KV.list_dv 0 [];refine A8 Tryz.func61 ?_;intro X hP u7 hf u9 hn hR u6 u5;refine A7 @hk ?_;exact AI [(b,[A0 ((u+0:Nat):Int)])] @Ly
theorem zcc (t:Tm)(hk:t.kind=13)(e:List KV)(u b:Nat)(Cq:e.length<=1073741825):cT gl 61 [BC b,t.dv,.sl (e.reverse.map KV.cells)] [(b,[A0 (u:Int)])] KV.unit.dv [(b,[A0 ((u+0:Nat):Int)])]:=by
 have Av:=Tm.fold t;have Ly:=KV.unit_dv;refine A8 Tryz.func61 ?_;intro X hP u7 hf u9 hn hR u6 u5;refine A7 @hk ?_;exact AI [(b,[A0 ((u+0:Nat):Int)])] @Ly
theorem zi3 (t:Tm)(hk:t.kind=3)(e:List KV)(u b:Nat)(Cq:e.length<=1073741825)(x y:Tm)(ha:t.args=[x,y])(F X v:KV)(k1 k2 k3:Nat)(hb:u+(1+k1+k2+k3)<=1073741824)(h1:cT gl 61 [BC b,x.dv,.sl (e.reverse.map KV.cells)] [(b,[A0 ((u:Int)+1:Int)])] F.dv [(b,[A0 ((u:Int)+1+k1:Int)])])(h2:cT gl 61 [BC b,y.dv,.sl (e.reverse.map KV.cells)] [(b,[A0 ((u:Int)+1+k1:Int)])] X.dv [(b,[A0 ((u:Int)+1+k1+k2:Int)])])(w1:cT gl 109 [BC b,F.dv,X.dv] [(b,[A0 ((u:Int)+1+k1+k2:Int)])] v.dv [(b,[A0 ((u:Int)+1+k1+k2+k3:Int)])]):cT gl 61 [BC b,t.dv,.sl (e.reverse.map KV.cells)] [(b,[A0 (u:Int)])] v.dv [(b,[A0 ((u+(1+k1+k2+k3):Nat):Int)])]:=by
 have Av:=Tm.fold t;have Aq:t.args[0]? = some x:=by rw[ha];rfl
 have Bx:t.args[1]? = some y:=by rw[ha];rfl
 have Bi:=Tm.fold x;have Cs:=Tm.fold y;have Zg:=KV.fold F;have hfX:=KV.fold X;have Kq:=KV.cells_eq v;have hu:(u:Int)+1+k1+k2+k3=((u+(1+k1+k2+k3):Nat):Int):=oO;rw[hu]at w1;generalize e.reverse.map KV.cells=EE at *;refine A8 Tryz.func61 ?_;intro X hP u7 hf u9 hn hR u6 u5;refine A7 @hk ?_;refine A3 (j2 @Aq @Bi) h1 ?_;refine A4 ?_;refine EW (j4 @Bx @Cs @Zg @hfX) h2 w1 ?_;exact AI [(b,[A0 ((u+(1+k1+k2+k3):Nat):Int)])] tT
theorem zcd (t:Tm)(hk:t.kind=5)(e:List KV)(u b:Nat)(Cq:e.length<=1073741825)(x:Tm)(ha:t.args=[x])(q:Int)(n k1:Nat)(Fo:n<=1073741824)(h1:cT gl 61 [BC b,x.dv,.sl (e.reverse.map KV.cells)] [(b,[A0 ((u:Int):Int)])] (KV.num q n).dv [(b,[A0 ((u:Int)+k1:Int)])]):cT gl 61 [BC b,t.dv,.sl (e.reverse.map KV.cells)] [(b,[A0 (u:Int)])] (KV.num 1 (n+1)).dv [(b,[A0 ((u+k1:Nat):Int)])]:=by
 have Av:=Tm.fold t;have Aq:t.args[0]? = some x:=by rw[ha];rfl
 have Bi:=Tm.fold x;have Ly:=KV.num_dv q n;have Et:=KV.num_dv 1 (n+1);have hq:((n+1:Nat):Int)=(n:Int)+1:=oO;rw[hq]at Et;have hu:(u:Int)+k1=((u+k1:Nat):Int):=oO;rw[hu,Ly]at h1;generalize e.reverse.map KV.cells=EE at *;refine A8 Tryz.func61 ?_;intro X hP u7 hf u9 hn hR u6 u5;refine A7 @hk ?_;refine A3 (j2 @Aq @Bi) h1 ?_;refine A4 ?_;exact AI [(b,[A0 ((u+k1:Nat):Int)])] @Et
theorem zce (t:Tm)(hk:t.kind=8)(e:List KV)(u b:Nat)(Cq:e.length<=1073741825)(x y:Tm)(ha:t.args=[x,y])(q q2:Int)(n:Nat)(m:List Nat)(k1 k2:Nat)(hm:m.length<=1073741824)(h1:cT gl 61 [BC b,x.dv,.sl (e.reverse.map KV.cells)] [(b,[A0 ((u:Int):Int)])] (KV.num q n).dv [(b,[A0 ((u:Int)+k1:Int)])])(h2:cT gl 61 [BC b,y.dv,.sl (e.reverse.map KV.cells)] [(b,[A0 ((u:Int)+k1:Int)])] (KV.list q2 m).dv [(b,[A0 ((u:Int)+k1+k2:Int)])]):cT gl 61 [BC b,t.dv,.sl (e.reverse.map KV.cells)] [(b,[A0 (u:Int)])] (KV.list 2 (n::m)).dv [(b,[A0 ((u+(k1+k2):Nat):Int)])]:=by
 have Av:=Tm.fold t;have Aq:t.args[0]? = some x:=by rw[ha];rfl
 have Bx:t.args[1]? = some y:=by rw[ha];rfl
 have Bi:=Tm.fold x;have Cs:=Tm.fold y;have Ly:=KV.num_dv q n;have Ci:=KV.list_dv q2 m;have Et:=KV.list_dv 2 (n::m);have hq:AP (List.map Int.ofNat (n::m))=[A0 (n:Int)]::AP (List.map Int.ofNat m):=rfl;rw[hq]at Et;have hu:(u:Int)+k1+k2=((u+(k1+k2):Nat):Int):=oO;rw[Ly]at h1;rw[hu,Ci]at h2;have Rc:m.length<=2147483647:=oO;generalize e.reverse.map KV.cells=EE at *;refine A8 Tryz.func61 ?_;intro X hP u7 hf u9 hn hR u6 u5;refine A7 @hk ?_;refine A3 (j2 @Aq @Bi) h1 ?_;refine A3 (j2 @Bx @Cs) h2 ?_;refine A4 ?_;refine BK ?_;refine AQ [101] fun K hK=>?_;simp[go_sem,hP,u7,hn];refine cB (E:=1) (els:=[[A0 (n:Int)]]) (by simp[go_sem,hP];rfl) (by simp[go_sem,hP,u7,hn]) ⟨rfl,dD,dD⟩ (by rw[hn];exact uF rfl) dD (by rfl) (by rfl) ?_;simp[go_sem,hP,u7,hn];refine F1 ?_;clear hK K;exact AI [(b,[A0 ((u+(k1+k2):Nat):Int)])] @Et
theorem zcf (t:Tm)(hk:t.kind=10)(e:List KV)(u b:Nat)(Cq:e.length<=1073741825)(x y:Tm)(ha:t.args=[x,y])(X Y:KV)(k1 k2:Nat)(h1:cT gl 61 [BC b,x.dv,.sl (e.reverse.map KV.cells)] [(b,[A0 ((u:Int):Int)])] X.dv [(b,[A0 ((u:Int)+k1:Int)])])(h2:cT gl 61 [BC b,y.dv,.sl (e.reverse.map KV.cells)] [(b,[A0 ((u:Int)+k1:Int)])] Y.dv [(b,[A0 ((u:Int)+k1+k2:Int)])]):cT gl 61 [BC b,t.dv,.sl (e.reverse.map KV.cells)] [(b,[A0 (u:Int)])] (KV.both X Y).dv [(b,[A0 ((u+(k1+k2):Nat):Int)])]:=by
 have Av:=Tm.fold t;have Aq:t.args[0]? = some x:=by rw[ha];rfl
 have Bx:t.args[1]? = some y:=by rw[ha];rfl
 have Bi:=Tm.fold x;have Cs:=Tm.fold y;have Om:=KV.cells_eq X;have Sq:=KV.cells_eq Y;have Et:=KV.both_dv X Y;have hu:(u:Int)+k1+k2=((u+(k1+k2):Nat):Int):=oO;rw[hu]at h2;generalize e.reverse.map KV.cells=EE at *;refine A8 Tryz.func61 ?_;intro X hP u7 hf u9 hn hR u6 u5;refine A7 @hk ?_;refine A3 (j2 @Aq @Bi) h1 ?_;refine A4 ?_;refine A3 (j2 @Bx @Cs) h2 ?_;exact AI [(b,[A0 ((u+(k1+k2):Nat):Int)])] (j3 @Et @Om @Sq)
theorem zi4 (t:Tm)(hk:t.kind=11)(e:List KV)(u b:Nat)(Cq:e.length<=1073741825)(x:Tm)(ha:t.args=[x])(X Y:KV)(k1:Nat)(h1:cT gl 61 [BC b,x.dv,.sl (e.reverse.map KV.cells)] [(b,[A0 ((u:Int):Int)])] (KV.both X Y).dv [(b,[A0 ((u:Int)+k1:Int)])]):cT gl 61 [BC b,t.dv,.sl (e.reverse.map KV.cells)] [(b,[A0 (u:Int)])] X.dv [(b,[A0 ((u+k1:Nat):Int)])]:=by
 have Av:=Tm.fold t;have Aq:t.args[0]? = some x:=by rw[ha];rfl
 have Bi:=Tm.fold x;have Et:=KV.both_dv X Y;have hfX:=KV.cells_eq X;have hu:(u:Int)+k1=((u+k1:Nat):Int):=oO;rw[hu,Et]at h1;generalize e.reverse.map KV.cells=EE at *;refine A8 Tryz.func61 ?_;intro X hP u7 hf u9 hn hR u6 u5;refine A7 @hk ?_;refine A3 (j2 @Aq @Bi) h1 ?_;exact AI [(b,[A0 ((u+k1:Nat):Int)])] @hfX
theorem zi5 (t:Tm)(hk:t.kind=12)(e:List KV)(u b:Nat)(Cq:e.length<=1073741825)(x:Tm)(ha:t.args=[x])(X Y:KV)(k1:Nat)(h1:cT gl 61 [BC b,x.dv,.sl (e.reverse.map KV.cells)] [(b,[A0 ((u:Int):Int)])] (KV.both X Y).dv [(b,[A0 ((u:Int)+k1:Int)])]):cT gl 61 [BC b,t.dv,.sl (e.reverse.map KV.cells)] [(b,[A0 (u:Int)])] Y.dv [(b,[A0 ((u+k1:Nat):Int)])]:=by
 have Av:=Tm.fold t;have Aq:t.args[0]? = some x:=by rw[ha];rfl
 have Bi:=Tm.fold x;have Et:=KV.both_dv X Y;have hfX:=KV.cells_eq Y;have hu:(u:Int)+k1=((u+k1:Nat):Int):=oO;rw[hu,Et]at h1;generalize e.reverse.map KV.cells=EE at *;refine A8 Tryz.func61 ?_;intro X hP u7 hf u9 hn hR u6 u5;refine A7 @hk ?_;refine A3 (j2 @Aq @Bi) h1 ?_;exact AI [(b,[A0 ((u+k1:Nat):Int)])] @hfX
theorem zi6 (t:Tm)(hk:t.kind=6)(e:List KV)(u b:Nat)(Cq:e.length<=1073741825){d:Nat}(H:jV Tryz.prog gl 61 (wW d))(x y z:Tm)(ha:t.args=[x,y,z])(R F:KV)(q:Int)(n k1 k2 k3:Nat)(v:KV)(c k M:Nat)(hr:dA (wW d) F n 0 R=some (v,c,k))(hM:M+c<=1073741824)(hu:u+(k1+(k2+k3)+k)<=1073741824)(hR:R.le M)(hF:F.le M)(Fo:n<=M)(h1:cT gl 61 [BC b,x.dv,.sl (e.reverse.map KV.cells)] [(b,[A0 ((u:Int):Int)])] R.dv [(b,[A0 ((u:Int)+k1:Int)])])(h2:cT gl 61 [BC b,y.dv,.sl (e.reverse.map KV.cells)] [(b,[A0 ((u:Int)+k1:Int)])] F.dv [(b,[A0 ((u:Int)+k1+k2:Int)])])(h3:cT gl 61 [BC b,z.dv,.sl (e.reverse.map KV.cells)] [(b,[A0 ((u:Int)+k1+k2:Int)])] (KV.num q n).dv [(b,[A0 ((u:Int)+k1+k2+k3:Int)])]):cT gl 61 [BC b,t.dv,.sl (e.reverse.map KV.cells)] [(b,[A0 (u:Int)])] v.dv [(b,[A0 ((u+(k1+(k2+k3)+k):Nat):Int)])]:=by
 have Av:=Tm.fold t;have Aq:t.args[0]? = some x:=by rw[ha];rfl
 have Bx:t.args[1]? = some y:=by rw[ha];rfl
 have Jf:t.args[2]? = some z:=by rw[ha];rfl
 have Bi:=Tm.fold x;have Cs:=Tm.fold y;have Kc:=Tm.fold z;have Zg:=KV.fold F;have Ly:=KV.num_dv q n;rw[Ly]at h3;obtain⟨u1,Vl⟩:∃u1:Nat,u1=u+(k1+(k2+k3)):=⟨_,rfl⟩;have Qy:(u:Int)+k1+k2+k3=(u1:Int):=oO;rw[Qy]at h3;have huf:u+(k1+(k2+k3)+k)=u1+k:=oO;generalize e.reverse.map KV.cells=EE at *;have Ud:=hR;clear hR;refine A8 Tryz.func61 ?_;intro X hP u7 hf u9 hn hR u6 u5;rw[huf]at hR;refine A7 @hk ?_;refine A3 (j2 @Aq @Bi) h1 ?_;refine A4 ?_;refine A3 (j2 @Bx @Cs) h2 ?_;refine A4 ?_;refine A3 (j2 @Jf @Kc) h3 ?_;refine A7 @hk ?_;refine BK ?_
 refine AC [] tT (CH (fun x:Nat × KV × Nat × Nat=>x.1<=n/\x.2.1.le (M+x.2.2.2)/\∃c' k',dA (wW d) F (n - x.1) x.1 x.2.1=some (v,c',k')/\x.2.2.2+c' = c/\x.2.2.1+k' = u1+k) (fun x:Nat × KV × Nat × Nat=>[sV 0 (BC b),sP 6,sL 6 [.v (A0 0),.v (A0 0),.own 0 [],.own 0 [],.own 0 [],.v (A0 0),.v (A0 0),.v (A0 0),.own 0 [],.own 0 [],.own 0 []],sP 12,sL 12 [.v (A0 x.2.1.kindF),.v (A0 x.2.1.numF),.v (.sl (AP x.2.1.listF)),.v (.sl []),.v (.sl (x.2.1.pairF.map KV.cells)),.v (A0 x.2.1.bodyF.kind),.v (A0 x.2.1.bodyF.index),.v (A0 x.2.1.bodyF.type.kind),.v (.sl (x.2.1.bodyF.type.args.map Ty.cells)),.v (.sl (x.2.1.bodyF.args.map Tm.cells)),.v (.sl (x.2.1.envF.map KV.cells))],sP 13,sL 13 [.v (A0 F.kindF),.v (A0 F.numF),.v (.sl (AP F.listF)),.v (.sl []),.v (.sl (F.pairF.map KV.cells)),.v (A0 F.bodyF.kind),.v (A0 F.bodyF.index),.v (A0 F.bodyF.type.kind),.v (.sl (F.bodyF.type.args.map Ty.cells)),.v (.sl (F.bodyF.args.map Tm.cells)),.v (.sl (F.envF.map KV.cells))],sP 14,sL 14 [.v (A0 q),.v (A0 (n:Int)),.v (.sl []),.v (.sl [])],sV 15 (A0 (x.1:Int)),sB  b [.v (A0 (x.2.2.1:Int))]]) (fun x:Nat × KV × Nat × Nat=>n - x.1) (0,R,u1,0) (⟨Nat.zero_le _,Ud,c,k,hr,Nat.zero_add _,rfl⟩) ?_);rintro⟨j,r,uk,cc⟩ ⟨i1,i2,c',k',i3,i4,i5⟩ ih;simp only at i1 i2 i3 i4 i5;have Eh:=KV.fold r;by_cases hj:(j:Int)<n;rotate_left
 ·have hj0:n - j=0:=oO;rw[hj0]at i3;simp only[dA,uC,uD]at i3;obtain⟨rfl,rfl,rfl⟩:=i3;have hq:uk=u1+k:=oO;subst hq;refine A7 @hj ?_;exact AI [(b,[A0 ((u1+k:Nat):Int)])] (KV.cells_eq r)
 have hj0:n - j=(n - (j+1))+1:=oO;rw[hj0]at i3;simp only[dA]at i3;split at i3;· cases i3
 rename_i g c1 t1 e1;split at i3;· cases i3
 rename_i r2 c2 t2 e2;split at i3;· cases i3
 rename_i w c3 t3 e3;simp only[uC,uD]at i3;obtain⟨rfl,rfl,rfl⟩:=i3;have hL:=zP d;have w1:=N6 (gl:=gl) H (uk+1) b (M+cc) e1 oO oO (KV.le_mono oO _ hF) (by simp only[KV.le];omega);have p1:=KG hL e1 (M:=M+cc) (KV.le_mono oO _ hF) (by simp only[KV.le];omega);have w2:=N6 (gl:=gl) H (uk+1+t1) b (M+cc+c1) e2 oO oO p1 (KV.le_mono oO _ i2);have p2:=KG hL e2 p1 (KV.le_mono oO _ i2);have Wo:((j+1:Nat):Int)=(j:Int)+1:=oO;have Dx:((uk+1:Nat):Int)=(uk:Int)+1:=oO;rw[Dx]at w1;have So:=KV.fold g;have hnj:=KV.num_dv 1 j;have Ih:=KV.cells_eq r2;refine A7 @hj ?_;refine EW (j4 @hnj @Zg @So @Eh) w1 w2 ?_;refine CR (wr []) (j2 @Wo @Ih) tT (ih (j+1,r2,uk+1+t1+t2,cc+(c1+c2)) ⟨by show j+1<=n;omega,KV.le_mono (by show M+cc+c1+c2<=M+(cc+(c1+c2));omega) _ p2,c3,t3,e3,by show cc+(c1+c2)+c3=_;omega,by show uk+1+t1+t2+t3=_;omega⟩ (by show n - (j+1)<n - j;omega))
theorem zcg (t:Tm)(hk:t.kind=9)(e:List KV)(u b:Nat)(Cq:e.length<=1073741825){d:Nat}(H:jV Tryz.prog gl 61 (wW d))(x y z:Tm)(ha:t.args=[x,y,z])(R F:KV)(q:Int)(m:List Nat)(k1 k2 k3:Nat)(v:KV)(c k M:Nat)(hr:OG (wW d) F R m=some (v,c,k))(hM:M+c<=1073741824)(hu:u+(k1+(k2+k3)+k)<=1073741824)(hR:R.le M)(hF:F.le M)(hm:m.length<=M/\∀n∈m,n<=M)(h1:cT gl 61 [BC b,x.dv,.sl (e.reverse.map KV.cells)] [(b,[A0 ((u:Int):Int)])] R.dv [(b,[A0 ((u:Int)+k1:Int)])])(h2:cT gl 61 [BC b,y.dv,.sl (e.reverse.map KV.cells)] [(b,[A0 ((u:Int)+k1:Int)])] F.dv [(b,[A0 ((u:Int)+k1+k2:Int)])])(h3:cT gl 61 [BC b,z.dv,.sl (e.reverse.map KV.cells)] [(b,[A0 ((u:Int)+k1+k2:Int)])] (KV.list q m).dv [(b,[A0 ((u:Int)+k1+k2+k3:Int)])]):cT gl 61 [BC b,t.dv,.sl (e.reverse.map KV.cells)] [(b,[A0 (u:Int)])] v.dv [(b,[A0 ((u+(k1+(k2+k3)+k):Nat):Int)])]:=by
 have Av:=Tm.fold t;have Aq:t.args[0]? = some x:=by rw[ha];rfl
 have Bx:t.args[1]? = some y:=by rw[ha];rfl
 have Jf:t.args[2]? = some z:=by rw[ha];rfl
 have Bi:=Tm.fold x;have Cs:=Tm.fold y;have Kc:=Tm.fold z;have Zg:=KV.fold F;have Ly:=KV.list_dv q m;rw[Ly]at h3;obtain⟨u1,Vl⟩:∃u1:Nat,u1=u+(k1+(k2+k3)):=⟨_,rfl⟩;have Qy:(u:Int)+k1+k2+k3=(u1:Int):=oO;rw[Qy]at h3;have huf:u+(k1+(k2+k3)+k)=u1+k:=oO;generalize e.reverse.map KV.cells=EE at *;have Ud:=hR;clear hR;have Rc:=hm.1;refine A8 Tryz.func61 ?_;intro X hP u7 hf u9 hn hR u6 u5;rw[huf]at hR;refine A7 @hk ?_;refine A3 (j2 @Aq @Bi) h1 ?_;refine A4 ?_;refine A3 (j2 @Bx @Cs) h2 ?_;refine A4 ?_;refine A3 (j2 @Jf @Kc) h3 ?_;refine A7 @hk ?_;refine BK ?_
 refine AC [] tT (CH (fun x:Nat × KV × Nat × Nat=>x.1<=m.length/\x.2.1.le (M+x.2.2.2)/\∃k',OG (wW d) F R (m.drop x.1)=some (x.2.1,x.2.2.2,k')/\x.2.2.1=u1+k') (fun x:Nat × KV × Nat × Nat=>[sV 0 (BC b),sP 6,sL 6 [.v (A0 0),.v (A0 0),.own 0 [],.own 0 [],.own 0 [],.v (A0 0),.v (A0 0),.v (A0 0),.own 0 [],.own 0 [],.own 0 []],sP 12,sL 12 [.v (A0 x.2.1.kindF),.v (A0 x.2.1.numF),.v (.sl (AP x.2.1.listF)),.v (.sl []),.v (.sl (x.2.1.pairF.map KV.cells)),.v (A0 x.2.1.bodyF.kind),.v (A0 x.2.1.bodyF.index),.v (A0 x.2.1.bodyF.type.kind),.v (.sl (x.2.1.bodyF.type.args.map Ty.cells)),.v (.sl (x.2.1.bodyF.args.map Tm.cells)),.v (.sl (x.2.1.envF.map KV.cells))],sP 13,sL 13 [.v (A0 F.kindF),.v (A0 F.numF),.v (.sl (AP F.listF)),.v (.sl []),.v (.sl (F.pairF.map KV.cells)),.v (A0 F.bodyF.kind),.v (A0 F.bodyF.index),.v (A0 F.bodyF.type.kind),.v (.sl (F.bodyF.type.args.map Ty.cells)),.v (.sl (F.bodyF.args.map Tm.cells)),.v (.sl (F.envF.map KV.cells))],sP 14,sL 14 [.v (A0 q),.v (A0 0),.v (.sl (AP (m.map Int.ofNat))),.v (.sl [])],sV 16 (A0 ((x.1:Int) - 1)),sB  b [.v (A0 (x.2.2.1:Int))]]) (fun x:Nat × KV × Nat × Nat=>x.1) (m.length,R,u1,0) (⟨Nat.le_refl _,Ud,0,by show OG (wW d) F R (m.drop m.length)=_;rw[List.drop_length];rfl,rfl⟩) ?_);rintro⟨j,r,uk,cc⟩ ⟨i1,i2,k',i3,i4⟩ ih;simp only at i1 i2 i3 i4;have Eh:=KV.fold r;cases j with
 | zero=>
  rw[List.drop_zero,hr]at i3;cases i3;subst i4;refine A4 ?_;exact AI [(b,[A0 ((u1+k:Nat):Int)])] (KV.cells_eq v)
 | succ j=>
  have Mr:j<m.length:=oO;obtain⟨v0,c0,k0,d1,d2,d3⟩:=dB hr j;rw[List.drop_eq_getElem_cons Mr]at d1;obtain⟨r',c0',k0',g,c1,t1,g2,c2,t2,c3,t3,q0,q1,q2,q3,q4,q5⟩:=UP d1;rw[i3]at q0;cases q0;have Dd:m[j]<=M:=hm.2 _ (List.getElem_mem _);have hL:=zP d;have hgx:(AP (m.map Int.ofNat))[j]? = some [A0 ((m[j]:Nat):Int)]:=by simp[AP,uB Mr]
  have Fc:(m.drop (j+1)).length=m.length - (j+1):=List.length_drop;have hdm:∀n∈m.drop (j+1),n<=M:=fun n hn=>hm.2 n (List.mem_of_mem_drop hn);have w1:=N6 (gl:=gl) H (uk+1) b (M+cc) q1 oO oO (KV.le_mono oO _ hF) (by simp only[KV.le];omega);have p1:=KG hL q1 (M:=M+cc) (KV.le_mono oO _ hF) (by simp only[KV.le];omega);have hlk:(KV.list 2 (m.drop (j+1))).le (M+cc+c1):=by simp only[KV.le];exact⟨oO,fun n hn=>by have:=hdm n hn;omega⟩
  have w2:=N6 (gl:=gl) H (uk+1+t1) b (M+cc+c1) q2 oO oO p1 hlk;have p2:=KG hL q2 p1 hlk;have w3:=N6 (gl:=gl) H (uk+1+t1+t2) b (M+cc+c1+c2) q3 oO oO p2 (KV.le_mono oO _ i2);have p3:=KG hL q3 p2 (KV.le_mono oO _ i2);have Dx:((uk+1:Nat):Int)=(uk:Int)+1:=oO;rw[Dx]at w1;have So:=KV.fold g;have hfg2:=KV.fold g2;have hnj:=KV.num_dv 1 m[j];have Dy:=KV.list_dv 2 (m.drop (j+1));have Ih:=KV.cells_eq v0;have Wo:((j+1:Nat):Int) - 1=(j:Int):=oO;have To:(0:Int)<=j:=oO;have Je:AP ((m.drop (j+1)).map Int.ofNat)=(AP (m.map Int.ofNat)).drop (j+1):=by simp[AP,List.map_drop]
  have Qz:(AP (m.map Int.ofNat)).length=m.length:=by simp[AP]
  rw[Je]at Dy;have Xj:=ih (j,v0,uk+1+t1+t2+t3,c0) ⟨by show j<=m.length;omega,KV.le_mono (by show M+cc+c1+c2+c3<=M+c0;omega) _ p3,k0,by rw[List.drop_eq_getElem_cons Mr];exact d1,by show uk+1+t1+t2+t3=u1+k0;omega⟩ (by show j<j+1;omega);simp only at Xj;have Lc:∀e∈AP (m.map Int.ofNat),e.length=1:=by
   intro e he;simp only[AP,List.mem_map]at he;obtain⟨q,-,rfl⟩:=he;rfl
  have hlx:=eq_true Lc;generalize AP (m.map Int.ofNat)=LL at *;have Nq:List.take m.length LL=LL:=List.take_of_length_le (by rw[Qz];exact Nat.le_refl _);generalize m[j]=xj at *;refine A7 (j2 @Wo @To) ?_;refine A3 (j3 @hgx @hnj @Zg) w1 ?_;refine A4 ?_;refine EW (j8 @Dy @Qz @hlx @Nq @Wo @So @hfg2 @Eh) w2 w3 ?_;refine CR (wr []) @Ih tT Xj
theorem gK:∀d,jV Tryz.prog gl 61 (wW d)
 | 0=>fun t e v c k u b M h hs=>by cases h
 | d+1=>fun t e v c k u b M h hs hM hu he Cq=>by
  have H:=gK d;obtain⟨Bl,-,-,-,Co⟩:=Tm.shape_node hs;have hL:=zP d;rw[wW]at h;by_cases k1:t.kind=1
  ·rw[if_pos k1]at h;split at h;rotate_left;· cases h
   rename_i hi;cases h;exact zi0 t k1 e u b oO hi.1 hi.2
  rw[if_neg k1]at h;by_cases k2:t.kind=2
  ·rw[if_pos k2]at h;split at h;· cases h
   rename_i hi;cases h;refine zi1 t k2 e u b oO (t.argN 0) ?_
   match ha:t.args,hi with
   | x::r,_=>simp[Tm.argN,ha]
   | [],hi=>exact absurd rfl hi
  rw[if_neg k2]at h;split at h;· cases h
  split at h;· cases h
  rename_i l c1 t1 hl;obtain⟨⟨v1,c2,t2⟩,q1,q2⟩:=Option.map_eq_some_iff.1 h;cases q2;simp only at hM hu ⊢;have hle:=wZ hL hl Co he Cq;unfold gJ at q1;by_cases k3:t.kind=3
  ·rw[if_pos k3]at q1;split at q1;rotate_left;· cases q1
   rename_i f x;obtain⟨⟨v2,c3,t3⟩,r1,r2⟩:=Option.map_eq_some_iff.1 q1;cases r2;simp only at hM hu ⊢;obtain⟨tf,r,cf,kf,ca,ka,ha,s1,s2,rfl,rfl⟩:=OH hl;obtain⟨tx,rfl,s3⟩:=OI s2;simp only[KV.les]at hle;have w1:=H (u+1) b M s1 (Co _ (by rw[ha];simp)) oO oO he Cq;have w2:=H (u+1+kf) b M s3 (Co _ (by rw[ha];simp)) oO oO he Cq;have w3:=N6 (gl:=gl) H (u+1+kf+ka) b (M+(cf+ca)) r1 oO oO hle.1 hle.2.1;simp only[Int.natCast_add,Int.natCast_one]at w1 w2 w3;have hz:=zi3 t k3 e u b oO tf tx ha f x v2 kf ka t3 oO w1 w2 w3
   rwa [show kf+ka+(1+t3)=1+kf+ka+t3 from oO]
  rw[if_neg k3]at q1;by_cases k4:t.kind=4
  ·rw[if_pos k4]at q1;cases q1;have Yx:t.args=[]:=by
    rw[k4]at Bl
    match hh:t.args,Bl with
    | [],_=>rfl
   rw[Yx]at hl;cases hl;exact zcb t k4 e u b oO
  rw[if_neg k4]at q1;by_cases k5:t.kind=5
  ·rw[if_pos k5]at q1;split at q1;rotate_left;· cases q1
   rename_i q n;cases q1;obtain⟨x,ha,s1⟩:=OI hl;simp only[KV.les,KV.le]at hle;have w1:=H u b M s1 (Co _ (by rw[ha];simp)) oO oO he Cq;simp only[Int.natCast_add]at w1;exact zcd t k5 e u b oO x ha q n t1 oO w1
  rw[if_neg k5]at q1;by_cases k6:t.kind=6
  ·rw[if_pos k6]at q1;split at q1;rotate_left;· cases q1
   rename_i R F q n;obtain⟨x,r,cf,kf,ca,ka,ha,s1,s2,rfl,rfl⟩:=OH hl;obtain⟨y,r2,cg,kg,cb,kb,rfl,s3,s4,rfl,rfl⟩:=OH s2;obtain⟨z,rfl,s5⟩:=OI s4;simp only[KV.les,KV.le]at hle;have w1:=H u b M s1 (Co _ (by rw[ha];simp)) oO oO he Cq;have w2:=H (u+kf) b M s3 (Co _ (by rw[ha];simp)) oO oO he Cq;have w3:=H (u+kf+kg) b M s5 (Co _ (by rw[ha];simp)) oO oO he Cq;simp only[Int.natCast_add]at w1 w2 w3;exact zi6 t k6 e u b oO H x y z ha R F q n kf kg kb v1 c2 t2 (M+(cf+(cg+cb))) q1 oO oO hle.1 hle.2.1 oO w1 w2 w3
  rw[if_neg k6]at q1;by_cases k7:t.kind=7
  ·rw[if_pos k7]at q1;cases q1;have Yx:t.args=[]:=by
    rw[k7]at Bl
    match hh:t.args,Bl with
    | [],_=>rfl
   rw[Yx]at hl;cases hl;exact zi2 t k7 e u b oO
  rw[if_neg k7]at q1;by_cases k8:t.kind=8
  ·rw[if_pos k8]at q1;split at q1;rotate_left;· cases q1
   rename_i q n q2 m;cases q1;obtain⟨x,r,cf,kf,ca,ka,ha,s1,s2,rfl,rfl⟩:=OH hl;obtain⟨y,rfl,s3⟩:=OI s2;simp only[KV.les,KV.le]at hle;have w1:=H u b M s1 (Co _ (by rw[ha];simp)) oO oO he Cq;have w2:=H (u+kf) b M s3 (Co _ (by rw[ha];simp)) oO oO he Cq;simp only[Int.natCast_add]at w1 w2;exact zce t k8 e u b oO x y ha q q2 n m kf ka oO w1 w2
  rw[if_neg k8]at q1;by_cases k9:t.kind=9
  ·rw[if_pos k9]at q1;split at q1;rotate_left;· cases q1
   rename_i R F q m;obtain⟨x,r,cf,kf,ca,ka,ha,s1,s2,rfl,rfl⟩:=OH hl;obtain⟨y,r2,cg,kg,cb,kb,rfl,s3,s4,rfl,rfl⟩:=OH s2;obtain⟨z,rfl,s5⟩:=OI s4;simp only[KV.les,KV.le]at hle;have w1:=H u b M s1 (Co _ (by rw[ha];simp)) oO oO he Cq;have w2:=H (u+kf) b M s3 (Co _ (by rw[ha];simp)) oO oO he Cq;have w3:=H (u+kf+kg) b M s5 (Co _ (by rw[ha];simp)) oO oO he Cq;simp only[Int.natCast_add]at w1 w2 w3;exact zcg t k9 e u b oO H x y z ha R F q m kf kg kb v1 c2 t2 (M+(cf+(cg+cb))) q1 oO oO hle.1 hle.2.1 hle.2.2.1 w1 w2 w3
  rw[if_neg k9]at q1;by_cases Gu:t.kind=10
  ·rw[if_pos Gu]at q1;split at q1;rotate_left;· cases q1
   rename_i X Y;cases q1;obtain⟨x,r,cf,kf,ca,ka,ha,s1,s2,rfl,rfl⟩:=OH hl;obtain⟨y,rfl,s3⟩:=OI s2;have w1:=H u b M s1 (Co _ (by rw[ha];simp)) oO oO he Cq;have w2:=H (u+kf) b M s3 (Co _ (by rw[ha];simp)) oO oO he Cq;simp only[Int.natCast_add]at w1 w2;exact zcf t Gu e u b oO x y ha X Y kf ka w1 w2
  rw[if_neg Gu]at q1;by_cases Kl:t.kind=11
  ·rw[if_pos Kl]at q1;split at q1;rotate_left;· cases q1
   rename_i X Y;cases q1;obtain⟨x,ha,s1⟩:=OI hl;have w1:=H u b M s1 (Co _ (by rw[ha];simp)) oO oO he Cq;simp only[Int.natCast_add]at w1;exact zi4 t Kl e u b oO x ha v1 Y t1 w1
  rw[if_neg Kl]at q1;by_cases Kp:t.kind=12
  ·rw[if_pos Kp]at q1;split at q1;rotate_left;· cases q1
   rename_i X Y;cases q1;obtain⟨x,ha,s1⟩:=OI hl;have w1:=H u b M s1 (Co _ (by rw[ha];simp)) oO oO he Cq;simp only[Int.natCast_add]at w1;exact zi5 t Kp e u b oO x ha X v1 t1 w1
  rw[if_neg Kp]at q1;by_cases Dt:t.kind=13
  ·rw[if_pos Dt]at q1;cases q1;have Yx:t.args=[]:=by
    rw[Dt]at Bl
    match hh:t.args,Bl with
    | [],_=>rfl
   rw[Yx]at hl;cases hl;exact zcc t Dt e u b oO
  rw[if_neg Dt]at q1;cases q1
end
section
variable {gl:AF}
def QP {α:Type}(f:α->Int):List α->Int->Int
 | [],n=>n
 | x::r,n=>if n<=20000 then QP f r (n+f x) else n
theorem gL {α:Type}(f:α->Int)(l:List α)(n:Int)(h:¬n<=20000):QP f l n=n:=by cases l <;> simp[QP,h]
theorem jW {α:Type}(f:α->Int):∀(l:List α) (n:Int),(∀x∈l,1<=f x/\f x<=2000000)->0<=n->n<=3000000->0<=QP f l n/\QP f l n<=3000000
 | [],n,_,h0,h1=>⟨h0,h1⟩
 | x::r,n,h,h0,h1=>by
  simp only[QP];by_cases hn:n<=20000
  ·rw[if_pos hn];obtain⟨k1,k2⟩:=h x sS;exact jW f r (n+f x) (fun y hy=>h y (by simp[hy])) oO oO
  ·rw[if_neg hn];exact⟨h0,h1⟩
theorem z4x:cT gl 6 [] [] (.agg [A0 0]) []:=by
 refine A8 Tryz.func6 ?_;intro X hP u7 hf u9 hn hR u6 u5;refine A4 ?_;exact B9
theorem XH (n:Int):cT gl 9 [.agg [A0 n]] [] (AK (decide (n<=20000))) []:=by
 refine A8 Tryz.func9 ?_;intro X hP u7 hf u9 hn hR u6 u5;refine A4 ?_;exact BR
theorem dC (l:List Ty)(n:Int)(hl:l.length<=1048576)(ht:∀x∈l,x.tot<=2000000)(h0:0<=n)(hn3:n<=3000000) :
  cT gl 7 [.agg [A0 n],.sl (l.map Ty.cells)] [] (.agg [A0 (QP (fun t=>t.cntN 20000) l n)]) []:=by
 refine A8 Tryz.func7 ?_;intro X hP u7 hf u9 hn hR u6 u5;refine A4 ?_;refine BK ?_;refine AC [] tT (CH (fun x:Nat × Int=>x.1<=l.length/\0<=x.2/\x.2<=3000000/\QP (fun t=>Ty.cntN t 20000) (l.drop x.1) x.2=QP (fun t=>Ty.cntN t 20000) l n) (fun x:Nat × Int=>[sV 1 (.sl (l.map Ty.cells)),sV 5 (A0 x.1),sP 2,sL 2 [.v (A0 x.2)],sP 4,sL 4 [.v (A0 0)]]) (fun x:Nat × Int=>l.length - x.1) (0,n) (⟨Nat.zero_le _,h0,hn3,rfl⟩) ?_);rintro⟨i,m⟩ ⟨i1,i2,i3,i4⟩ ih;simp only at i1 i2 i3 i4;have wf:=XH (gl:=gl) m;by_cases hi:i<l.length
 ·have hg:l[i]? = some l[i]:=uB hi;have hd:l.drop i=l[i]::l.drop (i+1):=List.drop_eq_getElem_cons hi;generalize hx:l[i]=x at *;have Dd:x∈l:=uE hg;rw[hd]at i4;by_cases hm:m<=20000
  ·simp only[QP]at i4;rw[if_pos hm]at i4;have hb:=Ty.cnt_bd x 20000;have hxt:=ht x Dd;have w:=VH (gl:=gl) x 20000 oO oO;rw[decide_eq_true hm]at wf;have hgm:(l.map Ty.cells)[i]? = some x.cells:=by rw[List.getElem?_map,hg];rfl
   have An:=Ty.cells_eq x;have Bi:=Ty.fold x;have hnx:=ih (i+1,m+x.cntN 20000) ⟨by show i+1<=l.length;omega,by show 0<=m+x.cntN 20000;omega,by show m+x.cntN 20000<=3000000;omega,i4⟩ (by show l.length - (i+1)<l.length - i;omega);generalize x.cntN 20000=cx at *;refine A4 ?_;refine A3 @hi wf ?_;refine AE ?_;refine A4 ?_;refine A3 (j3 @hgm @An @Bi) w ?_;refine CR (wr []) tT tT hnx
  ·rw[gL _ _ _ hm]at i4;rw[decide_eq_false hm]at wf;rw[<- i4]at hR;refine A4 ?_;refine A3 @hi wf ?_;refine B6 ?_;refine A4 ?_;exact BR
 ·have Bz:i=l.length:=oO;subst Bz;rw[List.drop_length]at i4;simp only[QP]at i4;rw[<- i4]at hR;refine A4 ?_;exact BR
theorem x6 (l:List Tm)(n:Int)(hl:l.length<=1000)(ht:∀x∈l,x.tot<=2000000)(h0:0<=n)(hn3:n<=3000000) :
  cT gl 8 [.agg [A0 n],.sl (l.map Tm.cells)] [] (.agg [A0 (QP (fun t=>t.cntN 20000) l n)]) []:=by
 refine A8 Tryz.func8 ?_;intro X hP u7 hf u9 hn hR u6 u5;refine A4 ?_;refine BK ?_;refine AC [] tT (CH (fun x:Nat × Int=>x.1<=l.length/\0<=x.2/\x.2<=3000000/\QP (fun t=>Tm.cntN t 20000) (l.drop x.1) x.2=QP (fun t=>Tm.cntN t 20000) l n) (fun x:Nat × Int=>[sV 1 (.sl (l.map Tm.cells)),sV 5 (A0 x.1),sP 2,sL 2 [.v (A0 x.2)],sP 4,sL 4 [.v (A0 0)]]) (fun x:Nat × Int=>l.length - x.1) (0,n) (⟨Nat.zero_le _,h0,hn3,rfl⟩) ?_);rintro⟨i,m⟩ ⟨i1,i2,i3,i4⟩ ih;simp only at i1 i2 i3 i4;have wf:=XH (gl:=gl) m;by_cases hi:i<l.length
 ·have hg:l[i]? = some l[i]:=uB hi;have hd:l.drop i=l[i]::l.drop (i+1):=List.drop_eq_getElem_cons hi;generalize hx:l[i]=x at *;have Dd:x∈l:=uE hg;rw[hd]at i4;by_cases hm:m<=20000
  ·simp only[QP]at i4;rw[if_pos hm]at i4;have hb:=Tm.cnt_bd x 20000;have hxt:=ht x Dd;have w:=iQ (gl:=gl) x 20000 oO oO;rw[decide_eq_true hm]at wf;have hgm:(l.map Tm.cells)[i]? = some x.cells:=by rw[List.getElem?_map,hg];rfl
   have An:=Tm.cells_eq x;have Bi:=Tm.fold x;have hnx:=ih (i+1,m+x.cntN 20000) ⟨by show i+1<=l.length;omega,by show 0<=m+x.cntN 20000;omega,by show m+x.cntN 20000<=3000000;omega,i4⟩ (by show l.length - (i+1)<l.length - i;omega);generalize x.cntN 20000=cx at *;refine A4 ?_;refine A3 @hi wf ?_;refine AE ?_;refine A4 ?_;refine A3 (j3 @hgm @An @Bi) w ?_;refine CR (wr []) tT tT hnx
  ·rw[gL _ _ _ hm]at i4;rw[decide_eq_false hm]at wf;rw[<- i4]at hR;refine A4 ?_;refine A3 @hi wf ?_;refine B6 ?_;refine A4 ?_;exact BR
 ·have Bz:i=l.length:=oO;subst Bz;rw[List.drop_length]at i4;simp only[QP]at i4;rw[<- i4]at hR;refine A4 ?_;exact BR
end
end Go.Proofs.YtoniciijokeidaaGreatDoor.Lift
