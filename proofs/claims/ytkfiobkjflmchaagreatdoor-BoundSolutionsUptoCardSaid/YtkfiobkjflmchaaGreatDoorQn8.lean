import Derived.Test.YtkfiobkjflmchaaGreatDoorQn7
set_option maxHeartbeats 8000000
set_option maxRecDepth 100000
set_option linter.unusedSimpArgs false
set_option linter.unusedVariables false
set_option linter.unnecessarySimpa false
namespace Go.Proofs.YtkfiobkjflmchaaGreatDoor.Lift
open Go
section
def T.maj:T->T
 | .nat=>.nat
 | .list=>.nat
 | .unit=>.unit
 | .pair a b=>.pair a.maj b.maj
 | .fn a b=>.fn a.maj b.maj
def Ge:(b:T)->b.V->b.V->Prop
 | .nat,x,y=>Nat.le y x
 | .list,x,y=>x=y
 | .unit,_,_=>True
 | .pair a b,x,y=>Ge a x.1 y.1/\Ge b x.2 y.2
 | .fn a b,F,G=>(∀x y:a.V,Ge a x y->Ge b (F x) (G y))/\∀x y:a.V,Ge a x y->Ge b (F x) (F y)
def Mj:(a:T)->a.maj.V->a.V->Prop
 | .nat,m,n=>Nat.le n m
 | .list,m,l=>Nat.le (List.length l) m/\∀x:Nat,List.Mem x l->Nat.le x m
 | .unit,_,_=>True
 | .pair a b,x,y=>Mj a x.1 y.1/\Mj b x.2 y.2
 | .fn a b,F,f=>(∀(X:a.maj.V) (x:a.V),Mj a X x->Mj b (F X) (f x))/\∀X Y:a.maj.V,Ge a.maj X Y->Ge b.maj (F X) (F Y)
theorem Ge.left:∀{b:T} {x y:b.V},Ge b x y->Ge b x x
 | .nat,x,_,_=>Nat.le_refl x
 | .list,_,_,_=>rfl
 | .unit,_,_,_=>trivial
 | .pair _ _,_,_,h=>⟨Ge.left h.1,Ge.left h.2⟩
 | .fn _ _,_,_,h=>⟨h.2,h.2⟩
theorem Ge.trans:∀{b:T} {x y z:b.V},Ge b x y->Ge b y z->Ge b x z
 | .nat,_,_,_,h,k=>Nat.le_trans k h
 | .list,_,_,_,h,k=>Eq.trans h k
 | .unit,_,_,_,_,_=>trivial
 | .pair _ _,_,_,_,h,k=>⟨Ge.trans h.1 k.1,Ge.trans h.2 k.2⟩
 | .fn _ _,_,_,_,h,k=>⟨fun x y Er=>Ge.trans (h.1 x x Er.left) (k.1 x y Er),h.2⟩
theorem Mj.left:∀{a:T} {X:a.maj.V} {x:a.V},Mj a X x->Ge a.maj X X
 | .nat,X,_,_=>Nat.le_refl X
 | .list,X,_,_=>Nat.le_refl X
 | .unit,_,_,_=>trivial
 | .pair _ _,_,_,h=>⟨Mj.left h.1,Mj.left h.2⟩
 | .fn _ _,_,_,h=>⟨h.2,h.2⟩
theorem Ge.mj:∀{a:T} {X Y:a.maj.V} {y:a.V},Ge a.maj X Y->Mj a Y y->Mj a X y
 | .nat,_,_,_,h,k=>Nat.le_trans k h
 | .list,_,_,_,h,k=>⟨Nat.le_trans k.1 h,fun x hx=>Nat.le_trans (k.2 x hx) h⟩
 | .unit,_,_,_,_,_=>trivial
 | .pair _ _,_,_,_,h,k=>⟨Ge.mj h.1 k.1,Ge.mj h.2 k.2⟩
 | .fn _ _,_,_,_,h,k=>⟨fun U u hu=>Ge.mj (h.1 U U hu.left) (k.1 U u hu),h.2⟩
def d8:(b:T)->b.V->b.V->b.V
 | .nat,x,y=>Nat.add x (Nat.sub y x)
 | .list,x,_=>x
 | .unit,_,_=>()
 | .pair a b,x,y=>(d8 a x.1 y.1,d8 b x.2 y.2)
 | .fn _ b,F,G=>fun x=>d8 b (F x) (G x)
def T.bare:T->Prop
 | .nat=>True
 | .list=>False
 | .unit=>True
 | .pair a b=>a.bare/\b.bare
 | .fn a b=>a.bare/\b.bare
theorem T.maj_bare:∀a:T,a.maj.bare
 | .nat=>trivial
 | .list=>trivial
 | .unit=>trivial
 | .pair a b=>⟨a.maj_bare,b.maj_bare⟩
 | .fn a b=>⟨a.maj_bare,b.maj_bare⟩
theorem z4b {x x' y y':Nat}(h:x'<=x)(k:y'<=y):Nat.add x' (Nat.sub y' x')<=Nat.add x (Nat.sub y x):=by
 show x'+(y' - x')<=x+(y - x);omega
theorem z4c {x y z:Nat}(h:z<=x):z<=Nat.add x (Nat.sub y x):=by
 show z<=x+(y - x);omega
theorem xK {x y z:Nat}(h:z<=y):z<=Nat.add x (Nat.sub y x):=by
 show z<=x+(y - x);omega
theorem DD:T.nat.ok:=by unfold T.ok;decide
theorem KC:∀{b:T} {x x' y y':b.V},Ge b x x'->Ge b y y'->Ge b (d8 b x y) (d8 b x' y')
 | .nat,_,_,_,_,h,k=>z4b h k
 | .list,_,_,_,_,h,_=>h
 | .unit,_,_,_,_,_,_=>trivial
 | .pair _ _,_,_,_,_,h,k=>⟨KC h.1 k.1,KC h.2 k.2⟩
 | .fn _ _,_,_,_,_,h,k=>⟨fun u v Jo=>KC (h.1 u v Jo) (k.1 u v Jo),fun u v Jo=>KC (h.2 u v Jo) (k.2 u v Jo)⟩
theorem WK:∀{b:T} {x y z:b.V},Ge b x z->Ge b y y->Ge b (d8 b x y) z
 | .nat,_,_,_,h,_=>z4c h
 | .list,_,_,_,h,_=>h
 | .unit,_,_,_,_,_=>trivial
 | .pair _ _,_,_,_,h,k=>⟨WK h.1 k.1,WK h.2 k.2⟩
 | .fn _ _,_,_,_,h,k=>⟨fun u v Jo=>WK (h.1 u v Jo) (k.2 u u Jo.left),fun u v Jo=>KC (h.2 u v Jo) (k.2 u v Jo)⟩
theorem PH:∀{b:T},b.bare->∀{x y z:b.V},Ge b x x->Ge b y z->Ge b (d8 b x y) z
 | .nat,_,_,_,_,_,h=>xK h
 | .list,hb,_,_,_,_,_=>hb.elim
 | .unit,_,_,_,_,_,_=>trivial
 | .pair _ _,hb,_,_,_,h,k=>⟨PH hb.1 h.1 k.1,PH hb.2 h.2 k.2⟩
 | .fn _ _,hb,_,_,_,h,k=>⟨fun u v Jo=>PH hb.2 (h.2 u u Jo.left) (k.1 u v Jo),fun u v Jo=>KC (h.2 u v Jo) (k.2 u v Jo)⟩
def MjE:(Γ:List T)->BH (Γ.map T.maj)->BH Γ->Prop
 | [],_,_=>True
 | a::Γ,X,x=>Mj a X.1 x.1/\MjE Γ X.2 x.2
def GeE:(Γ:List T)->BH Γ->BH Γ->Prop
 | [],_,_=>True
 | a::Γ,X,x=>Ge a X.1 x.1/\GeE Γ X.2 x.2
theorem z05 (Γ:List T):Dn Γ DR (.fn .nat .nat) (fun _ (n:Nat)=>Nat.pred n):=by
 have h:Dn Γ DR (.fn .nat .nat) _:=.lam DD (.rc (a:=.nat) DD .zero (.lam DD (.lam DD (.var (.succ .zero)))) (.var .zero));refine h.eq fun ρ=>funext fun n=>?_;have key:∀n:Nat,M8 (0:Nat) (fun k _=>k) n=Nat.pred n:=by intro n;cases n <;> rfl
 exact key n
theorem aK (Γ:List T):Dn Γ BY (.fn .nat (.fn .nat .nat)) (fun _ (m n:Nat)=>Nat.add m n):=by
 have h:Dn Γ BY (.fn .nat (.fn .nat .nat)) _:=.lam DD (.lam DD (.rc (a:=.nat) DD (.var (.succ .zero)) (.lam DD (.lam DD (.succ (.var .zero)))) (.var .zero)));refine h.eq fun ρ=>funext fun m=>funext fun n=>?_;have key:∀n:Nat,M8 (α:=Nat) m (fun _ r=>Nat.succ r) n=Nat.add m n:=by
  intro n
  induction n with
  | zero=>rfl
  | succ n ih=>simp only[M8,ih];rfl
 exact key n
theorem xL (Γ:List T):Dn Γ FC (.fn .nat (.fn .nat .nat)) (fun _ (m n:Nat)=>Nat.sub m n):=by
 have h:Dn Γ FC (.fn .nat (.fn .nat .nat)) _:=.lam DD (.lam DD (.rc (a:=.nat) DD (.var (.succ .zero)) (.lam DD (.lam DD (.app (z05 _) (.var .zero)))) (.var .zero)));refine h.eq fun ρ=>funext fun m=>funext fun n=>?_;have key:∀n:Nat,M8 (α:=Nat) m (fun _ r=>Nat.pred r) n=Nat.sub m n:=by
  intro n
  induction n with
  | zero=>rfl
  | succ n ih=>simp only[M8,ih];rfl
 exact key n
def JI:Tm:=D3 .nat (D3 .nat (C5 BY [vT 1,C5 FC [vT 0,vT 1]]))
theorem z9y (Γ:List T):Dn Γ JI (.fn .nat (.fn .nat .nat)) (fun _ (m n:Nat)=>d8 .nat m n):=
 .lam DD (.lam DD (.app (.app (aK _) (.var (.succ .zero))) (.app (.app (xL _) (.var .zero)) (.var (.succ .zero)))))
def xM:T->Tm->Tm->Tm
 | .nat,a,b=>C5 JI [a,b]
 | .list,_,_=>nT 13 []
 | .unit,_,_=>nT 13 []
 | .pair s t,a,b=>nT 10 [xM s (nT 11 [a]) (nT 11 [b]),xM t (nT 12 [a]) (nT 12 [b])]
 | .fn s t,a,b=>D3 s (xM t (nT 3 [a.upN 0 1,vT 0]) (nT 3 [b.upN 0 1,vT 0]))
theorem d9:∀{b:T},b.bare->b.ok->∀{Γ:List T} {x y:Tm} {X Y:BH Γ->b.V},Dn Γ x b X->Dn Γ y b Y->Dn Γ (xM b x y) b (fun e=>d8 b (X e) (Y e))
 | .nat,_,_,Γ,x,y,X,Y,hx,hy=>.app (.app (z9y Γ) hx) hy
 | .list,hb,_,_,_,_,_,_,_,_=>hb.elim
 | .unit,_,_,_,_,_,_,_,_,_=>.unit
 | .pair s t,hb,ho,_,_,_,_,_,hx,hy=>by
  simp only[T.ok,T.size]at ho;exact .pair (d9 hb.1 (by unfold T.ok;omega) (.fst hx) (.fst hy)) (d9 hb.2 (by unfold T.ok;omega) (.snd hx) (.snd hy))
 | .fn s t,hb,ho,Γ,x,y,X,Y,hx,hy=>by
  simp only[T.ok,T.size]at ho;exact .lam (by unfold T.ok;omega) (d9 hb.2 (by unfold T.ok;omega) (.app (MI hx [s]) (.var .zero)) (.app (MI hy [s]) (.var .zero)))
def DG:Ty->Ty
 | .mk k a=>if k=2 then Ty.mk 1 [] else Ty.mk k (bares a)
where
 bares:List Ty->List Ty
  | []=>[]
  | x::r=>DG x::bares r
theorem SD (a:T):a.maj.ty=DG a.ty:=by
 induction a with
 | nat=>rfl
 | list=>rfl
 | unit=>rfl
 | pair a b Ly Ck=>show Ty.mk 3 [a.maj.ty,b.maj.ty]=Ty.mk 3 [DG a.ty,DG b.ty];rw[Ly,Ck]
 | fn a b Ly Ck=>show Ty.mk 4 [a.maj.ty,b.maj.ty]=Ty.mk 4 [DG a.ty,DG b.ty];rw[Ly,Ck]
theorem p9 (a:T):a.maj.size=a.size:=by
 induction a with
 | nat=>rfl
 | list=>rfl
 | unit=>rfl
 | pair a b Ly Ck=>show 1+_+_=1+_+_;rw[Ly,Ck]
 | fn a b Ly Ck=>show 1+_+_=1+_+_;rw[Ly,Ck]
theorem KD {a:T}(h:a.ok):a.maj.ok:=by unfold T.ok;rw[p9];exact h
def UA (y:Ty)(a b:Tm):Tm:=
 match y with
 | .mk k ts=>
  if k=1 then C5 JI [a,b]
  else match ts with
   | [s,t]=>
    if k=3 then nT 10 [UA s (nT 11 [a]) (nT 11 [b]),UA t (nT 12 [a]) (nT 12 [b])]
    else if k=4 then Tm.mk 2 0 s [UA t (nT 3 [a.upN 0 1,vT 0]) (nT 3 [b.upN 0 1,vT 0])]
    else nT 13 []
   | _=>nT 13 []
termination_by SizeOf.sizeOf y
theorem QH:∀(a:T) (x y:Tm),UA a.ty x y=xM a x y
 | .nat,x,y=>by rw[UA.eq_def];rfl
 | .list,x,y=>by rw[UA.eq_def];rfl
 | .unit,x,y=>by rw[UA.eq_def];rfl
 | .pair s t,x,y=>by
  rw[UA.eq_def];show nT 10 [UA s.ty _ _,UA t.ty _ _]=_;rw[QH s,QH t];rfl
 | .fn s t,x,y=>by
  rw[UA.eq_def];show Tm.mk 2 0 s.ty [UA t.ty _ _]=_;rw[QH t];rfl
def WL (s:Ty)(next:Tm):Tm:=Tm.mk 2 0 (Ty.mk 1 []) [Tm.mk 2 0 s [UA s (vT 0) next]]
def z06 (k i:Int)(y:Ty)(a l:List Tm):Tm:=
 if k=1 then Tm.mk k i y a
 else if k=2 then Tm.mk 2 0 (DG y) l
 else if k=6 then Tm.mk 6 0 (DG y) [l.getD 0 AI,WL (DG y) (C5 ((l.getD 1 AI).upN 0 2) [vT 1,vT 0]),l.getD 2 AI]
 else if k=7 then nT 4 []
 else if k=8 then UA (Ty.mk 1 []) (l.getD 0 AI) (nT 5 [l.getD 1 AI])
 else if k=9 then nT 3 [Tm.mk 2 0 (Ty.mk 1 []) [Tm.mk 6 0 (DG y) [(l.getD 0 AI).upN 0 1,WL (DG y) (C5 ((l.getD 1 AI).upN 0 3) [vT 2,vT 2,vT 0]),vT 0]],l.getD 2 AI]
 else Tm.mk k 0 (Ty.mk 0 []) l
def B6:Tm->Tm
 | .mk k i y a=>z06 k i y a (majs a)
where
 majs:List Tm->List Tm
  | []=>[]
  | x::r=>B6 x::majs r
theorem z9z (l:List Tm):B6.majs l=l.map B6:=by
 induction l with
 | nil=>rfl
 | cons a r ih=>simp[B6.majs,ih]
theorem DK (t:Tm):B6 t=z06 t.kind t.index t.type t.args (t.args.map B6):=by
 cases t;rw[B6,z9z];rfl
def MJ {b:T}(B:b.V)(S:Nat->b.V->b.V)(n:Nat):b.V:=M8 B (fun k r=>d8 b r (S k r)) n
theorem JV {b:T}{B:b.V}{S:Nat->b.V->b.V}(hB:Ge b B B)(hS:∀k r r',Ge b r r'->Ge b (S k r) (S k r')):∀n,Ge b (MJ B S n) (MJ B S n)
 | 0=>hB
 | n+1=>KC (JV hB hS n) (hS n _ _ (JV hB hS n))
theorem WM {b:T}{B:b.V}{S:Nat->b.V->b.V}(hB:Ge b B B)(hS:∀k r r',Ge b r r'->Ge b (S k r) (S k r'))(n:Nat):∀m,Ge b (MJ B S (n+m)) (MJ B S n)
 | 0=>JV hB hS n
 | m+1=>WK (WM hB hS n m) (hS _ _ _ (JV hB hS (n+m)))
theorem TL {b:T}{B B':b.V}{S S':Nat->b.V->b.V}(hB:Ge b B B')(hS:∀k r r',Ge b r r'->Ge b (S k r) (S' k r')):∀n,Ge b (MJ B S n) (MJ B' S' n)
 | 0=>hB
 | n+1=>KC (TL hB hS n) (hS n _ _ (TL hB hS n))
theorem z07 {Γ:List T}{s:T}(hs:s.bare)(ho:s.ok){next:Tm}{N:BH (s::.nat::Γ)->s.V}(h:Dn (s::.nat::Γ) next s N) :
  Dn Γ (WL s.ty next) (.fn .nat (.fn s s)) (fun e (k:Nat) r=>d8 s r (N (r,k,e))):=by
 unfold WL;rw[QH];exact .lam (a:=.nat) DD (.lam ho (d9 hs ho (.var .zero) h))
theorem zf5 {x p q:Nat}{l:List Nat}(h1:x<=p)(h2:l.length<=q/\∀y:Nat,List.Mem y l->y<=q):(x::l).length<=Nat.add p (Nat.sub (Nat.succ q) p)/\∀y:Nat,List.Mem y (x::l)->y<=Nat.add p (Nat.sub (Nat.succ q) p):=by
 have m1:p<=Nat.add p (Nat.sub (Nat.succ q) p):=Nat.le_add_right _ _;have m2:q+1<=Nat.add p (Nat.sub (Nat.succ q) p):=by show q+1<=p+(q+1 - p);omega
 refine⟨Nat.le_trans (Nat.succ_le_succ h2.1) m2,fun y hy=>?_⟩;cases hy with
 | head=>exact Nat.le_trans h1 m1
 | tail _ hy=>exact Nat.le_trans (h2.2 y hy) (Nat.le_trans (Nat.le_succ _) m2)
theorem zjs {Γ:List T}{i:Nat}{a:T}{p:BH Γ->a.V}(h:At Γ i a p):∃P:BH (Γ.map T.maj)->a.maj.V,At (Γ.map T.maj) i a.maj P/\(∀X x,MjE Γ X x->Mj a (P X) (p x))/\∀X Y,GeE (Γ.map T.maj) X Y->Ge a.maj (P X) (P Y):=by
 induction h with
 | zero=>exact⟨_,.zero,fun X x h=>h.1,fun X Y h=>h.1⟩
 | succ h ih=>
  obtain⟨P,h1,h2,h3⟩:=ih;exact⟨_,.succ h1,fun X x h=>h2 _ _ h.2,fun X Y h=>h3 _ _ h.2⟩
theorem MjE.left:∀{Γ:List T} {X:BH (Γ.map T.maj)} {x:BH Γ},MjE Γ X x->GeE (Γ.map T.maj) X X
 | [],_,_,_=>trivial
 | _::_,_,_,h=>⟨Mj.left h.1,MjE.left h.2⟩
theorem GeE.left:∀{Γ:List T} {X Y:BH Γ},GeE Γ X Y->GeE Γ X X
 | [],_,_,_=>trivial
 | _::_,_,_,h=>⟨Ge.left h.1,GeE.left h.2⟩
theorem zjt {Γ:List T}{t:Tm}{a:T}{F:BH Γ->a.V}(h:Dn Γ t a F):∃P:BH (Γ.map T.maj)->a.maj.V,Dn (Γ.map T.maj) (B6 t) a.maj P/\(∀X x,MjE Γ X x->Mj a (P X) (F x))/\∀X Y,GeE (Γ.map T.maj) X Y->Ge a.maj (P X) (P Y):=by
 induction h with
 | var h=>
  obtain⟨P,h1,h2,h3⟩:=zjs h;exact⟨P,.var h1,h2,h3⟩
 | lam ha hb ih=>
  obtain⟨P,h1,h2,h3⟩:=ih;rename_i Γ a r b f;have e:B6 (D3 a b)=D3 a.maj (B6 b):=by
   rw[DK];show Tm.mk 2 0 (DG a.ty) [B6 b]=_;rw[<- SD];rfl
  rw[e];refine⟨_,.lam (KD ha) h1,fun X x hX=>⟨fun U u hU=>h2 (U,X) (u,x) ⟨hU,hX⟩,fun U V Tf=>h3 (U,X) (V,X) ⟨Tf,hX.left⟩⟩,fun X Y Du=>⟨fun U V Tf=>h3 (U,X) (V,Y) ⟨Tf,Du⟩,fun U V Tf=>h3 (U,X) (V,X) ⟨Tf,Du.left⟩⟩⟩
 | app hf hx Cf Bx=>
  obtain⟨P,p1,p2,p3⟩:=Cf;obtain⟨Q,q1,q2,q3⟩:=Bx;rename_i Γ a b f x F X;have e:B6 (nT 3 [f,x])=nT 3 [B6 f,B6 x]:=by rw[DK];rfl
  rw[e];exact⟨_,.app p1 q1,fun X x hX=>(p2 X x hX).1 _ _ (q2 X x hX),fun X Y Du=>(p3 X Y Du).1 _ _ (q3 X Y Du)⟩
 | zero=>
  have e:B6 (nT 4 [])=nT 4 []:=by rw[DK];rfl
  rw[e];exact⟨_,.zero,fun X x hX=>Nat.le_refl 0,fun X Y Du=>Nat.le_refl 0⟩
 | succ hx ih=>
  obtain⟨P,p1,p2,p3⟩:=ih;rename_i Γ x X;have e:B6 (nT 5 [x])=nT 5 [B6 x]:=by rw[DK];rfl
  rw[e];exact⟨_,.succ p1,fun X x hX=>Nat.succ_le_succ (p2 X x hX),fun X Y Du=>Nat.succ_le_succ (p3 X Y Du)⟩
 | rc ha hb hf hn Ck Cf Bt=>
  obtain⟨B',b1,b2,b3⟩:=Ck;obtain⟨F',f1,f2,f3⟩:=Cf;obtain⟨N',n1,n2,n3⟩:=Bt;rename_i Γ a b f n B F N;have e:B6 (Tm.mk 6 0 a.ty [b,f,n])=Tm.mk 6 0 a.maj.ty [B6 b,WL a.maj.ty (C5 ((B6 f).upN 0 2) [vT 1,vT 0]),B6 n]:=by
   rw[DK,SD];rfl
  rw[e];have hs:=z07 (Γ:=Γ.map T.maj) a.maj_bare (KD ha) (.app (.app (MI f1 [a.maj,.nat]) (.var (.succ .zero))) (.var .zero));have hS:∀X Y,GeE (Γ.map T.maj) X Y->∀(k:Nat) (r r':a.maj.V),Ge a.maj r r'->Ge a.maj (F' X k r) (F' Y k r'):=fun X Y Du k r r' hr=>((f3 X Y Du).1 k k (Nat.le_refl k)).1 r r' hr;refine⟨fun X=>MJ (B' X) (F' X) (N' X),.rc (KD ha) b1 hs n1,fun X x hX=>?_,fun X Y Du=>?_⟩
  ·have hB:=(b3 X X hX.left);have Pj:=hS X X hX.left;have key:∀k:Nat,Mj a (MJ (B' X) (F' X) k) (M8 (B x) (F x) k):=by
    intro k
    induction k with
    | zero=>exact b2 X x hX
    | succ k ih=>
     have h1:=((f2 X x hX).1 k k (Nat.le_refl k)).1 _ _ ih;exact Ge.mj (PH a.maj_bare (JV hB Pj k) (Pj k _ _ (JV hB Pj k))) h1
   have main:∀k M:Nat,k<=M->Mj a (MJ (B' X) (F' X) M) (M8 (B x) (F x) k):=by
    intro k M hN;obtain⟨m,hm⟩:=Nat.le.dest hN;have:=WM hB Pj k m;rw[hm]at this;exact Ge.mj this (key k)
   exact main (N x) (N' X) (n2 X x hX)
  ·have main:∀M M':Nat,M'<=M->Ge a.maj (MJ (B' X) (F' X) M) (MJ (B' Y) (F' Y) M'):=by
    intro M M' hN;obtain⟨m,hm⟩:=Nat.le.dest hN;have h1:=WM (b3 X X Du.left) (hS X X Du.left) M' m;rw[hm]at h1;exact Ge.trans h1 (TL (b3 X Y Du) (hS X Y Du) M')
   exact main (N' X) (N' Y) (n3 X Y Du)
 | nil=>
  have e:B6 (nT 7 [])=nT 4 []:=by rw[DK];rfl
  rw[e];exact⟨_,.zero,fun X x hX=>⟨Nat.le_refl 0,fun y hy=>by cases hy⟩,fun X Y Du=>Nat.le_refl 0⟩
 | cons hx hl Bx Kt=>
  obtain⟨P,p1,p2,p3⟩:=Bx;obtain⟨Q,q1,q2,q3⟩:=Kt;rename_i Γ x l X L;have e:B6 (nT 8 [x,l])=xM .nat (B6 x) (nT 5 [B6 l]):=by
   rw[DK];show UA (T.ty .nat) (B6 x) (nT 5 [B6 l])=_;rw[QH]
  rw[e];refine⟨_,d9 (b:=.nat) tT DD p1 (.succ q1),fun U u hU=>?_,fun U V Tf=>?_⟩;· exact zf5 (p2 U u hU) (q2 U u hU)
  ·exact KC (b:=.nat) (p3 U V Tf) (Nat.succ_le_succ (q3 U V Tf))
 | fold ha hb hf hn Ck Cf Bt=>
  obtain⟨B',b1,b2,b3⟩:=Ck;obtain⟨F',f1,f2,f3⟩:=Cf;obtain⟨N',n1,n2,n3⟩:=Bt;rename_i Γ a b f n B F N;have e:B6 (Tm.mk 9 0 a.ty [b,f,n])=nT 3 [D3 .nat (Tm.mk 6 0 a.maj.ty [(B6 b).upN 0 1,WL a.maj.ty (C5 ((B6 f).upN 0 3) [vT 2,vT 2,vT 0]),vT 0]),B6 n]:=by
   rw[DK,SD];rfl
  rw[e];have hs:=z07 (Γ:=.nat::Γ.map T.maj) a.maj_bare (KD ha) (.app (.app (.app (MI f1 [a.maj,.nat,.nat]) (.var (.succ (.succ .zero)))) (.var (.succ (.succ .zero)))) (.var .zero));have hS:∀X Y,GeE (Γ.map T.maj) X Y->∀(M M':Nat),M'<=M->∀(_:Nat) (r r':a.maj.V),Ge a.maj r r'->Ge a.maj (F' X M M r) (F' Y M' M' r'):=fun X Y Du M M' hM _ r r' hr=>(((f3 X Y Du).1 M M' hM).1 M M' hM).1 r r' hr;have h0:Dn (.nat::Γ.map T.maj) (Tm.mk 6 0 a.maj.ty [(B6 b).upN 0 1,WL a.maj.ty (C5 ((B6 f).upN 0 3) [vT 2,vT 2,vT 0]),vT 0]) a.maj _:=.rc (KD ha) (MI b1 [.nat]) hs (.var .zero);have h1:=Dn.app (.lam (a:=.nat) DD h0) n1;refine⟨fun X=>MJ (B' X) (fun _ r=>F' X (N' X) (N' X) r) (N' X),h1,fun X x hX=>?_,fun X Y Du=>?_⟩
  ·have hB:=(b3 X X hX.left);have main:∀(M:Nat) (L:List Nat),L.length<=M->(∀y,List.Mem y L->y<=M)->Mj a (MJ (B' X) (fun _ r=>F' X M M r) M) (WH (B x) (F x) L):=by
    intro M L l1 l2;have Pj:=hS X X hX.left M M (Nat.le_refl _);have key:∀l:List Nat,l.length<=M->(∀y,List.Mem y l->y<=M)->Mj a (MJ (B' X) (fun _ r=>F' X M M r) l.length) (WH (B x) (F x) l):=by
     intro l
     induction l with
     | nil=>intro _ _;exact b2 X x hX
     | cons y r ih=>
      intro h1 h2;have h1':r.length+1<=M:=h1;have hr:=ih oO fun z hz=>h2 z (.tail _ hz);have h3:=(((f2 X x hX).1 M y (h2 y (.head _))).1 M r ⟨show r.length<=M from oO,fun z hz=>h2 z (.tail _ hz)⟩).1 _ _ hr;exact Ge.mj (PH a.maj_bare (JV hB Pj r.length) (Pj r.length _ _ (JV hB Pj r.length))) h3
    obtain⟨m,hm⟩:=Nat.le.dest l1;have:=WM hB Pj L.length m;rw[hm]at this;exact Ge.mj this (key L l1 l2)
   exact main (N' X) (N x) (n2 X x hX).1 (n2 X x hX).2
  ·have main:∀M M':Nat,M'<=M->Ge a.maj (MJ (B' X) (fun _ r=>F' X M M r) M) (MJ (B' Y) (fun _ r=>F' Y M' M' r) M'):=by
    intro M M' hN;obtain⟨m,hm⟩:=Nat.le.dest hN;have h1:=WM (b3 X X Du.left) (hS X X Du.left M M (Nat.le_refl _)) M' m;rw[hm]at h1;exact Ge.trans h1 (TL (b3 X Y Du) (hS X Y Du M M' hN) M')
   exact main (N' X) (N' Y) (n3 X Y Du)
 | pair hx hy Bx Ht=>
  obtain⟨P,p1,p2,p3⟩:=Bx;obtain⟨Q,q1,q2,q3⟩:=Ht;rename_i Γ a b x y X Y;have e:B6 (nT 10 [x,y])=nT 10 [B6 x,B6 y]:=by rw[DK];rfl
  rw[e];exact⟨_,.pair p1 q1,fun X x hX=>⟨p2 X x hX,q2 X x hX⟩,fun X Y Du=>⟨p3 X Y Du,q3 X Y Du⟩⟩
 | fst hx ih=>
  obtain⟨P,p1,p2,p3⟩:=ih;rename_i Γ a b x X;have e:B6 (nT 11 [x])=nT 11 [B6 x]:=by rw[DK];rfl
  rw[e];exact⟨_,.fst p1,fun X x hX=>(p2 X x hX).1,fun X Y Du=>(p3 X Y Du).1⟩
 | snd hx ih=>
  obtain⟨P,p1,p2,p3⟩:=ih;rename_i Γ a b x X;have e:B6 (nT 12 [x])=nT 12 [B6 x]:=by rw[DK];rfl
  rw[e];exact⟨_,.snd p1,fun X x hX=>(p2 X x hX).2,fun X Y Du=>(p3 X Y Du).2⟩
 | unit=>
  have e:B6 (nT 13 [])=nT 13 []:=by rw[DK];rfl
  rw[e];exact⟨_,.unit,fun X x hX=>trivial,fun X Y Du=>trivial⟩
def za0 (t:Tm)(g:List Ty)(a:T):Prop:=t.inferN g=(a.ty,0)\/(t.inferN g).2=4
def xN (g:List Ty):List Tm->List T->Prop
 | [],[]=>True
 | t::r,a::s=>za0 t g a/\xN g r s
 | _,_=>False
theorem dA {g:List Ty}:∀{l:List Tm} {ts:List T},xN g l ts->(Tm.inferN.infers l g=(ts.map T.ty,0))\/(Tm.inferN.infers l g).2=4
 | [],[],_=>.inl rfl
 | [],_::_,h=>h.elim
 | _::_,[],h=>h.elim
 | t::r,a::s,⟨h,hr⟩=>by
  simp only[Tm.inferN.infers];rcases h with h|h
  ·rw[h];rcases dA hr with h2|h2;· rw[h2];exact .inl rfl
   ·right;rw[if_pos rfl,if_neg (by rw[h2];decide)];exact h2
  ·right;rw[if_neg (by rw[h];decide)];exact h
theorem FU {k:Int}{y:Ty}{l:List Tm}{g:List Ty}{ts:List T}{a:T}(hk:¬k=1)(h:xN (if k=2 then g++[y] else g) l ts)
  (hr:CA k y (ts.map T.ty)=(a.ty,0)\/(CA k y (ts.map T.ty)).2=4):za0 (Tm.mk k 0 y l) g a:=by
 have e0:(Tm.mk k 0 y l).inferN g=if (Tm.inferN.infers l (if k=2 then g++[y] else g)).2=0 then CA k y (Tm.inferN.infers l (if k=2 then g++[y] else g)).1 else (AE,(Tm.inferN.infers l (if k=2 then g++[y] else g)).2):=by
  rw[Tm.inferN_eq,if_neg (show ¬(Tm.mk k 0 y l).kind=1 from hk)];rfl
 unfold za0;rw[e0];rcases dA h with e|e
 ·rw[e,if_pos rfl];exact hr
 ·right
  rw[if_neg (by rw[e];decide)];exact e
theorem z08 (y:Ty):XQ y=(y,0)\/(XQ y).2=4:=by
 unfold XQ;split;· exact .inl rfl
 ·exact .inr rfl
theorem SE {Γ:List T}{t:Tm}{a:T}{F:BH Γ->a.V}(h:Dn Γ t a F):za0 t (Γ.reverse.map T.ty) a:=by
 induction h with
 | @var Γ i a p h=>
  left
  have hg:=At.get h;have Ac:i<Γ.length:=(uA hg).1;rw[Tm.inferN_eq,if_pos (show (vT i).kind=1 from rfl)];rw[if_neg (by show ¬(((Γ.reverse.map T.ty).length:Int)<=(i:Int));simp;omega)];have hi:(vT i).index.toNat=i:=rfl;rw[hi,List.getD_eq_getElem?_getD,List.getElem?_map];have:Γ.reverse[(Γ.reverse.map T.ty).length - 1 - i]? = some a:=by
   rw[List.getElem?_reverse (by simp;omega)];simp only[List.length_map,List.length_reverse];rw[show Γ.length - 1 - (Γ.length - 1 - i)=i from oO];exact hg
  rw[this];rfl
 | @lam Γ a r b f ha h ih=>
  refine FU (ts:=[r]) dD ⟨?_,trivial⟩ (z08 _);rw[if_pos rfl]
  simpa using ih
 | @app Γ a b f x F X hf hx Cr Cg=>
  refine FU (ts:=[.fn a b,a]) dD ⟨Cr,Cg,trivial⟩ (.inl ?_);show (if (4:Int)=4/\a.ty.same a.ty=true then (b.ty,(0:Int)) else (AE,7))=(b.ty,0);rw[if_pos ⟨rfl,(Ty.same_iff _ _).2 rfl⟩]
 | zero=>exact FU (ts:=[]) dD tT (.inl rfl)
 | succ hx ih=>exact FU (ts:=[.nat]) dD ⟨ih,trivial⟩ (.inl rfl)
 | @rc Γ a b f n B F N ha hb hf hn Cr Cg Vj=>
  refine FU (ts:=[a,.fn .nat (.fn a a),.nat]) dD ⟨Cr,Cg,Vj,trivial⟩ (.inl ?_);show (if a.ty.same a.ty=true/\(T.fn .nat (.fn a a)).ty.same (Ty.mk 4 [Ty.mk 1 [],Ty.mk 4 [a.ty,a.ty]])=true/\(T.ty .nat).same (Ty.mk 1 [])=true then (a.ty,(0:Int)) else (AE,7))=(a.ty,0);rw[if_pos ⟨(Ty.same_iff _ _).2 rfl,(Ty.same_iff _ _).2 rfl,(Ty.same_iff _ _).2 rfl⟩]
 | nil=>exact FU (ts:=[]) dD tT (.inl rfl)
 | cons hx hl Cr Cg=>exact FU (ts:=[.nat,.list]) dD ⟨Cr,Cg,trivial⟩ (.inl rfl)
 | @fold Γ a b f n B F N ha hb hf hn Cr Cg Vj=>
  refine FU (ts:=[a,.fn .nat (.fn .list (.fn a a)),.list]) dD ⟨Cr,Cg,Vj,trivial⟩ (.inl ?_);show (if a.ty.same a.ty=true/\(T.fn .nat (.fn .list (.fn a a))).ty.same (Ty.mk 4 [Ty.mk 1 [],Ty.mk 4 [Ty.mk 2 [],Ty.mk 4 [a.ty,a.ty]]])=true/\(T.ty .list).same (Ty.mk 2 [])=true then (a.ty,(0:Int)) else (AE,7))=(a.ty,0);rw[if_pos ⟨(Ty.same_iff _ _).2 rfl,(Ty.same_iff _ _).2 rfl,(Ty.same_iff _ _).2 rfl⟩]
 | @pair Γ a b x y X Y hx hy Cr Cg=>exact FU (ts:=[a,b]) dD ⟨Cr,Cg,trivial⟩ (z08 _)
 | @fst Γ a b x X hx ih=>exact FU (ts:=[.pair a b]) dD ⟨ih,trivial⟩ (.inl rfl)
 | @snd Γ a b x X hx ih=>exact FU (ts:=[.pair a b]) dD ⟨ih,trivial⟩ (.inl rfl)
 | unit=>exact FU (ts:=[]) dD tT (.inl rfl)
abbrev RE:Ty:=Ty.mk 1 []
abbrev zY:Ty:=Ty.mk 0 []
def L3 (k:Int)(s:Ty)(l:List Tm):Tm × Int:=if 4096<(Tm.mk k 0 s l).count then (AI,4) else (Tm.mk k 0 s l,0)
def AW (e k:Int)(s:Ty)(l:List Tm):Tm × Int:=if e=0 then L3 k s l else (AI,e)
def BT (e:Int)(f:Tm):List Tm->Tm × Int
 | []=>(f,e)
 | a::r=>BT (AW e 3 zY [f,a]).2 (AW e 3 zY [f,a]).1 r
def EF (y:Ty)(a b:Tm)(e:Int):Tm × Int:=
 match y with
 | .mk k ts=>
  if e=0 then
   if k=1 then BT 0 JI [a,b]
   else match ts with
    | [s,t]=>
     if k=3 then
      let p:=AW 0 11 zY [a]
      let q:=AW p.2 11 zY [b]
      let l:=EF s p.1 q.1 q.2
      let p':=AW l.2 12 zY [a]
      let q':=AW p'.2 12 zY [b]
      let r:=EF t p'.1 q'.1 q'.2
      AW r.2 10 zY [l.1,r.1]
     else if k=4 then
      let p:=BT 0 (a.upN 0 1) [vT 0]
      let q:=BT p.2 (b.upN 0 1) [vT 0]
      let r:=EF t p.1 q.1 q.2
      AW r.2 2 s [r.1]
     else (nT 13 [],0)
    | _=>(nT 13 [],0)
  else (AI,e)
termination_by SizeOf.sizeOf y
theorem QI (y:Ty)(hy:y.ok)(a b:Tm)(e:Int):EF y a b e =
  if e=0 then
   if y.kind=1 then BT 0 JI [a,b]
   else if y.kind=3 then
    let p:=AW 0 11 zY [a]
    let q:=AW p.2 11 zY [b]
    let l:=EF (y.arg 0) p.1 q.1 q.2
    let p':=AW l.2 12 zY [a]
    let q':=AW p'.2 12 zY [b]
    let r:=EF (y.arg 1) p'.1 q'.1 q'.2
    AW r.2 10 zY [l.1,r.1]
   else if y.kind=4 then
    let p:=BT 0 (a.upN 0 1) [vT 0]
    let q:=BT p.2 (b.upN 0 1) [vT 0]
    let r:=EF (y.arg 1) p.1 q.1 q.2
    AW r.2 2 (y.arg 0) [r.1]
   else (nT 13 [],0)
  else (AI,e):=by
 rw[EF.eq_def];cases y with
 | mk k ts=>
  simp only[Ty.kind];by_cases he:e=0
  ·simp only[he,if_true];by_cases h1:k=1;· simp[h1]
   simp only[h1,if_false];by_cases Vc:k=3\/k=4
   ·obtain⟨s,t,hq,-,-,e0,e1⟩:=Ty.ok_args hy Vc;simp only[Ty.args]at hq;subst hq;rw[e0,e1];rfl
   ·have h3:k≠3:=fun e=>Vc (.inl e);have h4:k≠4:=fun e=>Vc (.inr e);simp only[h3,h4,if_false]
    match ts with
    | [s,t]=>rfl
    | []=>rfl
    | [_]=>rfl
    | _::_::_::_=>rfl
  ·simp only[he,if_false]
def GA (s:Ty)(next:Tm)(e:Int):Tm × Int:=
 let b:=EF s (vT 0) next e
 let i:=AW b.2 2 s [b.1]
 AW i.2 2 RE [i.1]
def CI (k i:Int)(y:Ty)(a l:List Tm):Tm × Int:=
 if k=7 then (nT 4 [],0)
 else if k=8 then
  let p:=AW 0 5 zY [l.getD 1 AI]
  EF RE (l.getD 0 AI) p.1 p.2
 else if k=2 then AW 0 2 (DG y) l
 else if k=6 then
  let c:=BT 0 ((l.getD 1 AI).upN 0 2) [vT 1,vT 0]
  let st:=GA (DG y) c.1 c.2
  AW st.2 6 (DG y) [l.getD 0 AI,st.1,l.getD 2 AI]
 else if k=9 then
  let c:=BT 0 ((l.getD 1 AI).upN 0 3) [vT 2,vT 2,vT 0]
  let st:=GA (DG y) c.1 c.2
  let r:=AW st.2 6 (DG y) [(l.getD 0 AI).upN 0 1,st.1,vT 0]
  let la:=AW r.2 2 RE [r.1]
  BT la.2 la.1 [l.getD 2 AI]
 else if k=1 then (Tm.mk k i y a,0)
 else AW 0 k zY l
def C8:Tm->Tm × Int
 | .mk k i y a=>if (majsE a).2=0 then CI k i y a (majsE a).1 else (AI,(majsE a).2)
where
 majsE:List Tm->List Tm × Int
  | []=>([],0)
  | x::r=>if (C8 x).2=0 then if (majsE r).2=0 then ((C8 x).1::(majsE r).1,0) else ([],(majsE r).2) else ([],(C8 x).2)
theorem kX (t:Tm):C8 t=if (C8.majsE t.args).2=0 then CI t.kind t.index t.type t.args (C8.majsE t.args).1 else (AI,(C8.majsE t.args).2):=by
 cases t;rw[C8];rfl
theorem za1 {k:Int}{s:Ty}{l:List Tm}(h:(L3 k s l).2=0):(L3 k s l).1=Tm.mk k 0 s l/\(Tm.mk k 0 s l).count<=4096:=by
 unfold L3 at h ⊢;split at h;· cases h
 ·rename_i hc;rw[if_neg hc];exact⟨rfl,oO⟩
theorem CW {e k:Int}{s:Ty}{l:List Tm}(h:(AW e k s l).2=0):e=0/\(AW e k s l).1=Tm.mk k 0 s l/\(Tm.mk k 0 s l).count<=4096:=by
 unfold AW at h ⊢;by_cases he:e=0;· rw[if_pos he]at h ⊢;exact⟨he,za1 h⟩
 ·rw[if_neg he]at h;exact absurd h he
theorem MS:∀{l:List Tm} {e:Int} {f:Tm},(BT e f l).2=0->e=0/\(BT e f l).1=C5 f l
 | [],e,f,h=>⟨h,rfl⟩
 | a::r,e,f,h=>by
  rw[BT]at h ⊢;obtain⟨h1,h2⟩:=MS h;obtain⟨k1,k2,-⟩:=CW h1;refine⟨k1,?_⟩;rw[h2,k2];rfl
theorem DH (e k:Int)(s:Ty)(l:List Tm)(he:e=0\/e=4):(AW e k s l).2=0\/(AW e k s l).2=4:=by
 unfold AW L3;split
 ·split;· exact .inr rfl
  ·exact .inl rfl
 ·exact he
theorem NM:∀(l:List Tm) (e:Int) (f:Tm),e=0\/e=4->(BT e f l).2=0\/(BT e f l).2=4
 | [],e,f,h=>h
 | a::r,e,f,h=>by rw[BT];exact NM r _ _ (DH _ _ _ _ h)
theorem zo3:¬(3:Int)=1:=dD
theorem zo4:¬(4:Int)=1:=dD
theorem zo5:¬(4:Int)=3:=dD
theorem WN (x y:Tm):EF (T.ty .nat) x y 0=BT 0 JI [x,y]:=by rw[QI _ (T.ok_ty DD)];rfl
theorem TM (x y:Tm):EF (T.ty .list) x y 0=(nT 13 [],0):=by rw[QI _ (T.ok_ty (a:=.list) (by unfold T.ok;decide))];rfl
theorem TN (x y:Tm):EF (T.ty .unit) x y 0=(nT 13 [],0):=by rw[QI _ (T.ok_ty (a:=.unit) (by unfold T.ok;decide))];rfl
theorem TO {s t:T}(ho:(T.pair s t).ok)(x y:Tm):EF (T.pair s t).ty x y 0 =
  (let p:=AW 0 11 zY [x]
   let q:=AW p.2 11 zY [y]
   let l:=EF s.ty p.1 q.1 q.2
   let p':=AW l.2 12 zY [x]
   let q':=AW p'.2 12 zY [y]
   let r:=EF t.ty p'.1 q'.1 q'.2
   AW r.2 10 zY [l.1,r.1]):=by
 rw[QI _ (T.ok_ty ho),if_pos rfl,if_neg (show ¬(T.pair s t).ty.kind=1 from zo3),if_pos (show (T.pair s t).ty.kind=3 from rfl)];rfl
theorem aL {s t:T}(ho:(T.fn s t).ok)(x y:Tm):EF (T.fn s t).ty x y 0 =
  (let p:=BT 0 (x.upN 0 1) [vT 0]
   let q:=BT p.2 (y.upN 0 1) [vT 0]
   let r:=EF t.ty p.1 q.1 q.2
   AW r.2 2 s.ty [r.1]):=by
 rw[QI _ (T.ok_ty ho),if_pos rfl,if_neg (show ¬(T.fn s t).ty.kind=1 from zo4),if_neg (show ¬(T.fn s t).ty.kind=3 from zo5),if_pos (show (T.fn s t).ty.kind=4 from rfl)];rfl
theorem OL {a:T}(ho:a.ok){e:Int}(he:e≠0)(x y:Tm):EF a.ty x y e=(AI,e):=by rw[QI _ (T.ok_ty ho),if_neg he]
theorem WO:∀(a:T) (x y:Tm) (e:Int),a.ok->e=0\/e=4->(EF a.ty x y e).2=0\/(EF a.ty x y e).2=4
 | a,x,y,e,ho,he=>by
  by_cases h0:e=0
  ·subst h0;cases a with
   | nat=>rw[WN];exact NM _ _ _ (.inl rfl)
   | list=>rw[TM];exact .inl rfl
   | unit=>rw[TN];exact .inl rfl
   | pair s t=>
    rw[TO ho];simp only[T.ok,T.size]at ho;exact DH _ _ _ _ (WO t _ _ _ (by unfold T.ok;omega) (DH _ _ _ _ (DH _ _ _ _ (WO s _ _ _ (by unfold T.ok;omega) (DH _ _ _ _ (DH _ _ _ _ (.inl rfl)))))))
   | fn s t=>
    rw[aL ho];simp only[T.ok,T.size]at ho;exact DH _ _ _ _ (WO t _ _ _ (by unfold T.ok;omega) (NM _ _ _ (NM _ _ _ (.inl rfl))))
  ·rw[OL ho h0];exact he
theorem TP:∀(a:T) {x y:Tm} {e:Int},a.ok->(EF a.ty x y e).2=0->e=0/\(EF a.ty x y e).1=xM a x y
 | a,x,y,e,ho,h=>by
  by_cases h0:e=0
  ·subst h0;refine⟨rfl,?_⟩;cases a with
   | nat=>rw[WN]at h ⊢;exact (MS h).2
   | list=>rw[TM];rfl
   | unit=>rw[TN];rfl
   | pair s t=>
    rw[TO ho]at h ⊢;simp only[T.ok,T.size]at ho;obtain⟨e1,r1,-⟩:=CW h;obtain⟨e2,r2⟩:=TP t (by unfold T.ok;omega) e1;obtain⟨e3,r3,-⟩:=CW e2;obtain⟨e4,r4,-⟩:=CW e3;obtain⟨e5,r5⟩:=TP s (by unfold T.ok;omega) e4;obtain⟨e6,r6,-⟩:=CW e5;obtain⟨-,r7,-⟩:=CW e6;refine r1.trans ?_;rw[r5,r2,r3,r4,r6,r7];rfl
   | fn s t=>
    rw[aL ho]at h ⊢;simp only[T.ok,T.size]at ho;obtain⟨e1,r1,-⟩:=CW h;obtain⟨e2,r2⟩:=TP t (by unfold T.ok;omega) e1;obtain⟨e3,r3⟩:=MS e2;obtain⟨-,r4⟩:=MS e3;refine r1.trans ?_;rw[r2,r3,r4];rfl
  ·rw[OL ho h0]at h;exact absurd h h0
theorem pA {s:T}{next:Tm}{e:Int}(ho:s.ok)(h:(GA s.ty next e).2=0):e=0/\(GA s.ty next e).1=WL s.ty next:=by
 unfold GA at h ⊢;obtain⟨e1,r1,-⟩:=CW h;obtain⟨e2,r2,-⟩:=CW e1;obtain⟨e3,r3⟩:=TP s ho e2;refine⟨e3,r1.trans ?_⟩;rw[r2,r3];unfold WL;rw[QH];try rfl
theorem pC {s:T}{next:Tm}{e:Int}(ho:s.ok)(he:e=0\/e=4):(GA s.ty next e).2=0\/(GA s.ty next e).2=4:=by
 unfold GA;exact DH _ _ _ _ (DH _ _ _ _ (WO s _ _ _ ho he))
theorem zf6 {Γ:List T}{t:Tm}{a:T}{F:BH Γ->a.V}(h:Dn Γ t a F):((C8 t).2=0->(C8 t).1=B6 t)/\((C8 t).2=0\/(C8 t).2=4):=by
 have one:∀{x:Tm},(((C8 x).2=0->(C8 x).1=B6 x)/\((C8 x).2=0\/(C8 x).2=4))->((C8.majsE [x]).2=0->(C8.majsE [x]).1=[B6 x])/\((C8.majsE [x]).2=0\/(C8.majsE [x]).2=4):=by
  intro x ⟨h1,h2⟩;simp only[C8.majsE];rcases h2 with h2|h2 <;> simp[h2,h1]
 have two:∀{x:Tm} {l:List Tm} {m:List Tm},(((C8 x).2=0->(C8 x).1=B6 x)/\((C8 x).2=0\/(C8 x).2=4))->(((C8.majsE l).2=0->(C8.majsE l).1=m)/\((C8.majsE l).2=0\/(C8.majsE l).2=4))->((C8.majsE (x::l)).2=0->(C8.majsE (x::l)).1=B6 x::m)/\((C8.majsE (x::l)).2=0\/(C8.majsE (x::l)).2=4):=by
  intro x l m ⟨h1,h2⟩ ⟨k1,k2⟩;simp only[C8.majsE];rcases h2 with h2|h2;· rcases k2 with k2|k2 <;> simp[h2,k2,h1,k1]
  ·simp[h2]
 have fin:∀{t:Tm} {m:List Tm},(((C8.majsE t.args).2=0->(C8.majsE t.args).1=m)/\((C8.majsE t.args).2=0\/(C8.majsE t.args).2=4))->((CI t.kind t.index t.type t.args m).2=0->(CI t.kind t.index t.type t.args m).1=B6 t)/\((CI t.kind t.index t.type t.args m).2=0\/(CI t.kind t.index t.type t.args m).2=4)->((C8 t).2=0->(C8 t).1=B6 t)/\((C8 t).2=0\/(C8 t).2=4):=by
  intro t m ⟨h1,h2⟩ h3;rw[kX];rcases h2 with h2|h2;· rw[if_pos h2,h1 h2];exact h3
  ·rw[if_neg (by rw[h2];decide)];exact⟨fun h=>absurd (h2.symm.trans h) dD,.inr h2⟩
 induction h with
 | var h=>exact fin (t:=vT _) (m:=[]) ⟨fun _=>rfl,.inl rfl⟩ ⟨fun _=>by rw[DK];rfl,.inl rfl⟩
 | lam ha hb ih=>
  rename_i Γ a r b f;refine fin (t:=D3 a b) (one ih) ?_;have e:CI (D3 a b).kind (D3 a b).index (D3 a b).type (D3 a b).args [B6 b]=AW 0 2 (DG a.ty) [B6 b]:=rfl;rw[e];exact⟨fun h=>by rw[(CW h).2.1,DK (D3 a b)];rfl,DH _ _ _ _ (.inl rfl)⟩
 | app hf hx Cf Bx=>
  rename_i Γ a b f x F X;refine fin (t:=nT 3 [f,x]) (two Cf (one Bx)) ?_;have e:CI (nT 3 [f,x]).kind (nT 3 [f,x]).index (nT 3 [f,x]).type (nT 3 [f,x]).args [B6 f,B6 x]=AW 0 3 zY [B6 f,B6 x]:=rfl;rw[e];exact⟨fun h=>by rw[(CW h).2.1,DK (nT 3 [f,x])];rfl,DH _ _ _ _ (.inl rfl)⟩
 | zero=>
  refine fin (t:=nT 4 []) (m:=[]) ⟨fun _=>rfl,.inl rfl⟩ ?_;have e:CI (nT 4 []).kind (nT 4 []).index (nT 4 []).type (nT 4 []).args []=AW 0 4 zY []:=rfl;rw[e];exact⟨fun h=>by rw[(CW h).2.1,DK (nT 4 [])];rfl,DH _ _ _ _ (.inl rfl)⟩
 | succ hx ih=>
  rename_i Γ x X;refine fin (t:=nT 5 [x]) (one ih) ?_;have e:CI (nT 5 [x]).kind (nT 5 [x]).index (nT 5 [x]).type (nT 5 [x]).args [B6 x]=AW 0 5 zY [B6 x]:=rfl;rw[e];exact⟨fun h=>by rw[(CW h).2.1,DK (nT 5 [x])];rfl,DH _ _ _ _ (.inl rfl)⟩
 | rc ha hb hf hn Ck Cf Bt=>
  rename_i Γ a b f n B F N;refine fin (t:=Tm.mk 6 0 a.ty [b,f,n]) (two Ck (two Cf (one Bt))) ?_;have e:CI 6 0 a.ty [b,f,n] [B6 b,B6 f,B6 n]=AW (GA (DG a.ty) (BT 0 ((B6 f).upN 0 2) [vT 1,vT 0]).1 (BT 0 ((B6 f).upN 0 2) [vT 1,vT 0]).2).2 6 (DG a.ty) [B6 b,(GA (DG a.ty) (BT 0 ((B6 f).upN 0 2) [vT 1,vT 0]).1 (BT 0 ((B6 f).upN 0 2) [vT 1,vT 0]).2).1,B6 n]:=rfl;show ((CI 6 0 a.ty [b,f,n] [B6 b,B6 f,B6 n]).2=0->(CI 6 0 a.ty [b,f,n] [B6 b,B6 f,B6 n]).1=B6 (Tm.mk 6 0 a.ty [b,f,n]))/\((CI 6 0 a.ty [b,f,n] [B6 b,B6 f,B6 n]).2=0\/(CI 6 0 a.ty [b,f,n] [B6 b,B6 f,B6 n]).2=4);rw[e,<- SD];refine⟨fun h=>?_,DH _ _ _ _ (pC (KD ha) (NM _ _ _ (.inl rfl)))⟩;obtain⟨e1,r1,-⟩:=CW h;obtain⟨e2,r2⟩:=pA (KD ha) e1;obtain⟨-,r3⟩:=MS e2;rw[r1,r2,r3,DK (Tm.mk 6 0 a.ty [b,f,n]),SD];rfl
 | nil=>exact fin (t:=nT 7 []) (m:=[]) ⟨fun _=>rfl,.inl rfl⟩ ⟨fun _=>by rw[DK];rfl,.inl rfl⟩
 | cons hx hl Bx Kt=>
  rename_i Γ x l X L;refine fin (t:=nT 8 [x,l]) (two Bx (one Kt)) ?_;have e:CI (nT 8 [x,l]).kind (nT 8 [x,l]).index (nT 8 [x,l]).type (nT 8 [x,l]).args [B6 x,B6 l]=EF (T.ty .nat) (B6 x) (AW 0 5 zY [B6 l]).1 (AW 0 5 zY [B6 l]).2:=rfl;rw[e];refine⟨fun h=>?_,WO .nat _ _ _ DD (DH _ _ _ _ (.inl rfl))⟩;obtain⟨e1,r1⟩:=TP .nat DD h;obtain⟨-,r2,-⟩:=CW e1;rw[r1,r2,DK (nT 8 [x,l])];show _=UA (T.ty .nat) (B6 x) (nT 5 [B6 l]);rw[QH];rfl
 | fold ha hb hf hn Ck Cf Bt=>
  rename_i Γ a b f n B F N;refine fin (t:=Tm.mk 9 0 a.ty [b,f,n]) (two Ck (two Cf (one Bt))) ?_
  have e:CI 9 0 a.ty [b,f,n] [B6 b,B6 f,B6 n] =
   (let c:=BT 0 ((B6 f).upN 0 3) [vT 2,vT 2,vT 0]
    let st:=GA (DG a.ty) c.1 c.2
    let r:=AW st.2 6 (DG a.ty) [(B6 b).upN 0 1,st.1,vT 0]
    let la:=AW r.2 2 RE [r.1]
    BT la.2 la.1 [B6 n]):=rfl
  show ((CI 9 0 a.ty [b,f,n] [B6 b,B6 f,B6 n]).2=0->(CI 9 0 a.ty [b,f,n] [B6 b,B6 f,B6 n]).1=B6 (Tm.mk 9 0 a.ty [b,f,n]))/\((CI 9 0 a.ty [b,f,n] [B6 b,B6 f,B6 n]).2=0\/(CI 9 0 a.ty [b,f,n] [B6 b,B6 f,B6 n]).2=4);rw[e,<- SD];refine⟨fun h=>?_,NM _ _ _ (DH _ _ _ _ (DH _ _ _ _ (pC (KD ha) (NM _ _ _ (.inl rfl)))))⟩;obtain⟨e1,r1⟩:=MS h;obtain⟨e2,r2,-⟩:=CW e1;obtain⟨e3,r3,-⟩:=CW e2;obtain⟨e4,r4⟩:=pA (KD ha) e3;obtain⟨-,r5⟩:=MS e4;refine r1.trans ?_;rw[r2,r3,r4,r5,DK (Tm.mk 9 0 a.ty [b,f,n]),SD];rfl
 | pair hx hy Bx Ht=>
  rename_i Γ a b x y X Y;refine fin (t:=nT 10 [x,y]) (two Bx (one Ht)) ?_;have e:CI (nT 10 [x,y]).kind (nT 10 [x,y]).index (nT 10 [x,y]).type (nT 10 [x,y]).args [B6 x,B6 y]=AW 0 10 zY [B6 x,B6 y]:=rfl;rw[e];exact⟨fun h=>by rw[(CW h).2.1,DK (nT 10 [x,y])];rfl,DH _ _ _ _ (.inl rfl)⟩
 | fst hx ih=>
  rename_i Γ a b x X;refine fin (t:=nT 11 [x]) (one ih) ?_;have e:CI (nT 11 [x]).kind (nT 11 [x]).index (nT 11 [x]).type (nT 11 [x]).args [B6 x]=AW 0 11 zY [B6 x]:=rfl;rw[e];exact⟨fun h=>by rw[(CW h).2.1,DK (nT 11 [x])];rfl,DH _ _ _ _ (.inl rfl)⟩
 | snd hx ih=>
  rename_i Γ a b x X;refine fin (t:=nT 12 [x]) (one ih) ?_;have e:CI (nT 12 [x]).kind (nT 12 [x]).index (nT 12 [x]).type (nT 12 [x]).args [B6 x]=AW 0 12 zY [B6 x]:=rfl;rw[e];exact⟨fun h=>by rw[(CW h).2.1,DK (nT 12 [x])];rfl,DH _ _ _ _ (.inl rfl)⟩
 | unit=>
  refine fin (t:=nT 13 []) (m:=[]) ⟨fun _=>rfl,.inl rfl⟩ ?_;have e:CI (nT 13 []).kind (nT 13 []).index (nT 13 []).type (nT 13 []).args []=AW 0 13 zY []:=rfl;rw[e];exact⟨fun h=>by rw[(CW h).2.1,DK (nT 13 [])];rfl,DH _ _ _ _ (.inl rfl)⟩
end
section
variable {gl:AB}
theorem H4 (i:Int):cT gl 165 [A0 i] [] (vT i).dv []:=by
 refine A6 Tryz.func165 ?_;intro X hP u6 hf u8 hn hR u5 u4;refine A2 ?_;exact AT @vT.eq_1
theorem PI:cT gl 158 [] [] RE.dv []:=by
 refine A6 Tryz.func158 ?_;intro X hP u6 hf u8 hn hR u5 u4;refine A2 ?_;exact AT @RE.eq_1
theorem dB:cT gl 217 [] [] (nT 13 []).dv []:=by
 refine A6 Tryz.func217 ?_;intro X hP u6 hf u8 hn hR u5 u4;refine A2 ?_;exact AT @nT.eq_1
theorem NN (t:Ty)(hc:t.count<=2147483648):cT gl 146 [t.dv] [] (A0 t.checkN) []:=by
 refine A6 Tryz.func146 ?_;intro X hP u6 hf u8 hn hR u5 u4;refine A2 ?_;refine A3 tT (K8 t hc) ?_;refine A2 ?_;exact AM
theorem pD (t:Tm)(hc:t.count<=1073741824):cT gl 251 [t.dv] [] (A0 t.count) []:=by
 induction t using Tm.ind with
 | h t ih=>
 refine A6 Tryz.func251 ?_;intro X hP u6 hf u8 hn hR u5 u4;have Jk:=Tm.fit_len (u4 t.dv sS);have Cd:=Tm.count_eq t;refine A2 ?_;refine BR ?_;refine CR [] (by simp[go_sem]) (by simp[go_sem,Tm.count.counts] <;> omega) (by simp[go_sem]) (CD (t.args) (fun done rest=>[sV 9 (A0 done.length),sV 8 (A0 t.args.length),sV 7 (.sl (t.args.map Tm.cells)),sV 3 (A0 (1+Tm.count.counts done:Nat)),sV 2 (A0 0)]) ?_ ?_)
 ·intro done x rest hL Ad u7;have Ac:done.length<t.args.length:=by rw[hL];simp
  have Aj:=uE Ad;have If:=Tm.counts_append done (x::rest);have Bp:=Tm.counts_append done [x];rw[<- hL]at If;simp only[Tm.count.counts]at If Bp;refine A5 ?_;refine AQ ?_;refine A7 @Ad ?_;refine A3 @Ad (ih x Aj oO) ?_;refine CG (wr []) @Bp tT u7
 ·refine A5 ?_;refine B9 ?_;refine A2 ?_;exact AC @Cd
theorem z4d (t:Tm):cT gl 110 [t.dv] [] (AR (!t.leastN 268435456)) []:=by
 induction t using Tm.ind with
 | h t ih=>
 refine A6 Tryz.func110 ?_;intro X hP u6 hf u8 hn hR u5 u4;have Jk:=Tm.fit_len (u4 t.dv sS);rw[Tm.leastN_eq]at hR;by_cases h:268435456<t.index
 ·refine A7 @h ?_;exact AC @h
 ·refine A7 @h ?_;refine BR ?_;refine AA [] tT (DC (t.args) (fun done=>Tm.leastN.leasts done 268435456=true) (fun done rest=>[sV 11 (A0 done.length),sV 10 (A0 t.args.length),sV 9 (.sl (t.args.map Tm.cells))]) (rfl) ?_ ?_)
  ·intro done x rest hL Ad hI u7;have Ac:done.length<t.args.length:=by rw[hL];simp
   have Aj:=uE Ad;refine A5 ?_;refine AQ ?_;refine A7 @Ad ?_;refine A3 @Ad (ih x Aj) ?_;by_cases hx:x.leastN 268435456=true;· refine CG (wr []) tT @hx (u7 (by rw[Tm.leasts_append,hI];simp[Tm.leastN.leasts,hx]))
   ·have Cp:x.leastN 268435456=false:=by simpa using hx
    have Ae:Tm.leastN.leasts t.args 268435456=false:=by rw[hL,Tm.leasts_append];simp[Tm.leastN.leasts,Cp]
    refine A7 @Cp ?_;exact AC @Ae
  ·intro hI;refine A5 ?_;refine B9 ?_;refine A2 ?_;exact AC (j2 @hI @h)
theorem pE (k:Int)(s:Ty)(l:List Tm)(hc:(Tm.mk k 0 s l).count<=1073741824):cT gl 218 [A0 k,s.dv,.sl (l.map Tm.cells)] [] (.tup [(L3 k s l).1.dv,A0 (L3 k s l).2]) []:=by
 refine A6 Tryz.func218 ?_;intro X hP u6 hf u8 hn hR u5 u4;have Ud:=Tm.fold_mk k 0 s l;refine A2 ?_;refine A3 @Ud (pD (Tm.mk k 0 s l) hc) ?_;by_cases h:4096<(Tm.mk k 0 s l).count
 ·refine A7 @h ?_;exact AT (j3 @L3.eq_1 @h @AI.eq_1)
 ·refine A7 @h ?_;exact AT (j2 @L3.eq_1 @h)
theorem NO (t:Tm)(f b:Int)(hs:t.shape=true)(hi:t.idx 549755813888)(Gx:0<=b)(Et:b<=1048576)(Bz:0<=f)(Hm:f+t.count<=549755813888):cT gl 162 [t.dv,A0 f,A0 b] [] (t.upN f b).dv []:=by
 induction t using Tm.ind generalizing f with
 | h t ih=>
 have Ap:=Tm.count_eq t;have Ji:=K9 t.kind;have Cy:=(Tm.idx_eq t _).1 hi;obtain⟨Nz,-,-,-,Dj⟩:=Tm.shape_node hs;refine A6 Tryz.func162 ?_;intro X hP u6 hf u8 hn hR u5 u4;have hlen:=Tm.fit_len (u4 t.dv sS);have Kv:=Tm.fold t;by_cases h0:b=0
 ·rw[h0,kH]at hR;refine A7 @h0 ?_;exact BI
 by_cases h1:t.kind=1
 ·have ha:t.args=[]:=by rw[h1]at Nz;simp[AO]at Nz;exact Nz
  rw[Tm.upN_eq,ha]at hR;by_cases h2:f<=t.index
  ·refine A7 (j3 @h0 @h1 @h2) ?_;refine EO ?_;simp[go_sem,hP,u6,hn,h1,h2,ha] <;> (try omega);all_goals exact RH
  ·refine A7 (j3 @h0 @h1 @h2) ?_;refine EO ?_;simp[go_sem,hP,u6,hn,h1,h2,ha] <;> (try omega);all_goals exact RH
 rw[Tm.upN_eq,if_neg (fun h=>h1 h.1)]at hR;apply Q8 [sV 36 (A0 0),sV 35 (A0 t.args.length),sV 34 (.sl (t.args.map Tm.cells)),sL 7 [.v (A0 t.kind),.v (A0 t.index),.v (A0 t.type.kind),.v (.sl (t.type.args.map Ty.cells)),.own 0 []],sP 7,sV 1 (A0 (f+AX t.kind)),sV 2 (A0 b),sL 6 [.v (A0 0),.v (A0 0),.v (A0 0),.own 0 [],.own 0 []],sP 6]
 ·intro Aa;by_cases h2:t.kind=2
  ·have We:AX 2=1:=rfl;refine A7 (j3 @h0 @h1 @h2) ?_;refine GX ?_;refine AA [] (j2 @We @h2) Aa
  ·have We:AX t.kind=0:=by simp[AX,h2]
   refine A7 (j3 @h0 @h1 @h2) ?_;refine GX ?_;refine AA [] (j2 @We @h2) Aa
 ·refine BR ?_;refine AA [(1007,0)] tT (CD (t.args) (fun done rest=>[sV 36 (A0 done.length),sV 35 (A0 t.args.length),sV 34 (.sl (t.args.map Tm.cells)),sL 7 [.v (A0 t.kind),.v (A0 t.index),.v (A0 t.type.kind),.v (.sl (t.type.args.map Ty.cells)),.own 1007 (done.map fun x=>(x.upN (f+AX t.kind) b).cells)],sP 7,(.tok 1007,.tk 5 done.length),sV 1 (A0 (f+AX t.kind)),sV 2 (A0 b),sL 6 [.v (A0 0),.v (A0 0),.v (A0 0),.own 0 [],.own 0 []],sP 6]) ?_ ?_)
  ·intro done x rest hL Ad u7;have Ac:done.length<t.args.length:=by rw[hL];simp
   have Aj:=uE Ad;have Bp:=Tm.count_mem Aj;refine A5 ?_;refine AQ ?_;refine A7 @Ad ?_;refine A3 @Ad (ih x Aj (f+AX t.kind) (Dj x Aj) (Cy.2 x Aj) oO oO) ?_;refine CG (wr [(1007,47)]) (Tm.cells_eq (x.upN (f+AX t.kind) b)) tT u7
  ·refine A5 ?_;refine B9 ?_;refine A2 ?_;refine EO ?_;simp[go_sem,hP,u6,hn] <;> (try omega);simp[Tm.dv,Tm.cells_eq,Tm.kind_mk,Tm.index_mk,Tm.type_mk,Tm.args_mk]
abbrev JW (e:Int):List DV:=[A0 e]
theorem JX (b:Nat)(e k:Int)(s:Ty)(l:List Tm)(hc:(Tm.mk k 0 s l).count<=1073741824) :
  cT gl 160 [DP b,A0 k,s.dv,.sl (l.map Tm.cells)] [(b,JW e)] (AW e k s l).1.dv [(b,JW (AW e k s l).2)]:=by
 refine A6 Tryz.func160 ?_;intro X hP u6 hf u8 hn hR u5 u4;by_cases h:e=0
 ·have Au:AW e k s l=L3 k s l:=by unfold AW;rw[if_pos h]
  rw[Au]at hR;refine A7 @h ?_;refine A3 @h (pE k s l hc) ?_;by_cases h2:(L3 k s l).2=0
  ·refine A7 @h2 ?_;exact AY [(b,JW 0)] @h2
  ·refine A7 @h2 ?_;exact AY [(b,JW (L3 k s l).2)] tT
 ·have Au:AW e k s l=(AI,e):=by unfold AW;rw[if_neg h]
  rw[Au]at hR;refine A7 @h ?_;exact AY [(b,JW e)] @AI.eq_1
theorem HV (b:Nat)(e k:Int)(l:List Tm)(hc:(Tm.mk k 0 zY l).count<=1073741824) :
  cT gl 159 [DP b,A0 k,.sl (l.map Tm.cells)] [(b,JW e)] (AW e k zY l).1.dv [(b,JW (AW e k zY l).2)]:=by
 refine A6 Tryz.func159 ?_;intro X hP u6 hf u8 hn hR u5 u4;have Un:DV.agg [A0 0,DV.sl []]=zY.dv:=rfl;refine A2 ?_;refine A3 @Un (JX b e k zY l hc) ?_;exact AY [(b,JW (AW e k zY l).2)] tT
theorem G3 (e k:Int)(s:Ty)(l:List Tm):(AW e k s l).1.count<=4096:=by
 unfold AW L3;split
 ·split;· show 1+0<=4096;omega
  ·simp only;omega
 ·show 1+0<=4096;omega
theorem xO (e:Int)(f:Tm)(l:List Tm)(x:Tm):BT e f (l++[x])=AW (BT e f l).2 3 zY [(BT e f l).1,x]:=by
 induction l generalizing e f with
 | nil=>rfl
 | cons a r ih=>simp only[List.cons_append,BT,ih]
theorem pF (e:Int)(f:Tm)(l:List Tm)(hf:f.count<=268435456):(BT e f l).1.count<=268435456:=by
 induction l generalizing e f with
 | nil=>exact hf
 | cons a r ih=>
  have:=G3 e 3 zY [f,a];exact ih _ _ oO
theorem N3 (b:Nat)(e:Int)(f:Tm)(l:List Tm)(hfc0:f.count<=268435456)(hl:∀x∈l,x.count<=268435456) :
  cT gl 164 [DP b,f.dv,.sl (l.map Tm.cells)] [(b,JW e)] (BT e f l).1.dv [(b,JW (BT e f l).2)]:=by
 refine A6 Tryz.func164 ?_;intro X hP u6 hf u8 hn hR u5 u4;have hlen:=IM (u4 (.sl (l.map Tm.cells)) sS);simp only[List.length_map]at hlen;refine A2 ?_;refine BR ?_;refine AA [] (j2 @BT.eq_1 @BT.eq_2) (CD (l) (fun done rest=>[sV 11 (A0 done.length),sV 10 (A0 l.length),sV 9 (.sl (l.map Tm.cells)),sV 0 (DP b),sP 4,sL 4 [.v (A0 (BT e f done).1.kind),.v (A0 (BT e f done).1.index),.v (A0 (BT e f done).1.type.kind),.v (.sl ((BT e f done).1.type.args.map Ty.cells)),.v (.sl ((BT e f done).1.args.map Tm.cells))],sP 6,sL 6 [.v (A0 0),.v (A0 0),.v (A0 0),.own 0 [],.own 0 []],sB  b [.v (A0 (BT e f done).2)]]) ?_ ?_)
 ·intro done x rest hL Ad u7;have Ac:done.length<l.length:=by rw[hL];simp
  have hxc:=hl x (uE Ad);have Hm:=pF e f done hfc0;have Nl:=xO e f done x;have Ir:(Tm.mk 3 0 zY [(BT e f done).1,x]).count=1+((BT e f done).1.count+(x.count+0)):=rfl;generalize hg:BT e f done=g at *;have Dx:=Tm.fold x;refine A5 ?_;refine AQ ?_;refine A7 @Ad ?_;refine A3 (j2 @Ad @Dx) (HV b g.2 3 [g.1,x] oO) ?_;refine CG (wr []) @Nl tT u7
 ·refine A5 ?_;refine B9 ?_;refine A2 ?_;exact AY [(b,JW (BT e f l).2)] tT
theorem gR (f x y:Tm):cT gl 248 [f.dv,x.dv,y.dv] [] (C5 f [x,y]).dv []:=by
 refine A6 Tryz.func248 ?_;intro X hP u6 hf u8 hn hR u5 u4;refine A2 ?_;exact AT (j2 @C5.eq_1 @Q9.eq_1)
def Z6:Nat->Tm->Tm
 | 0,t=>t
 | n+1,t=>Tm.mk 2 0 RE [Z6 n t]
theorem xP:cT gl 216 [] [] JI.dv []:=by
 refine A6 Tryz.func216 ?_;intro X hP u6 hf u8 hn hR u5 u4;refine A2 ?_;refine BR ?_;first|refine B4 [] fun K hK=>?_|refine AU (by rw[hP];exact BK) [] fun K hK=>?_
 refine K0 ?_;refine F8 tT (zev) ?_;refine F8 tT (H4 1) ?_;refine F8 tT (zjl) ?_;refine F8 tT (H4 0) ?_;refine F8 tT (H4 1) ?_;repeat (refine⟨oO,?_⟩)
 refine XM hP u6 (gR FC (vT 0) (vT 1)) (by simp[go_sem]) (by simp[go_sem,hP,u6,hn]) rfl (by simp[go_sem]) sS (by rw[hn];exact uF rfl) ?_;simp[go_sem,hP,u6,hn];repeat (refine⟨oO,?_⟩)
 refine XM hP u6 (gR BY (vT 1) (C5 FC [vT 0,vT 1])) (by simp[go_sem]) (by simp[go_sem,hP,u6,hn]) rfl (by simp[go_sem]) sS (by rw[hn];exact uF rfl) ?_;simp[go_sem,hP,u6,hn];refine I7 ?_;clear hK K;obtain⟨bd,Ji⟩:∃bd,bd=C5 BY [vT 1,C5 FC [vT 0,vT 1]]:=⟨_,rfl⟩;rw[<- Ji];refine A2 ?_;refine BR ?_;refine AA [] (j2 @Z6.eq_1 @Z6.eq_2) (NG (2) (fun i=>True) (fun i=>[sV 12 (A0 i),sL 2 ((Z6 i bd).cells.map .v),sP 2,sL 0 [.v (A0 0),.v (A0 0),.v (A0 0),.own 0 [],.own 0 []],sP 0]) (trivial) ?_ ?_)
 ·intro i hi _ u7;have hfw:=Tm.fold (Z6 i bd);refine A5 ?_;refine AQ ?_;refine A2 ?_;refine A3 @hfw PI ?_;refine CG (wr []) (j3 @Z6.eq_1 @Z6.eq_2 @RE.eq_1) tT (u7 tT)
 ·intro _;have he:Z6 2 bd=JI:=by rw[Ji];rfl
  refine A5 ?_;refine B9 ?_;refine A2 ?_;exact AT @he
theorem QJ (y:Ty)(hy:y.ok)(a b:Tm)(e:Int):(EF y a b e).1.count<=4096:=by
 rw[QI y hy];have hz:AI.count<=4096:=dD;have hu:(nT 13 []).count<=4096:=dD;split
 ·split;· exact G3 _ _ _ _
  ·split;· exact G3 _ _ _ _
   ·split;· exact G3 _ _ _ _
    ·exact hu
 ·exact hz
theorem zju {t:Tm}{f b m:Int}(hb:0<=b)(h:t.idx m):(t.upN f b).idx (m+b):=by
 induction t using Tm.ind generalizing f with
 | h t ih=>
 rw[Tm.idx_eq]at h;rw[Tm.upN_eq,Tm.idx_eq,Tm.index_mk,Tm.args_mk];refine⟨?_,?_⟩;· split <;> omega
 ·intro x hx;obtain⟨y,hy,rfl⟩:=List.mem_map.1 hx;exact ih y hy (h.2 y hy)
theorem za2 {t:Tm}{f b:Int}(hb:0<=b)(h:t.shape=true):(t.upN f b).shape=true:=by
 induction t using Tm.ind generalizing f with
 | h t ih=>
 have h0:=h;rw[Tm.shape_eq,uH,Tm.shapes_iff]at h;rw[Tm.upN_eq,Tm.shape_eq,uH,Tm.shapes_iff,Tm.kind_mk,Tm.index_mk,Tm.type_mk,Tm.args_mk,List.length_map];refine⟨?_,?_⟩
 ·have h1:=h.1;simp only[IN,uH,Bool.or_eq_true]at h1 ⊢;obtain⟨⟨⟨a1,a2⟩,a3⟩,a4⟩:=h1;have a2:=of_decide_eq_true a2;refine⟨⟨⟨a1,?_⟩,?_⟩,a4⟩;· apply decide_eq_true;split <;> omega
  ·rcases a3 with a3|a3;· exact .inl a3
   ·have a3:=of_decide_eq_true a3;by_cases hk:t.kind=1;· exact .inl (decide_eq_true hk)
    ·exact .inr (decide_eq_true (by rw[if_neg (fun h=>hk h.1)];exact a3))
 ·intro x hx;obtain⟨y,hy,rfl⟩:=List.mem_map.1 hx;exact ih y hy (h.2 y hy)
theorem WP {k:Int}{s:Ty}{l:List Tm}{m:Int}(hm:0<=m)(h:∀x∈l,x.idx m):(Tm.mk k 0 s l).idx m:=by
 rw[Tm.idx_eq];exact⟨⟨Int.le_refl _,hm⟩,h⟩
theorem OM {i m:Int}(h0:0<=i)(h:i<=m):(vT i).idx m:=by
 unfold vT;rw[Tm.idx_eq];exact⟨⟨h0,h⟩,fun x hx=>by cases hx⟩
def EP (e:Int)(M:Int)(t:Tm):Prop:=t.count<=268435456/\(e=0->t.shape=true/\t.idx M)
theorem EP.mono {e M M':Int}{t:Tm}(h:EP e M t)(hM:M<=M'):EP e M' t:=⟨h.1,fun he=>⟨(h.2 he).1,Tm.idx_mono hM (h.2 he).2⟩⟩
theorem L4 {e k M:Int}{s:Ty}{l:List Tm}(hM:0<=M)(hs:e=0->(Tm.mk k 0 s l).shape=true)(hl:e=0->∀x∈l,x.idx M):EP (AW e k s l).2 M (AW e k s l).1:=by
 refine⟨by have:=G3 e k s l;omega,fun h=>?_⟩;obtain⟨h1,h2,-⟩:=CW h;rw[h2];exact⟨hs h1,WP hM (hl h1)⟩
theorem EP.later {e e' M:Int}{t:Tm}(h:EP e M t)(he:e' = 0->e=0):EP e' M t:=⟨h.1,fun h'=>h.2 (he h')⟩
theorem EP.beside {e e' M M':Int}{t u:Tm}(_:EP e' M' u)(h:EP e M t)(he:e' = 0->e=0):EP e' M t:=h.later he
theorem GB {M:Int}(hM:0<=M):∀(l:List Tm) {e:Int} {f:Tm},EP e M f->(e=0->∀x∈l,x.shape=true/\x.idx M)->EP (BT e f l).2 M (BT e f l).1
 | [],e,f,hf,_=>hf
 | a::r,e,f,hf,hl=>by
  rw[BT];refine GB hM r (L4 hM (fun he=>FN rfl dD ?_) (fun he=>?_)) fun he x hx=>hl (CW he).1 x (by simp[hx]);· intro z hz;simp at hz;rcases hz with rfl|rfl;exact (hf.2 he).1;exact (hl he _ sS).1
  ·intro z hz;simp at hz;rcases hz with rfl|rfl;exact (hf.2 he).2;exact (hl he _ sS).2
theorem xQ {M:Int}(hM:10<=M):EP 0 M JI:=by
 refine⟨dD,fun _=>⟨dD,Tm.idx_mono hM ?_⟩⟩;have:∀t:Tm,t=JI->t.idx 10:=by
  rintro t rfl;simp[JI,D3,C5,Q9,BY,FC,DR,z41,kF,NJ,nT,vT,Tm.idx,Tm.idx.idxs]
 exact this _ rfl
theorem za3 {M:Int}{e i:Int}(h0:0<=i)(hM:i<=M):EP e M (vT i):=by
 refine⟨by show 1+0<=268435456;omega,fun _=>⟨?_,OM h0 hM⟩⟩;obtain⟨n,rfl⟩:∃n:Nat,i=n:=⟨i.toNat,oO⟩;exact G7
theorem MT {e M f b:Int}{t:Tm}(hb:0<=b)(h:EP e M t):EP e (M+b) (t.upN f b):=
 ⟨by rw[CP];exact h.1,fun he=>⟨za2 hb (h.2 he).1,zju hb (h.2 he).2⟩⟩
theorem LJ {e k M:Int}{x:Tm}(hM:0<=M)(hk:k=5\/k=11\/k=12)(hx:EP e M x):EP (AW e k zY [x]).2 M (AW e k zY [x]).1:=
 L4 hM (fun he=>FN (by rcases hk with rfl|rfl|rfl <;> rfl) (by rcases hk with rfl|rfl|rfl <;> decide) (by intro z hz;simp at hz;rw[hz];exact (hx.2 he).1)) fun he z hz=>by simp at hz;rw[hz];exact (hx.2 he).2
theorem SF {e M:Int}{s:T}{x:Tm}(hs:s.ok)(hM:0<=M)(hx:EP e M x):EP (AW e 2 s.ty [x]).2 M (AW e 2 s.ty [x]).1:=
 L4 hM (fun he=>HK rfl (.inl rfl) (T.ok_ty hs) (by intro z hz;simp at hz;rw[hz];exact (hx.2 he).1)) fun he z hz=>by simp at hz;rw[hz];exact (hx.2 he).2
theorem SG:∀(a:T) {x y:Tm} {e M:Int},a.ok->10<=M->EP e M x->EP e M y->EP (EF a.ty x y e).2 (M+a.size) (EF a.ty x y e).1
 | a,x,y,e,M,ho,hM,hx,hy=>by
  by_cases h0:e=0
  ·subst h0;cases a with
   | nat=>
    rw[WN];exact (GB oO _ (xQ hM) fun _ z hz=>by simp at hz;rcases hz with rfl|rfl;exact hx.2 rfl;exact hy.2 rfl).mono (by simp only[T.size];omega)
   | list=>rw[TM];exact⟨by show 1+0<=268435456;omega,fun _=>⟨rfl,WP (by simp only[T.size];omega) (fun z hz=>by cases hz)⟩⟩
   | unit=>rw[TN];exact⟨by show 1+0<=268435456;omega,fun _=>⟨rfl,WP (by simp only[T.size];omega) (fun z hz=>by cases hz)⟩⟩
   | pair s t=>
    rw[TO ho];simp only[T.ok,T.size]at ho;have p:=LJ (k:=11) oO (.inr (.inl rfl)) hx;have q:=LJ (k:=11) (e:=(AW 0 11 zY [x]).2) oO (.inr (.inl rfl)) (hy.later fun h=>rfl);have l:=SG s (by unfold T.ok;omega) hM (p.later fun h=>(CW h).1) q;have p':=LJ (k:=12) (e:=(EF s.ty (AW 0 11 zY [x]).1 (AW (AW 0 11 zY [x]).2 11 zY [y]).1 (AW (AW 0 11 zY [x]).2 11 zY [y]).2).2) oO (.inr (.inr rfl)) (hx.later fun h=>rfl);have q':=LJ (k:=12) (e:=(AW (EF s.ty (AW 0 11 zY [x]).1 (AW (AW 0 11 zY [x]).2 11 zY [y]).1 (AW (AW 0 11 zY [x]).2 11 zY [y]).2).2 12 zY [x]).2) oO (.inr (.inr rfl)) (hy.later fun h=>rfl);have r:=SG t (by unfold T.ok;omega) hM (p'.later fun h=>(CW h).1) q';have l':=EP.beside r l fun h=>(CW (CW (TP t (by unfold T.ok;omega) h).1).1).1;refine L4 (by simp only[T.size];omega) (fun he=>FN rfl dD ?_) (fun he=>?_);· intro z hz;simp at hz;rcases hz with rfl|rfl;exact (l'.2 he).1;exact (r.2 he).1
    ·intro z hz;simp at hz;rcases hz with rfl|rfl;exact Tm.idx_mono (by simp only[T.size];omega) (l'.2 he).2;exact Tm.idx_mono (by simp only[T.size];omega) (r.2 he).2
   | fn s t=>
    rw[aL ho];simp only[T.ok,T.size]at ho;have p:=GB (M:=M+1) oO [vT 0] (MT (f:=0) (b:=1) dD hx) fun he z hz=>by simp at hz;rw[hz];exact⟨G7 (i:=0),OM dD oO⟩
    have q:=GB (M:=M+1) oO [vT 0] (MT (f:=0) (b:=1) dD (hy.later (e':=(BT 0 (x.upN 0 1) [vT 0]).2) fun h=>rfl)) fun he z hz=>by simp at hz;rw[hz];exact⟨G7 (i:=0),OM dD oO⟩
    have r:=SG t (M:=M+1) (by unfold T.ok;omega) oO (p.later fun h=>(MS h).1) q;exact (SF (by unfold T.ok;omega) oO r).mono (by simp only[T.size];omega)
  ·rw[OL ho h0];exact⟨by show 1+0<=268435456;omega,fun h=>absurd h h0⟩
theorem zf7 (b:Nat):∀(x y:Tm) (e M:Int),T.nat.ok->10<=M->M+T.nat.size<=274877906944->EP e M x->EP e M y ->
  cT gl 157 [DP b,T.nat.ty.dv,x.dv,y.dv] [(b,JW e)] (EF T.nat.ty x y e).1.dv [(b,JW (EF T.nat.ty x y e).2)]:=by
 intro x y e M ho hM Mc hx hy;refine A6 Tryz.func157 ?_;intro X hP u6 hf u8 hn hR u5 u4;by_cases h:e=0
 ·subst h;rw[WN]at hR;have wc:=N3 (gl:=gl) b 0 JI [x,y] dD (by intro z hz;simp at hz;rcases hz with rfl|rfl;exact hx.1;exact hy.1);have Al:T.nat.ty=Ty.mk 1 []:=rfl;refine A7 @Al ?_;refine BL @Al xP wc ?_;exact AY [(b,JW (BT 0 JI [x,y]).2)] tT
 ·rw[OL ho h]at hR;refine A7 @h ?_;exact AY [(b,JW e)] @AI.eq_1
theorem za4 (b:Nat):∀(x y:Tm) (e M:Int),T.list.ok->10<=M->M+T.list.size<=274877906944->EP e M x->EP e M y ->
  cT gl 157 [DP b,T.list.ty.dv,x.dv,y.dv] [(b,JW e)] (EF T.list.ty x y e).1.dv [(b,JW (EF T.list.ty x y e).2)]:=by
 intro x y e M ho hM Mc hx hy;refine A6 Tryz.func157 ?_;intro X hP u6 hf u8 hn hR u5 u4;by_cases h:e=0
 ·subst h;rw[TM]at hR;have Al:T.list.ty=Ty.mk 2 []:=rfl;refine A7 @Al ?_;refine A3 @Al dB ?_;exact AY [(b,JW 0)] tT
 ·rw[OL ho h]at hR;refine A7 @h ?_;exact AY [(b,JW e)] @AI.eq_1
theorem za5 (b:Nat):∀(x y:Tm) (e M:Int),T.unit.ok->10<=M->M+T.unit.size<=274877906944->EP e M x->EP e M y ->
  cT gl 157 [DP b,T.unit.ty.dv,x.dv,y.dv] [(b,JW e)] (EF T.unit.ty x y e).1.dv [(b,JW (EF T.unit.ty x y e).2)]:=by
 intro x y e M ho hM Mc hx hy;refine A6 Tryz.func157 ?_;intro X hP u6 hf u8 hn hR u5 u4;by_cases h:e=0
 ·subst h;rw[TN]at hR;have Al:T.unit.ty=Ty.mk 5 []:=rfl;refine A7 @Al ?_;refine A3 @Al dB ?_;exact AY [(b,JW 0)] tT
 ·rw[OL ho h]at hR;refine A7 @h ?_;exact AY [(b,JW e)] @AI.eq_1
theorem za6 (b:Nat)(s t:T)(Wk:∀(x y:Tm) (e M:Int),(s).ok->10<=M->M+(s).size<=274877906944->EP e M x->EP e M y ->
  cT gl 157 [DP b,(s).ty.dv,x.dv,y.dv] [(b,JW e)] (EF (s).ty x y e).1.dv [(b,JW (EF (s).ty x y e).2)]) (Wa:∀(x y:Tm) (e M:Int),(t).ok->10<=M->M+(t).size<=274877906944->EP e M x->EP e M y ->
  cT gl 157 [DP b,(t).ty.dv,x.dv,y.dv] [(b,JW e)] (EF (t).ty x y e).1.dv [(b,JW (EF (t).ty x y e).2)]):∀(x y:Tm) (e M:Int),(T.pair s t).ok->10<=M->M+(T.pair s t).size<=274877906944->EP e M x->EP e M y ->
  cT gl 157 [DP b,(T.pair s t).ty.dv,x.dv,y.dv] [(b,JW e)] (EF (T.pair s t).ty x y e).1.dv [(b,JW (EF (T.pair s t).ty x y e).2)]:=by
 intro x y e M ho hM Mc hx hy;refine A6 Tryz.func157 ?_;intro X hP u6 hf u8 hn hR u5 u4;by_cases h:e=0
 ·subst h;rw[TO ho]at hR;simp only[T.ok,T.size]at ho Mc;have cx:=hx.1;have cy:=hy.1;have w1:=HV (gl:=gl) b 0 11 [x] (by show 1+(x.count+0)<=1073741824;omega);have p:=LJ (k:=11) oO (.inr (.inl rfl)) hx;have o1:(AW 0 11 zY [x]).2=0->(0:Int)=0:=fun _=>rfl;generalize Wj:AW 0 11 zY [x]=r1 at *;obtain⟨x1,e1⟩:=r1;simp only at hR w1 p;have w2:=HV (gl:=gl) b e1 11 [y] (by show 1+(y.count+0)<=1073741824;omega);have q:=LJ (k:=11) (e:=e1) oO (.inr (.inl rfl)) (hy.later fun h=>rfl);have o2:(AW e1 11 zY [y]).2=0->e1=0:=fun h=>(CW h).1;generalize he2:AW e1 11 zY [y]=r2 at *;obtain⟨y1,e2⟩:=r2;simp only at hR w2 q o2;have w3:=Wk x1 y1 e2 M (by unfold T.ok;omega) hM oO (p.later o2) q;generalize he3:EF s.ty x1 y1 e2=r3 at *;obtain⟨l,e3⟩:=r3;simp only at hR w3;have cl:l.count<=4096:=by have:=QJ s.ty (T.ok_ty (by unfold T.ok;omega)) x1 y1 e2;rw[he3]at this;exact this
  have w4:=HV (gl:=gl) b e3 12 [x] (by show 1+(x.count+0)<=1073741824;omega);have p':=LJ (k:=12) (e:=e3) oO (.inr (.inr rfl)) (hx.later fun h=>rfl);have o4:(AW e3 12 zY [x]).2=0->e3=0:=fun h=>(CW h).1;generalize he4:AW e3 12 zY [x]=r4 at *;obtain⟨x2,e4⟩:=r4;simp only at hR w4 p' o4;have w5:=HV (gl:=gl) b e4 12 [y] (by show 1+(y.count+0)<=1073741824;omega);have q':=LJ (k:=12) (e:=e4) oO (.inr (.inr rfl)) (hy.later fun h=>rfl);have o5:(AW e4 12 zY [y]).2=0->e4=0:=fun h=>(CW h).1;generalize he5:AW e4 12 zY [y]=r5 at *;obtain⟨y2,e5⟩:=r5;simp only at hR w5 q' o5;have w6:=Wa x2 y2 e5 M (by unfold T.ok;omega) hM oO (p'.later o5) q';generalize he6:EF t.ty x2 y2 e5=r6 at *;obtain⟨r,e6⟩:=r6;simp only at hR w6;have cr:r.count<=4096:=by have:=QJ t.ty (T.ok_ty (by unfold T.ok;omega)) x2 y2 e5;rw[he6]at this;exact this
  have w7:=HV (gl:=gl) b e6 10 [l,r] (by show 1+(l.count+(r.count+0))<=1073741824;omega);have Al:(T.pair s t).ty=Ty.mk 3 [s.ty,t.ty]:=rfl;refine A7 @Al ?_;refine F9 @Al w1 w2 w3 ?_;refine F9 @Al w4 w5 w6 ?_;refine A3 @Al w7 ?_;exact AY [(b,JW (AW e6 10 zY [l,r]).2)] tT
 ·rw[OL ho h]at hR;refine A7 @h ?_;exact AY [(b,JW e)] @AI.eq_1
theorem zjv (b:Nat)(s t:T)(Wk:∀(x y:Tm) (e M:Int),(s).ok->10<=M->M+(s).size<=274877906944->EP e M x->EP e M y ->
  cT gl 157 [DP b,(s).ty.dv,x.dv,y.dv] [(b,JW e)] (EF (s).ty x y e).1.dv [(b,JW (EF (s).ty x y e).2)]) (Wa:∀(x y:Tm) (e M:Int),(t).ok->10<=M->M+(t).size<=274877906944->EP e M x->EP e M y ->
  cT gl 157 [DP b,(t).ty.dv,x.dv,y.dv] [(b,JW e)] (EF (t).ty x y e).1.dv [(b,JW (EF (t).ty x y e).2)]):∀(x y:Tm) (e M:Int),(T.fn s t).ok->10<=M->M+(T.fn s t).size<=274877906944->EP e M x->EP e M y ->
  cT gl 157 [DP b,(T.fn s t).ty.dv,x.dv,y.dv] [(b,JW e)] (EF (T.fn s t).ty x y e).1.dv [(b,JW (EF (T.fn s t).ty x y e).2)]:=by
 intro x y e M ho hM Mc hx hy;refine A6 Tryz.func157 ?_;intro X hP u6 hf u8 hn hR u5 u4;by_cases h:e=0
 ·subst h;rw[aL ho]at hR;simp only[T.ok,T.size]at ho Mc;have cx:=hx.1;have cy:=hy.1;have l1:=NO (gl:=gl) x 0 1 (hx.2 rfl).1 (Tm.idx_mono oO (hx.2 rfl).2) dD dD dD oO;have l2:=NO (gl:=gl) y 0 1 (hy.2 rfl).1 (Tm.idx_mono oO (hy.2 rfl).2) dD dD dD oO;have u1:=CP x 0 1;have u2:=CP y 0 1;have v1:(vT 0).count<=268435456:=dD;have w1:=N3 (gl:=gl) b 0 (x.upN 0 1) [vT 0] oO (by intro z hz;simp at hz;rw[hz];exact v1);have p:=GB (M:=M+1) oO [vT 0] (MT (f:=0) (b:=1) dD hx) fun he z hz=>by simp at hz;rw[hz];exact⟨G7 (i:=0),OM dD oO⟩
  generalize Wj:BT 0 (x.upN 0 1) [vT 0]=r1 at *;obtain⟨x1,e1⟩:=r1;simp only at hR w1 p;have w2:=N3 (gl:=gl) b e1 (y.upN 0 1) [vT 0] oO (by intro z hz;simp at hz;rw[hz];exact v1);have q:=GB (M:=M+1) oO [vT 0] (MT (f:=0) (b:=1) dD (hy.later (e':=e1) fun h=>rfl)) fun he z hz=>by simp at hz;rw[hz];exact⟨G7 (i:=0),OM dD oO⟩
  have o2:(BT e1 (y.upN 0 1) [vT 0]).2=0->e1=0:=fun h=>(MS h).1;generalize he2:BT e1 (y.upN 0 1) [vT 0]=r2 at *;obtain⟨y1,e2⟩:=r2;simp only at hR w2 q o2;have w3:=Wa x1 y1 e2 (M+1) (by unfold T.ok;omega) oO oO (p.later o2) q;generalize he3:EF t.ty x1 y1 e2=r3 at *;obtain⟨r,e3⟩:=r3;simp only at hR w3;have cr:r.count<=4096:=by have:=QJ t.ty (T.ok_ty (by unfold T.ok;omega)) x1 y1 e2;rw[he3]at this;exact this
  have w4:=JX (gl:=gl) b e3 2 s.ty [r] (by show 1+(r.count+0)<=1073741824;omega);have Al:(T.fn s t).ty=Ty.mk 4 [s.ty,t.ty]:=rfl;refine A7 @Al ?_;refine A3 @Al (H4 0) ?_;refine WA @Al l1 w1 l2 w2 w3 ?_;refine A3 @Al w4 ?_;exact AY [(b,JW (AW e3 2 s.ty [r]).2)] tT
 ·rw[OL ho h]at hR;refine A7 @h ?_;exact AY [(b,JW e)] @AI.eq_1
theorem pG (b:Nat)(a:T):∀(x y:Tm) (e M:Int),(a).ok->10<=M->M+(a).size<=274877906944->EP e M x->EP e M y ->
  cT gl 157 [DP b,(a).ty.dv,x.dv,y.dv] [(b,JW e)] (EF (a).ty x y e).1.dv [(b,JW (EF (a).ty x y e).2)]:=by
 induction a with
 | nat=>exact zf7 b
 | list=>exact za4 b
 | unit=>exact za5 b
 | pair s t Wk Wa=>exact za6 b s t Wk Wa
 | fn s t Wk Wa=>exact zjv b s t Wk Wa
theorem z4e (l:List Ty):DG.bares l=l.map DG:=by
 induction l with
 | nil=>rfl
 | cons a r ih=>simp[DG.bares,ih]
theorem za7 (t:Ty):DG t=if t.kind=2 then Ty.mk 1 [] else Ty.mk t.kind (t.args.map DG):=by
 cases t;rw[DG,z4e];rfl
theorem XT (t:Ty):cT gl 161 [t.dv] [] (DG t).dv []:=by
 induction t using Ty.ind with
 | h t ih=>
 refine A6 Tryz.func161 ?_;intro X hP u6 hf u8 hn hR u5 u4;have hlen:=Ty.fit_len (u4 t.dv sS);rw[za7]at hR;by_cases h:t.kind=2
 ·refine A7 @h ?_;refine A3 tT PI ?_;exact AT (j2 @h @RE.eq_1)
 ·refine A7 @h ?_;refine BR ?_;refine AA [(1003,0)] tT (CD (t.args) (fun done rest=>[sV 16 (A0 done.length),sV 15 (A0 t.args.length),sV 14 (.sl (t.args.map Ty.cells)),sL 3 [.v (A0 t.kind),.own 1003 (done.map fun x=>(DG x).cells)],sP 3,(.tok 1003,.tk 2 done.length),sL 2 [.v (A0 0),.own 0 []],sP 2]) ?_ ?_)
  ·intro done x rest hL Ad u7;have Ac:done.length<t.args.length:=by rw[hL];simp
   have Aj:=uE Ad;refine A5 ?_;refine AQ ?_;refine A7 @Ad ?_;refine A3 @Ad (ih x Aj) ?_;refine CG (wr [(1003,25)]) (Ty.cells_eq (DG x)) tT u7
  ·refine A5 ?_;refine B9 ?_;refine A2 ?_;refine EO ?_;simp[go_sem,hP,u6,hn,h] <;> (try omega);simp[Ty.dv,Ty.cells_eq,Ty.kind_mk,Ty.args_mk]
theorem gS (b:Nat)(s:T)(next:Tm)(e M:Int)(ho:s.ok)(hM:10<=M)(Mc:M+s.size<=274877906944)(hx:EP e M next) :
  cT gl 163 [DP b,s.ty.dv,next.dv] [(b,JW e)] (GA s.ty next e).1.dv [(b,JW (GA s.ty next e).2)]:=by
 refine A6 Tryz.func163 ?_;intro X hP u6 hf u8 hn hR u5 u4;unfold GA at hR;have w1:=pG (gl:=gl) b s (vT 0) next e M ho hM Mc (za3 dD oO) hx
 have c1:=QJ s.ty (T.ok_ty ho) (vT 0) next e
 generalize EF s.ty (vT 0) next e=r1 at *
 obtain⟨y,e1⟩:=r1;simp only at hR w1 c1;have w2:=JX (gl:=gl) b e1 2 s.ty [y] (by show 1+(y.count+0)<=1073741824;omega);have c2:=G3 e1 2 s.ty [y];generalize AW e1 2 s.ty [y]=r2 at *;obtain⟨z,e2⟩:=r2;simp only at hR w2 c2;have w3:=JX (gl:=gl) b e2 2 RE [z] (by show 1+(z.count+0)<=1073741824;omega);refine A2 ?_;refine BL tT (H4 0) w1 ?_;refine F9 tT PI w2 w3 ?_;exact AY [(b,JW (AW e2 2 RE [z]).2)] tT
theorem dC (l:List Tm)(h:(C8.majsE l).2=0):(C8.majsE l).1.length=l.length/\∀(i:Nat) (x:Tm),l[i]? = some x->(C8 x).2=0/\(C8.majsE l).1[i]? = some (C8 x).1:=by
 induction l with
 | nil=>simp[C8.majsE]
 | cons a r ih=>
  simp only[C8.majsE]at h ⊢;by_cases ha:(C8 a).2=0
  ·by_cases hr:(C8.majsE r).2=0
   ·simp only[ha,hr,if_true];obtain⟨h1,h2⟩:=ih hr;refine⟨by simp[h1],?_⟩;intro i x hx;cases i with
    | zero=>simp at hx;subst hx;exact⟨ha,sS⟩
    | succ i=>simp at hx;simpa using h2 i x hx
   ·simp[ha,hr]at h
  ·simp[ha]at h
theorem z4f (l:List Tm)(x:Tm)(h:(C8.majsE l).2=0)(hx:(C8 x).2=0):C8.majsE (l++[x])=((C8.majsE l).1++[(C8 x).1],0):=by
 induction l with
 | nil=>simp[C8.majsE,hx]
 | cons a r ih=>
  simp only[C8.majsE]at h;by_cases ha:(C8 a).2=0
  ·by_cases hr:(C8.majsE r).2=0;· simp[C8.majsE,ha,hr,ih hr]
   ·simp[ha,hr]at h
  ·simp[ha]at h
theorem z4g (l:List Tm)(x:Tm)(m:List Tm)(h:(C8.majsE l).2=0)(hx:¬(C8 x).2=0):C8.majsE (l++x::m)=([],(C8 x).2):=by
 induction l with
 | nil=>simp[C8.majsE,hx]
 | cons a r ih=>
  simp only[C8.majsE]at h;by_cases ha:(C8 a).2=0
  ·by_cases hr:(C8.majsE r).2=0;· simp[C8.majsE,ha,ih hr,hx]
   ·simp[ha,hr]at h
  ·simp[ha]at h
theorem gU {s:T}{next:Tm}{e M:Int}(ho:s.ok)(hM:10<=M)(hx:EP e M next):EP (GA s.ty next e).2 (M+s.size) (GA s.ty next e).1:=by
 unfold GA;have h1:=SG s ho hM (za3 (e:=e) (i:=0) dD oO) hx;exact SF (s:=.nat) DD oO (SF ho oO h1)
theorem dE {t:Tm}(hs:t.shape=true)(hk:t.kind=2\/t.kind=6\/t.kind=9):∃a:T,a.ty=t.type/\a.ok/\DG t.type=a.maj.ty/\a.maj.ok/\a.maj.size<=64:=by
 have h:=(Tm.shape_node hs).2.2.2.1;rw[if_pos hk]at h;obtain⟨a,ha⟩:=T.of_shape t.type h.1;have Ee:a.ok:=T.ty_ok (by rw[ha];exact h);exact⟨a,ha,Ee,by rw[<- ha,SD],KD Ee,KD Ee⟩
theorem pH (t:Tm):∀{M:Int},t.shape=true->t.idx M->10<=M->EP (C8 t).2 (M+100 * t.count) (C8 t).1:=by
 induction t using Tm.ind with
 | h t ih=>
 intro M hs hi hM;obtain⟨hlen,Om,hv,Al,Dj⟩:=Tm.shape_node hs;have Cy:=(Tm.idx_eq t _).1 hi;have Ap:=Tm.count_eq t;rw[kX];by_cases h0:(C8.majsE t.args).2=0;rotate_left;· rw[if_neg h0];exact⟨by show 1+0<=268435456;omega,fun h=>absurd h h0⟩
 rw[if_pos h0];obtain⟨hl,hx⟩:=dC t.args h0;have get:∀(i:Nat) (x:Tm),t.args[i]? = some x->∃y,(C8.majsE t.args).1[i]? = some y/\EP 0 (M+100 * (t.count - 1)) y:=by
  intro i x Yl;obtain⟨x1,x2⟩:=hx i x Yl;have hm:=uE Yl;have hc:=Tm.count_mem hm;have:=ih x hm (Dj x hm) (Cy.2 x hm) hM;exact⟨_,x2,(this.later fun _=>x1).mono oO⟩
 generalize (C8.majsE t.args).1=l at get hl ⊢;have Dr:1<=t.count:=Tm.count_pos t;generalize hM1:M+100 * ((t.count:Int) - 1)=M1 at get;have hMt:M+100 * t.count=M1+100:=oO;rw[hMt];have Mc:10<=M1:=oO;have all:∀z∈l,EP 0 M1 z:=by
  intro z hz;obtain⟨i,hi⟩:=List.getElem?_of_mem hz;have Cc:=(uA hi).1;obtain⟨y,hy,fy⟩:=get i t.args[i] (uB oO);rw[hi]at hy;cases hy;exact fy
 clear get;unfold CI;by_cases h7:t.kind=7;· rw[if_pos h7];exact⟨by show 1+0<=268435456;omega,fun _=>⟨rfl,WP oO (fun z hz=>by cases hz)⟩⟩
 rw[if_neg h7];by_cases h8:t.kind=8
 ·rw[if_pos h8];have h2:l.length=2:=by rw[h8]at hlen;simp[AO]at hlen;omega
  match l,h2,all with
  | [y,z],_,all=>
   have fz:=LJ (k:=5) oO (.inl rfl) (all z sS);exact (SG .nat DD Mc ((all y sS).later fun h=>rfl) fz).mono (by simp only[T.size];omega)
 rw[if_neg h8];by_cases h2:t.kind=2
 ·rw[if_pos h2];obtain⟨a,-,-,hb,ho,-⟩:=dE hs (.inl h2);have h1:l.length=1:=by rw[h2]at hlen;simp[AO]at hlen;omega
  match l,h1,all with
  | [y],_,all=>
   rw[hb];exact (SF ho oO (all y sS)).mono oO
 rw[if_neg h2];by_cases h6:t.kind=6
 ·rw[if_pos h6];obtain⟨a,-,-,hb,ho,Bk⟩:=dE hs (.inr (.inl h6));have h1:l.length=3:=by rw[h6]at hlen;simp[AO]at hlen;omega
  match l,h1,all with
  | [x,f,n],_,all=>
   rw[hb];have c:=GB (M:=M1+2) oO [vT 1,vT 0] (MT (f:=0) (b:=2) dD (all f sS)) fun _ z hz=>by simp at hz;rcases hz with rfl|rfl;exact⟨G7 (i:=1),OM dD oO⟩;exact⟨G7 (i:=0),OM dD oO⟩
   have st:=gU ho oO c;refine (L4 (M:=M1+2+a.maj.size) oO (fun he=>HK rfl (.inr (.inl rfl)) (T.ok_ty ho) ?_) (fun he=>?_)).mono oO;· intro z hz;simp at hz;rcases hz with rfl|rfl|rfl;exact ((all _ sS).2 rfl).1;exact (st.2 he).1;exact ((all _ sS).2 rfl).1
   ·intro z hz;simp at hz;rcases hz with rfl|rfl|rfl;exact Tm.idx_mono oO ((all _ sS).2 rfl).2;exact (st.2 he).2;exact Tm.idx_mono oO ((all _ sS).2 rfl).2
 rw[if_neg h6];by_cases h9:t.kind=9
 ·rw[if_pos h9];obtain⟨a,-,-,hb,ho,Bk⟩:=dE hs (.inr (.inr h9));have h1:l.length=3:=by rw[h9]at hlen;simp[AO]at hlen;omega
  match l,h1,all with
  | [x,f,n],_,all=>
   rw[hb];have c:=GB (M:=M1+3) oO [vT 2,vT 2,vT 0] (MT (f:=0) (b:=3) dD (all f sS)) fun _ z hz=>by simp at hz;rcases hz with rfl|rfl;exact⟨G7 (i:=2),OM dD oO⟩;exact⟨G7 (i:=0),OM dD oO⟩
   have st:=gU ho oO c;have x1:=MT (f:=0) (b:=1) dD (all x sS)
   have r:=L4 (e:=(GA a.maj.ty (BT 0 (f.upN 0 3) [vT 2,vT 2,vT 0]).1 (BT 0 (f.upN 0 3) [vT 2,vT 2,vT 0]).2).2) (k:=6) (s:=a.maj.ty) (l:=[x.upN 0 1,(GA a.maj.ty (BT 0 (f.upN 0 3) [vT 2,vT 2,vT 0]).1 (BT 0 (f.upN 0 3) [vT 2,vT 2,vT 0]).2).1,vT 0]) (M:=M1+3+a.maj.size) oO (fun he=>HK rfl (.inr (.inl rfl)) (T.ok_ty ho) (by
     intro z hz;simp at hz;rcases hz with rfl|rfl|rfl;exact (x1.2 rfl).1;exact (st.2 he).1;exact G7 (i:=0))) (fun he=>by
     intro z hz;simp at hz;rcases hz with rfl|rfl|rfl;exact Tm.idx_mono oO (x1.2 rfl).2;exact (st.2 he).2;exact OM dD oO)
   have la:=SF (s:=.nat) DD oO r;exact (GB oO [n] la fun he z hz=>by simp at hz;rw[hz];exact⟨((all n sS).2 rfl).1,Tm.idx_mono oO ((all n sS).2 rfl).2⟩).mono oO
 rw[if_neg h9];by_cases h1:t.kind=1
 ·rw[if_pos h1];have ha:t.args=[]:=by rw[h1]at hlen;simp[AO]at hlen;exact hlen
  have hc:t.count=1:=by rw[Tm.count_eq,ha];rfl
  rw[Tm.eta];exact⟨by rw[hc];decide,fun _=>⟨hs,Tm.idx_mono oO hi⟩⟩
 rw[if_neg h1];refine (L4 (M:=M1) oO (fun he=>FN (by rw[hl];exact hlen) oO fun z hz=>((all z hz).2 rfl).1) fun he z hz=>((all z hz).2 rfl).2).mono oO
theorem z4h (k:Int):AO k<=3:=by
 unfold AO;repeat' split
 all_goals decide
theorem zf8 (b:Nat)(t:Tm):∀{M:Int},t.shape=true->t.idx M->10<=M->M+100 * t.count<=137438953472 ->
  cT gl 113 [DP b,t.dv] [(b,JW 0)] (C8 t).1.dv [(b,JW (C8 t).2)]:=by
 induction t using Tm.ind with
 | h t ih=>
 intro M hs hi hM hMc;obtain⟨hlen,Om,hv,Al,Dj⟩:=Tm.shape_node hs;have Cy:=(Tm.idx_eq t _).1 hi;have Ap:=Tm.count_eq t;have Dr:1<=t.count:=Tm.count_pos t;refine A6 Tryz.func113 ?_;intro X hP u6 hf u8 hn hR u5 u4;have hlen2:=Tm.fit_len (u4 t.dv sS);rw[kX]at hR;refine A2 ?_;refine BR ?_;refine CR [(1005,0)] (by simp[go_sem]) (by simp[go_sem,C8.majsE] <;> omega) (by simp[go_sem]) (DC (t.args) (fun done=>(C8.majsE done).2=0) (fun done rest=>[sV 18 (A0 done.length),sV 17 (A0 t.args.length),sV 16 (.sl (t.args.map Tm.cells)),sV 0 (DP b),sP 3,sL 3 [.v (A0 t.kind),.v (A0 t.index),.v (A0 t.type.kind),.v (.sl (t.type.args.map Ty.cells)),.v (.sl (t.args.map Tm.cells))],sP 4,sL 4 [.v (A0 0),.v (A0 0),.v (A0 0),.own 0 [],.own 0 []],(.slot 5,.one (.own 1005 ((C8.majsE done).1.map Tm.cells))),(.tok 1005,.tk 5 (C8.majsE done).1.length),sB  b [.v (A0 0)]]) (rfl) ?_ ?_)
 ·intro done x rest hL Ad hI u7;have Ac:done.length<t.args.length:=by rw[hL];simp
  have Aj:=uE Ad;have Br:=Tm.count_mem Aj;have w:=ih x Aj (Dj x Aj) (Cy.2 x Aj) hM oO;have Dy:=(dC done hI).1;have Dx:=Tm.fold x;refine A5 ?_;refine AQ ?_;refine A7 @Ad ?_;refine A3 (j2 @Ad @Dx) w ?_;by_cases he:(C8 x).2=0
  ·have Nl:=z4f done x hI he;refine CG (wr [(1005,34)]) (j3 @Nl @Dy (Tm.cells_eq (C8 x).1)) (j2 @he @Dy) (u7 (by rw[Nl]))
  ·have Jq:=z4g done x rest hI he;rw[<- hL]at Jq;rw[Jq,if_neg he]at hR;refine A7 @he ?_;exact AY [(b,JW (C8 x).2)] @AI.eq_1
 ·intro h0;obtain⟨hl,hx⟩:=dC t.args h0;rw[if_pos h0]at hR;have all:∀z∈(C8.majsE t.args).1,EP 0 (M+100 * ((t.count:Int) - 1)) z:=by
   intro z hz;obtain⟨i,hi⟩:=List.getElem?_of_mem hz;have Cc:=(uA hi).1;have hxi:t.args[i]? = some t.args[i]:=uB oO;obtain⟨x1,x2⟩:=hx i _ hxi;have hm:=List.getElem_mem (l:=t.args) (n:=i) oO;have hc:=Tm.count_mem hm;have:=pH _ (Dj _ hm) (Cy.2 _ hm) hM;rw[hi]at x2;cases x2;exact (this.later fun _=>x1).mono oO
  clear hx;obtain⟨l,hle⟩:∃l,l=(C8.majsE t.args).1:=⟨_,rfl⟩;rw[<- hle]at hR hl all ⊢;generalize hM1:M+100 * ((t.count:Int) - 1)=M1 at all;have Mc:10<=M1:=oO;have hM3:M1+200<=274877906944:=oO;have Bw:l.length<=3:=by
   have:=z4h t.kind;omega
  refine A5 ?_;refine B9 ?_;unfold CI at hR;by_cases h7:t.kind=7
  ·rw[if_pos h7]at hR;refine A7 @h7 ?_;exact AY [(b,JW 0)] @nT.eq_1
  rw[if_neg h7]at hR;by_cases h8:t.kind=8
  ·rw[if_pos h8]at hR;have h2:l.length=2:=by rw[h8]at hlen;simp[AO]at hlen;omega
   match l,h2,all,hR with
   | [y,z],_,all,hR=>
    have fy:=all y sS;have fz:=all z sS;have cz:=fz.1;have w1:=HV (gl:=gl) b 0 5 [z] (by show 1+(z.count+0)<=1073741824;omega);have f1:=LJ (k:=5) oO (.inl rfl) fz;have hR:X.R=(fun r ψ=>r=(EF RE y (AW 0 5 zY [z]).1 (AW 0 5 zY [z]).2).1.dv/\ψ=[(b,JW (EF RE y (AW 0 5 zY [z]).1 (AW 0 5 zY [z]).2).2)])/\X.md = .fn:=hR;generalize AW 0 5 zY [z]=r1 at *;obtain⟨z1,e1⟩:=r1;simp only at hR w1 f1;have w2:=pG (gl:=gl) b .nat y z1 e1 M1 DD Mc (by simp only[T.size];omega) (fy.later fun h=>rfl) f1;have hnt:(T.ty .nat)=RE:=rfl;rw[hnt]at w2;refine A7 @h8 ?_;refine F9 @h8 PI w1 w2 ?_;exact AY [(b,JW (EF RE y z1 e1).2)] tT
  rw[if_neg h8]at hR;by_cases h2:t.kind=2
  ·rw[if_pos h2]at hR;have h1:l.length=1:=by rw[h2]at hlen;simp[AO]at hlen;omega
   match l,h1,all,hR with
   | [y],_,all,hR=>
    have cy:=(all y sS).1;refine A7 @h2 ?_;refine BL @h2 (XT t.type) (JX b 0 2 (DG t.type) [y] (by show 1+(y.count+0)<=1073741824;omega)) ?_;exact AY [(b,JW (AW 0 2 (DG t.type) [y]).2)] tT
  rw[if_neg h2]at hR;by_cases h6:t.kind=6
  ·rw[if_pos h6]at hR;obtain⟨a,-,-,hb,ho,Bk⟩:=dE hs (.inr (.inl h6));have h1:l.length=3:=by rw[h6]at hlen;simp[AO]at hlen;omega
   match l,h1,all,hR with
   | [x,f,n],_,all,hR=>
    have fx:=all x sS;have ff:=all f sS;have fn':=all n sS;have cx:=fx.1;have cf:=ff.1;have cn:=fn'.1;have l1:=NO (gl:=gl) f 0 2 (ff.2 rfl).1 (Tm.idx_mono oO (ff.2 rfl).2) dD dD dD oO;have u1:=CP f 0 2;have v1:(vT 1).count<=268435456:=dD;have v0:(vT 0).count<=268435456:=dD;have w1:=N3 (gl:=gl) b 0 (f.upN 0 2) [vT 1,vT 0] oO (by intro z hz;simp at hz;rcases hz with rfl|rfl;exact v1;exact v0);have c:=GB (M:=M1+2) oO [vT 1,vT 0] (MT (f:=0) (b:=2) dD ff) fun _ z hz=>by simp at hz;rcases hz with rfl|rfl;exact⟨G7 (i:=1),OM dD oO⟩;exact⟨G7 (i:=0),OM dD oO⟩
    have hR:X.R=(fun r ψ=>r=(AW (GA (DG t.type) (BT 0 (f.upN 0 2) [vT 1,vT 0]).1 (BT 0 (f.upN 0 2) [vT 1,vT 0]).2).2 6 (DG t.type) [x,(GA (DG t.type) (BT 0 (f.upN 0 2) [vT 1,vT 0]).1 (BT 0 (f.upN 0 2) [vT 1,vT 0]).2).1,n]).1.dv/\ψ=[(b,JW (AW (GA (DG t.type) (BT 0 (f.upN 0 2) [vT 1,vT 0]).1 (BT 0 (f.upN 0 2) [vT 1,vT 0]).2).2 6 (DG t.type) [x,(GA (DG t.type) (BT 0 (f.upN 0 2) [vT 1,vT 0]).1 (BT 0 (f.upN 0 2) [vT 1,vT 0]).2).1,n]).2)])/\X.md = .fn:=hR;generalize BT 0 (f.upN 0 2) [vT 1,vT 0]=r1 at *;obtain⟨g1,e1⟩:=r1;simp only at hR w1 c;have wb:=XT (gl:=gl) t.type;rw[hb]at wb hR;have w2:=gS (gl:=gl) b a.maj g1 e1 (M1+2) ho oO oO c;have c2:(GA a.maj.ty g1 e1).1.count<=4096:=G3 _ _ _ _;generalize GA a.maj.ty g1 e1=r2 at *;obtain⟨g2,e2⟩:=r2;simp only at hR w2 c2;have w3:=JX (gl:=gl) b e2 6 a.maj.ty [x,g2,n] (by show 1+(x.count+(g2.count+(n.count+0)))<=1073741824;omega);refine A7 @h6 ?_;refine A3 @h6 wb ?_;refine A3 @h6 l1 ?_;refine WA @h6 (H4 1) (H4 0) w1 w2 w3 ?_;exact AY [(b,JW (AW e2 6 a.maj.ty [x,g2,n]).2)] tT
  rw[if_neg h6]at hR;by_cases h9:t.kind=9
  ·rw[if_pos h9]at hR;obtain⟨a,-,-,hb,ho,Bk⟩:=dE hs (.inr (.inr h9));have h1:l.length=3:=by rw[h9]at hlen;simp[AO]at hlen;omega
   match l,h1,all,hR with
   | [x,f,n],_,all,hR=>
    have fx:=all x sS;have ff:=all f sS;have fn':=all n sS;have cx:=fx.1;have cf:=ff.1;have cn:=fn'.1;have l1:=NO (gl:=gl) f 0 3 (ff.2 rfl).1 (Tm.idx_mono oO (ff.2 rfl).2) dD dD dD oO;have l2:=NO (gl:=gl) x 0 1 (fx.2 rfl).1 (Tm.idx_mono oO (fx.2 rfl).2) dD dD dD oO;have u1:=CP f 0 3;have u2:=CP x 0 1;have v2:(vT 2).count<=268435456:=dD;have v0:(vT 0).count<=268435456:=dD;have v00:(vT 0).count=1:=dD;have w1:=N3 (gl:=gl) b 0 (f.upN 0 3) [vT 2,vT 2,vT 0] oO (by intro z hz;simp at hz;rcases hz with rfl|rfl;exact v2;exact v0);have c:=GB (M:=M1+3) oO [vT 2,vT 2,vT 0] (MT (f:=0) (b:=3) dD ff) fun _ z hz=>by simp at hz;rcases hz with rfl|rfl;exact⟨G7 (i:=2),OM dD oO⟩;exact⟨G7 (i:=0),OM dD oO⟩
    have hR:∃c1:Tm × Int,c1=BT 0 (f.upN 0 3) [vT 2,vT 2,vT 0]/\∃st,st=GA (DG t.type) c1.1 c1.2/\∃r,r=AW st.2 6 (DG t.type) [x.upN 0 1,st.1,vT 0]/\∃la,la=AW r.2 2 RE [r.1]/\X.R=(fun q ψ=>q=(BT la.2 la.1 [n]).1.dv/\ψ=[(b,JW (BT la.2 la.1 [n]).2)])/\X.md = .fn:=⟨_,rfl,_,rfl,_,rfl,_,rfl,hR⟩;obtain⟨r1,q1,r2,q2,r3,q3,r4,q4,hR⟩:=hR;rw[<- q1]at w1 c;obtain⟨g1,e1⟩:=r1;simp only at q2 w1 c;have wb:=XT (gl:=gl) t.type;rw[hb]at wb q2 q3;have w2:=gS (gl:=gl) b a.maj g1 e1 (M1+3) ho oO oO c;have c2:(GA a.maj.ty g1 e1).1.count<=4096:=G3 _ _ _ _;rw[<- q2]at w2 c2;obtain⟨g2,e2⟩:=r2;simp only at q3 w2 c2;have w3:=JX (gl:=gl) b e2 6 a.maj.ty [x.upN 0 1,g2,vT 0] (by show 1+((x.upN 0 1).count+(g2.count+((vT 0).count+0)))<=1073741824;omega);have c3:=G3 e2 6 a.maj.ty [x.upN 0 1,g2,vT 0];rw[<- q3]at w3 c3;obtain⟨g3,e3⟩:=r3;simp only at q4 w3 c3;have w4:=JX (gl:=gl) b e3 2 RE [g3] (by show 1+(g3.count+0)<=1073741824;omega);have c4:=G3 e3 2 RE [g3];rw[<- q4]at w4 c4;obtain⟨g4,e4⟩:=r4;simp only at hR w4 c4;have w5:=N3 (gl:=gl) b e4 g4 [n] oO (by intro z hz;simp at hz;rw[hz];exact cn);refine A7 @h9 ?_;refine A3 @h9 wb ?_;refine BL @h9 l1 (H4 2) ?_;refine XO @h9 l2 (H4 0) w1 w2 (H4 0) w3 ?_
    refine F9 @h9 PI w4 w5 ?_;exact AY [(b,JW (BT e4 g4 [n]).2)] tT
  rw[if_neg h9]at hR;by_cases h1:t.kind=1
  ·rw[if_pos h1]at hR;have he:Tm.mk t.kind t.index t.type t.args=t:=Tm.eta t;rw[he]at hR;have Kv:=Tm.fold t;rw[h1]at Kv;refine A7 @h1 ?_;exact AY [(b,JW 0)] (j2 @h1 @Kv)
  rw[if_neg h1]at hR;have Bn:(Tm.mk t.kind 0 zY l).count<=1073741824:=by
   rw[Tm.count_eq,Tm.args_mk]
   match l,Bw,all with
   | [],_,_=>decide
   | [x],_,all=>have:=(all x sS).1;show 1+(x.count+0)<=_;omega
   | [x,y],_,all=>have:=(all x sS).1;have:=(all y sS).1;show 1+(x.count+(y.count+0))<=_;omega
   | [x,y,z],_,all=>have:=(all x sS).1;have:=(all y sS).1;have:=(all z sS).1;show 1+(x.count+(y.count+(z.count+0)))<=_;omega
  refine A7 (j6 @h1 @h2 @h6 @h7 @h8 @h9) ?_;refine A3 tT (HV b 0 t.kind l Bn) ?_;exact AY [(b,JW (AW 0 t.kind zY l).2)] tT
theorem pJ (d:Nat)(l:List DV):EC d (l.map SV.v)=false:=by
 induction l with
 | nil=>rfl
 | cons x r ih=>simp[EC,G8,ih]
theorem xR (k b:Nat)(l:List DV):LS k b (l.map SV.v)=l.map SV.v:=by
 induction l with
 | nil=>rfl
 | cons x r ih=>simp only[List.map_cons,LS,ih];rfl
attribute [go_sem] pJ xR
theorem z4i (b bt:Nat)(hb:b≠bt)(t:Tm)(hs:t.shape=true)(hc:t.count<=4096)(hl:t.leastN 268435456=true) :
  cT gl 112 [DP b,DP bt] [(b,JW 0),(bt,t.cells)] (C8 t).1.dv [(b,JW (C8 t).2),(bt,t.cells)]:=by
 have w:=zf8 (gl:=gl) b t (M:=268435456) hs (Tm.idx_of t _ hs hl) dD oO;have Me:=Tm.fold t;refine A6 Tryz.func112 ?_;intro X hP u6 hf u8 hn hR u5 u4;have Ai:bt≠b:=fun h=>hb h.symm;have J0:=j3 @hb @Ai (Tm.cells_eq t);refine A7 J0 ?_;refine A3 (j3 @hb @Ai @Me) w ?_;exact AY [(b,JW (C8 t).2),(bt,t.cells)] J0
def xS (r:Tm × Int):Tm × Int:=if r.2=0 then r else (AI,r.2)
theorem zf9 (bt:Nat)(f:FuncId)(cs:List DV)(r:Tm × Int)(hc:∀b,b≠bt->cT gl f [DP b,DP bt] [(b,JW 0),(bt,cs)] r.1.dv [(b,JW r.2),(bt,cs)]) :
  cT gl 111 [.prim (.func (.func f) #[] #[.pointer (some ⟨bt,0,none⟩)])] [(bt,cs)] (.tup [(xS r).1.dv,A0 (xS r).2]) [(bt,cs)]:=by
 refine A6 Tryz.func111 ?_;intro X hP u6 hf u8 hn hR u5 u4;refine A5 ?_;refine A5 ?_;refine FW 7 (by simp[go_sem];rfl) ?_;intro b hb;simp[go_sem]at hb ⊢;have Ti:b≠bt:=fun h=>hb h.symm;refine BR ?_;first|refine B4 [] fun K hK=>?_|refine AU (by rw[hP];exact BK) [] fun K hK=>?_
 refine K0 ?_;repeat (refine⟨oO,?_⟩)
 refine gC hP u6 (f:=f) (fi:=#[]) (ca:=#[.pointer (some ⟨bt,0,none⟩)]) (by simp[go_sem]) (by simp[D5]) (ds:=[DP b]) (hc b Ti) (by simp[go_sem]) rfl (by simp[go_sem,hb,Ti]) (by simp[Ti]) (by rw[hn];exact uF rfl) ?_;simp[go_sem,hP,u6,hn,hb,Ti];refine I7 ?_;clear hK K;by_cases h:r.2=0
 ·refine A7 (j3 @h @hb @Ti) ?_;exact AY [(bt,cs)] (j4 @h @xS.eq_1 @hb @Ti)
 ·refine A7 (j3 @h @hb @Ti) ?_;exact AY [(bt,cs)] (j5 @h @xS.eq_1 @hb @Ti @AI.eq_1)
def Tm.mTermE (t:Tm):Tm × Int:=if t.checkN=0 then if t.leastN 268435456=true then xS (C8 t) else (AI,1) else (AI,t.checkN)
theorem za8 (Cj:FQ gl 0=some IL)(t:Tm)(ht:t.tys)(hc:t.count<=1073741824) :
  cT gl 44 [t.dv] [] (.tup [t.mTermE.1.dv,A0 t.mTermE.2]) []:=by
 refine A6 Tryz.func44 ?_;intro X hP u6 hf u8 hn hR u5 u4;have Di:=Tm.fold t;refine A2 ?_;refine A3 @Di (LH Cj t ht oO) ?_;by_cases h:t.checkN=0
 ·have hsh:=(Tm.checkN_iff t).1 h;refine A7 @h ?_;refine A3 @Di (z4d t) ?_;by_cases h2:t.leastN 268435456=true
  ·refine A7 @h2 ?_;refine FW 1 (by simp[go_sem];rfl) ?_;intro bt hb;simp[go_sem]at hb ⊢;have w:=zf9 (gl:=gl) bt 112 t.cells (C8 t) fun b hb=>z4i b bt hb t hsh.1 hsh.2 h2;refine A3 (Tm.cells_eq t) w ?_;exact AT (j3 @Tm.mTermE.eq_1 @h @h2)
  ·have Vg:t.leastN 268435456=false:=by simpa using h2
   refine A7 @Vg ?_;exact AT (j4 @Tm.mTermE.eq_1 @h @Vg @AI.eq_1)
 ·refine A7 @h ?_;exact AT (j3 @Tm.mTermE.eq_1 @h @AI.eq_1)
end
section
def TyQ (t:Ty)(g:List Ty)(x:Tm):Prop:=∀(G:List T) (a:T),g=G.map T.ty->t=a.ty->∃F:BH G.reverse->a.V,Dn G.reverse x a F
theorem PJ {s t:Ty}{a:T}(h:Ty.mk 4 [s,t]=a.ty):∃S b,a = .fn S b/\s=S.ty/\t=b.ty:=by
 cases a with
 | fn S b=>simp[T.ty]at h;exact⟨S,b,rfl,h.1,h.2⟩
 | pair S b=>simp[T.ty]at h
 | nat=>simp[T.ty]at h
 | list=>simp[T.ty]at h
 | unit=>simp[T.ty]at h
theorem xT {s t:Ty}{a:T}(h:Ty.mk 3 [s,t]=a.ty):∃S b,a = .pair S b/\s=S.ty/\t=b.ty:=by
 cases a with
 | pair S b=>simp[T.ty]at h;exact⟨S,b,rfl,h.1,h.2⟩
 | fn S b=>simp[T.ty]at h
 | nat=>simp[T.ty]at h
 | list=>simp[T.ty]at h
 | unit=>simp[T.ty]at h
theorem TQ {a:T}(h:Ty.mk 1 []=a.ty):a = .nat:=by cases a <;> simp[T.ty]at h ⊢
theorem dF {a:T}(h:Ty.mk 2 []=a.ty):a = .list:=by cases a <;> simp[T.ty]at h ⊢
theorem xU {a:T}(h:Ty.mk 5 []=a.ty):a = .unit:=by cases a <;> simp[T.ty]at h ⊢
theorem KE {s:Ty}(h:s.small):∃S:T,s=S.ty/\S.ok/\S.size<=15:=by
 obtain⟨S,rfl⟩:=T.of_shape s h.1;have:=h.2;rw[T.ty_count]at this;exact⟨S,rfl,by unfold T.ok;omega,this⟩
theorem kY (Γ:List T):∀n:Nat,∃F:BH Γ->T.nat.V,Dn Γ (CV n) .nat F
 | 0=>⟨_,.zero⟩
 | n+1=>by
  obtain⟨F,h⟩:=kY Γ n;exact⟨_,.succ h⟩
theorem dG:DrawOK TyQ where
 var g i hi G a hg ht:=by
  subst hg;have hl:i<G.length:=by simpa using hi
  obtain⟨b,hb⟩:∃b,G[G.length - 1 - i]? = some b:=⟨_,uB oO⟩;have hv:HJ (G.map T.ty) i=b.ty:=by
   unfold HJ;rw[List.getD_eq_getElem?_getD,List.length_map,List.getElem?_map,hb];rfl
  have hab:a=b:=T.ty_inj (by rw[<- ht,hv]);subst hab;have hr:G.reverse[i]? = some a:=by rw[List.getElem?_reverse hl,hb]
  obtain⟨p,hp⟩:=At.of hr;exact⟨p,.var hp⟩
 num g n _ G a hg ht:=by
  obtain rfl:=TQ ht;exact kY _ n
 app g s t f x hs ht hf hx G a hg Eg:=by
  obtain⟨S,rfl,-⟩:=KE hs;obtain⟨F,h1⟩:=hf G (.fn S a) hg (by rw[Eg];rfl);obtain⟨X,h2⟩:=hx G S hg rfl;exact⟨_,.app h1 h2⟩
 lam g s t x hs ht hx G a hg Eg:=by
  obtain⟨S,b,rfl,rfl,rfl⟩:=PJ Eg;obtain⟨S',e,ho,-⟩:=KE hs;obtain rfl:=T.ty_inj e;have:=hx (G++[S]) b (by rw[hg,List.map_append];rfl) rfl;rw[List.reverse_append]at this;obtain⟨F,h1⟩:=this;exact⟨_,.lam ho h1⟩
 lam2 g s t r x hs ht hr hx G a hg Eg:=by
  obtain⟨S,b1,rfl,rfl,Gx⟩:=PJ Eg;obtain⟨S2,b,rfl,rfl,rfl⟩:=PJ Gx;obtain⟨_,e,ho,-⟩:=KE hs;obtain rfl:=T.ty_inj e;obtain⟨_,e,ho2,-⟩:=KE ht;obtain rfl:=T.ty_inj e;have:=hx (G++[S,S2]) b (by rw[hg,List.map_append];rfl) rfl;rw[List.reverse_append]at this;obtain⟨F,h1⟩:=this;exact⟨_,.lam ho (.lam ho2 h1)⟩
 lam3 g s t u r x hs ht hu hr hx G a hg Eg:=by
  obtain⟨S,b1,rfl,rfl,Gx⟩:=PJ Eg;obtain⟨S2,b2,rfl,rfl,Et⟩:=PJ Gx;obtain⟨S3,b,rfl,rfl,rfl⟩:=PJ Et;obtain⟨_,e,ho,-⟩:=KE hs;obtain rfl:=T.ty_inj e;obtain⟨_,e,ho2,-⟩:=KE ht;obtain rfl:=T.ty_inj e;obtain⟨_,e,ho3,-⟩:=KE hu;obtain rfl:=T.ty_inj e;have:=hx (G++[S,S2,S3]) b (by rw[hg,List.map_append];rfl) rfl;rw[List.reverse_append]at this;obtain⟨F,h1⟩:=this;exact⟨_,.lam ho (.lam ho2 (.lam ho3 h1))⟩
 pair g s t x y hs ht hx hy G a hg Eg:=by
  obtain⟨S,b,rfl,rfl,rfl⟩:=xT Eg;obtain⟨F,h1⟩:=hx G S hg rfl;obtain⟨X,h2⟩:=hy G b hg rfl;exact⟨_,.pair h1 h2⟩
 fst g s t x hs ht hx G a hg Eg:=by
  obtain⟨S,rfl,-⟩:=KE ht;obtain⟨F,h1⟩:=hx G (.pair a S) hg (by rw[Eg];rfl);exact⟨_,.fst h1⟩
 snd g s t x hs ht hx G a hg Eg:=by
  obtain⟨S,rfl,-⟩:=KE hs;obtain⟨F,h1⟩:=hx G (.pair S a) hg (by rw[Eg];rfl);exact⟨_,.snd h1⟩
 rc g t x f n ht hx hf hn G a hg Eg:=by
  subst Eg;obtain⟨_,e,ho,-⟩:=KE ht;obtain rfl:=T.ty_inj e;obtain⟨B,h1⟩:=hx G a hg rfl;obtain⟨F,h2⟩:=hf G (.fn .nat (.fn a a)) hg rfl;obtain⟨N,h3⟩:=hn G .nat hg rfl;exact⟨_,.rc ho h1 h2 h3⟩
 fold g t x f n ht hx hf hn G a hg Eg:=by
  subst Eg;obtain⟨_,e,ho,-⟩:=KE ht;obtain rfl:=T.ty_inj e;obtain⟨B,h1⟩:=hx G a hg rfl;obtain⟨F,h2⟩:=hf G (.fn .nat (.fn .list (.fn a a))) hg rfl;obtain⟨N,h3⟩:=hn G .list hg rfl;exact⟨_,.fold ho h1 h2 h3⟩
 succ g x hx G a hg Eg:=by
  obtain rfl:=TQ Eg;obtain⟨F,h1⟩:=hx G .nat hg rfl;exact⟨_,.succ h1⟩
 plus g x y hx hy G a hg Eg:=by
  obtain rfl:=TQ Eg;obtain⟨F,h1⟩:=hx G .nat hg rfl;obtain⟨X,h2⟩:=hy G .nat hg rfl;exact⟨_,.app (.app (aK _) h1) h2⟩
 sub g x y hx hy G a hg Eg:=by
  obtain rfl:=TQ Eg;obtain⟨F,h1⟩:=hx G .nat hg rfl;obtain⟨X,h2⟩:=hy G .nat hg rfl;exact⟨_,.app (.app (xL _) h1) h2⟩
 nil g G a hg Eg:=by
  obtain rfl:=dF Eg;exact⟨_,.nil⟩
 cons g x y hx hy G a hg Eg:=by
  obtain rfl:=dF Eg;obtain⟨F,h1⟩:=hx G .nat hg rfl;obtain⟨X,h2⟩:=hy G .list hg rfl;exact⟨_,.cons h1 h2⟩
 unit g G a hg Eg:=by
  obtain rfl:=xU Eg;exact⟨_,.unit⟩
theorem WQ (l:List Int)(n:Nat){t:Ty}{g:List Ty}{p:Nat}(ht:t.small)(hg:∀x∈g,x.small)(hp:p<=l.length){G:List T}{a:T}(eg:g=G.map T.ty)(et:t=a.ty) :
  ∃F:BH G.reverse->a.V,Dn G.reverse (CZ l n t g p).1 a F:=(FY dG n t g p ht hg hp).2 G a eg et
theorem za9 {Γ:List T}{t:Tm}{a:T}{F:BH Γ->a.V}(h:Dn Γ t a F)(hl:Γ.length<=1000):(t.mTermE=(B6 t,0)/\(B6 t).count<=268435456/\t.count<=4096)\/t.mTermE.2=4:=by
 unfold Tm.mTermE;by_cases h0:t.checkN=0
 ·have hk:=(Tm.checkN_iff t).1 h0;rw[if_pos h0,if_pos (EK h 268435456 oO)];obtain⟨h1,h2⟩:=zf6 h;rcases h2 with h2|h2
  ·left
   have hf:=(pH t hk.1 (Tm.idx_of t 268435456 hk.1 (EK h 268435456 oO)) dD).1;rw[h1 h2]at hf;refine⟨?_,hf,hk.2⟩;unfold xS;rw[if_pos h2];exact Prod.ext (h1 h2) h2
  ·right
   unfold xS;rw[if_neg (by rw[h2];decide)];exact h2
 ·rw[if_neg h0]
  right
  have hs:=AJ h;unfold Tm.checkN at h0 ⊢;rw[if_pos hs]at h0 ⊢;split at h0;· rename_i hq;rw[if_pos hq]
  ·exact absurd rfl h0
theorem zaa {G:List T}(hl:G.length<=16)(h:∀a∈G,a.ok):MP (G.map T.ty)=0:=by
 unfold MP;rw[if_neg (by simp;omega)]
 induction G with
 | nil=>rfl
 | cons a G ih=>
  have:=ih (by simp at hl;omega) fun x hx=>h x (by simp[hx]);simp only[List.map_cons,HD];rw[(Ty.checkN_iff _).2 (T.ok_ty (h a sS))]
  simpa using this
inductive MV where
 | num (n:Nat)
 | list (l:List Nat)
 | both (a b:MV)
 | unit
 | clo (b:Tm) (e:List MV)
abbrev RF:=Tm->List MV->Option (MV × Nat)
def IF (ev:RF):List Tm->List MV->Option (List MV × Nat)
 | [],_=>some ([],0)
 | t::r,e=>match ev t e with
  | none=>none
  | some (v,c)=>match IF ev r e with
   | none=>none
   | some (l,c')=>some (v::l,c+c')
def HX (ev:RF):MV->List MV->Option (MV × Nat)
 | f,[]=>some (f,0)
 | .clo b e,a::r=>match ev b (a::e) with
  | none=>none
  | some (v,c)=>match HX ev v r with
   | none=>none
   | some (w,c')=>some (w,c+c')
 | _,_=>none
def ZY (ev:RF)(f:MV):Nat->Nat->MV->Option (MV × Nat)
 | 0,_,r=>some (r,0)
 | n+1,k,r=>match HX ev f [.num k,r] with
  | none=>none
  | some (r',c)=>match ZY ev f n (k+1) r' with
   | none=>none
   | some (w,c')=>some (w,c+c')
def LY (ev:RF)(f:MV)(r:MV):List Nat->Option (MV × Nat)
 | []=>some (r,0)
 | x::l=>match LY ev f r l with
  | none=>none
  | some (r',c)=>match HX ev f [.num x,.list l,r'] with
   | none=>none
   | some (w,c')=>some (w,c+c')
def gV (ev:RF)(k:Int)(l:List MV):Option (MV × Nat):=
 if k=3 then match l with
  | [f,x]=>HX ev f [x]
  | _=>none
 else if k=4 then some (.num 0,0)
 else if k=5 then match l with
  | [.num n]=>some (.num (n+1),0)
  | _=>none
 else if k=6 then match l with
  | [b,f,.num n]=>ZY ev f n 0 b
  | _=>none
 else if k=7 then some (.list [],0)
 else if k=8 then match l with
  | [.num n,.list m]=>some (.list (n::m),0)
  | _=>none
 else if k=9 then match l with
  | [b,f,.list m]=>LY ev f b m
  | _=>none
 else if k=10 then match l with
  | [x,y]=>some (.both x y,0)
  | _=>none
 else if k=11 then match l with
  | [.both x _]=>some (x,0)
  | _=>none
 else if k=12 then match l with
  | [.both _ y]=>some (y,0)
  | _=>none
 else some (.unit,0)
theorem WR {α:Type}(b:α)(f:Nat->α->α):∀n:Nat,M8 b f n=(List.range' 0 n).foldl (fun r i=>f i r) b
 | 0=>rfl
 | n+1=>by
  rw[List.range'_1_concat,List.foldl_append,<- WR b f n];simp[M8]
abbrev Rn:=Option (MV × Int × Bool)
mutual
inductive MVT:(a:T)->MV->a.V->Prop
 | num (n:Nat):MVT .nat (.num n) n
 | list (l:List Nat):MVT .list (.list l) l
 | unit:MVT .unit .unit ()
 | both {a b:T} {x y:MV} {X:a.V} {Y:b.V} (hx:MVT a x X) (hy:MVT b y Y):MVT (.pair a b) (.both x y) (X,Y)
 | clo {Γ:List T} {a r:T} {b:Tm} {f:BH (a::Γ)->r.V} {e:List MV} {ρ:BH Γ} (he:MVE Γ e ρ) (hb:Dn (a::Γ) b r f):MVT (.fn a r) (.clo b e) (fun x=>f (x,ρ))
inductive MVE:(Γ:List T)->List MV->BH Γ->Prop
 | nil:MVE [] [] ()
 | cons {Γ:List T} {a:T} {x:MV} {X:a.V} {e:List MV} {ρ:BH Γ} (h:MVT a x X) (k:MVE Γ e ρ):MVE (a::Γ) (x::e) (X,ρ)
end
theorem MVE.get {Γ:List T}{i:Nat}{a:T}{p:BH Γ->a.V}(h:At Γ i a p):∀{e:List MV} {ρ:BH Γ},MVE Γ e ρ->∃x,e[i]? = some x/\MVT a x (p ρ):=by
 induction h with
 | zero=>intro e ρ he;cases he with|cons h k=>exact⟨_,rfl,h⟩
 | succ h ih=>intro e ρ he;cases he with|cons h k=>obtain⟨x,e1,e2⟩:=ih k;exact⟨x,by simpa using e1,e2⟩
def Out (most:Int)(P:MV->Prop)(u:Int)(r:Rn):Prop:=∃v u' o,r=some (v,u',o)/\u<=u'/\u'<=most/\(o=false->P v)
theorem Out.mono {most u u0:Int}{P Q:MV->Prop}{r:Rn}(h:Out most P u r)(hu:u0<=u)(hq:∀v,P v->Q v):Out most Q u0 r:=by
 obtain⟨v,u',o,h1,h2,h3,h4⟩:=h;exact⟨v,u',o,h1,oO,h3,fun h=>hq v (h4 h)⟩
mutual
def MV.le (n:Int):MV->Prop
 | .num k=>(k:Int)<=n
 | .list l=>(l.length:Int)<=n/\∀x∈l,(x:Int)<=n
 | .both a b=>MV.le n a/\MV.le n b
 | .unit=>True
 | .clo _ e=>(e.length:Int)<=n/\MV.les n e
def MV.les (n:Int):List MV->Prop
 | []=>True
 | x::r=>MV.le n x/\MV.les n r
end
mutual
theorem MV.le_mono {n m:Int}(h:n<=m):∀{v:MV},v.le n->v.le m
 | .num k,hv=>by simp only[MV.le]at hv ⊢;omega
 | .list l,hv=>by
  simp only[MV.le]at hv ⊢;exact⟨oO,fun x hx=>by have:=hv.2 x hx;omega⟩
 | .both a b,hv=>by
  simp only[MV.le]at hv ⊢;exact⟨MV.le_mono h hv.1,MV.le_mono h hv.2⟩
 | .unit,_=>by simp only[MV.le]
 | .clo b e,hv=>by
  simp only[MV.le]at hv ⊢;exact⟨oO,MV.les_mono h hv.2⟩
theorem MV.les_mono {n m:Int}(h:n<=m):∀{l:List MV},MV.les n l->MV.les m l
 | [],_=>by simp only[MV.les]
 | x::r,hv=>by
  simp only[MV.les]at hv ⊢;exact⟨MV.le_mono h hv.1,MV.les_mono h hv.2⟩
end
end
section
variable {gl:AB}
mutual
def MV.cells:MV->List DV
 | .num n=>[A0 (n:Int),.sl [],.sl [],A0 0,A0 0,A0 0,.sl [],.sl [],.sl []]
 | .list l=>[A0 0,.sl (AH (l.map Int.ofNat)),.sl [],A0 0,A0 0,A0 0,.sl [],.sl [],.sl []]
 | .both a b=>[A0 0,.sl [],.sl [MV.cells a,MV.cells b],A0 0,A0 0,A0 0,.sl [],.sl [],.sl []]
 | .unit=>[A0 0,.sl [],.sl [],A0 0,A0 0,A0 0,.sl [],.sl [],.sl []]
 | .clo b e=>[A0 0,.sl [],.sl [],A0 b.kind,A0 b.index,A0 b.type.kind,.sl (List.map Ty.cells b.type.args),.sl (List.map Tm.cells b.args),.sl (MV.cellss e).reverse]
def MV.cellss:List MV->List (List DV)
 | []=>[]
 | x::r=>MV.cells x::MV.cellss r
end
namespace MV
theorem dH:∀l:List MV,cellss l=l.map cells
 | []=>rfl
 | x::r=>by simp only[cellss,List.map_cons,dH r]
def numF:MV->Int | .num n=>n|_=>0
def listF:MV->List Int | .list l=>l.map Int.ofNat|_=>[]
def pairF:MV->List MV | .both a b=>[a,b]|_=>[]
def bodyF:MV->Tm | .clo b _=>b|_=>AI
def envF:MV->List MV | .clo _ e=>e.reverse|_=>[]
theorem cells_eq (v:MV):v.cells=[A0 v.numF,.sl (AH v.listF),.sl (v.pairF.map cells),A0 v.bodyF.kind,A0 v.bodyF.index,A0 v.bodyF.type.kind,.sl (v.bodyF.type.args.map Ty.cells),.sl (v.bodyF.args.map Tm.cells),.sl (v.envF.map cells)]:=by
 cases v with
 | num n=>rfl
 | list l=>rfl
 | both a b=>simp only[cells,numF,listF,pairF,bodyF,envF];rfl
 | unit=>rfl
 | clo b e=>simp only[cells,numF,listF,pairF,bodyF,envF,dH,List.map_reverse];rfl
def dv (v:MV):DV:=.agg v.cells
theorem fold (v:MV):DV.agg [A0 v.numF,.sl (AH v.listF),.sl (v.pairF.map cells),A0 v.bodyF.kind,A0 v.bodyF.index,A0 v.bodyF.type.kind,.sl (v.bodyF.type.args.map Ty.cells),.sl (v.bodyF.args.map Tm.cells),.sl (v.envF.map cells)]=v.dv:=by rw[dv,cells_eq]
theorem cellsD_dv (v:MV):DN v.dv=[A0 v.numF,.sl (AH v.listF),.sl (v.pairF.map cells),A0 v.bodyF.kind,A0 v.bodyF.index,A0 v.bodyF.type.kind,.sl (v.bodyF.type.args.map Ty.cells),.sl (v.bodyF.args.map Tm.cells),.sl (v.envF.map cells)]:=by rw[dv,DN,cells_eq]
theorem isCell_dv (v:MV):v.dv.isCell=false:=rfl
theorem isAgg_dv (v:MV):v.dv.isAgg=true:=rfl
theorem length_cells (v:MV):v.cells.length=9:=by rw[cells_eq];rfl
theorem wide (l:List MV):(∀e∈List.map cells l,e.length=9)=True:=by simp[length_cells]
theorem numF_num (n:Nat):(MV.num n).numF=n:=rfl
theorem listF_list (l:List Nat):(MV.list l).listF=l.map Int.ofNat:=rfl
theorem pairF_both (a b:MV):(MV.both a b).pairF=[a,b]:=rfl
theorem bodyF_clo (b:Tm)(e:List MV):(MV.clo b e).bodyF=b:=rfl
theorem envF_clo (b:Tm)(e:List MV):(MV.clo b e).envF=e.reverse:=rfl
end MV
attribute [go_sem] MV.cells_eq MV.fold MV.cellsD_dv MV.isCell_dv MV.isAgg_dv MV.wide MV.numF_num MV.listF_list MV.pairF_both MV.bodyF_clo MV.envF_clo
end
section
variable {gl:AB}
theorem T.ty_fn (a b:T):(T.fn a b).ty=Ty.mk 4 [a.ty,b.ty]:=rfl
def gW:(a:T)->a.V->MV
 | .nat,n=>.num n
 | .list,l=>.list l
 | .unit,_=>.unit
 | .pair a b,p=>.both (gW a p.1) (gW b p.2)
 | .fn _ _,_=>.unit
theorem xV {a b:T}(p:(T.pair a b).V):B2 (.pair a b) p=Val.mk 3 0 [] [B2 a p.1,B2 b p.2]:=rfl
end
section
def O4:List T->T->T
 | [],r=>r
 | a::l,r=>.fn a (O4 l r)
def WS:(l:List T)->{r:T}->(O4 l r).V->BH l->r.V
 | [],_,f,_=>f
 | _::l,_,f,e=>WS l (f e.1) e.2
def HG:(l:List T)->BH l->List Val
 | [],_=>[]
 | a::l,e=>B2 a e.1::HG l e.2
def GC:(l:List T)->BH l->List MV
 | [],_=>[]
 | a::l,e=>gW a e.1::GC l e.2
def JJ:List T->Prop
 | []=>True
 | a::l=>a.plain/\a.ok/\JJ l
theorem VB:∀(l:List T) (X:BH l),(HG l X).length=l.length
 | [],_=>rfl
 | a::l,X=>by simp only[HG,List.length_cons,VB l X.2]
theorem gX:∀(l:List T) (X:BH l),(GC l X).length=l.length
 | [],_=>rfl
 | a::l,X=>by simp only[GC,List.length_cons,gX l X.2]
theorem z09 {r:T}:∀(l:List T) (X:BH l) (i:Nat),i<l.length->JJ l->∃(a:T) (x:a.V),(HG l X)[i]? = some (B2 a x)/\(GC l X)[i]? = some (gW a x)/\O4 (l.drop i) r = .fn a (O4 (l.drop (i+1)) r)/\a.plain/\a.ok
 | [],X,i,h,_=>absurd h (Nat.not_lt_zero _)
 | a::l,X,0,h,hp=>⟨a,X.1,rfl,rfl,rfl,hp.1,hp.2.1⟩
 | a::l,X,i+1,h,hp=>by
  obtain⟨b,x,h1,h2,h3,h4⟩:=z09 (r:=r) l X.2 i (by simpa using h) hp.2.2;exact⟨b,x,by simpa [HG] using h1,by simpa [GC] using h2,by simpa using h3,h4⟩
theorem ON {a:T}(x:a.V)(hp:a.plain)(hs:a.ok):(B2 a x).checkN=0:=by
 obtain⟨v1,v2⟩:=HU a x hp;have hs:a.size<=64:=hs;unfold Val.checkN;rw[if_pos v1,if_neg (by rw[Val.nodes_count _ v1];omega)]
theorem dI:∀(a:T) (x:a.V),a.plain->(B2 a x).tyN=a.ty
 | .nat,n,_=>by rw[Val.tyN_eq];rfl
 | .list,l,_=>by rw[Val.tyN_eq];rfl
 | .unit,_,_=>by rw[Val.tyN_eq];rfl
 | .pair a b,p,h=>by
  rw[Val.tyN_eq,xV];simp only[Val.kind,Val.args,List.map_cons,List.map_nil,dI a p.1 h.1,dI b p.2 h.2];rfl
 | .fn _ _,_,h=>h.elim
theorem pK {a:T}(x:a.V)(hp:a.plain)(hs:a.ok):(B2 a x).typeE=(a.ty,0):=by
 unfold Val.typeE;rw[ON x hp hs,dI a x hp];rfl
theorem z0a {l:List Int}:∀(n p:Nat),∃xs:List Nat,(OH l p n).1=xs.map Int.ofNat/\xs.length=n/\∀x∈xs,x<=3
 | 0,p=>⟨[],rfl,rfl,fun x h=>by cases h⟩
 | n+1,p=>by
  obtain⟨xs,h1,h2,h3⟩:=z0a (l:=l) n (AD l p 4).2;have hb:=DQ (l:=l) (p:=p) (n:=4) dD;refine⟨(AD l p 4).1.toNat::xs,?_,by simp[h2],fun x hx=>?_⟩
  ·simp only[OH,List.map_cons,h1]
   congr 1
   show _=((AD l p 4).1.toNat:Int);omega
  ·rcases List.mem_cons.1 hx with rfl|hx;· omega
   ·exact h3 x hx
theorem kZ (l:List Int):∀(a:T) (p:Nat),a.plain->∃x:a.V,(GY l a.ty p).1=B2 a x/\(gW a x).le 5
 | .nat,p,_=>by
  have hb:=DQ (l:=l) (p:=p) (n:=5) dD;refine⟨((AD l p 5).1.toNat:Nat),?_,?_⟩
  ·rw[PA,if_pos (show T.nat.ty.kind=1 from rfl)];show Val.mk 1 _ [] []=Val.mk 1 ((AD l p 5).1.toNat:Int) [] [];rw[show ((AD l p 5).1.toNat:Int)=(AD l p 5).1 from oO]
  ·show (((AD l p 5).1.toNat:Nat):Int)<=5;omega
 | .list,p,_=>by
  have hb:=DQ (l:=l) (p:=p) (n:=4) dD;obtain⟨xs,h1,h2,h3⟩:=z0a (l:=l) (AD l p 4).1.toNat (AD l p 4).2;refine⟨xs,?_,?_⟩
  ·rw[PA,if_neg (show ¬T.list.ty.kind=1 from dD),if_pos (show T.list.ty.kind=2 from rfl),h1];rfl
  ·show (xs.length:Int)<=5/\∀x∈xs,(x:Int)<=5;exact⟨oO,fun x hx=>by have:=h3 x hx;omega⟩
 | .unit,p,_=>⟨(),by rw[PA];rfl,trivial⟩
 | .pair a b,p,h=>by
  obtain⟨x,h1,h2⟩:=kZ l a p h.1;obtain⟨y,h3,h4⟩:=kZ l b (GY l a.ty p).2 h.2;refine⟨(x,y),?_,⟨h2,h4⟩⟩;rw[PA,if_neg (show ¬(T.pair a b).ty.kind=1 by simp[T.ty,Ty.kind]),if_neg (show ¬(T.pair a b).ty.kind=2 by simp[T.ty,Ty.kind]),if_pos (show (T.pair a b).ty.kind=3 from rfl)];show Val.mk 3 0 [] [_,_]=Val.mk 3 0 [] [B2 a x,B2 b y];rw[<- h1,<- h3]
 | .fn _ _,_,h=>h.elim
end
section
variable {gl:AB}
theorem CF (s:Ty)(b:Tm):cT gl 27 [s.dv,b.dv] [] (Tm.mk 2 0 s [b]).dv []:=by
 refine A6 Tryz.func27 ?_;intro X hP u6 hf u8 hn hR u5 u4;refine A2 ?_;exact BI
def EV (n:Int):List Int->Int
 | []=>n
 | x::r=>EV (max n x) r
theorem fJ (n:Int)(l r:List Int):EV n (l++r)=EV (EV n l) r:=by
 induction l generalizing n with
 | nil=>rfl
 | cons x l ih=>exact ih _
def Val.boundN:Val->Val
 | .mk k n l a=>if k=2 then .mk 1 (EV l.length l) [] [] else if k=3 then .mk 3 0 [] (bounds a) else .mk k n l a
where
 bounds:List Val->List Val
  | []=>[]
  | x::r=>x.boundN::bounds r
theorem Val.boundN_eq (v:Val):v.boundN=if v.kind=2 then .mk 1 (EV v.list.length v.list) [] [] else if v.kind=3 then .mk 3 0 [] (boundN.bounds v.args) else v:=by cases v;rw[boundN];rfl
theorem dJ (v:Val)(ht:v.two):cT gl 100 [v.dv] [] v.boundN.dv []:=by
 induction v using Val.ind with
 | h v ih=>
 obtain⟨Tw,Ln⟩:=(Val.two_eq v).1 ht;refine A6 Tryz.func100 ?_;intro X hP u6 hf u8 hn hR u5 u4;have Jy:=Val.fit_list (u4 v.dv sS);have Tx:=((Val.fit_eq v).1 ((Val.dv_fit v).1 (u4 v.dv sS))).2.2.1.2;rw[Val.boundN_eq]at hR;by_cases h2:v.kind=2
 ·rw[if_pos h2]at hR;refine A7 @h2 ?_;refine BR ?_;refine AA [] (j2 @EV.eq_1 @EV.eq_2) (DC (v.list) (fun done=>True) (fun done rest=>[sV 16 (A0 done.length),sV 15 (A0 v.list.length),sV 14 (.sl (AH v.list)),sV 3 (A0 (EV v.list.length done)),sP 2,sL 2 [.v (A0 0),.v (A0 0),.own 0 [],.own 0 []]]) (trivial) ?_ ?_)
  ·intro done x rest hL Ad hI u7;have Ac:done.length<v.list.length:=by rw[hL];simp
   have Kg:=IU Ad;have hm:EV v.list.length (done++[x])=max (EV v.list.length done) x:=fJ _ _ _;have Aj:=uE Ad;have Oe:=(N2 x).1 (Tx x Aj);refine A5 ?_;refine AQ ?_;refine A7 @Kg ?_;refine CG (wr []) @hm @Oe (u7 tT)
  ·intro _;refine A5 ?_;refine B9 ?_;refine A2 ?_;exact BI
 rw[if_neg h2]at hR;by_cases h3:v.kind=3
 ·rw[if_pos h3]at hR;have Vb:=Tw h3
  match u9:v.args,Vb with
  | [x,y],_=>
  have hx:x∈v.args:=by rw[u9];simp
  have hy:y∈v.args:=by rw[u9];simp
  rw[u9]at hR;refine A7 (j2 @h2 @h3) ?_;refine BL @u9 (ih x hx (Ln x hx)) (ih y hy (Ln y hy)) ?_;refine EO ?_;simp[go_sem,hP,u6,hn,Val.boundN.bounds] <;> (try omega);all_goals exact RH
 ·rw[if_neg h3]at hR;have Di:=Val.fold v;refine A7 (j2 @h2 @h3) ?_;exact AT @Di
abbrev zV:Val:=.mk 0 0 [] []
def Val.mValueE (v:Val):Val × Int:=if v.checkN=0 then (v.boundN,0) else (zV,v.checkN)
theorem Val.two_of (v:Val)(h:v.checkN=0):v.two:=by
 unfold Val.checkN at h;by_cases hn:v.nodesN.2=true;· exact (Val.ok_all v hn).2
 ·rw[if_neg hn]at h;exact absurd h dD
theorem z4j (v:Val)(hc:v.count<=1073741824):cT gl 37 [v.dv] [] (.tup [v.mValueE.1.dv,A0 v.mValueE.2]) []:=by
 have Zz:(if v.nodesN.2=true then if v.nodesN.1 > 64 then 4 else 0 else 2)=v.checkN:=rfl;have Hv:=WG (gl:=gl) v oO;rw[Zz]at Hv;refine A6 Tryz.func37 ?_;intro X hP u6 hf u8 hn hR u5 u4;have Di:=Val.fold v;refine A2 ?_;refine A3 @Di Hv ?_;by_cases h:v.checkN=0
 ·refine A7 @h ?_;refine A3 @Di (dJ v (Val.two_of v h)) ?_;exact AT (j2 @Val.mValueE.eq_1 @h)
 ·refine A7 @h ?_;exact AT (j3 @Val.mValueE.eq_1 @h @zV.eq_1)
def Val.overN:Val->Val->Bool
 | .mk k n l a,v=>
  if k=1/\(v.kind=1\/v.kind=2) then decide (v.boundN.num<=n)
  else if k=3/\v.kind=3 then overs a v.args else decide (k=4/\v.kind=4)
where
 overs:List Val->List Val->Bool
  | x::r,y::q=>x.overN y&&overs r q
  | _,_=>true
theorem Val.overN_eq (a v:Val):a.overN v=if a.kind=1/\(v.kind=1\/v.kind=2) then decide (v.boundN.num<=a.num)
  else if a.kind=3/\v.kind=3 then overN.overs a.args v.args else decide (a.kind=4/\v.kind=4):=by cases a;rw[overN];rfl
theorem zfa (a:Val):∀(v:Val),a.two->v.two->cT gl 101 [a.dv,v.dv] [] (AR (a.overN v)) []:=by
 induction a using Val.ind with
 | h a ih=>
 intro v ha hv;obtain⟨ha1,Zh⟩:=(Val.two_eq a).1 ha;obtain⟨Fa,Te⟩:=(Val.two_eq v).1 hv;refine A6 Tryz.func101 ?_;intro X hP u6 hf u8 hn hR u5 u4;rw[Val.overN_eq]at hR;have Dw:=Val.fold v;have Da:=Val.fold a;by_cases h1:a.kind=1
 ·by_cases h2:v.kind=1\/v.kind=2
  ·rw[if_pos ⟨h1,h2⟩]at hR;rcases h2 with h2|h2
   ·rw[h2]at Dw;refine A7 (j2 @h1 @h2) ?_;refine A3 @Dw (dJ v hv) ?_;exact AM
   ·rw[h2]at Dw;refine A7 (j2 @h1 @h2) ?_;refine A3 @Dw (dJ v hv) ?_;exact AM
  ·rw[if_neg (fun h=>h2 h.2),if_neg (fun h=>by rw[h1]at h;exact absurd h.1 dD)]at hR;have h3:¬v.kind=1:=fun h=>h2 (.inl h);have h4:¬v.kind=2:=fun h=>h2 (.inr h);refine A7 (j3 @h1 @h3 @h4) ?_;exact AC @h1
 rw[if_neg (fun h=>h1 h.1)]at hR;by_cases h3:a.kind=3
 ·by_cases h4:v.kind=3
  ·rw[if_pos ⟨h3,h4⟩]at hR;have Ot:=ha1 h3;have Hw:=Fa h4
   match u9:a.args,Ot,Gs:v.args,Hw with
   | [x,y],_,[x',y'],_=>
   have hx:x∈a.args:=by rw[u9];simp
   have hy:y∈a.args:=by rw[u9];simp
   have Cp:x'∈v.args:=by rw[Gs];simp
   have Fb:y'∈v.args:=by rw[Gs];simp
   rw[u9,Gs]at hR;simp only[Val.overN.overs,Bool.and_true]at hR;by_cases hq:x.overN x' = true
   ·refine A7 (j3 @h1 @h3 @h4) ?_;refine BL (j3 @u9 @Gs @hq) (ih x hx x' (Zh x hx) (Te x' Cp)) (ih y hy y' (Zh y hy) (Te y' Fb)) ?_;exact AC @hq
   ·have Ft:x.overN x' = false:=by simpa using hq
    refine A7 (j3 @h1 @h3 @h4) ?_;refine A3 (j3 @u9 @Gs @Ft) (ih x hx x' (Zh x hx) (Te x' Cp)) ?_;exact AC @Ft
  ·rw[if_neg (fun h=>h4 h.2)]at hR;refine A7 (j3 @h1 @h3 @h4) ?_;exact AC @h3
 ·rw[if_neg (fun h=>h3 h.1)]at hR;by_cases h5:a.kind=4
  ·refine A7 (j3 @h1 @h3 @h5) ?_;exact AC @h5
  ·refine A7 (j3 @h1 @h3 @h5) ?_;exact AC @h5
def Val.majorizesN (a v:Val):Bool:=decide (a.checkN=0)&&decide (v.checkN=0)&&a.overN v
theorem l6 (a v:Val)(hc:a.count<=1073741824)(Ek:v.count<=1073741824):cT gl 38 [a.dv,v.dv] [] (AR (a.majorizesN v)) []:=by
 have hk:∀v:Val,(if v.nodesN.2=true then if v.nodesN.1 > 64 then 4 else 0 else 2)=v.checkN:=fun _=>rfl;have ca:=WG (gl:=gl) a oO;have cv:=WG (gl:=gl) v oO;rw[hk]at ca cv;refine A6 Tryz.func38 ?_;intro X hP u6 hf u8 hn hR u5 u4;have Dw:=Val.fold v;have Da:=Val.fold a;by_cases h1:a.checkN=0
 ·by_cases h2:v.checkN=0
  ·refine A2 ?_;refine F9 (j4 @Da @Dw @h1 @h2) ca cv (zfa a v (Val.two_of a h1) (Val.two_of v h2)) ?_;exact AC (j3 @Val.majorizesN.eq_1 @h1 @h2)
  ·refine A2 ?_;refine BL (j4 @Da @Dw @h1 @h2) ca cv ?_;exact AC (j3 @Val.majorizesN.eq_1 @h1 @h2)
 ·refine A2 ?_;refine A3 (j3 @Da @Dw @h1) ca ?_;exact AC (j2 @Val.majorizesN.eq_1 @h1)
theorem EG:cT gl 47 [] [] (Ty.mk 1 []).dv []:=by
 refine A6 Tryz.func47 ?_;intro X hP u6 hf u8 hn hR u5 u4;refine A2 ?_;exact BI
theorem NP:cT gl 28 [] [] (Ty.mk 1 []).dv []:=by
 refine A6 Tryz.func28 ?_;intro X hP u6 hf u8 hn hR u5 u4;refine A2 ?_;refine A3 tT EG ?_;exact BI
theorem gY (a b:Ty):cT gl 123 [a.dv,b.dv] [] (Ty.mk 3 [a,b]).dv []:=by
 refine A6 Tryz.func123 ?_;intro X hP u6 hf u8 hn hR u5 u4;refine A2 ?_;exact BI
theorem SH (a b:Ty):cT gl 48 [a.dv,b.dv] [] (Ty.mk 4 [a,b]).dv []:=by
 refine A6 Tryz.func48 ?_;intro X hP u6 hf u8 hn hR u5 u4;refine A2 ?_;exact BI
theorem gZ (k:Int)(l:List Tm):cT gl 29 [A0 k,.sl (l.map Tm.cells)] [] (Tm.mk k 0 (Ty.mk 0 []) l).dv []:=by
 refine A6 Tryz.func29 ?_;intro X hP u6 hf u8 hn hR u5 u4;refine A2 ?_;exact BI
theorem SI (i:Int):cT gl 30 [A0 i] [] (Tm.mk 1 i (Ty.mk 0 []) []).dv []:=by
 refine A6 Tryz.func30 ?_;intro X hP u6 hf u8 hn hR u5 u4;refine A2 ?_;exact BI
end
end Go.Proofs.YtkfiobkjflmchaaGreatDoor.Lift
