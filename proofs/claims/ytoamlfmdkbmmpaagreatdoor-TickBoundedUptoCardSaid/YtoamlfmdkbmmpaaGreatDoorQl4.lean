import Derived.Test.YtoamlfmdkbmmpaaGreatDoorQl3
namespace Go.Proofs.YtoamlfmdkbmmpaaGreatDoor.Lift
set_option linter.unusedSimpArgs false
set_option linter.unusedVariables false
set_option linter.unnecessarySimpa false
open Go
section
def T.maj:T→T
 | .nat=>.nat
 | .list=>.nat
 | .unit=>.unit
 | .pair a b=>.pair a.maj b.maj
 | .fn a b=>.fn a.maj b.maj
def Ge:(b:T)→b.V→b.V→Prop
 | .nat,x,y=>Nat.le y x
 | .list,x,y=>x=y
 | .unit,_,_=>True
 | .pair a b,x,y=>Ge a x.1 y.1∧Ge b x.2 y.2
 | .fn a b,F,G=>(∀ x y:a.V,Ge a x y→Ge b (F x) (G y))∧∀ x y:a.V,Ge a x y→Ge b (F x) (F y)
def Mj:(a:T)→a.maj.V→a.V→Prop
 | .nat,m,n=>Nat.le n m
 | .list,m,l=>Nat.le (List.length l) m∧∀ x:Nat,List.Mem x l→Nat.le x m
 | .unit,_,_=>True
 | .pair a b,x,y=>Mj a x.1 y.1∧Mj b x.2 y.2
 | .fn a b,F,f=>(∀ (X:a.maj.V) (x:a.V),Mj a X x→Mj b (F X) (f x))∧∀ X Y:a.maj.V,Ge a.maj X Y→Ge b.maj (F X) (F Y)
theorem Ge.left:∀ {b:T} {x y:b.V},Ge b x y→Ge b x x
 | .nat,x,_,_=>Nat.le_refl x
 | .list,_,_,_=>rfl
 | .unit,_,_,_=>trivial
 | .pair _ _,_,_,h=>⟨Ge.left h.1,Ge.left h.2⟩
 | .fn _ _,_,_,h=>⟨h.2,h.2⟩
theorem Ge.trans:∀ {b:T} {x y z:b.V},Ge b x y→Ge b y z→Ge b x z
 | .nat,_,_,_,h,k=>Nat.le_trans k h
 | .list,_,_,_,h,k=>Eq.trans h k
 | .unit,_,_,_,_,_=>trivial
 | .pair _ _,_,_,_,h,k=>⟨Ge.trans h.1 k.1,Ge.trans h.2 k.2⟩
 | .fn _ _,_,_,_,h,k=>⟨fun x y hxy=>Ge.trans (h.1 x x hxy.left) (k.1 x y hxy),h.2⟩
theorem Mj.left:∀ {a:T} {X:a.maj.V} {x:a.V},Mj a X x→Ge a.maj X X
 | .nat,X,_,_=>Nat.le_refl X
 | .list,X,_,_=>Nat.le_refl X
 | .unit,_,_,_=>trivial
 | .pair _ _,_,_,h=>⟨Mj.left h.1,Mj.left h.2⟩
 | .fn _ _,_,_,h=>⟨h.2,h.2⟩
theorem Ge.mj:∀ {a:T} {X Y:a.maj.V} {y:a.V},Ge a.maj X Y→Mj a Y y→Mj a X y
 | .nat,_,_,_,h,k=>Nat.le_trans k h
 | .list,_,_,_,h,k=>⟨Nat.le_trans k.1 h,fun x hx=>Nat.le_trans (k.2 x hx) h⟩
 | .unit,_,_,_,_,_=>trivial
 | .pair _ _,_,_,_,h,k=>⟨Ge.mj h.1 k.1,Ge.mj h.2 k.2⟩
 | .fn _ _,_,_,_,h,k=>⟨fun U u hu=>Ge.mj (h.1 U U hu.left) (k.1 U u hu),h.2⟩
def maxD:(b:T)→b.V→b.V→b.V
 | .nat,x,y=>Nat.add x (Nat.sub y x)
 | .list,x,_=>x
 | .unit,_,_=>()
 | .pair a b,x,y=>(maxD a x.1 y.1,maxD b x.2 y.2)
 | .fn _ b,F,G=>fun x=>maxD b (F x) (G x)
def T.bare:T→Prop
 | .nat=>True
 | .list=>False
 | .unit=>True
 | .pair a b=>a.bare∧b.bare
 | .fn a b=>a.bare∧b.bare
theorem T.maj_bare:∀ a:T,a.maj.bare
 | .nat=>trivial
 | .list=>trivial
 | .unit=>trivial
 | .pair a b=>⟨a.maj_bare,b.maj_bare⟩
 | .fn a b=>⟨a.maj_bare,b.maj_bare⟩
theorem z14j {x x' y y':Nat}(h:x'≤x)(k:y'≤y):Nat.add x' (Nat.sub y' x')≤Nat.add x (Nat.sub y x):=by
 show x'+(y' - x')≤x+(y - x)
 omega
theorem z14k {x y z:Nat}(h:z≤x):z≤Nat.add x (Nat.sub y x):=by
 show z≤x+(y - x)
 omega
theorem z14l {x y z:Nat}(h:z≤y):z≤Nat.add x (Nat.sub y x):=by
 show z≤x+(y - x)
 omega
theorem z0r:T.nat.ok:=by unfold T.ok;decide
theorem z4f:∀ {b:T} {x x' y y':b.V},Ge b x x'→Ge b y y'→Ge b (maxD b x y) (maxD b x' y')
 | .nat,_,_,_,_,h,k=>z14j h k
 | .list,_,_,_,_,h,_=>h
 | .unit,_,_,_,_,_,_=>trivial
 | .pair _ _,_,_,_,_,h,k=>⟨z4f h.1 k.1,z4f h.2 k.2⟩
 | .fn _ _,_,_,_,_,h,k=>⟨fun u v huv=>z4f (h.1 u v huv) (k.1 u v huv),fun u v huv=>z4f (h.2 u v huv) (k.2 u v huv)⟩
theorem zan:∀ {b:T} {x y z:b.V},Ge b x z→Ge b y y→Ge b (maxD b x y) z
 | .nat,_,_,_,h,_=>z14k h
 | .list,_,_,_,h,_=>h
 | .unit,_,_,_,_,_=>trivial
 | .pair _ _,_,_,_,h,k=>⟨zan h.1 k.1,zan h.2 k.2⟩
 | .fn _ _,_,_,_,h,k=>⟨fun u v huv=>zan (h.1 u v huv) (k.2 u u huv.left),fun u v huv=>z4f (h.2 u v huv) (k.2 u v huv)⟩
theorem z82:∀ {b:T},b.bare→∀ {x y z:b.V},Ge b x x→Ge b y z→Ge b (maxD b x y) z
 | .nat,_,_,_,_,_,h=>z14l h
 | .list,hb,_,_,_,_,_=>hb.elim
 | .unit,_,_,_,_,_,_=>trivial
 | .pair _ _,hb,_,_,_,h,k=>⟨z82 hb.1 h.1 k.1,z82 hb.2 h.2 k.2⟩
 | .fn _ _,hb,_,_,_,h,k=>⟨fun u v huv=>z82 hb.2 (h.2 u u huv.left) (k.1 u v huv),fun u v huv=>z4f (h.2 u v huv) (k.2 u v huv)⟩
def MjE:(Γ:List T)→Env (Γ.map T.maj)→Env Γ→Prop
 | [],_,_=>True
 | a::Γ,X,x=>Mj a X.1 x.1∧MjE Γ X.2 x.2
def GeE:(Γ:List T)→Env Γ→Env Γ→Prop
 | [],_,_=>True
 | a::Γ,X,x=>Ge a X.1 x.1∧GeE Γ X.2 x.2
theorem GeE.drop {Γ:List T}:∀ (Ξ:List T) {X Y:Env (Ξ++Γ)},GeE (Ξ++Γ) X Y→GeE Γ (Env.drop Ξ X) (Env.drop Ξ Y)
 | [],_,_,h=>h
 | _::Ξ,_,_,h=>GeE.drop Ξ h.2
theorem z14m (Γ:List T):Dn Γ predT (.fn .nat .nat) (fun _ (n:Nat)=>Nat.pred n):=by
 have h:Dn Γ predT (.fn .nat .nat) _:=.lam z0r (.rc (a:=.nat) z0r .zero (.lam z0r (.lam z0r (.var (.succ .zero)))) (.var .zero))
 refine h.eq fun ρ=>funext fun n=>?_
 have key:∀ n:Nat,natRec (0:Nat) (fun k _=>k) n=Nat.pred n:=by intro n;cases n <;> rfl
 exact key n
theorem z4v (Γ:List T):Dn Γ plusT (.fn .nat (.fn .nat .nat)) (fun _ (m n:Nat)=>Nat.add m n):=by
 have h:Dn Γ plusT (.fn .nat (.fn .nat .nat)) _:=.lam z0r (.lam z0r (.rc (a:=.nat) z0r (.var (.succ .zero)) (.lam z0r (.lam z0r (.succ (.var .zero)))) (.var .zero)))
 refine h.eq fun ρ=>funext fun m=>funext fun n=>?_
 have key:∀ n:Nat,natRec (α:=Nat) m (fun _ r=>Nat.succ r) n=Nat.add m n:=by
  intro n
  induction n with
  | zero=>rfl
  | succ n ih=>simp only [natRec,ih];rfl
 exact key n
theorem zh5 (Γ:List T):Dn Γ subT (.fn .nat (.fn .nat .nat)) (fun _ (m n:Nat)=>Nat.sub m n):=by
 have h:Dn Γ subT (.fn .nat (.fn .nat .nat)) _:=.lam z0r (.lam z0r (.rc (a:=.nat) z0r (.var (.succ .zero)) (.lam z0r (.lam z0r (.app (z14m _) (.var .zero)))) (.var .zero)))
 refine h.eq fun ρ=>funext fun m=>funext fun n=>?_
 have key:∀ n:Nat,natRec (α:=Nat) m (fun _ r=>Nat.pred r) n=Nat.sub m n:=by
  intro n
  induction n with
  | zero=>rfl
  | succ n ih=>simp only [natRec,ih];rfl
 exact key n
def greatT:Tm:=lamT .nat (lamT .nat (appsT plusT [vT 1,appsT subT [vT 0,vT 1]]))
theorem zao (Γ:List T):Dn Γ greatT (.fn .nat (.fn .nat .nat)) (fun _ (m n:Nat)=>maxD .nat m n):=
 .lam z0r (.lam z0r (.app (.app (z4v _) (.var (.succ .zero))) (.app (.app (zh5 _) (.var .zero)) (.var (.succ .zero)))))
def maxT:T→Tm→Tm→Tm
 | .nat,a,b=>appsT greatT [a,b]
 | .list,_,_=>nT 13 []
 | .unit,_,_=>nT 13 []
 | .pair s t,a,b=>nT 10 [maxT s (nT 11 [a]) (nT 11 [b]),maxT t (nT 12 [a]) (nT 12 [b])]
 | .fn s t,a,b=>lamT s (maxT t (nT 3 [a.upN 0 1,vT 0]) (nT 3 [b.upN 0 1,vT 0]))
theorem z83:∀ {b:T},b.bare→b.ok→∀ {Γ:List T} {x y:Tm} {X Y:Env Γ→b.V},Dn Γ x b X→Dn Γ y b Y→Dn Γ (maxT b x y) b (fun e=>maxD b (X e) (Y e))
 | .nat,_,_,Γ,x,y,X,Y,hx,hy=>.app (.app (zao Γ) hx) hy
 | .list,hb,_,_,_,_,_,_,_,_=>hb.elim
 | .unit,_,_,_,_,_,_,_,_,_=>.unit
 | .pair s t,hb,ho,_,_,_,_,_,hx,hy=>by
  simp only [T.ok,T.size] at ho
  exact .pair (z83 hb.1 (by unfold T.ok;omega) (.fst hx) (.fst hy)) (z83 hb.2 (by unfold T.ok;omega) (.snd hx) (.snd hy))
 | .fn s t,hb,ho,Γ,x,y,X,Y,hx,hy=>by
  simp only [T.ok,T.size] at ho
  exact .lam (by unfold T.ok;omega) (z83 hb.2 (by unfold T.ok;omega) (.app (z2j hx [s]) (.var .zero)) (.app (z2j hy [s]) (.var .zero)))
def bareN:Ty→Ty
 | .mk k a=>if k=2 then Ty.mk 1 [] else Ty.mk k (bares a)
where
 bares:List Ty→List Ty
  | []=>[]
  | x::r=>bareN x::bares r
theorem z3o (a:T):a.maj.ty=bareN a.ty:=by
 induction a with
 | nat=>rfl
 | list=>rfl
 | unit=>rfl
 | pair a b iha ihb=>show Ty.mk 3 [a.maj.ty,b.maj.ty]=Ty.mk 3 [bareN a.ty,bareN b.ty];rw [iha,ihb]
 | fn a b iha ihb=>show Ty.mk 4 [a.maj.ty,b.maj.ty]=Ty.mk 4 [bareN a.ty,bareN b.ty];rw [iha,ihb]
theorem z14n (a:T):a.maj.size=a.size:=by
 induction a with
 | nat=>rfl
 | list=>rfl
 | unit=>rfl
 | pair a b iha ihb=>show 1+_+_=1+_+_;rw [iha,ihb]
 | fn a b iha ihb=>show 1+_+_=1+_+_;rw [iha,ihb]
theorem z29 {a:T}(h:a.ok):a.maj.ok:=by unfold T.ok;rw [z14n];exact h
def maxY (y:Ty)(a b:Tm):Tm:=
 match y with
 | .mk k ts=>
  if k=1 then appsT greatT [a,b]
  else match ts with
   | [s,t]=>
    if k=3 then nT 10 [maxY s (nT 11 [a]) (nT 11 [b]),maxY t (nT 12 [a]) (nT 12 [b])]
    else if k=4 then Tm.mk 2 0 s [maxY t (nT 3 [a.upN 0 1,vT 0]) (nT 3 [b.upN 0 1,vT 0])]
    else nT 13 []
   | _=>nT 13 []
termination_by SizeOf.sizeOf y
theorem z5j:∀ (a:T) (x y:Tm),maxY a.ty x y=maxT a x y
 | .nat,x,y=>by rw [maxY.eq_def];rfl
 | .list,x,y=>by rw [maxY.eq_def];rfl
 | .unit,x,y=>by rw [maxY.eq_def];rfl
 | .pair s t,x,y=>by
  rw [maxY.eq_def]
  show nT 10 [maxY s.ty _ _,maxY t.ty _ _]=_
  rw [z5j s,z5j t]
  rfl
 | .fn s t,x,y=>by
  rw [maxY.eq_def]
  show Tm.mk 2 0 s.ty [maxY t.ty _ _]=_
  rw [z5j t]
  rfl
def stepY (s:Ty)(next:Tm):Tm:=Tm.mk 2 0 (Ty.mk 1 []) [Tm.mk 2 0 s [maxY s (vT 0) next]]
def majNode (k i:Int)(y:Ty)(a l:List Tm):Tm:=
 if k=1 then Tm.mk k i y a
 else if k=2 then Tm.mk 2 0 (bareN y) l
 else if k=6 then Tm.mk 6 0 (bareN y) [l.getD 0 zeroTm,stepY (bareN y) (appsT ((l.getD 1 zeroTm).upN 0 2) [vT 1,vT 0]),l.getD 2 zeroTm]
 else if k=7 then nT 4 []
 else if k=8 then maxY (Ty.mk 1 []) (l.getD 0 zeroTm) (nT 5 [l.getD 1 zeroTm])
 else if k=9 then nT 3 [Tm.mk 2 0 (Ty.mk 1 []) [Tm.mk 6 0 (bareN y) [(l.getD 0 zeroTm).upN 0 1,stepY (bareN y) (appsT ((l.getD 1 zeroTm).upN 0 3) [vT 2,vT 2,vT 0]),vT 0]],l.getD 2 zeroTm]
 else Tm.mk k 0 (Ty.mk 0 []) l
def majT:Tm→Tm
 | .mk k i y a=>majNode k i y a (majs a)
where
 majs:List Tm→List Tm
  | []=>[]
  | x::r=>majT x::majs r
theorem z14o (l:List Tm):majT.majs l=l.map majT:=by
 induction l with
 | nil=>rfl
 | cons a r ih=>simp [majT.majs,ih]
theorem z0u (t:Tm):majT t=majNode t.kind t.index t.type t.args (t.args.map majT):=by
 cases t;rw [majT,z14o];rfl
def growR {b:T}(B:b.V)(S:Nat→b.V→b.V)(n:Nat):b.V:=natRec B (fun k r=>maxD b r (S k r)) n
theorem z4w {b:T}{B:b.V}{S:Nat→b.V→b.V}(hB:Ge b B B)(hS:∀ k r r',Ge b r r'→Ge b (S k r) (S k r')):∀ n,Ge b (growR B S n) (growR B S n)
 | 0=>hB
 | n+1=>z4f (z4w hB hS n) (hS n _ _ (z4w hB hS n))
theorem z84 {b:T}{B:b.V}{S:Nat→b.V→b.V}(hB:Ge b B B)(hS:∀ k r r',Ge b r r'→Ge b (S k r) (S k r'))(n:Nat):∀ m,Ge b (growR B S (n+m)) (growR B S n)
 | 0=>z4w hB hS n
 | m+1=>zan (z84 hB hS n m) (hS _ _ _ (z4w hB hS (n+m)))
theorem zap {b:T}{B B':b.V}{S S':Nat→b.V→b.V}(hB:Ge b B B')(hS:∀ k r r',Ge b r r'→Ge b (S k r) (S' k r')):∀ n,Ge b (growR B S n) (growR B' S' n)
 | 0=>hB
 | n+1=>z4f (zap hB hS n) (hS n _ _ (zap hB hS n))
theorem zh6 {Γ:List T}{s:T}(hs:s.bare)(ho:s.ok){next:Tm}{N:Env (s::.nat::Γ)→s.V}(h:Dn (s::.nat::Γ) next s N) :
  Dn Γ (stepY s.ty next) (.fn .nat (.fn s s)) (fun e (k:Nat) r=>maxD s r (N (r,k,e))):=by
 unfold stepY
 rw [z5j]
 exact .lam (a:=.nat) z0r (.lam ho (z83 hs ho (.var .zero) h))
theorem z14p {x p q:Nat}{l:List Nat}(h1:x≤p)(h2:l.length≤q∧∀ y:Nat,List.Mem y l→y≤q):(x::l).length≤Nat.add p (Nat.sub (Nat.succ q) p)∧∀ y:Nat,List.Mem y (x::l)→y≤Nat.add p (Nat.sub (Nat.succ q) p):=by
 have m1:p≤Nat.add p (Nat.sub (Nat.succ q) p):=Nat.le_add_right _ _
 have m2:q+1≤Nat.add p (Nat.sub (Nat.succ q) p):=by show q+1≤p+(q+1 - p);omega
 refine ⟨Nat.le_trans (Nat.succ_le_succ h2.1) m2,fun y hy=>?_⟩
 cases hy with
 | head=>exact Nat.le_trans h1 m1
 | tail _ hy=>exact Nat.le_trans (h2.2 y hy) (Nat.le_trans (Nat.le_succ _) m2)
theorem z14q {Γ:List T}{i:Nat}{a:T}{p:Env Γ→a.V}(h:At Γ i a p):∃ P:Env (Γ.map T.maj)→a.maj.V,At (Γ.map T.maj) i a.maj P∧(∀ X x,MjE Γ X x→Mj a (P X) (p x))∧∀ X Y,GeE (Γ.map T.maj) X Y→Ge a.maj (P X) (P Y):=by
 induction h with
 | zero=>exact ⟨_,.zero,fun X x h=>h.1,fun X Y h=>h.1⟩
 | succ h ih=>
  obtain ⟨P,h1,h2,h3⟩:=ih
  exact ⟨_,.succ h1,fun X x h=>h2 _ _ h.2,fun X Y h=>h3 _ _ h.2⟩
theorem MjE.left:∀ {Γ:List T} {X:Env (Γ.map T.maj)} {x:Env Γ},MjE Γ X x→GeE (Γ.map T.maj) X X
 | [],_,_,_=>trivial
 | _::_,_,_,h=>⟨Mj.left h.1,MjE.left h.2⟩
theorem GeE.left:∀ {Γ:List T} {X Y:Env Γ},GeE Γ X Y→GeE Γ X X
 | [],_,_,_=>trivial
 | _::_,_,_,h=>⟨Ge.left h.1,GeE.left h.2⟩
theorem z85 {Γ:List T}{t:Tm}{a:T}{F:Env Γ→a.V}(h:Dn Γ t a F):∃ P:Env (Γ.map T.maj)→a.maj.V,Dn (Γ.map T.maj) (majT t) a.maj P∧(∀ X x,MjE Γ X x→Mj a (P X) (F x))∧∀ X Y,GeE (Γ.map T.maj) X Y→Ge a.maj (P X) (P Y):=by
 induction h with
 | var h=>
  obtain ⟨P,h1,h2,h3⟩:=z14q h
  exact ⟨P,.var h1,h2,h3⟩
 | lam ha hb ih=>
  obtain ⟨P,h1,h2,h3⟩:=ih
  rename_i Γ a r b f
  have e:majT (lamT a b)=lamT a.maj (majT b):=by
   rw [z0u]
   show Tm.mk 2 0 (bareN a.ty) [majT b]=_
   rw [← z3o]
   rfl
  rw [e]
  refine ⟨_,.lam (z29 ha) h1,fun X x hX=>⟨fun U u hU=>h2 (U,X) (u,x) ⟨hU,hX⟩,fun U V hUV=>h3 (U,X) (V,X) ⟨hUV,hX.left⟩⟩,fun X Y hXY=>⟨fun U V hUV=>h3 (U,X) (V,Y) ⟨hUV,hXY⟩,fun U V hUV=>h3 (U,X) (V,X) ⟨hUV,hXY.left⟩⟩⟩
 | app hf hx ihf ihx=>
  obtain ⟨P,p1,p2,p3⟩:=ihf
  obtain ⟨Q,q1,q2,q3⟩:=ihx
  rename_i Γ a b f x F X
  have e:majT (nT 3 [f,x])=nT 3 [majT f,majT x]:=by rw [z0u];rfl
  rw [e]
  exact ⟨_,.app p1 q1,fun X x hX=>(p2 X x hX).1 _ _ (q2 X x hX),fun X Y hXY=>(p3 X Y hXY).1 _ _ (q3 X Y hXY)⟩
 | zero=>
  have e:majT (nT 4 [])=nT 4 []:=by rw [z0u];rfl
  rw [e]
  exact ⟨_,.zero,fun X x hX=>Nat.le_refl 0,fun X Y hXY=>Nat.le_refl 0⟩
 | succ hx ih=>
  obtain ⟨P,p1,p2,p3⟩:=ih
  rename_i Γ x X
  have e:majT (nT 5 [x])=nT 5 [majT x]:=by rw [z0u];rfl
  rw [e]
  exact ⟨_,.succ p1,fun X x hX=>Nat.succ_le_succ (p2 X x hX),fun X Y hXY=>Nat.succ_le_succ (p3 X Y hXY)⟩
 | rc ha hb hf hn ihb ihf ihn=>
  obtain ⟨B',b1,b2,b3⟩:=ihb
  obtain ⟨F',f1,f2,f3⟩:=ihf
  obtain ⟨N',n1,n2,n3⟩:=ihn
  rename_i Γ a b f n B F N
  have e:majT (Tm.mk 6 0 a.ty [b,f,n])=Tm.mk 6 0 a.maj.ty [majT b,stepY a.maj.ty (appsT ((majT f).upN 0 2) [vT 1,vT 0]),majT n]:=by
   rw [z0u,z3o];rfl
  rw [e]
  have hs:=zh6 (Γ:=Γ.map T.maj) a.maj_bare (z29 ha) (.app (.app (z2j f1 [a.maj,.nat]) (.var (.succ .zero))) (.var .zero))
  have hS:∀ X Y,GeE (Γ.map T.maj) X Y→∀ (k:Nat) (r r':a.maj.V),Ge a.maj r r'→Ge a.maj (F' X k r) (F' Y k r'):=fun X Y hXY k r r' hr=>((f3 X Y hXY).1 k k (Nat.le_refl k)).1 r r' hr
  refine ⟨fun X=>growR (B' X) (F' X) (N' X),.rc (z29 ha) b1 hs n1,fun X x hX=>?_,fun X Y hXY=>?_⟩
  ·have hB:=(b3 X X hX.left)
   have hSX:=hS X X hX.left
   have key:∀ k:Nat,Mj a (growR (B' X) (F' X) k) (natRec (B x) (F x) k):=by
    intro k
    induction k with
    | zero=>exact b2 X x hX
    | succ k ih=>
     have h1:=((f2 X x hX).1 k k (Nat.le_refl k)).1 _ _ ih
     exact Ge.mj (z82 a.maj_bare (z4w hB hSX k) (hSX k _ _ (z4w hB hSX k))) h1
   have main:∀ k M:Nat,k≤M→Mj a (growR (B' X) (F' X) M) (natRec (B x) (F x) k):=by
    intro k M hN
    obtain ⟨m,hm⟩:=Nat.le.dest hN
    have:=z84 hB hSX k m
    rw [hm] at this
    exact Ge.mj this (key k)
   exact main (N x) (N' X) (n2 X x hX)
  ·have main:∀ M M':Nat,M'≤M→Ge a.maj (growR (B' X) (F' X) M) (growR (B' Y) (F' Y) M'):=by
    intro M M' hN
    obtain ⟨m,hm⟩:=Nat.le.dest hN
    have h1:=z84 (b3 X X hXY.left) (hS X X hXY.left) M' m
    rw [hm] at h1
    exact Ge.trans h1 (zap (b3 X Y hXY) (hS X Y hXY) M')
   exact main (N' X) (N' Y) (n3 X Y hXY)
 | nil=>
  have e:majT (nT 7 [])=nT 4 []:=by rw [z0u];rfl
  rw [e]
  exact ⟨_,.zero,fun X x hX=>⟨Nat.le_refl 0,fun y hy=>by cases hy⟩,fun X Y hXY=>Nat.le_refl 0⟩
 | cons hx hl ihx ihl=>
  obtain ⟨P,p1,p2,p3⟩:=ihx
  obtain ⟨Q,q1,q2,q3⟩:=ihl
  rename_i Γ x l X L
  have e:majT (nT 8 [x,l])=maxT .nat (majT x) (nT 5 [majT l]):=by
   rw [z0u]
   show maxY (T.ty .nat) (majT x) (nT 5 [majT l])=_
   rw [z5j]
  rw [e]
  refine ⟨_,z83 (b:=.nat) trivial z0r p1 (.succ q1),fun U u hU=>?_,fun U V hUV=>?_⟩
  ·exact z14p (p2 U u hU) (q2 U u hU)
  ·exact z4f (b:=.nat) (p3 U V hUV) (Nat.succ_le_succ (q3 U V hUV))
 | fold ha hb hf hn ihb ihf ihn=>
  obtain ⟨B',b1,b2,b3⟩:=ihb
  obtain ⟨F',f1,f2,f3⟩:=ihf
  obtain ⟨N',n1,n2,n3⟩:=ihn
  rename_i Γ a b f n B F N
  have e:majT (Tm.mk 9 0 a.ty [b,f,n])=nT 3 [lamT .nat (Tm.mk 6 0 a.maj.ty [(majT b).upN 0 1,stepY a.maj.ty (appsT ((majT f).upN 0 3) [vT 2,vT 2,vT 0]),vT 0]),majT n]:=by
   rw [z0u,z3o];rfl
  rw [e]
  have hs:=zh6 (Γ:=.nat::Γ.map T.maj) a.maj_bare (z29 ha) (.app (.app (.app (z2j f1 [a.maj,.nat,.nat]) (.var (.succ (.succ .zero)))) (.var (.succ (.succ .zero)))) (.var .zero))
  have hS:∀ X Y,GeE (Γ.map T.maj) X Y→∀ (M M':Nat),M'≤M→∀ (_:Nat) (r r':a.maj.V),Ge a.maj r r'→Ge a.maj (F' X M M r) (F' Y M' M' r'):=fun X Y hXY M M' hM _ r r' hr=>(((f3 X Y hXY).1 M M' hM).1 M M' hM).1 r r' hr
  have h0:Dn (.nat::Γ.map T.maj) (Tm.mk 6 0 a.maj.ty [(majT b).upN 0 1,stepY a.maj.ty (appsT ((majT f).upN 0 3) [vT 2,vT 2,vT 0]),vT 0]) a.maj _:=.rc (z29 ha) (z2j b1 [.nat]) hs (.var .zero)
  have h1:=Dn.app (.lam (a:=.nat) z0r h0) n1
  refine ⟨fun X=>growR (B' X) (fun _ r=>F' X (N' X) (N' X) r) (N' X),h1,fun X x hX=>?_,fun X Y hXY=>?_⟩
  ·have hB:=(b3 X X hX.left)
   have main:∀ (M:Nat) (L:List Nat),L.length≤M→(∀ y,List.Mem y L→y≤M)→Mj a (growR (B' X) (fun _ r=>F' X M M r) M) (listRec (B x) (F x) L):=by
    intro M L l1 l2
    have hSX:=hS X X hX.left M M (Nat.le_refl _)
    have key:∀ l:List Nat,l.length≤M→(∀ y,List.Mem y l→y≤M)→Mj a (growR (B' X) (fun _ r=>F' X M M r) l.length) (listRec (B x) (F x) l):=by
     intro l
     induction l with
     | nil=>intro _ _;exact b2 X x hX
     | cons y r ih=>
      intro h1 h2
      have h1':r.length+1≤M:=h1
      have hr:=ih (by omega) fun z hz=>h2 z (.tail _ hz)
      have h3:=(((f2 X x hX).1 M y (h2 y (.head _))).1 M r ⟨show r.length≤M by omega,fun z hz=>h2 z (.tail _ hz)⟩).1 _ _ hr
      exact Ge.mj (z82 a.maj_bare (z4w hB hSX r.length) (hSX r.length _ _ (z4w hB hSX r.length))) h3
    obtain ⟨m,hm⟩:=Nat.le.dest l1
    have:=z84 hB hSX L.length m
    rw [hm] at this
    exact Ge.mj this (key L l1 l2)
   exact main (N' X) (N x) (n2 X x hX).1 (n2 X x hX).2
  ·have main:∀ M M':Nat,M'≤M→Ge a.maj (growR (B' X) (fun _ r=>F' X M M r) M) (growR (B' Y) (fun _ r=>F' Y M' M' r) M'):=by
    intro M M' hN
    obtain ⟨m,hm⟩:=Nat.le.dest hN
    have h1:=z84 (b3 X X hXY.left) (hS X X hXY.left M M (Nat.le_refl _)) M' m
    rw [hm] at h1
    exact Ge.trans h1 (zap (b3 X Y hXY) (hS X Y hXY M M' hN) M')
   exact main (N' X) (N' Y) (n3 X Y hXY)
 | pair hx hy ihx ihy=>
  obtain ⟨P,p1,p2,p3⟩:=ihx
  obtain ⟨Q,q1,q2,q3⟩:=ihy
  rename_i Γ a b x y X Y
  have e:majT (nT 10 [x,y])=nT 10 [majT x,majT y]:=by rw [z0u];rfl
  rw [e]
  exact ⟨_,.pair p1 q1,fun X x hX=>⟨p2 X x hX,q2 X x hX⟩,fun X Y hXY=>⟨p3 X Y hXY,q3 X Y hXY⟩⟩
 | fst hx ih=>
  obtain ⟨P,p1,p2,p3⟩:=ih
  rename_i Γ a b x X
  have e:majT (nT 11 [x])=nT 11 [majT x]:=by rw [z0u];rfl
  rw [e]
  exact ⟨_,.fst p1,fun X x hX=>(p2 X x hX).1,fun X Y hXY=>(p3 X Y hXY).1⟩
 | snd hx ih=>
  obtain ⟨P,p1,p2,p3⟩:=ih
  rename_i Γ a b x X
  have e:majT (nT 12 [x])=nT 12 [majT x]:=by rw [z0u];rfl
  rw [e]
  exact ⟨_,.snd p1,fun X x hX=>(p2 X x hX).2,fun X Y hXY=>(p3 X Y hXY).2⟩
 | unit=>
  have e:majT (nT 13 [])=nT 13 []:=by rw [z0u];rfl
  rw [e]
  exact ⟨_,.unit,fun X x hX=>trivial,fun X Y hXY=>trivial⟩
end
section
section
variable {X:Ctx}{s s0:St}{k:List Item}
def tailB (T:List Nat)(m n:Nat):Bool:=(List.range n).all fun j=>decide (j<m) || (List.range j).all fun i=>(T.getD j 0).testBit i
theorem zh7 {T:List Nat}{m n:Nat}(h:tailB T m n=true):∀ j,m≤j→j<n→∀ i,i<j→(T.getD j 0).testBit i=true:=by
 intro j hj hn i hi
 have:=List.all_eq_true.1 h j (List.mem_range.2 hn)
 rw [Bool.or_eq_true] at this
 rcases this with h1|h1
 ·exact absurd (of_decide_eq_true h1) (by omega)
 ·exact List.all_eq_true.1 h1 i (List.mem_range.2 hi)
theorem z86 {ops:Array Oper}{m:Nat}{T:List Nat}(hback:backB 0 ops.toList=true)(hfix:fixB T T ops.toList=true)(htail:∀ j,m≤j→j<ops.size→∀ i,i<j→(T.getD j 0).testBit i=true){Q:Exit→Act→World→Prop} :
  ∀ (k j fuel:Nat) (listed:Array Bool) (a:Act) (w:World),j+k=ops.size→m≤j→listed.size=ops.size→(∀ i,i<ops.size→Lof listed i=decide (i<j))→k≤fuel→wpOpsIn X.F 0 X.P ops Q (List.range' j k) a w→wpAnyIn X.F 0 X.P .any ops Q fuel listed a w
 | 0,j,fuel,listed,a,w,hjk,hm,hsz,hL,hf,hw=>by
  have hall:∀ i,i<ops.size→Lof listed i=true:=fun i hi=>by rw [hL i hi];exact decide_eq_true (by omega)
  have hr:∀ i,¬ i ∈ Region.ready .any ops listed:=by
   intro i hi
   obtain ⟨h1,o,h2,-⟩:=mem_ready.1 hi
   have hj:i<ops.size:=(Array.getElem?_eq_some_iff.1 h2).1
   rw [z34 (by omega),hall i hj] at h1
   cases h1
  have hQ:Q .normal a w:=hw
  cases fuel with
  | zero=>
   refine ⟨?_,hQ⟩
   cases hq:Region.ready .any ops listed with
   | nil=>rfl
   | cons i r=>exact absurd (by rw [hq];simp) (hr i)
  | succ fuel=>exact ⟨fun _=>hQ,fun i hi=>absurd hi (hr i)⟩
 | k+1,j,fuel,listed,a,w,hjk,hm,hsz,hL,hf,hw=>by
  obtain ⟨fuel,rfl⟩:∃ f,fuel=f+1:=⟨fuel - 1,by omega⟩
  have hjo:j<ops.size:=by omega
  have hcl:Closed ops (Lof listed):=by
   intro i o hi ho e he hb
   have hio:i<ops.size:=(Array.getElem?_eq_some_iff.1 ho).1
   have hlt:=z4p hback i o (by simpa using ho) e he hb
   rw [hL i hio] at hi
   have:=of_decide_eq_true hi
   rw [hL e.on (by omega)]
   exact decide_eq_true (by omega)
  have hj:j ∈ Region.ready .any ops listed:=by
   rw [mem_ready]
   refine ⟨by rw [z34 (by omega),hL j hjo];exact decide_eq_false (by omega),ops[j],Array.getElem?_eq_getElem hjo,fun e he hb=>?_⟩
   have hlt:=z4p hback j ops[j] (by simp [hjo]) e he hb
   show Lof listed e.on=true
   rw [hL e.on (by omega)]
   exact decide_eq_true (by omega)
  refine ⟨fun hr=>absurd hj (by rw [hr];simp),fun i hi=>?_⟩
  obtain ⟨h1,o,ho,hall⟩:=mem_ready.1 hi
  have hio:i<ops.size:=(Array.getElem?_eq_some_iff.1 ho).1
  rw [z34 (by omega),hL i hio] at h1
  have hij:j≤i:=by have:=of_decide_eq_false h1;omega
  have hall':∀ e ∈ o.after,Region.binds .any e=true→Lof listed e.on=true:=hall
  have heq:i=j:=by
   rcases Nat.lt_or_ge j i with h|h
   ·have:=z33 hback hfix hcl i o ho hall' (htail i (by omega) hio j h)
    rw [hL j hjo] at this
    exact absurd (of_decide_eq_true this) (by omega)
   ·omega
  subst heq
  rw [List.range'_succ,wpOpsIn_cons] at hw
  refine wpOpIn_mono (fun a' w' h'=>?_) hw
  refine z86 hback hfix htail k (i+1) fuel _ a' w' (by omega) (by omega) (by simpa using hsz) (fun x hx=>?_) (by omega) h'
  rw [z28 (by omega)]
  show (x == i || Lof listed x)=_
  rw [hL x hx]
  by_cases hxi:x=i
  ·subst hxi;simp
  ·have:(x == i)=false:=by simpa using hxi
   rw [this,Bool.false_or]
   congr 1
   exact propext ⟨fun h=>by omega,fun h=>by omega⟩
theorem z14r {ops ops':Array Oper}{m:Nat}{T0:List Nat}(hops:ops.toList.take m=ops'.toList)(hmn:m≤ops.size){evs:List Ev}{K:St→Prop}(hrun:RunL X ops' ops'.toList s0 evs)(hg:∀ o ∈ ops'.toList,o.guard=none)(hchk:chkB ops'.toList s0 evs=true)
  (hback0:backB 0 ops.toList=true) (hfix0:fixB T0 T0 ops.toList=true) (htail:∀ j,m≤j→j<ops.size→∀ i,i<j→(T0.getD j 0).testBit i=true) (hK:VL X ops (ops.toList.drop m) (appAll s0 evs) K) :
  ∀ (fuel:Nat) (listed:Array Bool) (G:Gh) (a:Act) (w:World),listed.size=ops.size→Closed ops (Lof listed)→(∀ j,m≤j→Lof listed j=false)→(left m listed).length+(ops.size - m)≤fuel→Rel X G (sel (Lof listed) 0 evs s0) a w →
   wpAnyIn X.F 0 X.P .any ops (Nrm X K) fuel listed a w:=by
 simp only [chkB,Bool.and_eq_true] at hchk
 obtain ⟨⟨⟨hback,hfix⟩,hfr⟩,hp⟩:=hchk
 generalize tabGo ops'.toList []=T at *
 have hsz':ops'.size=m:=by
  have:=congrArg List.length hops
  simp at this
  omega
 have hlen:evs.length=m:=by have:=z6g hrun;simp at this;omega
 have hget:∀ i,i<m→ops'[i]? = ops[i]?:=by
  intro i hi
  have h1:ops'.toList[i]? = ops.toList[i]?:=by rw [← hops,List.getElem?_take_of_lt hi]
  simpa using h1
 intro fuel
 induction fuel with
 | zero=>
  intro listed G a w hsz hcl htl hle R
  have hm0:m=ops.size:=by omega
  have hall:∀ j,j<m→Lof listed j=true:=by
   intro j hj
   cases hq:Lof listed j with
   | true=>rfl
   | false=>
    have hm:j ∈ left m listed:=by simp [left,hj,hq]
    have:=List.length_pos_of_mem hm
    omega
  refine z86 hback0 hfix0 htail 0 m 0 listed a w (by omega) (Nat.le_refl _) hsz (fun i hi=>by rw [hall i (by omega)];exact (decide_eq_true (by omega)).symm) (Nat.le_refl _) ?_
  have R':Rel X G (appAll s0 evs) a w:=R.congr fun l=>by
   rw [← za3 0]
   refine z32 evs 0 _ _ rfl fun j ev hj hne=>?_
   have hj':j<m:=by rw [← hlen];exact (List.getElem?_eq_some_iff.1 hj).1
   exact absurd (hall j hj').symm (by simpa using hne)
  have:=hK m rfl G a w R'
  have hd:(ops.toList.drop m).length=0:=by simp;omega
  rw [hd] at this
  exact this
 | succ fuel ih=>
  intro listed G a w hsz hcl htl hle R
  by_cases hall:∀ j,j<m→Lof listed j=true
  ·have R':Rel X G (appAll s0 evs) a w:=R.congr fun l=>by
    rw [← za3 0]
    refine z32 evs 0 _ _ rfl fun j ev hj hne=>?_
    have hj':j<m:=by rw [← hlen];exact (List.getElem?_eq_some_iff.1 hj).1
    exact absurd (hall j hj').symm (by simpa using hne)
   have hw:=hK m rfl G a w R'
   have hd:(ops.toList.drop m).length=ops.size - m:=by simp
   rw [hd] at hw
   refine z86 hback0 hfix0 htail (ops.size - m) m (fuel+1) listed a w (by omega) (Nat.le_refl _) hsz (fun i hi=>?_) (by omega) hw
   by_cases him:i<m
   ·rw [hall i him];exact (decide_eq_true him).symm
   ·rw [htl i (by omega)];exact (decide_eq_false him).symm
  have hex:∃ j,j<m∧Lof listed j=false:=by
   by_cases h:∃ j,j<m∧Lof listed j=false
   ·exact h
   ·exact absurd (fun j hj=>by
     cases hq:Lof listed j with
     | true=>rfl
     | false=>exact absurd ⟨j,hj,hq⟩ h) hall
  have hstuck:Region.ready .any ops listed=[]→∀ j,j<m→Lof listed j=true:=by
   intro hr j
   induction j using Nat.strongRecOn with
   | _ j ihj=>
    intro hj
    cases hq:Lof listed j with
    | true=>rfl
    | false=>
     have hjo:j<ops.size:=by omega
     have:j ∈ Region.ready .any ops listed:=by
      rw [mem_ready]
      refine ⟨by rw [z34 (by omega)];exact hq,ops[j],Array.getElem?_eq_getElem hjo,fun e he hb=>?_⟩
      have hlt:=z4p hback0 j ops[j] (by simp [hjo]) e he hb
      exact ihj e.on (by omega) (by omega)
     rw [hr] at this
     cases this
  refine ⟨fun hr=>absurd (hstuck hr) hall,fun i hi=>?_⟩
  obtain ⟨h1,o,ho,hall1⟩:=mem_ready.1 hi
  have hio:i<ops.size:=(Array.getElem?_eq_some_iff.1 ho).1
  have hil:i<listed.size:=by omega
  rw [z34 hil] at h1
  have hall':∀ e ∈ o.after,Region.binds .any e=true→Lof listed e.on=true:=hall1
  have him:i<m:=by
   rcases Nat.lt_or_ge i m with h|h
   ·exact h
   ·exact absurd (fun j hj=>z33 hback0 hfix0 hcl i o ho hall' (htail i h hio j (by omega))) hall
  have hcl':Closed ops' (Lof listed):=by
   intro j o' hL ho' e he hb
   have hj:j<m:=by have:=(Array.getElem?_eq_some_iff.1 ho').1;omega
   exact hcl j o' hL (by rw [← hget j hj];exact ho') e he hb
  have ho':ops'[i]? = some o:=by rw [hget i him];exact ho
  have hie:i<evs.length:=by omega
  have hev:evs[i]? = some evs[i]:=List.getElem?_eq_getElem hie
  have hstep:=z7q 0 hrun i o evs[i] (by simpa using ho') hev
  have hind1:∀ (j:Nat) (ev:Ev),evs[j]? = some ev→i<j→Lof listed j=true→apart evs[i] ev=true:=by
   intro j ev hj hij hL
   have hjm:j<m:=by rw [← hlen];exact (List.getElem?_eq_some_iff.1 hj).1
   have hjo:j<ops'.size:=by omega
   rcases (z2v hp i j _ ev hij hev hj).2 with h|h
   ·have:=z33 hback hfix hcl' j ops'[j] (Array.getElem?_eq_getElem hjo) (fun e he hb=>hcl' j _ hL (Array.getElem?_eq_getElem hjo) e he hb) (by simpa using h)
    rw [h1] at this;cases this
   ·exact h
  have hind2:∀ (j:Nat) (ev:Ev),evs[j]? = some ev→j<i→Lof listed j=false→apart ev evs[i]=true:=by
   intro j ev hj hij hL
   rcases (z2v hp j i ev _ hij hj hev).2 with h|h
   ·have:=z33 hback hfix hcl' i o ho' hall' (by simpa using h)
    rw [hL] at this;cases this
   ·exact h
  have hop:OpOK X ops' o (sel (Lof listed) 0 evs s0) (apply (sel (Lof listed) 0 evs s0) evs[i].e):=by
   refine hstep _ (fun l v hl=>?_) (fun d hd=>?_)
   ·obtain ⟨hfp,hg⟩:=za2 hl
    rw [← hg]
    refine z32 evs 0 _ _ rfl fun j ev hj hne hw=>?_
    simp only [Nat.zero_add] at hne
    by_cases hij:j<i
    ·cases hq:Lof listed j with
     | true=>rw [hq] at hne;simp [hij] at hne
     | false=>
      have:=hind2 j ev hj hij hq
      simp only [apart,Bool.and_eq_true,z31] at this
      exact this.1.1.1 l hw hfp
    ·cases hq:Lof listed j with
     | false=>rw [hq] at hne;simp [hij] at hne
     | true=>
      have hne':j ≠ i:=fun e=>by rw [e,h1] at hq;cases hq
      have:=hind1 j ev hj (by omega) hq
      simp only [apart,Bool.and_eq_true,z31] at this
      exact this.1.1.2 l hw hfp
   ·refine z7o evs 0 s0 (z7r hfr i _ hev d hd) fun j ev hj hL=>?_
    simp only [Nat.zero_add] at hL
    have hne':j ≠ i:=fun e=>by rw [e,h1] at hL;cases hL
    by_cases hij:j<i
    ·exact (z2v hp j i ev _ hij hj hev).1 d hd
    ·have:=hind1 j ev hj (by omega) hL
     simp only [apart,Bool.and_eq_true,z6f] at this
     simpa using this.2 d hd
  have hnext:∀ G' a' w',Rel X G' (apply (sel (Lof listed) 0 evs s0) evs[i].e) a' w'→wpAnyIn X.F 0 X.P .any ops (Nrm X K) fuel (listed.setIfInBounds i true) a' w':=by
   intro G' a' w' R'
   refine ih _ G' a' w' (by simpa using hsz) ?_ ?_ ?_ ?_
   ·rw [z28 hil]
    intro j o' hL hoj e he hb
    simp only [Bool.or_eq_true,beq_iff_eq] at hL ⊢
    rcases hL with rfl|hL
    ·rw [ho] at hoj;cases hoj
     exact .inr (hall' e he hb)
    ·exact .inr (hcl j o' hL hoj e he hb)
   ·intro j hj
    rw [z28 hil]
    show (j == i || Lof listed j)=false
    rw [htl j hj,Bool.or_false]
    simp;omega
   ·have:=za4 (n:=m) hil him h1
    omega
   ·rw [z28 hil]
    refine R'.congr fun l=>z7p h1 evs 0 s0 (Nat.zero_le _) hev fun j ev hj hlt hL hw=>?_
    simp only [Nat.zero_add] at hlt hL
    have:=hind1 j ev hj hlt hL
    simp only [apart,Bool.and_eq_true,z31] at this
    exact this.1.2 l hw
  have hgn:o.guard=none:=hg o (List.mem_of_getElem? (i:=i) (by simpa using ho'))
  have:=hop G a w R _ (Nrm X K) hnext
  unfold wpOpIn
  simp only [ho]
  have hw:∀ y,Region.wanted o y=true:=fun y=>by simp [Region.wanted,hgn]
  simp only [hw,if_true] at this ⊢
  exact this
def tailOK (ops:List Oper)(m:Nat):Bool:=
 let T:=tabGo ops []
 backB 0 ops && fixB T T ops && tailB T m ops.length && (ops.take m).all fun o=>o.guard.isNone
theorem z14s {id:Nat}{ops:Array Oper}{s:St}(hm:X.P.follows .mixedOrders=true)(m:Nat)(hmn:m≤ops.size)(hfull:tailOK ops.toList m=true)(esc esc':List Nat)
  (h:∀ K:St→Prop,(∀ s',W X k s'→K s')→vcd X esc (ops.toList.take m).toArray s (fun s'=>vc X esc' ops (ops.toList.drop m) s' K) (ops.toList.take m) s []):W X (.code (.region id ops true)::k) s:=by
 intro G a w b cs hf hk hr R
 simp only [tailOK,Bool.and_eq_true,List.all_eq_true] at hfull
 obtain ⟨⟨⟨t1,t2⟩,t3⟩,t4⟩:=hfull
 obtain ⟨evs,h1,h2,h3⟩:=z0l (h (fun s'=>W X k s') (fun _ h=>h))
 have ht:(ops.toList.take m).toArray.toList=ops.toList.take m:=rfl
 have h3':VL X ops (ops.toList.drop m) (appAll s evs) (fun s'=>W X k s'):=z1c h3
 have hany:=z14r (ops':=(ops.toList.take m).toArray) (s0:=s) rfl hmn (by rw [ht];exact h1) (fun o ho=>by have:=t4 o (by simpa using ho);cases hq:o.guard with|none=>rfl|some _=>rw [hq] at this;cases this) (by simpa using h2) t1 t2 (zh7 (by simpa using t3)) h3' ops.size (Array.replicate ops.size false) G a { w with drawn:=w.drawn+1 } (by simp) (fun j o hL=>by simp [Lof,Array.getElem?_replicate] at hL;split at hL <;> simp at hL) (fun j _=>by simp only [Lof,Array.getD_eq_getD_getElem?,Array.getElem?_replicate];split <;> rfl) (by
   have:(left m (Array.replicate ops.size false)).length≤m:=Nat.le_trans (List.length_filter_le _ _) (by simp)
   omega) (by
   rw [z4a _ _ _ (fun j _=>by simp only [Lof,Array.getD_eq_getD_getElem?,Array.getElem?_replicate];split <;> rfl)]
   exact R.drawn _)
 obtain ⟨e',a',w',⟨rfl,G',s',hK,R'⟩,harr⟩:=wpIn_region_any (F:=X.F) (n:=0) hm hany b k cs hr trivial (z9x _)
 obtain ⟨w'',fr,q1,q2⟩:=hK G' a' w' b cs hf hk hr R'
 exact ⟨w'',fr,q1,Steps.trans (StepsIn.steps harr) q2⟩
abbrev rawS (b n cap:Nat):DV:=.prim (.slice (some ⟨b,0,none⟩) n cap)
theorem z14t (A M D xs:List SV)(h:xs.length=M.length):put (A++(M++D)) A.length xs=A++(xs++D):=by
 apply List.ext_getElem?
 intro i
 rw [z58 _ _ _ _ (by simp;omega)]
 split
 ·rename_i hi
  rw [List.getElem?_append_right hi.1,List.getElem?_append_left (by omega)]
 ·rename_i hi
  by_cases h1:i<A.length
  ·rw [List.getElem?_append_left h1,List.getElem?_append_left h1]
  ·have h2:A.length+xs.length≤i:=by omega
   rw [List.getElem?_append_right (by omega),List.getElem?_append_right (by omega),List.getElem?_append_right (by omega),List.getElem?_append_right (by omega),h]
theorem z6r (l r:List (List DV)):arrRow (l++r)=arrRow l++arrRow r:=by simp [arrRow]
theorem z3p {E:Nat}{l:List (List DV)}(h:∀ e ∈ l,e.length=E):(arrRow l).length=l.length * E:=by simp only [arrRow,List.length_map];exact z6k h
theorem z14u {E:Nat}{full zs:List (List DV)}{n:Nat}(hE1:∀ e ∈ full,e.length=E)(hE2:∀ e ∈ zs,e.length=E)(hle:n+zs.length≤full.length) :
  put (arrRow full) (n * E) (arrRow zs)=arrRow (full.take n++zs++full.drop (n+zs.length)):=by
 have h1:full=full.take n++((full.drop n).take zs.length++full.drop (n+zs.length)):=by
  have:=List.take_append_drop zs.length (full.drop n)
  rw [List.drop_drop] at this
  rw [this,List.take_append_drop]
 have m1:∀ e ∈ full.take n,e.length=E:=fun e he=>hE1 e (List.mem_of_mem_take he)
 have m2:∀ e ∈ (full.drop n).take zs.length,e.length=E:=fun e he=>hE1 e (List.mem_of_mem_drop (List.mem_of_mem_take he))
 have e1:(arrRow (full.take n)).length=n * E:=by rw [z3p m1,List.length_take,Nat.min_eq_left (by omega)]
 have e2:(arrRow zs).length=(arrRow ((full.drop n).take zs.length)).length:=by rw [z3p hE2,z3p m2,List.length_take,List.length_drop,Nat.min_eq_left (by omega)]
 have h2:arrRow full=arrRow (full.take n)++(arrRow ((full.drop n).take zs.length)++arrRow (full.drop (n+zs.length))):=by rw [← z6r,← z6r,← h1]
 rw [h2,← e1,z14t _ _ _ _ e2,z6r,z6r,List.append_assoc]
theorem z14v {G:Gh}{w:World}{E:Nat}{zs:List (List DV)}{g:Nat→Value}(hE:∀ e ∈ zs,e.length=E)(h:Laid G.D w E zs g):RowOf G w (arrRow zs) (arr g (zs.length * E)):=by
 have hl:=z6k hE
 refine ⟨by rw [z46,z3p hE],fun i x v hx hv=>?_⟩
 simp only [arrRow,List.getElem?_map] at hx
 cases hd0:zs.flatten[i]? with
 | none=>rw [hd0] at hx;cases hx
 | some dd=>
  rw [hd0] at hx
  cases hx
  obtain ⟨i1,j1,e1,k1,k2,rfl⟩:=zab hE hd0
  have hj:j1<E:=by rw [← hE e1 (List.mem_of_getElem? k1)];exact (List.getElem?_eq_some_iff.1 k2).1
  have hi:i1<zs.length:=(List.getElem?_eq_some_iff.1 k1).1
  rw [z47 _ _ _ (z2u hi hj)] at hv
  cases hv
  exact h i1 j1 e1 dd k1 k2
theorem z14w {zs:List (List DV)}(h:∀ e ∈ zs,∀ c ∈ e,DV.isCell c=true):cellBS (arrRow zs)=true:=by
 rw [z9q]
 intro x hx
 simp only [arrRow,List.mem_map,List.mem_flatten] at hx
 obtain ⟨d,⟨e,he,hd⟩,rfl⟩:=hx
 exact h e he d hd
theorem zh8 {o:Oper}{x y:Operand}{T T2:TypeId}(ho:o.op = .call { callee:=.builtin .append,args:=#[x,y],argTypes:=#[T,T2] }){d:Nat}(hd:o.dst=some d)(hn:d<X.n)
  {E B:Nat} (he:elemZ X.P T=some (E,B)) (h2:(elemT X.P T2).isSome=true) {b n cap:Nat} {full zs:List (List DV)} (hx:evl X (get s) x=some (.v (rawS b n cap))) (hy:(evl X (get s) y).bind slOf=some zs)
  (hrow:get s (.heap b)=some (.row (arrRow full))) (hfl:full.length=cap) (hle:n+zs.length≤cap) (hE1:∀ e ∈ full,e.length=E) (hE2:∀ e ∈ zs,e.length=E) :
  StepOK X s o (upd (upd s (.heap b) (.row (arrRow (full.take n++zs++full.drop (n+zs.length))))) (.slot d) (.one (.v (rawS b (n+zs.length) cap)))):=by
 intro G a w R next Q hK
 have hv:=(z0o (z0d R hx)).1
 obtain ⟨q,hq,hq'⟩:=Option.bind_eq_some_iff.1 hy
 obtain ⟨yb,ycap,hyv,hyr,-⟩:=z45 hq' (z0d R hq)
 obtain ⟨c2,g,g1,g2,g3⟩:=z6d hyr hE2
 have hle2:n * E+(arrRow zs).length≤(arrRow full).length:=by
  rw [z3p hE1,z3p hE2,← Nat.add_mul,hfl];exact Nat.mul_le_mul_right _ hle
 obtain ⟨w',h1,h2'⟩:=R.storeRow hrow rfl (b:=b) rfl (z14v hE2 g1) (z14w c2) hle2
 have hrun:=z9t (P:=X.P) (t:=T) (ty:=o.type) (t2:=T2) (w:=w) he h2 (base:=some ⟨b,0,none⟩) (len:=n) (cap:=cap) (z4n (P:=X.P) hyr w) (z48 (P:=X.P) g3) hle (w':=w') (by simp only [z27,Nat.zero_add];exact h1)
 rw [← hv] at hrun
 refine opIn (by intro c e;rw [ho] at e;cases e) ?_
 have hexec:(execOp a.eval o).run X.P w = .ok (.value (.slice (some ⟨b,0,none⟩) (n+zs.length) cap)) w':=by
  simp [execOp,ho,resolve,invoke,builtin,hrun]
 rw [hexec,z1y,hd]
 rw [z14u hE1 hE2 (by omega)] at h2'
 exact hK G _ w' (h2'.setSlot (Trans.refl X G a w' R.nil) rfl rfl (fun _ h=>h) hn (.prim _ trivial))
theorem Rel.newArr {G:Gh}{a:Act}{w:World}(R:Rel X G s a w){d:Nat}(hn:d<X.n){w1:World}(hw1:w1.heap=w.heap){c:Array Value}{e:TypeId}{E:Nat}{full:List (List DV)}{n cap:Nat}
  (T':Trans X G a w G (a.put (some d) (.slice (some ⟨w.heap.size,0,none⟩) n cap)) (w1.alloc (.cells c e)) (fun _=>False))
  (hE:∀ e ∈ full,e.length=E) (hcell:∀ e ∈ full,∀ c ∈ e,DV.isCell c=true) (hc:full.length * E≤c.size) (hget:∀ (i j:Nat) (e:List DV) (dd:DV),full[i]? = some e→e[j]? = some dd→∃ v,c[i * E+j]? = some v∧RV G.D w dd v) :
  Rel X G (upd (upd s (.slot d) (.one (.v (rawS w.heap.size n cap)))) (.heap w.heap.size) (.row (arrRow full))) (a.put (some d) (.slice (some ⟨w.heap.size,0,none⟩) n cap)) (w1.alloc (.cells c e)):=by
 have hp:=z3k a (some d) (.slice (some ⟨w.heap.size,0,none⟩) n cap)
 refine R.step T' (fun l u=>(l = .slot d∧u = .one (.v (rawS w.heap.size n cap)))∨(l = .heap w.heap.size∧u = .row (arrRow full))) (fun l u h=>?_) (fun l u h=>?_) (fun l u l' u' b h h' hb hb'=>?_)
 ·rw [z0h,z0h] at h
  by_cases h1:Loc.heap w.heap.size=l
  ·rw [if_pos h1] at h;cases h;exact .inl (.inr ⟨h1.symm,rfl⟩)
  ·rw [if_neg h1] at h
   by_cases h3:Loc.slot d=l
   ·rw [if_pos h3] at h;cases h;exact .inl (.inl ⟨h3.symm,rfl⟩)
   ·rw [if_neg h3] at h
    exact .inr ⟨h,fun n hn=>z5b _ _ _ _ (fun e=>h3 (by rw [hn,e])),fun b hb hBb=>hBb.elim,fun _ _=>rfl,fun _ _=>rfl⟩
 ·rcases h with ⟨rfl,rfl⟩|⟨rfl,rfl⟩
  ·refine ⟨?_,fun b hb=>by cases hb⟩
   show RSV G _ (.v _) _
   rw [z5a _ _ _ (by rw [R.size];exact hn)]
   exact .prim _ trivial
  ·refine ⟨⟨c,e,?_,?_,fun i x hx=>?_⟩,fun b hb=>?_⟩
   ·have:=z6b w1 (.cells c e)
    rw [hw1] at this
    exact this
   ·rw [z3p hE];exact hc
   ·simp only [arrRow,List.getElem?_map] at hx
    cases hd0:full.flatten[i]? with
    | none=>rw [hd0] at hx;cases hx
    | some dd=>
     rw [hd0] at hx
     cases hx
     obtain ⟨i1,j1,e1,k1,k2,rfl⟩:=zab hE hd0
     obtain ⟨v,hv,hr⟩:=hget i1 j1 e1 dd k1 k2
     exact ⟨hcell e1 (List.mem_of_getElem? k1) dd (List.mem_of_getElem? k2),v,hv,hr.mono T'.grow⟩
   ·cases hb
    exact ⟨.inl (Nat.le_refl _),.inl R.ext.size,fun _ o hD=>absurd (R.wf.lt hD) (Nat.lt_irrefl _)⟩
 ·rcases h with ⟨rfl,rfl⟩|⟨rfl,rfl⟩
  ·cases hb
  ·rcases h' with ⟨rfl,rfl⟩|⟨rfl,rfl⟩
   ·cases hb'
   ·rfl
theorem zaq {G:Gh}{a:Act}{w:World}(R:Rel X G s a w):newB w.heap.size s:=z5g fun v hv=>by
 have hh:=R.holds _ _ hv
 cases v with
 | row cs=>exact absurd (z1x hh rfl) (Nat.lt_irrefl _)
 | ob r=>exact absurd (z1x hh rfl) (Nat.lt_irrefl _)
 | mp l=>exact absurd (z1x hh rfl) (Nat.lt_irrefl _)
 | one x=>exact hh.elim
 | tk E n=>exact hh.elim
def zeroE (P:Program)(T:TypeId):Option (List DV):=
 match P.underlying T with
 | some (.slice e)=>(zeroT P e).bind toDs
 | _=>none
theorem zh9 {E i j:Nat}(hj:j<E):(i * E+j) % E=j:=by
 rw [Nat.mul_comm,Nat.mul_add_mod];exact Nat.mod_eq_of_lt hj
theorem zha {P:Program}{w:World}{t ty t2 E B:Nat}(he:elemZ P t=some (E,B))(hB:0<B∧B≤1024)(h2:(elemT P t2).isSome=true){base:Option Addr}{len cap:Nat}{x:Value}{n:Nat}{old new:Array Value}
  (hx:∀ w',w'.heap=w.heap→(Builtin.lenOf x).run P w' = .ok n w') (hn:∀ w',w'.heap=w.heap→(Builtin.firstCells E n x).run P w' = .ok new w') (ho:∀ w',w'.heap=w.heap→(Builtin.firstCells E len (.slice base len cap)).run P w' = .ok old w')
  (hle:¬ len+n≤cap) (hbig:len+n≤BIG) (h1:old.size=len * E) (h3:new.size=n * E) {zd:List DV} (hz:zeroE P t=some zd) :
  zd.length=E∧∃ c e nc,(Builtin.append_ #[t,t2] ty #[.slice base len cap,x]).run P w = .ok (.slice (some ⟨w.heap.size,0,none⟩) (len+n) nc) (w.drew.alloc (.cells c e))∧len+n≤nc∧c.size=nc * E∧(∀ k,k<len * E→c[k]? = old[k]?)∧(∀ k,k<n * E→c[len * E+k]? = new[k]?) ∧
   ∀ (G:Gh) (w':World),G.τ 0=(none,0)→∀ (i j:Nat) (dd:DV),i<nc - (len+n)→zd[j]? = some dd→∃ v,c[(len+n+i) * E+j]? = some v∧RV G.D w' dd v:=by
 obtain ⟨e,i,z,hu,hi,hzv,hzs,his,hib⟩:=z6c he
 obtain ⟨E2,hE2⟩:=Option.isSome_iff_exists.1 h2
 obtain ⟨e2,i2,hu2,-,-⟩:=z3i hE2
 have hzz:∃ cs,zeroS z.cells.toList=some cs∧toDs cs=some zd:=by
  simp only [zeroE,hu,zeroT,hi,hzv] at hz
  exact Option.bind_eq_some_iff.1 hz
 obtain ⟨zcs,hz1,hz2⟩:=hzz
 have hzl:zd.length=E:=by
  have h0:RowOf { D:=fun _ _=>False,ν:=fun _=>0,τ:=fun _=>(none,0) } w zcs z.cells.toList.toArray:=z69 rfl hz1
  have:=(z7h h0 hz2).1
  rw [← this]
  simpa using hzs
 refine ⟨hzl,?_⟩
 unfold BIG at hbig
 have hcap:¬ (Builtin.nextslicecap (len+n) cap * B > 2 ^ 48):=by
  have:=zfh (need:=len+n) (cap:=cap) (by omega)
  have:Builtin.nextslicecap (len+n) cap * B≤(2 * (len+n)+600) * 1024:=Nat.mul_le_mul this hB.2
  omega
 let q:Question:=.appendCap (len+n) cap e
 let nc:=q.cut (w.tape w.drawn q)
 have hnc:len+n≤nc:=by show len+n≤_;simp [nc,q,Question.cut]
 have hzc:(Builtin.zeroCells z.cells (nc - (len+n))).size=(nc - (len+n)) * E:=by simp [Builtin.zeroCells,hzs]
 refine ⟨old++new++Builtin.zeroCells z.cells (nc - (len+n)),e,nc,?_,hnc,?_,fun k hk=>?_,fun k hk=>?_,fun G w' hG i j dd hi' hj=>?_⟩
 ·unfold Builtin.append_
  have hc':¬ (2 ^ 48<Builtin.nextslicecap (len+n) cap * B):=hcap
  simp [run_underlying hu,run_underlying hu2,sizeOf,typeInfo,hi,his,hx w rfl,hle,hib,hc',Question.forced,ho (w.drew) rfl,hn (w.drew) rfl,zeroValue,hzv,newRow,nc,q]
  intro h
  omega
 ·simp [h1,h3,Builtin.zeroCells,hzs]
  rw [← Nat.add_mul,← Nat.add_mul]
  congr 1;omega
 ·rw [Array.getElem?_append_left (by simp [h1,h3];omega),Array.getElem?_append_left (by omega)]
 ·rw [Array.getElem?_append_left (by simp [h1,h3];omega),Array.getElem?_append_right (by omega),h1]
  congr 1;omega
 ·have hjE:j<E:=by rw [← hzl];exact (List.getElem?_eq_some_iff.1 hj).1
  have hlt:i * E+j<(nc - (len+n)) * E:=z2u hi' hjE
  have hrow:RowOf G w' zcs z.cells.toList.toArray:=z69 hG hz1
  have hr:=(z7h hrow hz2).2 j dd
  simp only [Array.toArray_toList] at hr
  have hjz:j<z.cells.size:=by omega
  refine ⟨z.cells[j],?_,hr _ hj (Array.getElem?_eq_getElem hjz)⟩
  have hsz:(old++new).size=(len+n) * E:=by simp [h1,h3,Nat.add_mul]
  have e1:(len+n+i) * E+j=(old++new).size+(i * E+j):=by rw [hsz,Nat.add_mul (len+n) i E];omega
  rw [e1,Array.getElem?_append_right (Nat.le_add_right _ _),Nat.add_sub_cancel_left]
  have hs2:i * E+j<(nc - (len+n)) * z.cells.size:=by rw [hzs];exact hlt
  simp only [Builtin.zeroCells]
  rw [Array.getElem?_map,Array.getElem?_range,if_pos hs2]
  simp only [Option.map_some,hzs,zh9 hjE]
  rw [getElem!_pos z.cells j hjz]
theorem z5k {E:Nat}:∀ {ys:List (List DV)},(∀ e ∈ ys,e.length=E)→∀ {i j:Nat} {e:List DV} {d:DV},ys[i]? = some e→e[j]? = some d→ys.flatten[i * E+j]? = some d
 | [],_,i,j,e,d,h,_=>by simp at h
 | y::r,hE,0,j,e,d,h,hd=>by
  simp at h
  subst h
  rw [List.flatten_cons,Nat.zero_mul,Nat.zero_add,List.getElem?_append_left (List.getElem?_eq_some_iff.1 hd).1]
  exact hd
 | y::r,hE,i+1,j,e,d,h,hd=>by
  have hy:=hE y (by simp)
  have ih:=z5k (ys:=r) (fun e he=>hE e (List.mem_cons_of_mem _ he)) (by simpa using h) hd
  rw [List.flatten_cons,List.getElem?_append_right (by rw [hy,Nat.add_mul];omega),hy]
  rw [show (i+1) * E+j - E=i * E+j from by rw [Nat.add_mul];omega]
  exact ih
theorem z14x {o:Oper}{x y:Operand}{T T2:TypeId}(ho:o.op = .call { callee:=.builtin .append,args:=#[x,y],argTypes:=#[T,T2] }){d:Nat}(hd:o.dst=some d)(hn:d<X.n)
  {E B:Nat} (he:elemZ X.P T=some (E,B)) (hB:0<B∧B≤1024) (h2:(elemT X.P T2).isSome=true) {b n cap:Nat} {full zs:List (List DV)} {zd:List DV} (hx:evl X (get s) x=some (.v (rawS b n cap))) (hy:(evl X (get s) y).bind slOf=some zs)
  (hrow:get s (.heap b)=some (.row (arrRow full))) (hfl:full.length=cap) (hnc:n≤cap) (hnf:cap<n+zs.length) (hbig:n+zs.length≤BIG) (hE1:∀ e ∈ full,e.length=E) (hE2:∀ e ∈ zs,e.length=E) (hz:zeroE X.P T=some zd) (hzc:cellB zd=true)
  {G:Gh} {a:Act} {w:World} (R:Rel X G s a w) (next:Act→World→Prop) (Q:Exit→Act→World→Prop)
  (hK:∀ b' cap',n+zs.length≤cap'→newB b' s→X.w0.heap.size≤b'→∀ G' a' w',Rel X G' (upd (upd s (.slot d) (.one (.v (rawS b' (n+zs.length) cap')))) (.heap b') (.row (arrRow (full.take n++zs++List.replicate (cap' - (n+zs.length)) zd)))) a' w'→next a' w') :
  o.wpIn X.F 0 X.P a w next Q:=by
 have hv:=(z0o (z0d R hx)).1
 obtain ⟨q,hq,hq'⟩:=Option.bind_eq_some_iff.1 hy
 obtain ⟨yb,ycap,hyv,hyr,-⟩:=z45 hq' (z0d R hq)
 obtain ⟨c2,g,g1,g2,g3⟩:=z6d hyr hE2
 obtain ⟨c0,e0,k1,k2,k3⟩:BlkAt G w b (arrRow full):=R.holds _ _ hrow
 rw [z3p hE1] at k2
 have hnE:n * E≤full.length * E:=Nat.mul_le_mul_right _ (by omega)
 have hdr:∀ w':World,w'.heap=w.heap→(Builtin.firstCells E zs.length (a.eval y)).run X.P w' = .ok (arr g (zs.length * E)) w':=fun w' hw=>by
  refine z48 (D:=G.D) ?_
  rcases g3 with h|⟨b,o',cap,h,hc⟩
  ·exact .inl h
  ·exact .inr ⟨b,o',cap,h,fun k hk=>by rw [z5c hw];exact hc k hk⟩
 have hdo:∀ w':World,w'.heap=w.heap→(Builtin.firstCells E n (.slice (some ⟨b,0,none⟩) n cap)).run X.P w' = .ok (arr (fun k=>(c0[k]?).getD undef) (n * E)) w':=fun w' hw=>by
  simp only [Builtin.firstCells]
  refine zbz b 0 (n * E) _ (fun k hk=>?_)
  have hlt:k<c0.size:=by omega
  rw [z5c hw,Nat.zero_add]
  simp [World.cell?,k1,hlt]
 obtain ⟨hzl,c,e,nc,r1,r2,r3,r4,r5,r6⟩:=zha (P:=X.P) (t:=T) (ty:=o.type) (t2:=T2) (w:=w) he hB h2 (base:=some ⟨b,0,none⟩) (len:=n) (cap:=cap) (fun w' _=>z4n (P:=X.P) hyr w') hdr hdo (by omega) hbig (z46 _ _) (z46 _ _) hz
 rw [← hv] at r1
 have hexec:(execOp a.eval o).run X.P w = .ok (.value (.slice (some ⟨w.heap.size,0,none⟩) (n+zs.length) nc)) (w.drew.alloc (.cells c e)):=by
  simp [execOp,ho,resolve,invoke,builtin,r1]
 refine opIn (by intro c e;rw [ho] at e;cases e) ?_
 rw [hexec,z1y,hd]
 have hp:=z3k a (some d) (.slice (some ⟨w.heap.size,0,none⟩) (n+zs.length) nc)
 have T':Trans X G a w G (a.put (some d) (.slice (some ⟨w.heap.size,0,none⟩) (n+zs.length) nc)) (w.drew.alloc (.cells c e)) (fun _=>False):=by
  refine ⟨hp.1,fun h=>(h.heap fun b hb=>z1t w.drew _ b hb).put hp.2,rfl,rfl,rfl,by simp,fun b hb _=>z1t w.drew _ b hb,fun _ h=>h.elim,fun b k hD=>⟨hD,World.cell?_alloc_lt w.drew _ _ (R.wf.lt hD)⟩,fun b k hD hnD=>absurd hD hnD,R.nil⟩
 refine hK w.heap.size nc r2 (zaq R) R.ext.size G _ _ (R.newArr hn (w1:=w.drew) rfl T' (E:=E) ?_ ?_ ?_ ?_)
 ·intro e he
  rcases List.mem_append.1 he with he|he
  ·rcases List.mem_append.1 he with he|he
   ·exact hE1 e (List.mem_of_mem_take he)
   ·exact hE2 e he
  ·rw [(List.mem_replicate.1 he).2];exact hzl
 ·intro e he d hd
  rcases List.mem_append.1 he with he|he
  ·rcases List.mem_append.1 he with he|he
   ·have he:=List.mem_of_mem_take he
    obtain ⟨i,hi⟩:=List.mem_iff_getElem?.1 he
    obtain ⟨j,hj⟩:=List.mem_iff_getElem?.1 hd
    exact (k3 (i * E+j) (.v d) (by simp only [arrRow,List.getElem?_map,z5k hE1 hi hj,Option.map_some])).1
   ·exact c2 e he d hd
  ·rw [(List.mem_replicate.1 he).2] at hd
   exact (z6a zd).1 hzc d hd
 ·rw [r3]
  simp only [List.length_append,List.length_take,List.length_replicate]
  exact Nat.mul_le_mul_right _ (by omega)
 ·intro i j e dd hi hj
  have hl1:(full.take n).length=n:=by rw [List.length_take,Nat.min_eq_left (by omega)]
  rw [List.append_assoc] at hi
  rcases Nat.lt_or_ge i n with h|h
  ·rw [List.getElem?_append_left (by omega),List.getElem?_take_of_lt h] at hi
   have hjE:j<E:=by rw [← hE1 e (List.mem_of_getElem? hi)];exact (List.getElem?_eq_some_iff.1 hj).1
   have hlt:=z2u h hjE
   obtain ⟨-,v,q1,q2⟩:=k3 (i * E+j) (.v dd) (by simp only [arrRow,List.getElem?_map,z5k hE1 hi hj,Option.map_some])
   refine ⟨v,?_,q2⟩
   rw [r4 _ hlt,z47 _ _ _ hlt,q1]
   rfl
  ·rw [List.getElem?_append_right (by omega),hl1] at hi
   rcases Nat.lt_or_ge (i - n) zs.length with h' | h'
   ·rw [List.getElem?_append_left h'] at hi
    have hjE:j<E:=by rw [← hE2 e (List.mem_of_getElem? hi)];exact (List.getElem?_eq_some_iff.1 hj).1
    have hlt:=z2u h' hjE
    refine ⟨_,?_,g1 _ _ _ _ hi hj⟩
    have e1:i * E+j=n * E+((i - n) * E+j):=by rw [← Nat.add_assoc,← Nat.add_mul];congr 2;omega
    rw [e1,r5 _ hlt,z47 _ _ _ hlt]
   ·rw [List.getElem?_append_right h'] at hi
    obtain ⟨hi1,hi2⟩:e=zd∧i - n - zs.length<nc - (n+zs.length):=by
     have hm:=List.mem_of_getElem? hi
     have hlt:=(List.getElem?_eq_some_iff.1 hi).1
     simp only [List.length_replicate] at hlt
     exact ⟨(List.mem_replicate.1 hm).2,hlt⟩
    subst hi1
    obtain ⟨v,q1,q2⟩:=r6 G w R.nil (i - n - zs.length) j dd hi2 hj
    refine ⟨v,?_,q2⟩
    rw [show n+zs.length+(i - n - zs.length)=i from by omega] at q1
    exact q1
theorem z14y {esc:List Nat}{ops:Array Oper}{l:List Oper}{K:St→Prop}{d:Tmp}{x y:Operand}{T T2 ty:TypeId}{pos:String}{af:Array Edge}{q:Option (Prop × St)}
  {E B b n cap:Nat} {full zs:List (List DV)} {zd:List DV} (hx:evl X (get s) x=some (.v (rawS b n cap))) (hy:(evl X (get s) y).bind slOf=some zs) (hrow:get s (.heap b)=some (.row (arrRow full)))
  (he:elemZ X.P T=some (E,B)) (hz:zeroE X.P T=some zd) (hzc:cellB zd=true) (hB:0<B∧B≤1024) (h2:(elemT X.P T2).isSome=true) (hn:d<X.n)
  (hfl:full.length=cap) (hnc:n≤cap) (hbig:n+zs.length≤BIG) (hE1:∀ e ∈ full,e.length=E) (hE2:∀ e ∈ zs,e.length=E) (hq:q=none)
  (h1:n+zs.length≤cap→vc X esc ops l (upd (upd s (.heap b) (.row (arrRow (full.take n++zs++full.drop (n+zs.length))))) (.slot d) (.one (.v (rawS b (n+zs.length) cap)))) K)
  (h3:cap<n+zs.length→∀ b' cap',n+zs.length≤cap'→newB b' s→X.w0.heap.size≤b'→vc X esc ops l (upd (upd s (.slot d) (.one (.v (rawS b' (n+zs.length) cap')))) (.heap b') (.row (arrRow (full.take n++zs++List.replicate (cap' - (n+zs.length)) zd)))) K) :
  vcK X esc ops l K ⟨some d,.call { callee:=.builtin .append,args:=#[x,y],argTypes:=#[T,T2] },ty,pos,af,none⟩ s q:=by
 subst hq
 rcases Nat.lt_or_ge cap (n+zs.length) with h|h
 ·intro m hm G a w R0
  obtain ⟨p1,p3⟩:=z2g hm
  simp only [List.length_cons,List.range'_succ,wpOpsIn,p1,Region.wanted,if_true]
  refine z14x (o:=⟨some d,.call { callee:=.builtin .append,args:=#[x,y],argTypes:=#[T,T2] },ty,pos,af,none⟩) rfl rfl hn he hB h2 hx hy hrow hfl hnc h hbig hE1 hE2 hz hzc R0 _ _ fun b' cap' hc hb hw G' a' w' R'=>?_
  exact z1c (h3 h b' cap' hc hb hw) (m+1) p3 G' a' w' R'
 ·exact z4o rfl (zh8 (o:=⟨some d,.call { callee:=.builtin .append,args:=#[x,y],argTypes:=#[T,T2] },ty,pos,af,none⟩) rfl rfl hn he h2 hx hy hrow hfl h hE1 hE2) (z1c (h1 h))
theorem z14z {o:Oper}{t len E B:Nat}{parts:Array (Nat × Operand)}(ho:o.op = .buildSlice t len parts){d:Nat}(hd:o.dst=some d)(hn:d<X.n)(he:elemZ X.P t=some (E,B)){els:List (List DV)}
  (h:litEls X (get s) E 0 parts.toList=some els) (hlen:els.length=len) (hb:len * E≤16777216)
  {G:Gh} {a:Act} {w:World} (R:Rel X G s a w) (next:Act→World→Prop) (Q:Exit→Act→World→Prop)
  (hK:∀ b,newB b s→X.w0.heap.size≤b→∀ G' a' w',Rel X G' (upd (upd s (.slot d) (.one (.v (rawS b len len)))) (.heap b) (.row (arrRow els))) a' w'→next a' w') :
  o.wpIn X.F 0 X.P a w next Q:=by
 obtain ⟨e,i,z,hu,hi,hz,hzs,his,hib⟩:=z6c he
 subst hlen
 have hsz0:((Array.range (els.length * E)).map fun k=>(if els.length * E=0 then #[] else z.cells)[k % (if els.length * E=0 then #[] else z.cells).size]!).size=els.length * E:=by simp
 obtain ⟨q1,q2,q3,c',f1,f2,f3,f4⟩:=zbx R E parts.toList 0 els ((Array.range (els.length * E)).map fun k=>(if els.length * E=0 then #[] else z.cells)[k % (if els.length * E=0 then #[] else z.cells).size]!) h (by rw [hsz0,Nat.zero_add];exact Nat.le_refl _)
 rw [hsz0] at f2
 have hrun:(Instr.buildSlice t els.length (parts.map fun (i,x)=>(i,a.eval x))).run X.P w = .ok (.slice (some ⟨w.heap.size,0,none⟩) els.length els.length) (w.alloc (.cells c' e)):=by
  have hne:¬ (els.length * E > 2 ^ 24):=by omega
  have hf:Instr.fill (fun k=>some (k * E,E)) ((Array.range (els.length * E)).map fun k=>(if els.length * E=0 then #[] else z.cells)[k % (if els.length * E=0 then #[] else z.cells).size]!) ((parts.map fun (q:Nat × Operand)=>(q.1,a.eval q.2)).toList)=some c':=by
   rw [Array.toList_map];exact f1
  unfold Instr.buildSlice
  simp only [run_underlying hu,sizeOf,typeInfo,hi,his,Sem.run_bind,Sem.run_pure,run_program,Result.andThen_ok,hne,if_false]
  by_cases h0:els.length * E=0
  ·simp only [if_pos h0] at hf ⊢
   simp only [Sem.run_bind,Sem.run_pure,Result.andThen_ok,hf,newRow,run_newObj]
   rfl
  ·simp only [if_neg h0] at hf ⊢
   simp only [zeroValue,typeInfo,run_program,hi,hz,Sem.run_bind,Sem.run_pure,Result.andThen_ok,hf,newRow,run_newObj]
   rfl
 refine opIn (by intro c e;rw [ho] at e;cases e) ?_
 have hexec:(execOp a.eval o).run X.P w = .ok (.value (.slice (some ⟨w.heap.size,0,none⟩) els.length els.length)) (w.alloc (.cells c' e)):=by
  simp only [execOp,ho,Sem.run_bind,hrun,Result.andThen_ok,Sem.run_pure]
 rw [hexec,z1y,hd]
 have hp:=z3k a (some d) (.slice (some ⟨w.heap.size,0,none⟩) els.length els.length)
 have T':Trans X G a w G (a.put (some d) (.slice (some ⟨w.heap.size,0,none⟩) els.length els.length)) (w.alloc (.cells c' e)) (fun _=>False):=by
  refine ⟨hp.1,fun h=>(h.heap fun b hb=>z1t w _ b hb).put hp.2,rfl,rfl,rfl,by simp,fun b hb _=>z1t w _ b hb,fun _ h=>h.elim,fun b k hD=>⟨hD,World.cell?_alloc_lt w _ _ (R.wf.lt hD)⟩,fun b k hD hnD=>absurd hD hnD,R.nil⟩
 refine hK w.heap.size (zaq R) R.ext.size G _ _ (R.newArr hn (w1:=w) rfl T' (E:=E) q1 q2 (by rw [f2];exact Nat.le_refl _) fun i j e dd hi hj=>?_)
 obtain ⟨v,hv,hr⟩:=f4 i j e dd hi hj
 rw [Nat.zero_add] at hv
 exact ⟨v,hv,hr⟩
theorem z150 {esc:List Nat}{ops:Array Oper}{l:List Oper}{K:St→Prop}{d:Tmp}{t len:Nat}{parts:Array (Nat × Operand)}{ty:TypeId}{pos:String}{af:Array Edge}{q:Option (Prop × St)}{E B:Nat}{els:List (List DV)}
  (he:elemZ X.P t=some (E,B)) (h:litEls X (get s) E 0 parts.toList=some els) (hc:els.length=len∧len * E≤16777216) (hn:d<X.n) (hq:q=none)
  (k:∀ b,newB b s→X.w0.heap.size≤b→vc X esc ops l (upd (upd s (.slot d) (.one (.v (rawS b len len)))) (.heap b) (.row (arrRow els))) K) :
  vcK X esc ops l K ⟨some d,.buildSlice t len parts,ty,pos,af,none⟩ s q:=by
 subst hq
 intro m hm G a w R0
 obtain ⟨p1,p3⟩:=z2g hm
 simp only [List.length_cons,List.range'_succ,wpOpsIn,p1,Region.wanted,if_true]
 refine z14z (o:=⟨some d,.buildSlice t len parts,ty,pos,af,none⟩) rfl rfl hn he h hc.1 hc.2 R0 _ _ fun b hb hw G' a' w' R'=>?_
 exact z1c (k b hb hw) (m+1) p3 G' a' w' R'
end
end
section
variable {gl:Globs}
theorem z87 (b:Nat)(ys:List (List DV))(k:IntKind)(n:Int):frzSV b ys (.v (.prim (.int k n))) = .v (.prim (.int k n)):=rfl
theorem z88 (b:Nat)(ys:List (List DV))(n:Int):frzSV b ys (.v (dint n)) = .v (dint n):=rfl
theorem z89 (b:Nat)(ys:List (List DV))(n:Bool):frzSV b ys (.v (.prim (.bool n))) = .v (.prim (.bool n)):=rfl
theorem z8a (b:Nat)(ys:List (List DV))(n:Bool):frzSV b ys (.v (dbool n)) = .v (dbool n):=rfl
theorem z8b (b:Nat)(ys els:List (List DV)):frzSV b ys (.v (.sl els)) = .v (.sl els):=rfl
theorem z8c (b:Nat)(ys:List (List DV))(cs:List DV):frzSV b ys (.v (.agg cs)) = .v (.agg cs):=rfl
theorem z8d (b:Nat)(ys:List (List DV))(cs:List DV):frzSV b ys (.v (.tup cs)) = .v (.tup cs):=rfl
theorem z8e (b:Nat)(ys:List (List DV))(t:Tm):frzSV b ys (.v t.dv) = .v t.dv:=rfl
theorem z8f (b:Nat)(ys:List (List DV))(k o:Nat):frzSV b ys (.loc k o) = .loc k o:=rfl
theorem z8g (b:Nat)(ys els:List (List DV))(k o:Nat):frzSV b ys (.dp els k o) = .dp els k o:=rfl
theorem z8h (b:Nat)(ys els:List (List DV))(k:Nat):frzSV b ys (.own k els) = .own k els:=rfl
theorem z8i (b:Nat)(ys:List (List DV))(p:Option Addr):frzSV b ys (.v (.prim (.pointer p))) = .v (.prim (.pointer p)):=rfl
theorem z8j {b:Nat}{ys:List (List DV)}{n cap:Nat}(h1:n=ys.length)(h2:n≤cap):frzSV b ys (.v (.prim (.slice (some ⟨b,0,none⟩) n cap))) = .v (.sl ys):=by
 show (if b=b∧n=ys.length∧n≤cap then _ else _)=_
 rw [if_pos ⟨rfl,h1,h2⟩]
end
section
variable {gl:Globs}
theorem Tm.idx_of (t:Tm)(m:Int)(h:t.shape=true)(hm:t.leastN m=true):t.idx m:=by
 induction t using Tm.ind with
 | h t ih=>
 have hs:=Tm.shape_node h
 rw [leastN_eq,Bool.and_eq_true] at hm
 have key:∀ l:List Tm,leastN.leasts l m=true→∀ a ∈ l,a.leastN m=true:=by
  intro l
  induction l with
  | nil=>simp
  | cons a r ihr=>
   intro hl x hx
   simp only [leastN.leasts,Bool.and_eq_true] at hl
   rcases List.mem_cons.1 hx with rfl|hx
   ·exact hl.1
   ·exact ihr hl.2 x hx
 rw [idx_eq]
 refine ⟨⟨hs.2.1,?_⟩,fun a ha=>ih a ha (hs.2.2.2.2 a ha) (key _ hm.2 a ha)⟩
 have:=hm.1
 simp at this
 exact this
end
section
def T.plain:T→Prop
 | .nat=>True
 | .list=>True
 | .unit=>True
 | .pair a b=>a.plain∧b.plain
 | .fn _ _=>False
def valOf:(a:T)→a.V→Val
 | .nat,n=>Val.mk 1 (Int.ofNat n) [] []
 | .list,l=>Val.mk 2 0 (List.map Int.ofNat l) []
 | .unit,_=>Val.mk 4 0 [] []
 | .pair a b,p=>Val.mk 3 0 [] [valOf a p.1,valOf b p.2]
 | .fn _ _,_=>Val.mk 4 0 [] []
end
section
def typeD (l:List Int):Nat→Nat→Ty × Nat
 | 0,p=>
  if (nextD l p 7).1=3 then (Ty.mk 2 [],(nextD l p 7).2) else if (nextD l p 7).1=4 then (Ty.mk 5 [],(nextD l p 7).2) else (Ty.mk 1 [],(nextD l p 7).2)
 | n+1,p=>
  if (nextD l p 7).1=3 then (Ty.mk 2 [],(nextD l p 7).2) else if (nextD l p 7).1=4 then (Ty.mk 5 [],(nextD l p 7).2)
  else if (nextD l p 7).1=5 then (Ty.mk 3 [(typeD l n (nextD l p 7).2).1,(typeD l n (typeD l n (nextD l p 7).2).2).1],(typeD l n (typeD l n (nextD l p 7).2).2).2)
  else if (nextD l p 7).1=6 then (Ty.mk 4 [(typeD l n (nextD l p 7).2).1,(typeD l n (typeD l n (nextD l p 7).2).2).1],(typeD l n (typeD l n (nextD l p 7).2).2).2)
  else (Ty.mk 1 [],(nextD l p 7).2)
def varTy (g:List Ty)(i:Nat):Ty:=g.getD (g.length - 1 - i) zeroTy
def varsN (g:List Ty)(t:Ty):List Nat:=(List.range g.length).filter fun i=>(varTy g i).same t
def funN (g:List Ty)(t:Ty):Option Nat:=(List.range g.length).find? fun i=>decide ((varTy g i).kind=4) && ((varTy g i).arg 1).same t
def pickD (l:List Int)(t:Ty)(g:List Ty)(p:Nat):Option Tm × Nat:=
 if (varsN g t).length=0 then (none,p)
 else if (nextD l p 3).1=0 then (none,(nextD l p 3).2)
 else (some (vT ((varsN g t).getD (nextD l (nextD l p 3).2 (varsN g t).length).1.toNat 0:Nat)),(nextD l (nextD l p 3).2 (varsN g t).length).2)
def numD (l:List Int)(p:Nat):Tm × Nat:=(numTm (nextD l p 3).1.toNat,(nextD l p 3).2)
def leafD (l:List Int)(t:Ty)(g:List Ty)(p:Nat):Tm × Nat:=
 match pickD l t g p with
 | (some x,q)=>(x,q)
 | (none,q)=>
  match t with
  | .mk k ts=>
   if k=1 then numD l q
   else if k=2 then (nT 7 [],q)
   else match ts with
    | [a,b]=>
     if k=3 then (nT 10 [(leafD l a g q).1,(leafD l b g (leafD l a g q).2).1],(leafD l b g (leafD l a g q).2).2)
     else if k=4 then (Tm.mk 2 0 a [(leafD l b (g++[a]) q).1],(leafD l b (g++[a]) q).2)
     else (nT 13 [],q)
    | _=>(nT 13 [],q)
termination_by SizeOf.sizeOf t
def endD (l:List Int)(F:Ty→List Ty→Nat→Tm × Nat)(t:Ty)(g:List Ty)(q:Nat):Tm × Nat:=
 if t.kind=1 then
  if (nextD l q 5).1=0 then (nT 5 [(F t g (nextD l q 5).2).1],(F t g (nextD l q 5).2).2)
  else if (nextD l q 5).1=1 then (appsT plusT [(F t g (nextD l q 5).2).1,(F t g (F t g (nextD l q 5).2).2).1],(F t g (F t g (nextD l q 5).2).2).2)
  else if (nextD l q 5).1=2 then (appsT subT [(F t g (nextD l q 5).2).1,(F t g (F t g (nextD l q 5).2).2).1],(F t g (F t g (nextD l q 5).2).2).2)
  else numD l (nextD l q 5).2
 else if t.kind=2 then
  if (nextD l q 2).1=0 then (nT 8 [(F (Ty.mk 1 []) g (nextD l q 2).2).1,(F t g (F (Ty.mk 1 []) g (nextD l q 2).2).2).1],(F t g (F (Ty.mk 1 []) g (nextD l q 2).2).2).2)
  else (nT 7 [],(nextD l q 2).2)
 else if t.kind=3 then (nT 10 [(F (t.arg 0) g q).1,(F (t.arg 1) g (F (t.arg 0) g q).2).1],(F (t.arg 1) g (F (t.arg 0) g q).2).2)
 else if t.kind=4 then (Tm.mk 2 0 (t.arg 0) [(F (t.arg 1) (g++[t.arg 0]) q).1],(F (t.arg 1) (g++[t.arg 0]) q).2)
 else (nT 13 [],q)
def stepD (l:List Int)(F:Ty→List Ty→Nat→Tm × Nat)(t:Ty)(g:List Ty)(k:Int)(q:Nat):Tm × Nat:=
 if k=0 then
  let s:=typeD l 0 q
  let x:=F t (g++[s.1]) s.2
  let y:=F s.1 g x.2
  (nT 3 [Tm.mk 2 0 s.1 [x.1],y.1],y.2)
 else if k=1 then
  let s:=typeD l 0 q
  let x:=F t g s.2
  let y:=F s.1 g x.2
  (nT 11 [nT 10 [x.1,y.1]],y.2)
 else if k=2 then
  let x:=F t (g++[Ty.mk 1 [],t]) q
  let y:=F t g x.2
  let z:=numD l y.2
  (Tm.mk 6 0 t [y.1,Tm.mk 2 0 (Ty.mk 1 []) [Tm.mk 2 0 t [x.1]],z.1],z.2)
 else if k=3 then
  let x:=F t (g++[Ty.mk 1 [],Ty.mk 2 [],t]) q
  let y:=F t g x.2
  let z:=F (Ty.mk 2 []) g y.2
  (Tm.mk 9 0 t [y.1,Tm.mk 2 0 (Ty.mk 1 []) [Tm.mk 2 0 (Ty.mk 2 []) [Tm.mk 2 0 t [x.1]]],z.1],z.2)
 else if k=4 then
  let s:=typeD l 0 q
  let x:=F s.1 g s.2
  let y:=F t g x.2
  (nT 12 [nT 10 [x.1,y.1]],y.2)
 else if k=5 then
  match funN g t with
  | some i=>(nT 3 [vT i,(F ((varTy g i).arg 0) g q).1],(F ((varTy g i).arg 0) g q).2)
  | none=>endD l F t g q
 else endD l F t g q
def termD (l:List Int):Nat→Ty→List Ty→Nat→Tm × Nat
 | 0,t,g,p=>leafD l t g p
 | n+1,t,g,p=>
  match pickD l t g p with
  | (some x,q)=>(x,q)
  | (none,q)=>stepD l (termD l n) t g (nextD l q 8).1 (nextD l q 8).2
theorem zcp (l:List Int)(t:Ty)(g:List Ty)(p:Nat)(ht:t.ok):leafD l t g p =
  match pickD l t g p with
  | (some x,q)=>(x,q)
  | (none,q)=>
   if t.kind=1 then numD l q
   else if t.kind=2 then (nT 7 [],q)
   else if t.kind=3 then (nT 10 [(leafD l (t.arg 0) g q).1,(leafD l (t.arg 1) g (leafD l (t.arg 0) g q).2).1],(leafD l (t.arg 1) g (leafD l (t.arg 0) g q).2).2)
   else if t.kind=4 then (Tm.mk 2 0 (t.arg 0) [(leafD l (t.arg 1) (g++[t.arg 0]) q).1],(leafD l (t.arg 1) (g++[t.arg 0]) q).2)
   else (nT 13 [],q):=by
 rw [leafD.eq_def]
 rcases pickD l t g p with ⟨_|x,q⟩
 ·cases t with
  | mk k ts=>
   simp only [Ty.kind]
   by_cases h1:k=1
   ·simp [h1]
   by_cases h2:k=2
   ·simp [h2]
   simp only [h1,h2,if_false]
   by_cases h34:k=3∨k=4
   ·obtain ⟨a,b,e,-,-,e0,e1⟩:=Ty.ok_args ht h34
    simp only [Ty.args] at e
    subst e
    rw [e0,e1]
    rfl
   ·have h3:k ≠ 3:=fun e=>h34 (.inl e)
    have h4:k ≠ 4:=fun e=>h34 (.inr e)
    simp only [h3,h4,if_false]
    match ts with
    | [a,b]=>rfl
    | []=>rfl
    | [_]=>rfl
    | _::_::_::_=>rfl
 ·rfl
theorem z5l {k:Int}{a b:Ty}(hk:k=3∨k=4)(ha:a.shape=true)(hb:b.shape=true):(Ty.mk k [a,b]).shape=true:=by
 rcases hk with rfl|rfl <;> simp [Ty.shape,Ty.shape.shapes,tyKind,ha,hb]
theorem z8k (l:List Int):∀ (n p:Nat),p≤l.length→(typeD l n p).2≤l.length∧(typeD l n p).1.shape=true∧(typeD l n p).1.count+1≤2 ^ (n+1)
 | 0,p,hp=>by
  have hq:=z0s (n:=7) hp
  unfold typeD
  split
  ·exact ⟨hq,rfl,Nat.le_refl 2⟩
  ·split
   ·exact ⟨hq,rfl,Nat.le_refl 2⟩
   ·exact ⟨hq,rfl,Nat.le_refl 2⟩
 | n+1,p,hp=>by
  have hq:=z0s (n:=7) hp
  obtain ⟨a1,a2,a3⟩:=z8k l n _ hq
  obtain ⟨b1,b2,b3⟩:=z8k l n _ a1
  have h2:2≤2 ^ (n+1):=Nat.pow_le_pow_right (n:=2) (by decide) (show 1≤n+1 by omega)
  have h3:2 ^ (n+1+1)=2 ^ (n+1) * 2:=Nat.pow_succ ..
  have hc:∀ (k:Int) (a b:Ty),(Ty.mk k [a,b]).count=1+(a.count+(b.count+0)):=fun _ _ _=>rfl
  unfold typeD
  split
  ·exact ⟨hq,rfl,by show 1+0+1≤_;omega⟩
  split
  ·exact ⟨hq,rfl,by show 1+0+1≤_;omega⟩
  split
  ·exact ⟨b1,z5l (.inl rfl) a2 b2,by rw [hc];omega⟩
  split
  ·exact ⟨b1,z5l (.inr rfl) a2 b2,by rw [hc];omega⟩
  ·exact ⟨hq,rfl,by show 1+0+1≤_;omega⟩
def Ty.small (t:Ty):Prop:=t.shape=true∧t.count≤15
theorem Ty.small.ok {t:Ty}(h:t.small):t.ok:=⟨h.1,by have:=h.2;omega⟩
theorem Ty.small.arg {t:Ty}(h:t.small)(hk:t.kind=3∨t.kind=4):(t.arg 0).small∧(t.arg 1).small∧(t.arg 0).count+(t.arg 1).count<t.count:=by
 obtain ⟨a,b,e,oa,ob,e0,e1⟩:=Ty.ok_args h.ok hk
 have hc:t.count=1+(a.count+(b.count+0)):=by rw [Ty.count_eq,e];rfl
 have:=h.2
 rw [e0,e1]
 exact ⟨⟨oa.1,by omega⟩,⟨ob.1,by omega⟩,by omega⟩
theorem z5m (l:List Int){n p:Nat}(hp:p≤l.length)(hn:n≤3):(typeD l n p).2≤l.length∧(typeD l n p).1.small:=by
 obtain ⟨h1,h2,h3⟩:=z8k l n p hp
 have:2 ^ (n+1)≤2 ^ 4:=Nat.pow_le_pow_right (by decide) (by omega)
 exact ⟨h1,h2,by omega⟩
theorem z1e:(Ty.mk 1 []).small:=⟨rfl,by decide⟩
theorem z3q:(Ty.mk 2 []).small:=⟨rfl,by decide⟩
theorem z6s {g:List Ty}{i:Nat}(h:i<g.length):varTy g i ∈ g∧g[g.length - 1 - i]? = some (varTy g i):=by
 have hl:g.length - 1 - i<g.length:=by omega
 unfold varTy
 rw [List.getD_eq_getElem?_getD,List.getElem?_eq_getElem hl]
 exact ⟨List.getElem_mem _,rfl⟩
theorem z151 {g:List Ty}{t:Ty}{i:Nat}(h:i ∈ varsN g t):i<g.length∧varTy g i=t:=by
 simp only [varsN,List.mem_filter,List.mem_range,Ty.same_iff] at h
 exact h
theorem zcq {g:List Ty}{t:Ty}{i:Nat}(h:funN g t=some i):i<g.length∧(varTy g i).kind=4∧(varTy g i).arg 1=t:=by
 have h1:=List.find?_some h
 have h2:=List.mem_of_find?_eq_some h
 simp only [Bool.and_eq_true,decide_eq_true_eq,Ty.same_iff] at h1
 exact ⟨List.mem_range.1 h2,h1.1,h1.2⟩
theorem z6t {l:List Int}{t:Ty}{g:List Ty}{p:Nat}(hp:p≤l.length):(pickD l t g p).2≤l.length:=by
 unfold pickD
 split
 ·exact hp
 ·split
  ·exact z0s hp
  ·exact z0s (z0s hp)
theorem zcr {l:List Int}{t:Ty}{g:List Ty}{p q:Nat}{x:Tm}(h:pickD l t g p=(some x,q)):∃ i:Nat,x=vT i∧i<g.length∧varTy g i=t:=by
 unfold pickD at h
 split at h
 ·cases h
 ·rename_i hne
  split at h
  ·cases h
  ·simp only [Prod.mk.injEq,Option.some.injEq] at h
   generalize hk:(nextD l (nextD l p 3).2 (varsN g t).length).1.toNat=k at h
   have hb:=z0y (l:=l) (p:=(nextD l p 3).2) (n:=(varsN g t).length) (by omega)
   have hlt:k<(varsN g t).length:=by omega
   refine ⟨(varsN g t)[k],?_,z151 (List.getElem_mem hlt)⟩
   rw [← h.1,List.getD_eq_getElem?_getD,List.getElem?_eq_getElem hlt,Option.getD_some]
theorem z2k {i:Nat}:(vT i).shape=true:=by
 unfold vT
 rw [Tm.shape_eq]
 simp [Tm.kind,Tm.index,Tm.type,Tm.args,Tm.shape.shapes,tmKind,tyOfKind,arityI,Ty.zero,Ty.kind,Ty.args]
theorem z1m {k:Int}{a:List Tm}(h:(a.length:Int)=arityI k)(hk:¬ (k=2∨k=6∨k=9))(ha:∀ x ∈ a,x.shape=true):(nT k a).shape=true:=by
 unfold nT
 rw [Tm.shape_eq]
 have hz:tyOfKind k (Ty.mk 0 [])=true:=by unfold tyOfKind;rw [if_neg hk];rfl
 simp only [Tm.kind,Tm.index,Tm.type,Tm.args,(Tm.shapes_iff a).2 ha,tmKind,hz,h]
 simp
theorem z1f {k:Int}{s:Ty}{a:List Tm}(h:(a.length:Int)=arityI k)(hk:k=2∨k=6∨k=9)(hs:s.ok)(ha:∀ x ∈ a,x.shape=true):(Tm.mk k 0 s a).shape=true:=by
 rw [Tm.shape_eq]
 simp only [Tm.kind,Tm.index,Tm.type,Tm.args,(Tm.shapes_iff a).2 ha,tmKind,tyOfKind,if_pos hk,h,(Ty.checkN_iff s).2 hs]
 simp
def Draws (l:List Int)(F:Ty→List Ty→Nat→Tm × Nat)(Q:Ty→List Ty→Tm→Prop):Prop:=
 ∀ t g p,t.small→(∀ x ∈ g,x.small)→p≤l.length→(F t g p).2≤l.length∧Q t g (F t g p).1
structure DrawOK (Q:Ty→List Ty→Tm→Prop):Prop where
 var:∀ g i,i<g.length→Q (varTy g i) g (vT (i:Nat))
 num:∀ g n,n<3→Q (Ty.mk 1 []) g (numTm n)
 app:∀ g s t f x,s.small→t.small→Q (Ty.mk 4 [s,t]) g f→Q s g x→Q t g (nT 3 [f,x])
 lam:∀ g s t x,s.small→t.small→Q t (g++[s]) x→Q (Ty.mk 4 [s,t]) g (Tm.mk 2 0 s [x])
 lam2:∀ g s t r x,s.small→t.small→r.small→Q r (g++[s,t]) x→Q (Ty.mk 4 [s,Ty.mk 4 [t,r]]) g (Tm.mk 2 0 s [Tm.mk 2 0 t [x]])
 lam3:∀ g s t u r x,s.small→t.small→u.small→r.small→Q r (g++[s,t,u]) x→Q (Ty.mk 4 [s,Ty.mk 4 [t,Ty.mk 4 [u,r]]]) g (Tm.mk 2 0 s [Tm.mk 2 0 t [Tm.mk 2 0 u [x]]])
 pair:∀ g s t x y,s.small→t.small→Q s g x→Q t g y→Q (Ty.mk 3 [s,t]) g (nT 10 [x,y])
 fst:∀ g s t x,s.small→t.small→Q (Ty.mk 3 [s,t]) g x→Q s g (nT 11 [x])
 snd:∀ g s t x,s.small→t.small→Q (Ty.mk 3 [s,t]) g x→Q t g (nT 12 [x])
 rc:∀ g t x f n,t.small→Q t g x→Q (Ty.mk 4 [Ty.mk 1 [],Ty.mk 4 [t,t]]) g f→Q (Ty.mk 1 []) g n→Q t g (Tm.mk 6 0 t [x,f,n])
 fold:∀ g t x f n,t.small→Q t g x→Q (Ty.mk 4 [Ty.mk 1 [],Ty.mk 4 [Ty.mk 2 [],Ty.mk 4 [t,t]]]) g f→Q (Ty.mk 2 []) g n→Q t g (Tm.mk 9 0 t [x,f,n])
 succ:∀ g x,Q (Ty.mk 1 []) g x→Q (Ty.mk 1 []) g (nT 5 [x])
 plus:∀ g x y,Q (Ty.mk 1 []) g x→Q (Ty.mk 1 []) g y→Q (Ty.mk 1 []) g (appsT plusT [x,y])
 sub:∀ g x y,Q (Ty.mk 1 []) g x→Q (Ty.mk 1 []) g y→Q (Ty.mk 1 []) g (appsT subT [x,y])
 nil:∀ g,Q (Ty.mk 2 []) g (nT 7 [])
 cons:∀ g x y,Q (Ty.mk 1 []) g x→Q (Ty.mk 2 []) g y→Q (Ty.mk 2 []) g (nT 8 [x,y])
 unit:∀ g,Q (Ty.mk 5 []) g (nT 13 [])
theorem zct {l:List Int}{Q:Ty→List Ty→Tm→Prop}(hQ:DrawOK Q){p:Nat}(hp:p≤l.length)(g:List Ty):(numD l p).2≤l.length∧Q (Ty.mk 1 []) g (numD l p).1:=by
 have:=z0y (l:=l) (p:=p) (n:=3) (by decide)
 exact ⟨z0s hp,hQ.num g _ (by omega)⟩
theorem z6u {t:Ty}(h:t.small):(t.kind=1∧t=Ty.mk 1 [])∨(t.kind=2∧t=Ty.mk 2 [])∨(t.kind=5∧t=Ty.mk 5 [])∨(t.kind=3∧t=Ty.mk 3 [t.arg 0,t.arg 1])∨(t.kind=4∧t=Ty.mk 4 [t.arg 0,t.arg 1]):=by
 cases t with
 | mk k ts=>
  have h1:=h.1
  rw [Ty.shape_eq,Bool.and_eq_true] at h1
  have hk:=h1.1
  unfold tyKind at hk
  simp [Ty.kind,Ty.args] at hk
  rcases hk with ⟨h2,rfl⟩|⟨h2,h3⟩
  ·rcases of_decide_eq_true h2 with rfl|rfl|rfl <;> simp [Ty.kind]
  ·match ts,h3 with
   | [a,b],_=>rcases of_decide_eq_true h2 with rfl|rfl <;> simp [Ty.kind,Ty.arg,Ty.args]
theorem zhb {l:List Int}{F:Ty→List Ty→Nat→Tm × Nat}{Q:Ty→List Ty→Tm→Prop}(hQ:DrawOK Q)(hF:Draws l F Q):Draws l (endD l F) Q:=by
 intro t g p ht hg hp
 unfold endD
 have h5:=z0s (n:=5) hp
 have h2:=z0s (n:=2) hp
 rcases z6u ht with ⟨h,e⟩|⟨h,e⟩|⟨h,e⟩|⟨h,e⟩|⟨h,e⟩
 ·rw [if_pos h]
  obtain ⟨a1,a2⟩:=hF t g _ ht hg h5
  obtain ⟨b1,b2⟩:=hF t g _ ht hg a1
  rw [e] at a1 a2 b1 b2 ⊢
  split
  ·exact ⟨a1,hQ.succ g _ a2⟩
  split
  ·exact ⟨b1,hQ.plus g _ _ a2 b2⟩
  split
  ·exact ⟨b1,hQ.sub g _ _ a2 b2⟩
  ·exact zct hQ h5 g
 ·rw [if_neg (by omega),if_pos h]
  obtain ⟨a1,a2⟩:=hF _ g _ z1e hg h2
  obtain ⟨b1,b2⟩:=hF t g _ ht hg a1
  rw [e] at b1 b2 ⊢
  split
  ·exact ⟨b1,hQ.cons g _ _ a2 b2⟩
  ·exact ⟨h2,hQ.nil g⟩
 ·rw [if_neg (by omega),if_neg (by omega),if_neg (by omega),if_neg (by omega)]
  rw [e]
  exact ⟨hp,hQ.unit g⟩
 ·rw [if_neg (by omega),if_neg (by omega),if_pos h]
  obtain ⟨s0,s1,_⟩:=ht.arg (.inl h)
  obtain ⟨a1,a2⟩:=hF _ g _ s0 hg hp
  obtain ⟨b1,b2⟩:=hF _ g _ s1 hg a1
  refine ⟨b1,?_⟩
  rw [e]
  exact hQ.pair g _ _ _ _ s0 s1 a2 b2
 ·rw [if_neg (by omega),if_neg (by omega),if_neg (by omega),if_pos h]
  obtain ⟨s0,s1,_⟩:=ht.arg (.inr h)
  obtain ⟨a1,a2⟩:=hF (t.arg 1) (g++[t.arg 0]) _ s1 (by intro x hx;rcases List.mem_append.1 hx with hx|hx;exact hg x hx;rw [List.mem_singleton.1 hx];exact s0) hp
  refine ⟨a1,?_⟩
  rw [e]
  exact hQ.lam g _ _ _ s0 s1 a2
theorem z152 {l:List Int}{F:Ty→List Ty→Nat→Tm × Nat}{Q:Ty→List Ty→Tm→Prop}(hQ:DrawOK Q)(hF:Draws l F Q)(k:Int):Draws l (fun t g p=>stepD l F t g k p) Q:=by
 intro t g p ht hg hp
 have hg1:∀ a:List Ty,(∀ x ∈ a,x.small)→∀ x ∈ g++a,x.small:=by
  intro a ha x hx
  rcases List.mem_append.1 hx with hx|hx
  ·exact hg x hx
  ·exact ha x hx
 have hg2:∀ s:Ty,s.small→∀ x ∈ g++[s],x.small:=fun s hs=>hg1 [s] (by simpa using hs)
 obtain ⟨s1,s2⟩:=z5m l (n:=0) hp (by decide)
 show (stepD l F t g k p).2≤l.length∧Q t g (stepD l F t g k p).1
 unfold stepD
 split
 ·obtain ⟨a1,a2⟩:=hF t _ _ ht (hg2 _ s2) s1
  obtain ⟨b1,b2⟩:=hF _ g _ s2 hg a1
  exact ⟨b1,hQ.app g _ _ _ _ s2 ht (hQ.lam g _ _ _ s2 ht a2) b2⟩
 split
 ·obtain ⟨a1,a2⟩:=hF t g _ ht hg s1
  obtain ⟨b1,b2⟩:=hF _ g _ s2 hg a1
  exact ⟨b1,hQ.fst g _ _ _ ht s2 (hQ.pair g _ _ _ _ ht s2 a2 b2)⟩
 split
 ·obtain ⟨a1,a2⟩:=hF t _ _ ht (hg1 [Ty.mk 1 [],t] (by intro x hx;simp at hx;rcases hx with rfl|rfl;exact z1e;exact ht)) hp
  obtain ⟨b1,b2⟩:=hF t g _ ht hg a1
  obtain ⟨c1,c2⟩:=zct hQ b1 g
  exact ⟨c1,hQ.rc g _ _ _ _ ht b2 (hQ.lam2 g _ _ _ _ z1e ht ht a2) c2⟩
 split
 ·obtain ⟨a1,a2⟩:=hF t _ _ ht (hg1 [Ty.mk 1 [],Ty.mk 2 [],t] (by intro x hx;simp at hx;rcases hx with rfl|rfl|rfl;exact z1e;exact z3q;exact ht)) hp
  obtain ⟨b1,b2⟩:=hF t g _ ht hg a1
  obtain ⟨c1,c2⟩:=hF _ g _ z3q hg b1
  exact ⟨c1,hQ.fold g _ _ _ _ ht b2 (hQ.lam3 g _ _ _ _ _ z1e z3q ht ht a2) c2⟩
 split
 ·obtain ⟨a1,a2⟩:=hF _ g _ s2 hg s1
  obtain ⟨b1,b2⟩:=hF t g _ ht hg a1
  exact ⟨b1,hQ.snd g _ _ _ s2 ht (hQ.pair g _ _ _ _ s2 ht a2 b2)⟩
 split
 ·split
  ·rename_i i hi
   obtain ⟨f1,f2,f3⟩:=zcq hi
   have hfs:=hg _ (z6s f1).1
   obtain ⟨c0,c1,-⟩:=hfs.arg (.inr f2)
   obtain ⟨a1,a2⟩:=hF _ g _ c0 hg hp
   have hv:=hQ.var g i f1
   rcases z6u hfs with ⟨h,e⟩|⟨h,e⟩|⟨h,e⟩|⟨h,e⟩|⟨h,e⟩
   ·omega
   ·omega
   ·omega
   ·omega
   ·rw [e,f3] at hv
    exact ⟨a1,hQ.app g _ _ _ _ c0 ht hv a2⟩
  ·exact zhb hQ hF t g p ht hg hp
 ·exact zhb hQ hF t g p ht hg hp
theorem zhc {l:List Int}{Q:Ty→List Ty→Tm→Prop}(hQ:DrawOK Q):Draws l (leafD l) Q:=by
 intro t
 generalize hn:t.count=n
 induction n using Nat.strongRecOn generalizing t with
 | _ n ih=>
 intro g p ht hg hp
 rw [zcp l t g p ht.ok]
 have hq:=z6t (t:=t) (g:=g) hp
 split
 ·rename_i x q hx
  obtain ⟨i,rfl,h1,h2⟩:=zcr hx
  rw [hx] at hq
  have:=hQ.var g i h1
  rw [h2] at this
  exact ⟨hq,this⟩
 ·rename_i q hx
  rw [hx] at hq
  rcases z6u ht with ⟨h,e⟩|⟨h,e⟩|⟨h,e⟩|⟨h,e⟩|⟨h,e⟩
  ·rw [if_pos h,e];exact zct hQ hq g
  ·rw [if_neg (by omega),if_pos h,e];exact ⟨hq,hQ.nil g⟩
  ·rw [if_neg (by omega),if_neg (by omega),if_neg (by omega),if_neg (by omega),e];exact ⟨hq,hQ.unit g⟩
  ·rw [if_neg (by omega),if_neg (by omega),if_pos h]
   obtain ⟨s0,s1,hc⟩:=ht.arg (.inl h)
   have p0:=Ty.count_eq (t.arg 0)
   have p1:=Ty.count_eq (t.arg 1)
   obtain ⟨a1,a2⟩:=ih _ (by omega) (t.arg 0) rfl g _ s0 hg hq
   obtain ⟨b1,b2⟩:=ih _ (by omega) (t.arg 1) rfl g _ s1 hg a1
   refine ⟨b1,?_⟩
   have:=hQ.pair g _ _ _ _ s0 s1 a2 b2
   rw [← e] at this
   exact this
  ·rw [if_neg (by omega),if_neg (by omega),if_neg (by omega),if_pos h]
   obtain ⟨s0,s1,hc⟩:=ht.arg (.inr h)
   have p0:=Ty.count_eq (t.arg 0)
   have p1:=Ty.count_eq (t.arg 1)
   obtain ⟨a1,a2⟩:=ih _ (by omega) (t.arg 1) rfl (g++[t.arg 0]) _ s1 (by intro x hx;rcases List.mem_append.1 hx with hx|hx;exact hg x hx;rw [List.mem_singleton.1 hx];exact s0) hq
   refine ⟨a1,?_⟩
   have:=hQ.lam g _ _ _ s0 s1 a2
   rw [← e] at this
   exact this
theorem z4x {l:List Int}{Q:Ty→List Ty→Tm→Prop}(hQ:DrawOK Q):∀ n,Draws l (termD l n) Q
 | 0=>zhc hQ
 | n+1=>by
  intro t g p ht hg hp
  have hq:=z6t (t:=t) (g:=g) hp
  unfold termD
  split
  ·rename_i x q hx
   obtain ⟨i,rfl,h1,h2⟩:=zcr hx
   rw [hx] at hq
   have:=hQ.var g i h1
   rw [h2] at this
   exact ⟨hq,this⟩
  ·rename_i q hx
   rw [hx] at hq
   exact z152 hQ (z4x hQ n) _ t g _ ht hg (z0s hq)
theorem zhd {f x y:Tm}(hf:f.shape=true)(hx:x.shape=true)(hy:y.shape=true):(appsT f [x,y]).shape=true:=by
 show (nT 3 [nT 3 [f,x],y]).shape=true
 exact z1m rfl (by decide) (by intro z hz;simp at hz;rcases hz with rfl|rfl;exact z1m rfl (by decide) (by intro z hz;simp at hz;rcases hz with rfl|rfl;exact hf;exact hx);exact hy)
theorem zar:DrawOK (fun _ _ x=>x.shape=true) where
 var _ _ _:=z2k
 num _ n _:=zal n
 app _ _ _ _ _ _ _ hf hx:=z1m rfl (by decide) (by intro z hz;simp at hz;rcases hz with rfl|rfl;exact hf;exact hx)
 lam _ _ _ _ hs _ hx:=z1f rfl (.inl rfl) hs.ok (by intro z hz;simp at hz;rw [hz];exact hx)
 lam2 _ _ _ _ _ hs ht _ hx:=z1f rfl (.inl rfl) hs.ok (by intro z hz;simp at hz;rw [hz];exact z1f rfl (.inl rfl) ht.ok (by intro z hz;simp at hz;rw [hz];exact hx))
 lam3 _ _ _ _ _ _ hs ht hu _ hx:=z1f rfl (.inl rfl) hs.ok (by intro z hz;simp at hz;rw [hz];exact z1f rfl (.inl rfl) ht.ok (by intro z hz;simp at hz;rw [hz];exact z1f rfl (.inl rfl) hu.ok (by intro z hz;simp at hz;rw [hz];exact hx)))
 pair _ _ _ _ _ _ _ hf hx:=z1m rfl (by decide) (by intro z hz;simp at hz;rcases hz with rfl|rfl;exact hf;exact hx)
 fst _ _ _ _ _ _ hx:=z1m rfl (by decide) (by intro z hz;simp at hz;rw [hz];exact hx)
 snd _ _ _ _ _ _ hx:=z1m rfl (by decide) (by intro z hz;simp at hz;rw [hz];exact hx)
 rc _ _ _ _ _ ht hx hf hn:=z1f rfl (.inr (.inl rfl)) ht.ok (by intro z hz;simp at hz;rcases hz with rfl|rfl|rfl;exact hx;exact hf;exact hn)
 fold _ _ _ _ _ ht hx hf hn:=z1f rfl (.inr (.inr rfl)) ht.ok (by intro z hz;simp at hz;rcases hz with rfl|rfl|rfl;exact hx;exact hf;exact hn)
 succ _ _ hx:=z1m rfl (by decide) (by intro z hz;simp at hz;rw [hz];exact hx)
 plus _ _ _ hx hy:=zhd (by decide) hx hy
 sub _ _ _ hx hy:=zhd (by decide) hx hy
 nil _:=rfl
 cons _ _ _ hf hx:=z1m rfl (by decide) (by intro z hz;simp at hz;rcases hz with rfl|rfl;exact hf;exact hx)
 unit _:=rfl
end
section
variable {gl:Globs}
theorem Val.okB_kind {v:Val}(h:v.okB=true):(v.kind=1∧0≤v.num∧v.list=[]∧v.args=[])∨(v.kind=2∧v.num=0∧(∀ n ∈ v.list,0≤n)∧v.args=[])∨(v.kind=3∧v.num=0∧v.list=[]∧∃ a b,v.args=[a,b])∨(v.kind=4∧v.num=0∧v.list=[]∧v.args=[]):=by
 unfold Val.okB at h
 by_cases h1:v.kind=1
 ·simp [h1] at h;exact .inl ⟨h1,h.1.1,h.1.2,h.2⟩
 by_cases h2:v.kind=2
 ·simp [h2] at h;exact .inr (.inl ⟨h2,h.1.1,h.1.2,h.2⟩)
 by_cases h3:v.kind=3
 ·simp [h3] at h
  refine .inr (.inr (.inl ⟨h3,h.1.1,h.1.2,?_⟩))
  match hq:v.args,h.2 with
  | [a,b],_=>exact ⟨a,b,rfl⟩
 by_cases h4:v.kind=4
 ·simp [h4] at h;exact .inr (.inr (.inr ⟨h4,h.1.1,h.1.2,h.2⟩))
 simp [h1,h2,h3,h4] at h
theorem Val.nodes_flat {v:Val}(h:v.args=[]):v.nodesN.2=v.okB:=by rw [nodesN_eq,h];rfl
theorem Val.nodes_pair {v a b:Val}(h:v.args=[a,b]):v.nodesN.2=(v.okB && (a.nodesN.2 && b.nodesN.2)):=by
 rw [nodesN_eq,h]
 cases ho:v.okB <;> simp [nodesN.nodesL]
 cases ha:a.nodesN.2 <;> simp
theorem Val.nodes_bad {v:Val}(h:v.okB=false):v.nodesN.2=false:=by rw [nodesN_eq,h,nodesL_no]
theorem Val.nodes_count (v:Val)(h:v.nodesN.2=true):v.nodesN.1=v.count:=by
 induction v using Val.ind with
 | h v ih=>
 have key:∀ l:List Val,(∀ a ∈ l,a.nodesN.2=true→a.nodesN.1=a.count)→∀ (n:Int) (ok:Bool),(nodesN.nodesL l (n,ok)).2=true→(nodesN.nodesL l (n,ok)).1=n+count.counts l:=by
  intro l
  induction l with
  | nil=>intro _ n ok _;simp [nodesN.nodesL,count.counts]
  | cons a r ihr=>
   intro hl n ok hok
   cases ok with
   | false=>rw [nodesL_no] at hok;cases hok
   | true=>
    simp only [nodesN.nodesL,if_true] at hok ⊢
    have ha:a.nodesN.2=true:=(nodesL_ok hok).1
    rw [ihr (fun b hb=>hl b (List.mem_cons_of_mem _ hb)) _ _ hok,hl a (by simp) ha]
    simp only [count.counts]
    omega
 rw [nodesN_eq] at h ⊢
 rw [key v.args ih _ _ h,count_eq]
 omega
theorem z153 {l:List Int}{i:Nat}{Q:Int→Prop}(h:∀ (j:Nat) (x:Int),j<i→l[j]? = some x→Q x)(h1:∀ x,l[i]? = some x→Q x):∀ (j:Nat) (x:Int),j<i+1→l[j]? = some x→Q x:=by
 intro j x hj hx
 by_cases e:j=i
 ·rw [e] at hx;exact h1 x hx
 ·exact h j x (by omega) hx
set_option maxHeartbeats 2000000 in
theorem z154 (v:Val):Con1 Tryz.prog gl 114 [v.dv] [] (dbool v.nodesN.2) []:=by
 induction v using Val.ind with
 | h v ih=>
 refine t_in Tryz.func114 ?_
 intro X hP hgl hf hfn hn hR hids hfit
 have hl1:=Val.fit_args (hfit v.dv (by simp))
 have hl2:=Val.fit_list (hfit v.dv (by simp))
 by_cases h1:v.kind=1
 ·have hv:v.nodesN.2=v.okB:=by
   by_cases ha:v.args=[]
   ·exact Val.nodes_flat ha
   ·have:v.okB=false:=by unfold Val.okB;simp [h1,ha]
    rw [Val.nodes_bad this,this]
  have hb:v.okB=(decide (0≤v.num) && decide (v.list.length=0) && decide (v.args.length=0)):=by unfold Val.okB;simp [h1]
  rw [hv,hb] at hR
  by_cases q1:0≤v.num
  ·by_cases q2:v.list.length=0
   ·by_cases q3:v.args.length=0
    ·refine t_g (j2 @h1 (j2 @q1 (j2 @q2 @q3))) ?_
     refine t_r ?_
     simp [go_sem,hP,hgl,hn,q1,q2,q3] <;> (try omega)
    ·refine t_g (j2 @h1 (j2 @q1 (j2 @q2 @q3))) ?_
     refine t_r ?_
     simp [go_sem,hP,hgl,hn,q1,q2,q3] <;> (try omega)
   ·refine t_g (j2 @h1 (j2 @q1 @q2)) ?_
    refine t_r ?_
    simp [go_sem,hP,hgl,hn,q1,q2] <;> (try omega)
  ·refine t_g (j2 @h1 @q1) ?_
   refine t_r ?_
   simp [go_sem,hP,hgl,hn,q1] <;> (try omega)
 by_cases h2:v.kind=2
 ·have hv:v.nodesN.2=v.okB:=by
   by_cases ha:v.args=[]
   ·exact Val.nodes_flat ha
   ·have:v.okB=false:=by unfold Val.okB;simp [h2,ha]
    rw [Val.nodes_bad this,this]
  have hb:v.okB=(decide (v.num=0) && !v.list.any (fun n=>decide (n<0)) && decide (v.args.length=0)):=by unfold Val.okB;simp [h2]
  rw [hv,hb] at hR
  refine t_g @h2 ?_
  refine t_a ?_
  refine z0e [] trivial (z2h (v.list.length) (fun i=>∀ (j:Nat) (x:Int),j<i→v.list[j]? = some x→0≤x) (fun i=>[(.slot 29,.one (.v (dint i))),(.slot 28,.one (.v (dint v.list.length))),(.slot 27,.one (.v (.sl (ints v.list)))),(.loc 1,.row ([.v (dint v.kind),.v (dint v.num),.v (.sl (ints v.list)),.v (.sl (v.args.map Val.cells))])),(.slot 1,.one (.loc 1 0))]) (by intro j x h;omega) ?_ ?_)
  ·intro i hi hI hnext
   obtain ⟨x,hx⟩:∃ x,v.list[i]? = some x:=⟨_,List.getElem?_eq_getElem hi⟩
   have hgi:=z3x hx
   refine z00 ?_
   refine z07 ?_
   by_cases hneg:x<0
   ·have hany:v.list.any (fun n=>decide (n<0))=true:=List.any_eq_true.2 ⟨x,List.mem_of_getElem? hx,by simpa using hneg⟩
    refine t_g (j2 @hgi @hneg) ?_
    refine t_r ?_
    simp [go_sem,hP,hgl,hn,hany] <;> (try omega)
   ·refine t_gt (wr []) trivial (j2 @hgi @hneg) (hnext (z153 hI fun y hy=>by rw [hx] at hy;cases hy;omega))
  ·intro hI
   have hany:v.list.any (fun n=>decide (n<0))=false:=by
    rw [List.any_eq_false]
    intro x hx
    obtain ⟨j,hj,rfl⟩:=List.mem_iff_getElem.1 hx
    have:=hI j _ hj (List.getElem?_eq_getElem hj)
    simpa using this
   refine z00 ?_
   refine t_no ?_
   by_cases q1:v.num=0
   ·by_cases q3:v.args.length=0
    ·refine t_g (j2 @q1 @q3) ?_
     refine t_r ?_
     simp [go_sem,hP,hgl,hn,hany,q1,q3] <;> (try omega)
    ·refine t_g (j2 @q1 @q3) ?_
     refine t_r ?_
     simp [go_sem,hP,hgl,hn,hany,q1,q3] <;> (try omega)
   ·refine t_g @q1 ?_
    refine t_r ?_
    simp [go_sem,hP,hgl,hn,hany,q1] <;> (try omega)
 by_cases h4:v.kind=4
 ·have hv:v.nodesN.2=v.okB:=by
   by_cases ha:v.args=[]
   ·exact Val.nodes_flat ha
   ·have:v.okB=false:=by unfold Val.okB;simp [h4,ha]
    rw [Val.nodes_bad this,this]
  have hb:v.okB=(decide (v.num=0) && decide (v.list.length=0) && decide (v.args.length=0)):=by unfold Val.okB;simp [h4]
  rw [hv,hb] at hR
  by_cases q1:v.num=0
  ·by_cases q2:v.list.length=0
   ·by_cases q3:v.args.length=0
    ·refine t_g (j2 @h4 (j2 @q1 (j2 @q2 @q3))) ?_
     refine t_r ?_
     simp [go_sem,hP,hgl,hn,q1,q2,q3] <;> (try omega)
    ·refine t_g (j2 @h4 (j2 @q1 (j2 @q2 @q3))) ?_
     refine t_r ?_
     simp [go_sem,hP,hgl,hn,q1,q2,q3] <;> (try omega)
   ·refine t_g (j2 @h4 (j2 @q1 @q2)) ?_
    refine t_r ?_
    simp [go_sem,hP,hgl,hn,q1,q2] <;> (try omega)
  ·refine t_g (j2 @h4 @q1) ?_
   refine t_r ?_
   simp [go_sem,hP,hgl,hn,q1] <;> (try omega)
 by_cases h3:v.kind=3
 ·have hb:v.okB=(decide (v.num=0) && decide (v.list.length=0) && decide (v.args.length=2)):=by unfold Val.okB;simp [h3]
  by_cases q1:v.num=0
  ·by_cases q2:v.list.length=0
   ·by_cases q3:v.args.length=2
    ·obtain ⟨a,b,hab⟩:∃ a b,v.args=[a,b]:=by
      match hq:v.args,q3 with
      | [a,b],_=>exact ⟨a,b,rfl⟩
     have hv:=Val.nodes_pair hab
     rw [hv,hb] at hR
     by_cases ha:a.nodesN.2=true
     ·refine t_g @h3 ?_
      refine t_c2 (j2 @h3 (j2 @q1 (j2 @q2 (j2 @hab @ha)))) (ih a (by rw [hab];simp)) (ih b (by rw [hab];simp)) ?_
      refine t_r ?_
      simp [go_sem,hP,hgl,hn,q1,q2,q3,ha] <;> (try omega)
     ·have ha':a.nodesN.2=false:=by simpa using ha
      refine t_g @h3 ?_
      refine t_c1 (j2 @h3 (j2 @q1 (j2 @q2 (j2 @hab @ha')))) (ih a (by rw [hab];simp)) ?_
      refine t_r ?_
      simp [go_sem,hP,hgl,hn,q1,q2,q3,ha'] <;> (try omega)
    ·rw [Val.nodes_bad (by rw [hb];simp [q3])] at hR
     have q4:¬ (v.args.length:Int)=2:=by omega
     refine t_g (j2 @h3 (j2 @q1 (j2 @q2 @q4))) ?_
     refine t_r ?_
     simp [go_sem,hP,hgl,hn] <;> (try omega)
   ·rw [Val.nodes_bad (by rw [hb];simp [q2])] at hR
    refine t_g (j2 @h3 (j2 @q1 @q2)) ?_
    refine t_r ?_
    simp [go_sem,hP,hgl,hn] <;> (try omega)
  ·rw [Val.nodes_bad (by rw [hb];simp [q1])] at hR
   refine t_g (j2 @h3 @q1) ?_
   refine t_r ?_
   simp [go_sem,hP,hgl,hn] <;> (try omega)
 rw [Val.nodes_bad (by unfold Val.okB;simp [h1,h2,h3,h4])] at hR
 refine t_g (j2 @h1 (j2 @h2 (j2 @h3 @h4))) ?_
 refine t_r ?_
 simp [go_sem,hP,hgl,hn] <;> (try omega)
theorem z155 (v:Val)(hc:v.count≤1073741824):Con1 Tryz.prog gl 115 [v.dv] [] (dint v.count) []:=by
 induction v using Val.ind with
 | h v ih=>
 refine t_in Tryz.func115 ?_
 intro X hP hgl hf hfn hn hR hids hfit
 have hl1:=Val.fit_args (hfit v.dv (by simp))
 have hcv:=Val.count_eq v
 refine t_g0 ?_
 refine t_a ?_
 refine z0c [] (by simp [go_sem]) (by simp [go_sem,Val.count.counts] <;> omega) (by simp [go_sem]) (z1z (v.args) (fun done rest=>[(.slot 9,.one (.v (dint done.length))),(.slot 8,.one (.v (dint v.args.length))),(.slot 7,.one (.v (.sl (v.args.map Val.cells)))),(.slot 3,.one (.v (dint (1+Val.count.counts done:Nat)))),(.slot 2,.one (.v (dint 0)))]) ?_ ?_)
 ·intro done x rest hL hg0 hnext
  have hlt:done.length<v.args.length:=by rw [hL];simp
  have hxm:=List.mem_of_getElem? hg0
  have hca:=Val.counts_append done (x::rest)
  have hcs:=Val.counts_append done [x]
  rw [← hL] at hca
  simp only [Val.count.counts] at hca hcs
  refine z00 ?_
  refine z07 ?_
  refine t_g @hg0 ?_
  refine t_c1 @hg0 (ih x hxm (by omega)) ?_
  refine t_gt (wr []) @hcs trivial hnext
 ·refine z00 ?_
  refine t_no ?_
  refine t_g0 ?_
  refine t_r ?_
  simp [go_sem,hP,hgl,hn,hcv] <;> (try omega)
theorem Val.checkN_eq (v:Val):v.checkN=if v.nodesN.2=true then if 64<v.count then 4 else 0 else 2:=by
 unfold Val.checkN
 by_cases h:v.nodesN.2=true
 ·rw [if_pos h,if_pos h,Val.nodes_count v h]
  by_cases h2:64<v.count
  ·rw [if_pos (by omega),if_pos h2]
  ·rw [if_neg (by omega),if_neg h2]
 ·rw [if_neg h,if_neg h]
theorem zcu (v:Val)(hc:v.count≤1073741824):Con1 Tryz.prog gl 66 [v.dv] [] (dint v.checkN) []:=by
 refine t_in Tryz.func66 ?_
 intro X hP hgl hf hfn hn hR hids hfit
 rw [Val.checkN_eq] at hR
 refine t_g0 ?_
 refine t_c1 trivial (z154 v) ?_
 by_cases h:v.nodesN.2=true
 ·rw [if_pos h] at hR
  refine t_g @h ?_
  refine t_c1 trivial (z155 v hc) ?_
  by_cases h2:64<v.count
  ·refine t_g @h2 ?_
   refine t_r ?_
   simp [go_sem,hP,hgl,hn,h2] <;> (try omega)
  ·refine t_g @h2 ?_
   refine t_r ?_
   simp [go_sem,hP,hgl,hn,h2] <;> (try omega)
 ·rw [if_neg h] at hR
  refine t_g @h ?_
  refine t_r ?_
  simp [go_sem,hP,hgl,hn] <;> (try omega)
theorem z156 (v:Val)(ht:v.nodesN.2=true):Con1 Tryz.prog gl 133 [v.dv] [] v.tyN.dv []:=by
 induction v using Val.ind with
 | h v ih=>
 refine t_in Tryz.func133 ?_
 intro X hP hgl hf hfn hn hR hids hfit
 have hok:v.okB=true:=by
  cases hq:v.okB with
  | true=>rfl
  | false=>rw [Val.nodes_bad hq] at ht;cases ht
 rw [Val.tyN_eq] at hR
 rcases Val.okB_kind hok with ⟨h,-⟩|⟨h,-⟩|⟨h,-,-,a,b,hab⟩|⟨h,-⟩
 ·refine t_g @h ?_
  refine t_c1 trivial z1l ?_
  refine t_r ?_
  simp [go_sem,hP,hgl,hn,h] <;> (try omega)
  all_goals exact t_f
 ·refine t_g @h ?_
  refine t_c1 trivial z4c ?_
  refine t_r ?_
  simp [go_sem,hP,hgl,hn,h] <;> (try omega)
  all_goals exact t_f
 ·have hv:=Val.nodes_pair hab
  rw [ht,hok] at hv
  simp at hv
  refine t_g @h ?_
  refine t_c3 (j2 @h @hab) (ih a (by rw [hab];simp) hv.1) (ih b (by rw [hab];simp) hv.2) (z7x a.tyN b.tyN) ?_
  refine t_r ?_
  simp [go_sem,hP,hgl,hn,h,hab] <;> (try omega)
  all_goals exact t_f
 ·refine t_g @h ?_
  refine t_c1 trivial z7w ?_
  refine t_r ?_
  simp [go_sem,hP,hgl,hn,h] <;> (try omega)
  all_goals exact t_f
theorem z157 (v:Val)(hc:v.count≤1073741824):Con1 Tryz.prog gl 98 [v.dv] [] (.tup [v.typeE.1.dv,dint v.typeE.2]) []:=by
 refine t_in Tryz.func98 ?_
 intro X hP hgl hf hfn hn hR hids hfit
 refine t_g0 ?_
 refine t_c1 trivial (zcu v hc) ?_
 by_cases h:v.checkN=0
 ·have hok:v.nodesN.2=true:=by
   unfold Val.checkN at h
   split at h
   ·assumption
   ·cases h
  refine t_g @h ?_
  refine t_c1 trivial (z156 v hok) ?_
  refine t_r ?_
  simp [go_sem,hP,hgl,hn,Val.typeE,h] <;> (try omega)
  all_goals exact t_f
 ·refine t_g @h ?_
  refine t_r ?_
  simp [go_sem,hP,hgl,hn,Val.typeE,h,zeroTy] <;> (try omega)
  all_goals exact t_f
end
section
theorem z1g {Γ:List T}{t:Tm}{a:T}{F:Env Γ→a.V}(h:Dn Γ t a F):t.shape=true:=by
 have one:∀ {x:Tm},x.shape=true→∀ z ∈ [x],z.shape=true:=by intro x hx z hz;rw [List.mem_singleton.1 hz];exact hx
 have two:∀ {x y:Tm},x.shape=true→y.shape=true→∀ z ∈ [x,y],z.shape=true:=by
  intro x y hx hy z hz;simp at hz;rcases hz with rfl|rfl;exact hx;exact hy
 have three:∀ {x y w:Tm},x.shape=true→y.shape=true→w.shape=true→∀ z ∈ [x,y,w],z.shape=true:=by
  intro x y w hx hy hw z hz;simp at hz;rcases hz with rfl|rfl|rfl;exact hx;exact hy;exact hw
 induction h with
 | var h=>exact z2k
 | lam ha hb ih=>exact z1f rfl (.inl rfl) (T.ok_ty ha) (one ih)
 | app hf hx ihf ihx=>exact z1m rfl (by decide) (two ihf ihx)
 | zero=>rfl
 | succ hx ih=>exact z1m rfl (by decide) (one ih)
 | rc ha hb hf hn ihb ihf ihn=>exact z1f rfl (.inr (.inl rfl)) (T.ok_ty ha) (three ihb ihf ihn)
 | nil=>rfl
 | cons hx hl ihx ihl=>exact z1m rfl (by decide) (two ihx ihl)
 | fold ha hb hf hn ihb ihf ihn=>exact z1f rfl (.inr (.inr rfl)) (T.ok_ty ha) (three ihb ihf ihn)
 | pair hx hy ihx ihy=>exact z1m rfl (by decide) (two ihx ihy)
 | fst hx ih=>exact z1m rfl (by decide) (one ih)
 | snd hx ih=>exact z1m rfl (by decide) (one ih)
 | unit=>rfl
theorem At.lt {Γ:List T}{i:Nat}{a:T}{p:Env Γ→a.V}(h:At Γ i a p):i<Γ.length:=by
 have:=h.get
 exact (List.getElem?_eq_some_iff.1 this).1
theorem z6v {Γ:List T}{t:Tm}{a:T}{F:Env Γ→a.V}(h:Dn Γ t a F):∀ m:Int,(Γ.length:Int)+t.count≤m→t.leastN m=true:=by
 have node0:∀ (k:Int) (y:Ty) (m:Int),0≤m→(Tm.mk k 0 y []).leastN m=true:=by
  intro k y m hm;rw [Tm.leastN_eq];have h9:decide (m<(0:Int))=false:=decide_eq_false (by omega);simp [Tm.index,Tm.args,Tm.leastN.leasts,h9] <;> exact decide_eq_false (by omega)
 have node1:∀ (k:Int) (y:Ty) (x:Tm) (m:Int),0≤m→x.leastN m=true→(Tm.mk k 0 y [x]).leastN m=true:=by
  intro k y x m hm h1;rw [Tm.leastN_eq];have h9:decide (m<(0:Int))=false:=decide_eq_false (by omega);simp [Tm.index,Tm.args,Tm.leastN.leasts,h9,h1] <;> exact decide_eq_false (by omega)
 have node2:∀ (k:Int) (y:Ty) (x z:Tm) (m:Int),0≤m→x.leastN m=true→z.leastN m=true→(Tm.mk k 0 y [x,z]).leastN m=true:=by
  intro k y x z m hm h1 h2;rw [Tm.leastN_eq];have h9:decide (m<(0:Int))=false:=decide_eq_false (by omega);simp [Tm.index,Tm.args,Tm.leastN.leasts,h9,h1,h2] <;> exact decide_eq_false (by omega)
 have node3:∀ (k:Int) (y:Ty) (x z w:Tm) (m:Int),0≤m→x.leastN m=true→z.leastN m=true→w.leastN m=true→(Tm.mk k 0 y [x,z,w]).leastN m=true:=by
  intro k y x z w m hm h1 h2 h3;rw [Tm.leastN_eq];have h9:decide (m<(0:Int))=false:=decide_eq_false (by omega);simp [Tm.index,Tm.args,Tm.leastN.leasts,h9,h1,h2,h3] <;> exact decide_eq_false (by omega)
 induction h with
 | var h=>
  intro m hm
  have:=h.lt
  rename_i Γ i a p
  have h9:decide (m<((i:Nat):Int))=false:=decide_eq_false (by omega)
  rw [vT,Tm.leastN_eq]
  simp [Tm.index,Tm.args,Tm.leastN.leasts,h9] <;> exact decide_eq_false (by omega)
 | lam ha hb ih=>
  intro m hm
  rename_i Γ a r b f
  have hc:(lamT a b).count=1+(b.count+0):=rfl
  rw [hc] at hm
  exact node1 _ _ _ _ (by omega) (ih m (by simp only [List.length_cons];omega))
 | app hf hx ihf ihx=>
  intro m hm
  rename_i Γ a b f x F X
  have hc:(nT 3 [f,x]).count=1+(f.count+(x.count+0)):=rfl
  rw [hc] at hm
  exact node2 _ _ _ _ _ (by omega) (ihf m (by omega)) (ihx m (by omega))
 | zero=>intro m hm;exact node0 _ _ _ (by omega)
 | succ hx ih=>
  intro m hm
  rename_i Γ x X
  have hc:(nT 5 [x]).count=1+(x.count+0):=rfl
  rw [hc] at hm
  exact node1 _ _ _ _ (by omega) (ih m (by omega))
 | rc ha hb hf hn ihb ihf ihn=>
  intro m hm
  rename_i Γ a b f n B F N
  have hc:(Tm.mk 6 0 a.ty [b,f,n]).count=1+(b.count+(f.count+(n.count+0))):=rfl
  rw [hc] at hm
  exact node3 _ _ _ _ _ _ (by omega) (ihb m (by omega)) (ihf m (by omega)) (ihn m (by omega))
 | nil=>intro m hm;exact node0 _ _ _ (by omega)
 | cons hx hl ihx ihl=>
  intro m hm
  rename_i Γ x l X L
  have hc:(nT 8 [x,l]).count=1+(x.count+(l.count+0)):=rfl
  rw [hc] at hm
  exact node2 _ _ _ _ _ (by omega) (ihx m (by omega)) (ihl m (by omega))
 | fold ha hb hf hn ihb ihf ihn=>
  intro m hm
  rename_i Γ a b f n B F N
  have hc:(Tm.mk 9 0 a.ty [b,f,n]).count=1+(b.count+(f.count+(n.count+0))):=rfl
  rw [hc] at hm
  exact node3 _ _ _ _ _ _ (by omega) (ihb m (by omega)) (ihf m (by omega)) (ihn m (by omega))
 | pair hx hy ihx ihy=>
  intro m hm
  rename_i Γ a b x y X Y
  have hc:(nT 10 [x,y]).count=1+(x.count+(y.count+0)):=rfl
  rw [hc] at hm
  exact node2 _ _ _ _ _ (by omega) (ihx m (by omega)) (ihy m (by omega))
 | fst hx ih=>
  intro m hm
  rename_i Γ a b x X
  have hc:(nT 11 [x]).count=1+(x.count+0):=rfl
  rw [hc] at hm
  exact node1 _ _ _ _ (by omega) (ih m (by omega))
 | snd hx ih=>
  intro m hm
  rename_i Γ a b x X
  have hc:(nT 12 [x]).count=1+(x.count+0):=rfl
  rw [hc] at hm
  exact node1 _ _ _ _ (by omega) (ih m (by omega))
 | unit=>intro m hm;exact node0 _ _ _ (by omega)
theorem z2r (t:Tm)(f b:Int):(t.upN f b).count=t.count:=by
 induction t using Tm.ind generalizing f with
 | h t ih=>
 rw [Tm.upN_eq,Tm.count_eq,Tm.count_eq t,Tm.args_mk]
 have key:∀ l:List Tm,(∀ a ∈ l,a ∈ t.args)→Tm.count.counts (l.map fun x=>x.upN (f+bindI t.kind) b)=Tm.count.counts l:=by
  intro l
  induction l with
  | nil=>intro _;rfl
  | cons a r ihr=>intro h;simp only [List.map_cons,Tm.count.counts,ih a (h a (by simp)),ihr fun b hb=>h b (by simp [hb])]
 rw [key t.args fun _ h=>h]
theorem z5n:∀ (a:T) (v:a.V),a.plain→(valOf a v).nodesN.2=true∧(valOf a v).count≤a.size
 | .nat,n,_=>⟨by rw [Val.nodes_flat rfl];simp [valOf,Val.okB,Val.kind,Val.num,Val.list,Val.args];exact decide_eq_true (Int.natCast_nonneg _),Nat.le_refl _⟩
 | .list,l,_=>⟨by rw [Val.nodes_flat rfl];simp [valOf,Val.okB,Val.kind,Val.num,Val.list,Val.args];intro x hx;obtain ⟨n,_,rfl⟩:=List.mem_map.1 hx;exact Int.natCast_nonneg _,Nat.le_refl _⟩
 | .unit,_,_=>⟨rfl,Nat.le_refl _⟩
 | .pair a b,p,h=>by
  obtain ⟨a1,a2⟩:=z5n a p.1 h.1
  obtain ⟨b1,b2⟩:=z5n b p.2 h.2
  refine ⟨?_,?_⟩
  ·rw [Val.nodes_pair (v:=valOf (.pair a b) p) rfl,a1,b1];rfl
  ·show 1+((valOf a p.1).count+((valOf b p.2).count+0))≤1+a.size+b.size
   omega
 | .fn _ _,_,h=>h.elim
end
section
abbrev natY:Ty:=Ty.mk 1 []
abbrev zY:Ty:=Ty.mk 0 []
def buildN (k:Int)(s:Ty)(l:List Tm):Tm × Int:=if 4096<(Tm.mk k 0 s l).count then (zeroTm,4) else (Tm.mk k 0 s l,0)
def nodeE (e k:Int)(s:Ty)(l:List Tm):Tm × Int:=if e=0 then buildN k s l else (zeroTm,e)
def callE (e:Int)(f:Tm):List Tm→Tm × Int
 | []=>(f,e)
 | a::r=>callE (nodeE e 3 zY [f,a]).2 (nodeE e 3 zY [f,a]).1 r
def maxE (y:Ty)(a b:Tm)(e:Int):Tm × Int:=
 match y with
 | .mk k ts=>
  if e=0 then
   if k=1 then callE 0 greatT [a,b]
   else match ts with
    | [s,t]=>
     if k=3 then
      let p:=nodeE 0 11 zY [a]
      let q:=nodeE p.2 11 zY [b]
      let l:=maxE s p.1 q.1 q.2
      let p':=nodeE l.2 12 zY [a]
      let q':=nodeE p'.2 12 zY [b]
      let r:=maxE t p'.1 q'.1 q'.2
      nodeE r.2 10 zY [l.1,r.1]
     else if k=4 then
      let p:=callE 0 (a.upN 0 1) [vT 0]
      let q:=callE p.2 (b.upN 0 1) [vT 0]
      let r:=maxE t p.1 q.1 q.2
      nodeE r.2 2 s [r.1]
     else (nT 13 [],0)
    | _=>(nT 13 [],0)
  else (zeroTm,e)
termination_by SizeOf.sizeOf y
theorem z39 (y:Ty)(hy:y.ok)(a b:Tm)(e:Int):maxE y a b e =
  if e=0 then
   if y.kind=1 then callE 0 greatT [a,b]
   else if y.kind=3 then
    let p:=nodeE 0 11 zY [a]
    let q:=nodeE p.2 11 zY [b]
    let l:=maxE (y.arg 0) p.1 q.1 q.2
    let p':=nodeE l.2 12 zY [a]
    let q':=nodeE p'.2 12 zY [b]
    let r:=maxE (y.arg 1) p'.1 q'.1 q'.2
    nodeE r.2 10 zY [l.1,r.1]
   else if y.kind=4 then
    let p:=callE 0 (a.upN 0 1) [vT 0]
    let q:=callE p.2 (b.upN 0 1) [vT 0]
    let r:=maxE (y.arg 1) p.1 q.1 q.2
    nodeE r.2 2 (y.arg 0) [r.1]
   else (nT 13 [],0)
  else (zeroTm,e):=by
 rw [maxE.eq_def]
 cases y with
 | mk k ts=>
  simp only [Ty.kind]
  by_cases he:e=0
  ·simp only [he,if_true]
   by_cases h1:k=1
   ·simp [h1]
   simp only [h1,if_false]
   by_cases h34:k=3∨k=4
   ·obtain ⟨s,t,hq,-,-,e0,e1⟩:=Ty.ok_args hy h34
    simp only [Ty.args] at hq
    subst hq
    rw [e0,e1]
    rfl
   ·have h3:k ≠ 3:=fun e=>h34 (.inl e)
    have h4:k ≠ 4:=fun e=>h34 (.inr e)
    simp only [h3,h4,if_false]
    match ts with
    | [s,t]=>rfl
    | []=>rfl
    | [_]=>rfl
    | _::_::_::_=>rfl
  ·simp only [he,if_false]
def stepE (s:Ty)(next:Tm)(e:Int):Tm × Int:=
 let b:=maxE s (vT 0) next e
 let i:=nodeE b.2 2 s [b.1]
 nodeE i.2 2 natY [i.1]
def majNodeE (k i:Int)(y:Ty)(a l:List Tm):Tm × Int:=
 if k=7 then (nT 4 [],0)
 else if k=8 then
  let p:=nodeE 0 5 zY [l.getD 1 zeroTm]
  maxE natY (l.getD 0 zeroTm) p.1 p.2
 else if k=2 then nodeE 0 2 (bareN y) l
 else if k=6 then
  let c:=callE 0 ((l.getD 1 zeroTm).upN 0 2) [vT 1,vT 0]
  let st:=stepE (bareN y) c.1 c.2
  nodeE st.2 6 (bareN y) [l.getD 0 zeroTm,st.1,l.getD 2 zeroTm]
 else if k=9 then
  let c:=callE 0 ((l.getD 1 zeroTm).upN 0 3) [vT 2,vT 2,vT 0]
  let st:=stepE (bareN y) c.1 c.2
  let r:=nodeE st.2 6 (bareN y) [(l.getD 0 zeroTm).upN 0 1,st.1,vT 0]
  let la:=nodeE r.2 2 natY [r.1]
  callE la.2 la.1 [l.getD 2 zeroTm]
 else if k=1 then (Tm.mk k i y a,0)
 else nodeE 0 k zY l
def majE:Tm→Tm × Int
 | .mk k i y a=>if (majsE a).2=0 then majNodeE k i y a (majsE a).1 else (zeroTm,(majsE a).2)
where
 majsE:List Tm→List Tm × Int
  | []=>([],0)
  | x::r=>if (majE x).2=0 then if (majsE r).2=0 then ((majE x).1::(majsE r).1,0) else ([],(majsE r).2) else ([],(majE x).2)
theorem zas (t:Tm):majE t=if (majE.majsE t.args).2=0 then majNodeE t.kind t.index t.type t.args (majE.majsE t.args).1 else (zeroTm,(majE.majsE t.args).2):=by
 cases t;rw [majE];rfl
theorem z158 {k:Int}{s:Ty}{l:List Tm}(h:(buildN k s l).2=0):(buildN k s l).1=Tm.mk k 0 s l∧(Tm.mk k 0 s l).count≤4096:=by
 unfold buildN at h ⊢
 split at h
 ·cases h
 ·rename_i hc;rw [if_neg hc];exact ⟨rfl,by omega⟩
theorem z0p {e k:Int}{s:Ty}{l:List Tm}(h:(nodeE e k s l).2=0):e=0∧(nodeE e k s l).1=Tm.mk k 0 s l∧(Tm.mk k 0 s l).count≤4096:=by
 unfold nodeE at h ⊢
 by_cases he:e=0
 ·rw [if_pos he] at h ⊢;exact ⟨he,z158 h⟩
 ·rw [if_neg he] at h;exact absurd h he
theorem z4y:∀ {l:List Tm} {e:Int} {f:Tm},(callE e f l).2=0→e=0∧(callE e f l).1=appsT f l
 | [],e,f,h=>⟨h,rfl⟩
 | a::r,e,f,h=>by
  rw [callE] at h ⊢
  obtain ⟨h1,h2⟩:=z4y h
  obtain ⟨k1,k2,-⟩:=z0p h1
  refine ⟨k1,?_⟩
  rw [h2,k2]
  rfl
theorem z1n (e k:Int)(s:Ty)(l:List Tm)(he:e=0∨e=4):(nodeE e k s l).2=0∨(nodeE e k s l).2=4:=by
 unfold nodeE buildN
 split
 ·split
  ·exact .inr rfl
  ·exact .inl rfl
 ·exact he
theorem z5o:∀ (l:List Tm) (e:Int) (f:Tm),e=0∨e=4→(callE e f l).2=0∨(callE e f l).2=4
 | [],e,f,h=>h
 | a::r,e,f,h=>by rw [callE];exact z5o r _ _ (z1n _ _ _ _ h)
theorem no31:¬ (3:Int)=1:=by decide
theorem no41:¬ (4:Int)=1:=by decide
theorem no43:¬ (4:Int)=3:=by decide
theorem zcv (x y:Tm):maxE (T.ty .nat) x y 0=callE 0 greatT [x,y]:=by rw [z39 _ (T.ok_ty z0r)];rfl
theorem zcw (x y:Tm):maxE (T.ty .list) x y 0=(nT 13 [],0):=by rw [z39 _ (T.ok_ty (a:=.list) (by unfold T.ok;decide))];rfl
theorem zcx (x y:Tm):maxE (T.ty .unit) x y 0=(nT 13 [],0):=by rw [z39 _ (T.ok_ty (a:=.unit) (by unfold T.ok;decide))];rfl
theorem zcy {s t:T}(ho:(T.pair s t).ok)(x y:Tm):maxE (T.pair s t).ty x y 0 =
  (let p:=nodeE 0 11 zY [x]
   let q:=nodeE p.2 11 zY [y]
   let l:=maxE s.ty p.1 q.1 q.2
   let p':=nodeE l.2 12 zY [x]
   let q':=nodeE p'.2 12 zY [y]
   let r:=maxE t.ty p'.1 q'.1 q'.2
   nodeE r.2 10 zY [l.1,r.1]):=by
 rw [z39 _ (T.ok_ty ho),if_pos rfl,if_neg (show ¬ (T.pair s t).ty.kind=1 from no31),if_pos (show (T.pair s t).ty.kind=3 from rfl)]
 rfl
theorem zcz {s t:T}(ho:(T.fn s t).ok)(x y:Tm):maxE (T.fn s t).ty x y 0 =
  (let p:=callE 0 (x.upN 0 1) [vT 0]
   let q:=callE p.2 (y.upN 0 1) [vT 0]
   let r:=maxE t.ty p.1 q.1 q.2
   nodeE r.2 2 s.ty [r.1]):=by
 rw [z39 _ (T.ok_ty ho),if_pos rfl,if_neg (show ¬ (T.fn s t).ty.kind=1 from no41),if_neg (show ¬ (T.fn s t).ty.kind=3 from no43),if_pos (show (T.fn s t).ty.kind=4 from rfl)]
 rfl
theorem zd0 {a:T}(ho:a.ok){e:Int}(he:e ≠ 0)(x y:Tm):maxE a.ty x y e=(zeroTm,e):=by rw [z39 _ (T.ok_ty ho),if_neg he]
theorem z8l:∀ (a:T) (x y:Tm) (e:Int),a.ok→e=0∨e=4→(maxE a.ty x y e).2=0∨(maxE a.ty x y e).2=4
 | a,x,y,e,ho,he=>by
  by_cases h0:e=0
  ·subst h0
   cases a with
   | nat=>rw [zcv];exact z5o _ _ _ (.inl rfl)
   | list=>rw [zcw];exact .inl rfl
   | unit=>rw [zcx];exact .inl rfl
   | pair s t=>
    rw [zcy ho]
    simp only [T.ok,T.size] at ho
    exact z1n _ _ _ _ (z8l t _ _ _ (by unfold T.ok;omega) (z1n _ _ _ _ (z1n _ _ _ _ (z8l s _ _ _ (by unfold T.ok;omega) (z1n _ _ _ _ (z1n _ _ _ _ (.inl rfl)))))))
   | fn s t=>
    rw [zcz ho]
    simp only [T.ok,T.size] at ho
    exact z1n _ _ _ _ (z8l t _ _ _ (by unfold T.ok;omega) (z5o _ _ _ (z5o _ _ _ (.inl rfl))))
  ·rw [zd0 ho h0];exact he
theorem z6w:∀ (a:T) {x y:Tm} {e:Int},a.ok→(maxE a.ty x y e).2=0→e=0∧(maxE a.ty x y e).1=maxT a x y
 | a,x,y,e,ho,h=>by
  by_cases h0:e=0
  ·subst h0
   refine ⟨rfl,?_⟩
   cases a with
   | nat=>rw [zcv] at h ⊢;exact (z4y h).2
   | list=>rw [zcw];rfl
   | unit=>rw [zcx];rfl
   | pair s t=>
    rw [zcy ho] at h ⊢
    simp only [T.ok,T.size] at ho
    obtain ⟨e1,r1,-⟩:=z0p h
    obtain ⟨e2,r2⟩:=z6w t (by unfold T.ok;omega) e1
    obtain ⟨e3,r3,-⟩:=z0p e2
    obtain ⟨e4,r4,-⟩:=z0p e3
    obtain ⟨e5,r5⟩:=z6w s (by unfold T.ok;omega) e4
    obtain ⟨e6,r6,-⟩:=z0p e5
    obtain ⟨-,r7,-⟩:=z0p e6
    refine r1.trans ?_
    rw [r5,r2,r3,r4,r6,r7]
    rfl
   | fn s t=>
    rw [zcz ho] at h ⊢
    simp only [T.ok,T.size] at ho
    obtain ⟨e1,r1,-⟩:=z0p h
    obtain ⟨e2,r2⟩:=z6w t (by unfold T.ok;omega) e1
    obtain ⟨e3,r3⟩:=z4y e2
    obtain ⟨-,r4⟩:=z4y e3
    refine r1.trans ?_
    rw [r2,r3,r4]
    rfl
  ·rw [zd0 ho h0] at h;exact absurd h h0
theorem zhe {s:T}{next:Tm}{e:Int}(ho:s.ok)(h:(stepE s.ty next e).2=0):e=0∧(stepE s.ty next e).1=stepY s.ty next:=by
 unfold stepE at h ⊢
 obtain ⟨e1,r1,-⟩:=z0p h
 obtain ⟨e2,r2,-⟩:=z0p e1
 obtain ⟨e3,r3⟩:=z6w s ho e2
 refine ⟨e3,r1.trans ?_⟩
 rw [r2,r3]
 unfold stepY
 rw [z5j]
 try rfl
theorem zhf {s:T}{next:Tm}{e:Int}(ho:s.ok)(he:e=0∨e=4):(stepE s.ty next e).2=0∨(stepE s.ty next e).2=4:=by
 unfold stepE
 exact z1n _ _ _ _ (z1n _ _ _ _ (z8l s _ _ _ ho he))
theorem zhg {Γ:List T}{t:Tm}{a:T}{F:Env Γ→a.V}(h:Dn Γ t a F):((majE t).2=0→(majE t).1=majT t)∧((majE t).2=0∨(majE t).2=4):=by
 have one:∀ {x:Tm},(((majE x).2=0→(majE x).1=majT x)∧((majE x).2=0∨(majE x).2=4))→((majE.majsE [x]).2=0→(majE.majsE [x]).1=[majT x])∧((majE.majsE [x]).2=0∨(majE.majsE [x]).2=4):=by
  intro x ⟨h1,h2⟩
  simp only [majE.majsE]
  rcases h2 with h2|h2 <;> simp [h2,h1]
 have two:∀ {x:Tm} {l:List Tm} {m:List Tm},(((majE x).2=0→(majE x).1=majT x)∧((majE x).2=0∨(majE x).2=4))→(((majE.majsE l).2=0→(majE.majsE l).1=m)∧((majE.majsE l).2=0∨(majE.majsE l).2=4))→((majE.majsE (x::l)).2=0→(majE.majsE (x::l)).1=majT x::m)∧((majE.majsE (x::l)).2=0∨(majE.majsE (x::l)).2=4):=by
  intro x l m ⟨h1,h2⟩ ⟨k1,k2⟩
  simp only [majE.majsE]
  rcases h2 with h2|h2
  ·rcases k2 with k2|k2 <;> simp [h2,k2,h1,k1]
  ·simp [h2]
 have fin:∀ {t:Tm} {m:List Tm},(((majE.majsE t.args).2=0→(majE.majsE t.args).1=m)∧((majE.majsE t.args).2=0∨(majE.majsE t.args).2=4))→((majNodeE t.kind t.index t.type t.args m).2=0→(majNodeE t.kind t.index t.type t.args m).1=majT t)∧((majNodeE t.kind t.index t.type t.args m).2=0∨(majNodeE t.kind t.index t.type t.args m).2=4)→((majE t).2=0→(majE t).1=majT t)∧((majE t).2=0∨(majE t).2=4):=by
  intro t m ⟨h1,h2⟩ h3
  rw [zas]
  rcases h2 with h2|h2
  ·rw [if_pos h2,h1 h2];exact h3
  ·rw [if_neg (by rw [h2];decide)]
   exact ⟨fun h=>absurd (h2.symm.trans h) (by decide),.inr h2⟩
 induction h with
 | var h=>exact fin (t:=vT _) (m:=[]) ⟨fun _=>rfl,.inl rfl⟩ ⟨fun _=>by rw [z0u];rfl,.inl rfl⟩
 | lam ha hb ih=>
  rename_i Γ a r b f
  refine fin (t:=lamT a b) (one ih) ?_
  have e:majNodeE (lamT a b).kind (lamT a b).index (lamT a b).type (lamT a b).args [majT b]=nodeE 0 2 (bareN a.ty) [majT b]:=rfl
  rw [e]
  exact ⟨fun h=>by rw [(z0p h).2.1,z0u (lamT a b)];rfl,z1n _ _ _ _ (.inl rfl)⟩
 | app hf hx ihf ihx=>
  rename_i Γ a b f x F X
  refine fin (t:=nT 3 [f,x]) (two ihf (one ihx)) ?_
  have e:majNodeE (nT 3 [f,x]).kind (nT 3 [f,x]).index (nT 3 [f,x]).type (nT 3 [f,x]).args [majT f,majT x]=nodeE 0 3 zY [majT f,majT x]:=rfl
  rw [e]
  exact ⟨fun h=>by rw [(z0p h).2.1,z0u (nT 3 [f,x])];rfl,z1n _ _ _ _ (.inl rfl)⟩
 | zero=>
  refine fin (t:=nT 4 []) (m:=[]) ⟨fun _=>rfl,.inl rfl⟩ ?_
  have e:majNodeE (nT 4 []).kind (nT 4 []).index (nT 4 []).type (nT 4 []).args []=nodeE 0 4 zY []:=rfl
  rw [e]
  exact ⟨fun h=>by rw [(z0p h).2.1,z0u (nT 4 [])];rfl,z1n _ _ _ _ (.inl rfl)⟩
 | succ hx ih=>
  rename_i Γ x X
  refine fin (t:=nT 5 [x]) (one ih) ?_
  have e:majNodeE (nT 5 [x]).kind (nT 5 [x]).index (nT 5 [x]).type (nT 5 [x]).args [majT x]=nodeE 0 5 zY [majT x]:=rfl
  rw [e]
  exact ⟨fun h=>by rw [(z0p h).2.1,z0u (nT 5 [x])];rfl,z1n _ _ _ _ (.inl rfl)⟩
 | rc ha hb hf hn ihb ihf ihn=>
  rename_i Γ a b f n B F N
  refine fin (t:=Tm.mk 6 0 a.ty [b,f,n]) (two ihb (two ihf (one ihn))) ?_
  have e:majNodeE 6 0 a.ty [b,f,n] [majT b,majT f,majT n]=nodeE (stepE (bareN a.ty) (callE 0 ((majT f).upN 0 2) [vT 1,vT 0]).1 (callE 0 ((majT f).upN 0 2) [vT 1,vT 0]).2).2 6 (bareN a.ty) [majT b,(stepE (bareN a.ty) (callE 0 ((majT f).upN 0 2) [vT 1,vT 0]).1 (callE 0 ((majT f).upN 0 2) [vT 1,vT 0]).2).1,majT n]:=rfl
  show ((majNodeE 6 0 a.ty [b,f,n] [majT b,majT f,majT n]).2=0→(majNodeE 6 0 a.ty [b,f,n] [majT b,majT f,majT n]).1=majT (Tm.mk 6 0 a.ty [b,f,n]))∧((majNodeE 6 0 a.ty [b,f,n] [majT b,majT f,majT n]).2=0∨(majNodeE 6 0 a.ty [b,f,n] [majT b,majT f,majT n]).2=4)
  rw [e,← z3o]
  refine ⟨fun h=>?_,z1n _ _ _ _ (zhf (z29 ha) (z5o _ _ _ (.inl rfl)))⟩
  obtain ⟨e1,r1,-⟩:=z0p h
  obtain ⟨e2,r2⟩:=zhe (z29 ha) e1
  obtain ⟨-,r3⟩:=z4y e2
  rw [r1,r2,r3,z0u (Tm.mk 6 0 a.ty [b,f,n]),z3o]
  rfl
 | nil=>exact fin (t:=nT 7 []) (m:=[]) ⟨fun _=>rfl,.inl rfl⟩ ⟨fun _=>by rw [z0u];rfl,.inl rfl⟩
 | cons hx hl ihx ihl=>
  rename_i Γ x l X L
  refine fin (t:=nT 8 [x,l]) (two ihx (one ihl)) ?_
  have e:majNodeE (nT 8 [x,l]).kind (nT 8 [x,l]).index (nT 8 [x,l]).type (nT 8 [x,l]).args [majT x,majT l]=maxE (T.ty .nat) (majT x) (nodeE 0 5 zY [majT l]).1 (nodeE 0 5 zY [majT l]).2:=rfl
  rw [e]
  refine ⟨fun h=>?_,z8l .nat _ _ _ z0r (z1n _ _ _ _ (.inl rfl))⟩
  obtain ⟨e1,r1⟩:=z6w .nat z0r h
  obtain ⟨-,r2,-⟩:=z0p e1
  rw [r1,r2,z0u (nT 8 [x,l])]
  show _=maxY (T.ty .nat) (majT x) (nT 5 [majT l])
  rw [z5j]
  rfl
 | fold ha hb hf hn ihb ihf ihn=>
  rename_i Γ a b f n B F N
  refine fin (t:=Tm.mk 9 0 a.ty [b,f,n]) (two ihb (two ihf (one ihn))) ?_
  have e:majNodeE 9 0 a.ty [b,f,n] [majT b,majT f,majT n] =
   (let c:=callE 0 ((majT f).upN 0 3) [vT 2,vT 2,vT 0]
    let st:=stepE (bareN a.ty) c.1 c.2
    let r:=nodeE st.2 6 (bareN a.ty) [(majT b).upN 0 1,st.1,vT 0]
    let la:=nodeE r.2 2 natY [r.1]
    callE la.2 la.1 [majT n]):=rfl
  show ((majNodeE 9 0 a.ty [b,f,n] [majT b,majT f,majT n]).2=0→(majNodeE 9 0 a.ty [b,f,n] [majT b,majT f,majT n]).1=majT (Tm.mk 9 0 a.ty [b,f,n]))∧((majNodeE 9 0 a.ty [b,f,n] [majT b,majT f,majT n]).2=0∨(majNodeE 9 0 a.ty [b,f,n] [majT b,majT f,majT n]).2=4)
  rw [e,← z3o]
  refine ⟨fun h=>?_,z5o _ _ _ (z1n _ _ _ _ (z1n _ _ _ _ (zhf (z29 ha) (z5o _ _ _ (.inl rfl)))))⟩
  obtain ⟨e1,r1⟩:=z4y h
  obtain ⟨e2,r2,-⟩:=z0p e1
  obtain ⟨e3,r3,-⟩:=z0p e2
  obtain ⟨e4,r4⟩:=zhe (z29 ha) e3
  obtain ⟨-,r5⟩:=z4y e4
  refine r1.trans ?_
  rw [r2,r3,r4,r5,z0u (Tm.mk 9 0 a.ty [b,f,n]),z3o]
  rfl
 | pair hx hy ihx ihy=>
  rename_i Γ a b x y X Y
  refine fin (t:=nT 10 [x,y]) (two ihx (one ihy)) ?_
  have e:majNodeE (nT 10 [x,y]).kind (nT 10 [x,y]).index (nT 10 [x,y]).type (nT 10 [x,y]).args [majT x,majT y]=nodeE 0 10 zY [majT x,majT y]:=rfl
  rw [e]
  exact ⟨fun h=>by rw [(z0p h).2.1,z0u (nT 10 [x,y])];rfl,z1n _ _ _ _ (.inl rfl)⟩
 | fst hx ih=>
  rename_i Γ a b x X
  refine fin (t:=nT 11 [x]) (one ih) ?_
  have e:majNodeE (nT 11 [x]).kind (nT 11 [x]).index (nT 11 [x]).type (nT 11 [x]).args [majT x]=nodeE 0 11 zY [majT x]:=rfl
  rw [e]
  exact ⟨fun h=>by rw [(z0p h).2.1,z0u (nT 11 [x])];rfl,z1n _ _ _ _ (.inl rfl)⟩
 | snd hx ih=>
  rename_i Γ a b x X
  refine fin (t:=nT 12 [x]) (one ih) ?_
  have e:majNodeE (nT 12 [x]).kind (nT 12 [x]).index (nT 12 [x]).type (nT 12 [x]).args [majT x]=nodeE 0 12 zY [majT x]:=rfl
  rw [e]
  exact ⟨fun h=>by rw [(z0p h).2.1,z0u (nT 12 [x])];rfl,z1n _ _ _ _ (.inl rfl)⟩
 | unit=>
  refine fin (t:=nT 13 []) (m:=[]) ⟨fun _=>rfl,.inl rfl⟩ ?_
  have e:majNodeE (nT 13 []).kind (nT 13 []).index (nT 13 []).type (nT 13 []).args []=nodeE 0 13 zY []:=rfl
  rw [e]
  exact ⟨fun h=>by rw [(z0p h).2.1,z0u (nT 13 [])];rfl,z1n _ _ _ _ (.inl rfl)⟩
end
section
def Fits (t:Tm)(g:List Ty)(a:T):Prop:=t.inferN g=(a.ty,0)∨(t.inferN g).2=4
def AllFit (g:List Ty):List Tm→List T→Prop
 | [],[]=>True
 | t::r,a::s=>Fits t g a∧AllFit g r s
 | _,_=>False
theorem zhh {g:List Ty}:∀ {l:List Tm} {ts:List T},AllFit g l ts→(Tm.inferN.infers l g=(ts.map T.ty,0))∨(Tm.inferN.infers l g).2=4
 | [],[],_=>.inl rfl
 | [],_::_,h=>h.elim
 | _::_,[],h=>h.elim
 | t::r,a::s,⟨h,hr⟩=>by
  simp only [Tm.inferN.infers]
  rcases h with h|h
  ·rw [h]
   rcases zhh hr with h2|h2
   ·rw [h2];exact .inl rfl
   ·right;rw [if_pos rfl,if_neg (by rw [h2];decide)];exact h2
  ·right;rw [if_neg (by rw [h];decide)];exact h
theorem z3a {k:Int}{y:Ty}{l:List Tm}{g:List Ty}{ts:List T}{a:T}(hk:¬ k=1)(h:AllFit (if k=2 then g++[y] else g) l ts)
  (hr:ruleN k y (ts.map T.ty)=(a.ty,0)∨(ruleN k y (ts.map T.ty)).2=4):Fits (Tm.mk k 0 y l) g a:=by
 have e0:(Tm.mk k 0 y l).inferN g=if (Tm.inferN.infers l (if k=2 then g++[y] else g)).2=0 then ruleN k y (Tm.inferN.infers l (if k=2 then g++[y] else g)).1 else (zeroTy,(Tm.inferN.infers l (if k=2 then g++[y] else g)).2):=by
  rw [Tm.inferN_eq,if_neg (show ¬ (Tm.mk k 0 y l).kind=1 from hk)]
  rfl
 unfold Fits
 rw [e0]
 rcases zhh h with e|e
 ·rw [e,if_pos rfl]
  exact hr
 ·right
  rw [if_neg (by rw [e];decide)]
  exact e
theorem zhi (y:Ty):okN y=(y,0)∨(okN y).2=4:=by
 unfold okN
 split
 ·exact .inl rfl
 ·exact .inr rfl
theorem z6x {Γ:List T}{t:Tm}{a:T}{F:Env Γ→a.V}(h:Dn Γ t a F):Fits t (Γ.reverse.map T.ty) a:=by
 induction h with
 | @var Γ i a p h=>
  left
  have hg:=At.get h
  have hlt:i<Γ.length:=(List.getElem?_eq_some_iff.1 hg).1
  rw [Tm.inferN_eq,if_pos (show (vT i).kind=1 from rfl)]
  rw [if_neg (by show ¬ (((Γ.reverse.map T.ty).length:Int)≤(i:Int));simp;omega)]
  have hi:(vT i).index.toNat=i:=rfl
  rw [hi,List.getD_eq_getElem?_getD,List.getElem?_map]
  have:Γ.reverse[(Γ.reverse.map T.ty).length - 1 - i]? = some a:=by
   rw [List.getElem?_reverse (by simp;omega)]
   simp only [List.length_map,List.length_reverse]
   rw [show Γ.length - 1 - (Γ.length - 1 - i)=i by omega]
   exact hg
  rw [this]
  rfl
 | @lam Γ a r b f ha h ih=>
  refine z3a (ts:=[r]) (by decide) ⟨?_,trivial⟩ (zhi _)
  rw [if_pos rfl]
  simpa using ih
 | @app Γ a b f x F X hf hx ih1 ih2=>
  refine z3a (ts:=[.fn a b,a]) (by decide) ⟨ih1,ih2,trivial⟩ (.inl ?_)
  show (if (4:Int)=4∧a.ty.same a.ty=true then (b.ty,(0:Int)) else (zeroTy,7))=(b.ty,0)
  rw [if_pos ⟨rfl,(Ty.same_iff _ _).2 rfl⟩]
 | zero=>exact z3a (ts:=[]) (by decide) trivial (.inl rfl)
 | succ hx ih=>exact z3a (ts:=[.nat]) (by decide) ⟨ih,trivial⟩ (.inl rfl)
 | @rc Γ a b f n B F N ha hb hf hn ih1 ih2 ih3=>
  refine z3a (ts:=[a,.fn .nat (.fn a a),.nat]) (by decide) ⟨ih1,ih2,ih3,trivial⟩ (.inl ?_)
  show (if a.ty.same a.ty=true∧(T.fn .nat (.fn a a)).ty.same (Ty.mk 4 [Ty.mk 1 [],Ty.mk 4 [a.ty,a.ty]])=true∧(T.ty .nat).same (Ty.mk 1 [])=true then (a.ty,(0:Int)) else (zeroTy,7))=(a.ty,0)
  rw [if_pos ⟨(Ty.same_iff _ _).2 rfl,(Ty.same_iff _ _).2 rfl,(Ty.same_iff _ _).2 rfl⟩]
 | nil=>exact z3a (ts:=[]) (by decide) trivial (.inl rfl)
 | cons hx hl ih1 ih2=>exact z3a (ts:=[.nat,.list]) (by decide) ⟨ih1,ih2,trivial⟩ (.inl rfl)
 | @fold Γ a b f n B F N ha hb hf hn ih1 ih2 ih3=>
  refine z3a (ts:=[a,.fn .nat (.fn .list (.fn a a)),.list]) (by decide) ⟨ih1,ih2,ih3,trivial⟩ (.inl ?_)
  show (if a.ty.same a.ty=true∧(T.fn .nat (.fn .list (.fn a a))).ty.same (Ty.mk 4 [Ty.mk 1 [],Ty.mk 4 [Ty.mk 2 [],Ty.mk 4 [a.ty,a.ty]]])=true∧(T.ty .list).same (Ty.mk 2 [])=true then (a.ty,(0:Int)) else (zeroTy,7))=(a.ty,0)
  rw [if_pos ⟨(Ty.same_iff _ _).2 rfl,(Ty.same_iff _ _).2 rfl,(Ty.same_iff _ _).2 rfl⟩]
 | @pair Γ a b x y X Y hx hy ih1 ih2=>exact z3a (ts:=[a,b]) (by decide) ⟨ih1,ih2,trivial⟩ (zhi _)
 | @fst Γ a b x X hx ih=>exact z3a (ts:=[.pair a b]) (by decide) ⟨ih,trivial⟩ (.inl rfl)
 | @snd Γ a b x X hx ih=>exact z3a (ts:=[.pair a b]) (by decide) ⟨ih,trivial⟩ (.inl rfl)
 | unit=>exact z3a (ts:=[]) (by decide) trivial (.inl rfl)
end
section
def toT:Ty→T
 | .mk k ts=>if k=1 then .nat else if k=2 then .list else if k=3 then .pair ((toTs ts).getD 0 .unit) ((toTs ts).getD 1 .unit) else if k=4 then .fn ((toTs ts).getD 0 .unit) ((toTs ts).getD 1 .unit) else .unit
where
 toTs:List Ty→List T
  | []=>[]
  | x::r=>toT x::toTs r
theorem z3b (a:T):toT a.ty=a:=by
 induction a with
 | nat=>rfl
 | list=>rfl
 | unit=>rfl
 | pair a b iha ihb=>
  show toT (Ty.mk 3 [a.ty,b.ty])=_
  rw [toT]
  simp only [toT.toTs,iha,ihb]
  rfl
 | fn a b iha ihb=>
  show toT (Ty.mk 4 [a.ty,b.ty])=_
  rw [toT]
  simp only [toT.toTs,iha,ihb]
  rfl
def tyR (k:Int)(y:Ty)(l:List T):T:=
 if k=3 then (match l.getD 0 .unit with | .fn _ b=>b|_=>.unit)
 else if k=4∨k=5 then .nat
 else if k=6∨k=9 then toT y
 else if k=7∨k=8 then .list
 else if k=10 then .pair (l.getD 0 .unit) (l.getD 1 .unit)
 else if k=11 then (match l.getD 0 .unit with | .pair a _=>a|_=>.unit)
 else if k=12 then (match l.getD 0 .unit with | .pair _ b=>b|_=>.unit)
 else .unit
def tyT:List T→Tm→T
 | g,.mk k i y a=>
  if k=1 then g.getD (g.length - 1 - i.toNat) .unit
  else if k=2 then .fn (toT y) ((tysT (g++[toT y]) a).getD 0 .unit)
  else tyR k y (tysT g a)
where
 tysT:List T→List Tm→List T
  | _,[]=>[]
  | g,x::r=>tyT g x::tysT g r
theorem z2x (g:List T)(t:Tm):tyT g t=if t.kind=1 then g.getD (g.length - 1 - t.index.toNat) .unit else if t.kind=2 then .fn (toT t.type) ((tyT.tysT (g++[toT t.type]) t.args).getD 0 .unit) else tyR t.kind t.type (tyT.tysT g t.args):=by
 cases t;rw [tyT];rfl
theorem zhj {Γ:List T}{i:Nat}{a:T}{p:Env Γ→a.V}(h:At Γ i a p):Γ.reverse.getD (Γ.reverse.length - 1 - i) .unit=a:=by
 have hg:=At.get h
 have hlt:i<Γ.length:=(List.getElem?_eq_some_iff.1 hg).1
 rw [List.getD_eq_getElem?_getD,List.getElem?_reverse (by simp;omega)]
 simp only [List.length_reverse]
 rw [show Γ.length - 1 - (Γ.length - 1 - i)=i by omega,hg]
 rfl
theorem z0t {Γ:List T}{t:Tm}{a:T}{F:Env Γ→a.V}(h:Dn Γ t a F):tyT Γ.reverse t=a:=by
 induction h with
 | @var Γ i a p h=>rw [z2x,if_pos (show (vT i).kind=1 from rfl)];exact zhj h
 | @lam Γ a r b f ha h ih=>
  rw [z2x]
  show T.fn (toT a.ty) (tyT (Γ.reverse++[toT a.ty]) b)=_
  rw [z3b]
  have:=ih
  simp only [List.reverse_cons] at this
  rw [this]
 | @app Γ a b f x F X hf hx ih1 ih2=>rw [z2x];show (match tyT Γ.reverse f with | .fn _ b=>b|_=>.unit)=_;rw [ih1]
 | zero=>rw [z2x];rfl
 | succ hx ih=>rw [z2x];rfl
 | @rc Γ a b f n B F N ha hb hf hn ih1 ih2 ih3=>rw [z2x];exact z3b a
 | nil=>rw [z2x];rfl
 | cons hx hl ih1 ih2=>rw [z2x];rfl
 | @fold Γ a b f n B F N ha hb hf hn ih1 ih2 ih3=>rw [z2x];exact z3b a
 | @pair Γ a b x y X Y hx hy ih1 ih2=>rw [z2x];show T.pair (tyT Γ.reverse x) (tyT Γ.reverse y)=_;rw [ih1,ih2]
 | @fst Γ a b x X hx ih=>rw [z2x];show (match tyT Γ.reverse x with | .pair a _=>a|_=>.unit)=_;rw [ih]
 | @snd Γ a b x X hx ih=>rw [z2x];show (match tyT Γ.reverse x with | .pair _ b=>b|_=>.unit)=_;rw [ih]
 | unit=>rw [z2x];rfl
def failE (e f:Int):Int:=if e=0 then f else e
def cntY (a:T):Ty:=if a.tk.size≤64 then a.tk.ty else zeroTy
def cntErr (a:T):Int:=if a.tk.size≤64 then 0 else 4
def pairY (y:Ty):Ty:=if y.count+2≤64 then Ty.mk 3 [natY,y] else zeroTy
def pairErr (y:Ty):Int:=if y.count+2≤64 then 0 else 4
def withE (e:Int)(a:T):Ty × Int:=(pairY (cntY a),failE (failE e (cntErr a)) (pairErr (cntY a)))
def fstE (e i:Int):Tm × Int:=nodeE e 11 zY [vT i]
def sndE (e i:Int):Tm × Int:=nodeE e 12 zY [vT i]
def plusE (e:Int)(o x:Tm):Tm × Int:=nodeE (nodeE e 3 zY [plusT,o]).2 3 zY [(nodeE e 3 zY [plusT,o]).1,x]
def sumE:Int→Tm→List Tm→Tm × Int
 | e,o,[]=>(o,e)
 | e,o,x::r=>sumE (plusE e o x).2 (plusE e o x).1 r
def letE (e:Int)(s:Ty)(is inn:Tm):Tm × Int:=nodeE (nodeE e 2 s [inn]).2 3 zY [(nodeE e 2 s [inn]).1,is]
def fstT (i:Int):Tm:=nT 11 [vT i]
def sndT (i:Int):Tm:=nT 12 [vT i]
def sumT:Tm→List Tm→Tm
 | o,[]=>o
 | o,x::r=>sumT (nT 3 [nT 3 [plusT,o],x]) r
def letT (a:T)(is inn:Tm):Tm:=nT 3 [lamT a.wt inn,is]
def unT (k:Int)(a:T)(x:Tm):Tm:=letT a x (nT 10 [fstT 0,nT k [sndT 0]])
def binT (k:Int)(a b:T)(x y:Tm):Tm:=letT a x (letT b (y.upN 0 1) (nT 10 [sumT (fstT 1) [fstT 0],nT k [sndT 1,sndT 0]]))
def appT2 (a b:T)(x y:Tm):Tm:=letT (.fn a b) x (letT a (y.upN 0 1) (letT b (nT 3 [sndT 1,sndT 0]) (nT 10 [nT 5 [sumT (fstT 2) [fstT 1,fstT 0]],sndT 0])))
def stepRT (a:T):Tm:=letT (.fn a a) (nT 3 [sndT 3,vT 1]) (letT a (nT 3 [sndT 0,sndT 1]) (nT 10 [nT 5 [sumT (fstT 2) [fstT 1,fstT 0]],sndT 0]))
def stepFT (a:T):Tm:=letT (.fn .list (.fn a a)) (nT 3 [sndT 4,vT 2]) (letT (.fn a a) (nT 3 [sndT 0,vT 2]) (letT a (nT 3 [sndT 0,sndT 2]) (nT 10 [nT 5 [sumT (fstT 3) [fstT 2,fstT 1,fstT 0]],sndT 0])))
def stepLT (k:Int)(a:T):Tm:=if k=6 then lamT .nat (lamT a.wt (stepRT a)) else lamT .nat (lamT .list (lamT a.wt (stepFT a)))
def roundsT (k:Int)(a b0 b1 b2:T)(x y z:Tm):Tm:=
 letT b0 x (letT b1 (y.upN 0 1) (letT b2 (z.upN 0 2) (letT a (Tm.mk k 0 a.wt.ty [nT 10 [nT 4 [],sndT 2],stepLT k a,sndT 0]) (nT 10 [sumT (fstT 3) [fstT 2,fstT 1,fstT 0],sndT 0]))))
def Er (e:Int):Prop:=e=0∨e=4
theorem z0g {e:Int}(h:Er e)(k:Int)(s:Ty)(l:List Tm):Er (nodeE e k s l).2:=z1n _ _ _ _ h
theorem zhk {e f:Int}(h:Er e)(h':Er f):Er (failE e f):=by unfold failE;split;exact h';exact h
theorem zhl (a:T):Er (cntErr a):=by unfold cntErr;split;exact .inl rfl;exact .inr rfl
theorem z159 (y:Ty):Er (pairErr y):=by unfold pairErr;split;exact .inl rfl;exact .inr rfl
theorem z2m {e:Int}(h:Er e)(a:T):Er (withE e a).2:=zhk (zhk h (zhl a)) (z159 _)
theorem z6y:∀ (l:List Tm) {e:Int} (_:Er e) (o:Tm),Er (sumE e o l).2
 | [],_,h,_=>h
 | _::r,_,h,_=>z6y r (z0g (z0g h _ _ _) _ _ _) _
theorem z2n {e:Int}(h:Er e)(s:Ty)(x y:Tm):Er (letE e s x y).2:=z0g (z0g h _ _ _) _ _ _
theorem zhm {e f:Int}(h:failE e f=0):e=0∧f=0:=by
 unfold failE at h
 split at h
 ·rename_i h1;exact ⟨h1,h⟩
 ·rename_i h1;exact absurd h h1
theorem zhn {a:T}(h:cntErr a=0):a.tk.ok∧cntY a=a.tk.ty:=by
 unfold cntErr at h
 unfold cntY T.ok
 split at h
 ·rename_i h1;exact ⟨h1,if_pos h1⟩
 ·cases h
theorem z15a {e:Int}{a:T}(h:(withE e a).2=0):e=0∧a.wt.ok∧(withE e a).1=a.wt.ty:=by
 obtain ⟨h1,h2⟩:=zhm h
 obtain ⟨h3,h4⟩:=zhm h1
 obtain ⟨h5,h6⟩:=zhn h4
 unfold pairErr at h2
 rw [h6,T.ty_count] at h2
 split at h2
 ·rename_i h7
  refine ⟨h3,by show 1+1+a.tk.size≤64;omega,?_⟩
  show pairY (cntY a)=_
  rw [h6]
  unfold pairY
  rw [T.ty_count,if_pos h7]
  rfl
 ·cases h2
theorem z15b {e i:Int}(h:(fstE e i).2=0):e=0∧(fstE e i).1=fstT i:=⟨(z0p h).1,(z0p h).2.1⟩
theorem z15c {e i:Int}(h:(sndE e i).2=0):e=0∧(sndE e i).1=sndT i:=⟨(z0p h).1,(z0p h).2.1⟩
theorem zho:∀ {l:List Tm} {e:Int} {o:Tm},(sumE e o l).2=0→e=0∧(sumE e o l).1=sumT o l
 | [],_,_,h=>⟨h,rfl⟩
 | x::r,e,o,h=>by
  rw [sumE] at h ⊢
  obtain ⟨h1,h2⟩:=zho h
  unfold plusE at h1
  obtain ⟨h3,h4,-⟩:=z0p h1
  obtain ⟨h5,h6,-⟩:=z0p h3
  refine ⟨h5,h2.trans ?_⟩
  show sumT (plusE e o x).1 r=sumT _ r
  unfold plusE
  rw [h4,h6]
  rfl
theorem z15d {e:Int}{s:Ty}{x y:Tm}(h:(letE e s x y).2=0):e=0∧(letE e s x y).1=nT 3 [Tm.mk 2 0 s [y],x]:=by
 unfold letE at h ⊢
 obtain ⟨h3,h4,-⟩:=z0p h
 obtain ⟨h5,h6,-⟩:=z0p h3
 refine ⟨h5,h4.trans ?_⟩
 rw [h6]
 rfl
theorem z15e:T.list.ok:=by unfold T.ok;decide
theorem z0w {e k:Int}{s:Ty}{l:List Tm}{r:Tm × Int}(q:r=nodeE e k s l)(h:r.2=0):e=0∧r.1=Tm.mk k 0 s l:=by subst q;exact ⟨(z0p h).1,(z0p h).2.1⟩
theorem z2a {e i:Int}{r:Tm × Int}(q:r=fstE e i)(h:r.2=0):e=0∧r.1=fstT i:=by subst q;exact z15b h
theorem z1p {e i:Int}{r:Tm × Int}(q:r=sndE e i)(h:r.2=0):e=0∧r.1=sndT i:=by subst q;exact z15c h
theorem z8m {e:Int}{o:Tm}{l:List Tm}{r:Tm × Int}(q:r=sumE e o l)(h:r.2=0):e=0∧r.1=sumT o l:=by subst q;exact zho h
theorem z2o {e:Int}{s:Ty}{x y:Tm}{r:Tm × Int}(q:r=letE e s x y)(h:r.2=0):e=0∧r.1=nT 3 [Tm.mk 2 0 s [y],x]:=by subst q;exact z15d h
theorem z2p {e:Int}{a:T}{r:Ty × Int}(q:r=withE e a)(h:r.2=0):e=0∧a.wt.ok∧r.1=a.wt.ty:=by subst q;exact z15a h
def unE (k:Int)(a:T)(x:Tm):Tm × Int:=
 let w:=withE 0 a
 let f:=fstE w.2 0
 let s:=sndE f.2 0
 let n:=nodeE s.2 k zY [s.1]
 let c:=nodeE n.2 10 zY [f.1,n.1]
 letE c.2 w.1 x c.1
theorem z6z (k:Int)(a:T)(x:Tm):∃ (w:Ty × Int) (f:Tm × Int) (s:Tm × Int) (n:Tm × Int) (c:Tm × Int),w=withE 0 a∧f=fstE w.2 0∧s=sndE f.2 0∧n=nodeE s.2 k zY [s.1]∧c=nodeE n.2 10 zY [f.1,n.1]∧unE k a x=letE c.2 w.1 x c.1:=⟨_,_,_,_,_,rfl,rfl,rfl,rfl,rfl,rfl⟩
theorem z15f (k:Int)(a:T)(x:Tm):Er (unE k a x).2:=by
 obtain ⟨w,f,s,n,c,z0,z1,z2,z3,z4,z5⟩:=z6z k a x
 have y0:Er w.2:=by rw [z0];exact z2m (.inl rfl:Er 0) _
 have y1:Er f.2:=by rw [z1];exact z0g y0 _ _ _
 have y2:Er s.2:=by rw [z2];exact z0g y1 _ _ _
 have y3:Er n.2:=by rw [z3];exact z0g y2 _ _ _
 have y4:Er c.2:=by rw [z4];exact z0g y3 _ _ _
 rw [z5];exact z2n y4 _ _ _
def binE (k:Int)(a b:T)(x y:Tm):Tm × Int:=
 let g1:=fstE 0 1
 let g0:=fstE g1.2 0
 let s:=sumE g0.2 g1.1 [g0.1]
 let s1:=sndE s.2 1
 let s0:=sndE s1.2 0
 let n:=nodeE s0.2 k zY [s1.1,s0.1]
 let c:=nodeE n.2 10 zY [s.1,n.1]
 let w0:=withE c.2 a
 let w1:=withE w0.2 b
 let m:=letE w1.2 w1.1 (y.upN 0 1) c.1
 letE m.2 w0.1 x m.1
theorem z8n (k:Int)(a b:T)(x y:Tm):∃ (g1:Tm × Int) (g0:Tm × Int) (s:Tm × Int) (s1:Tm × Int) (s0:Tm × Int) (n:Tm × Int) (c:Tm × Int) (w0:Ty × Int) (w1:Ty × Int) (m:Tm × Int),g1=fstE 0 1∧g0=fstE g1.2 0∧s=sumE g0.2 g1.1 [g0.1]∧s1=sndE s.2 1∧s0=sndE s1.2 0∧n=nodeE s0.2 k zY [s1.1,s0.1]∧c=nodeE n.2 10 zY [s.1,n.1]∧w0=withE c.2 a∧w1=withE w0.2 b∧m=letE w1.2 w1.1 (y.upN 0 1) c.1∧binE k a b x y=letE m.2 w0.1 x m.1:=⟨_,_,_,_,_,_,_,_,_,_,rfl,rfl,rfl,rfl,rfl,rfl,rfl,rfl,rfl,rfl,rfl⟩
theorem z15g (k:Int)(a b:T)(x y:Tm):Er (binE k a b x y).2:=by
 obtain ⟨g1,g0,s,s1,s0,n,c,w0,w1,m,z0,z1,z2,z3,z4,z5,z6,z7,z8,z9,z10⟩:=z8n k a b x y
 have y0:Er g1.2:=by rw [z0];exact z0g (.inl rfl:Er 0) _ _ _
 have y1:Er g0.2:=by rw [z1];exact z0g y0 _ _ _
 have y2:Er s.2:=by rw [z2];exact z6y _ y1 _
 have y3:Er s1.2:=by rw [z3];exact z0g y2 _ _ _
 have y4:Er s0.2:=by rw [z4];exact z0g y3 _ _ _
 have y5:Er n.2:=by rw [z5];exact z0g y4 _ _ _
 have y6:Er c.2:=by rw [z6];exact z0g y5 _ _ _
 have y7:Er w0.2:=by rw [z7];exact z2m y6 _
 have y8:Er w1.2:=by rw [z8];exact z2m y7 _
 have y9:Er m.2:=by rw [z9];exact z2n y8 _ _ _
 rw [z10];exact z2n y9 _ _ _
def appE (a b:T)(x y:Tm):Tm × Int:=
 let s1:=sndE 0 1
 let s0:=sndE s1.2 0
 let c:=nodeE s0.2 3 zY [s1.1,s0.1]
 let g2:=fstE c.2 2
 let g1:=fstE g2.2 1
 let g0:=fstE g1.2 0
 let s:=sumE g0.2 g2.1 [g1.1,g0.1]
 let u:=nodeE s.2 5 zY [s.1]
 let z:=sndE u.2 0
 let o:=nodeE z.2 10 zY [u.1,z.1]
 let w1:=withE o.2 a
 let w2:=withE w1.2 b
 let m2:=letE w2.2 w2.1 c.1 o.1
 let m1:=letE m2.2 w1.1 (y.upN 0 1) m2.1
 let w0:=withE m1.2 (.fn a b)
 letE w0.2 w0.1 x m1.1
theorem zat (a b:T)(x y:Tm):∃ (s1:Tm × Int) (s0:Tm × Int) (c:Tm × Int) (g2:Tm × Int) (g1:Tm × Int) (g0:Tm × Int) (s:Tm × Int) (u:Tm × Int) (z:Tm × Int) (o:Tm × Int) (w1:Ty × Int) (w2:Ty × Int) (m2:Tm × Int) (m1:Tm × Int) (w0:Ty × Int),s1=sndE 0 1∧s0=sndE s1.2 0∧c=nodeE s0.2 3 zY [s1.1,s0.1]∧g2=fstE c.2 2∧g1=fstE g2.2 1∧g0=fstE g1.2 0∧s=sumE g0.2 g2.1 [g1.1,g0.1]∧u=nodeE s.2 5 zY [s.1]∧z=sndE u.2 0∧o=nodeE z.2 10 zY [u.1,z.1]∧w1=withE o.2 a∧w2=withE w1.2 b∧m2=letE w2.2 w2.1 c.1 o.1∧m1=letE m2.2 w1.1 (y.upN 0 1) m2.1∧w0=withE m1.2 (.fn a b)∧appE a b x y=letE w0.2 w0.1 x m1.1:=⟨_,_,_,_,_,_,_,_,_,_,_,_,_,_,_,rfl,rfl,rfl,rfl,rfl,rfl,rfl,rfl,rfl,rfl,rfl,rfl,rfl,rfl,rfl,rfl⟩
theorem z15h (a b:T)(x y:Tm):Er (appE a b x y).2:=by
 obtain ⟨s1,s0,c,g2,g1,g0,s,u,z,o,w1,w2,m2,m1,w0,z0,z1,z2,z3,z4,z5,z6,z7,z8,z9,z10,z11,z12,z13,z14,z15⟩:=zat a b x y
 have y0:Er s1.2:=by rw [z0];exact z0g (.inl rfl:Er 0) _ _ _
 have y1:Er s0.2:=by rw [z1];exact z0g y0 _ _ _
 have y2:Er c.2:=by rw [z2];exact z0g y1 _ _ _
 have y3:Er g2.2:=by rw [z3];exact z0g y2 _ _ _
 have y4:Er g1.2:=by rw [z4];exact z0g y3 _ _ _
 have y5:Er g0.2:=by rw [z5];exact z0g y4 _ _ _
 have y6:Er s.2:=by rw [z6];exact z6y _ y5 _
 have y7:Er u.2:=by rw [z7];exact z0g y6 _ _ _
 have y8:Er z.2:=by rw [z8];exact z0g y7 _ _ _
 have y9:Er o.2:=by rw [z9];exact z0g y8 _ _ _
 have y10:Er w1.2:=by rw [z10];exact z2m y9 _
 have y11:Er w2.2:=by rw [z11];exact z2m y10 _
 have y12:Er m2.2:=by rw [z12];exact z2n y11 _ _ _
 have y13:Er m1.2:=by rw [z13];exact z2n y12 _ _ _
 have y14:Er w0.2:=by rw [z14];exact z2m y13 _
 rw [z15];exact z2n y14 _ _ _
def stepRE (e:Int)(a:T):Tm × Int:=
 let p0:=sndE e 3
 let c0:=nodeE p0.2 3 zY [p0.1,vT 1]
 let p1:=sndE c0.2 3
 let q1:=sndE p1.2 0
 let a1:=sndE q1.2 1
 let c1:=nodeE a1.2 3 zY [q1.1,a1.1]
 let g2:=fstE c1.2 2
 let g1:=fstE g2.2 1
 let g0:=fstE g1.2 0
 let s:=sumE g0.2 g2.1 [g1.1,g0.1]
 let u:=nodeE s.2 5 zY [s.1]
 let z:=sndE u.2 0
 let o:=nodeE z.2 10 zY [u.1,z.1]
 let w1:=withE o.2 a
 let m1:=letE w1.2 w1.1 c1.1 o.1
 let w0:=withE m1.2 (.fn a a)
 letE w0.2 w0.1 c0.1 m1.1
theorem zd1 (e:Int)(a:T):∃ (p0:Tm × Int) (c0:Tm × Int) (p1:Tm × Int) (q1:Tm × Int) (a1:Tm × Int) (c1:Tm × Int) (g2:Tm × Int) (g1:Tm × Int) (g0:Tm × Int) (s:Tm × Int) (u:Tm × Int) (z:Tm × Int) (o:Tm × Int) (w1:Ty × Int) (m1:Tm × Int) (w0:Ty × Int),p0=sndE e 3∧c0=nodeE p0.2 3 zY [p0.1,vT 1]∧p1=sndE c0.2 3∧q1=sndE p1.2 0∧a1=sndE q1.2 1∧c1=nodeE a1.2 3 zY [q1.1,a1.1]∧g2=fstE c1.2 2∧g1=fstE g2.2 1∧g0=fstE g1.2 0∧s=sumE g0.2 g2.1 [g1.1,g0.1]∧u=nodeE s.2 5 zY [s.1]∧z=sndE u.2 0∧o=nodeE z.2 10 zY [u.1,z.1]∧w1=withE o.2 a∧m1=letE w1.2 w1.1 c1.1 o.1∧w0=withE m1.2 (.fn a a)∧stepRE e a=letE w0.2 w0.1 c0.1 m1.1:=⟨_,_,_,_,_,_,_,_,_,_,_,_,_,_,_,_,rfl,rfl,rfl,rfl,rfl,rfl,rfl,rfl,rfl,rfl,rfl,rfl,rfl,rfl,rfl,rfl,rfl⟩
theorem z15i (e:Int)(a:T)(he:Er e):Er (stepRE e a).2:=by
 obtain ⟨p0,c0,p1,q1,a1,c1,g2,g1,g0,s,u,z,o,w1,m1,w0,z0,z1,z2,z3,z4,z5,z6,z7,z8,z9,z10,z11,z12,z13,z14,z15,z16⟩:=zd1 e a
 have y0:Er p0.2:=by rw [z0];exact z0g he _ _ _
 have y1:Er c0.2:=by rw [z1];exact z0g y0 _ _ _
 have y2:Er p1.2:=by rw [z2];exact z0g y1 _ _ _
 have y3:Er q1.2:=by rw [z3];exact z0g y2 _ _ _
 have y4:Er a1.2:=by rw [z4];exact z0g y3 _ _ _
 have y5:Er c1.2:=by rw [z5];exact z0g y4 _ _ _
 have y6:Er g2.2:=by rw [z6];exact z0g y5 _ _ _
 have y7:Er g1.2:=by rw [z7];exact z0g y6 _ _ _
 have y8:Er g0.2:=by rw [z8];exact z0g y7 _ _ _
 have y9:Er s.2:=by rw [z9];exact z6y _ y8 _
 have y10:Er u.2:=by rw [z10];exact z0g y9 _ _ _
 have y11:Er z.2:=by rw [z11];exact z0g y10 _ _ _
 have y12:Er o.2:=by rw [z12];exact z0g y11 _ _ _
 have y13:Er w1.2:=by rw [z13];exact z2m y12 _
 have y14:Er m1.2:=by rw [z14];exact z2n y13 _ _ _
 have y15:Er w0.2:=by rw [z15];exact z2m y14 _
 rw [z16];exact z2n y15 _ _ _
def stepFE (e:Int)(a:T):Tm × Int:=
 let p0:=sndE e 4
 let c0:=nodeE p0.2 3 zY [p0.1,vT 2]
 let p1:=sndE c0.2 4
 let q1:=sndE p1.2 0
 let c1:=nodeE q1.2 3 zY [q1.1,vT 2]
 let p2:=sndE c1.2 4
 let q2:=sndE p2.2 0
 let a2:=sndE q2.2 2
 let c2:=nodeE a2.2 3 zY [q2.1,a2.1]
 let g3:=fstE c2.2 3
 let g2:=fstE g3.2 2
 let g1:=fstE g2.2 1
 let g0:=fstE g1.2 0
 let s:=sumE g0.2 g3.1 [g2.1,g1.1,g0.1]
 let u:=nodeE s.2 5 zY [s.1]
 let z:=sndE u.2 0
 let o:=nodeE z.2 10 zY [u.1,z.1]
 let w2:=withE o.2 a
 let m2:=letE w2.2 w2.1 c2.1 o.1
 let w1:=withE m2.2 (.fn a a)
 let m1:=letE w1.2 w1.1 c1.1 m2.1
 let w0:=withE m1.2 (.fn .list (.fn a a))
 letE w0.2 w0.1 c0.1 m1.1
theorem zd2 (e:Int)(a:T):∃ (p0:Tm × Int) (c0:Tm × Int) (p1:Tm × Int) (q1:Tm × Int) (c1:Tm × Int) (p2:Tm × Int) (q2:Tm × Int) (a2:Tm × Int) (c2:Tm × Int) (g3:Tm × Int) (g2:Tm × Int) (g1:Tm × Int) (g0:Tm × Int) (s:Tm × Int) (u:Tm × Int) (z:Tm × Int) (o:Tm × Int) (w2:Ty × Int) (m2:Tm × Int) (w1:Ty × Int) (m1:Tm × Int) (w0:Ty × Int),p0=sndE e 4∧c0=nodeE p0.2 3 zY [p0.1,vT 2]∧p1=sndE c0.2 4∧q1=sndE p1.2 0∧c1=nodeE q1.2 3 zY [q1.1,vT 2]∧p2=sndE c1.2 4∧q2=sndE p2.2 0∧a2=sndE q2.2 2∧c2=nodeE a2.2 3 zY [q2.1,a2.1]∧g3=fstE c2.2 3∧g2=fstE g3.2 2∧g1=fstE g2.2 1∧g0=fstE g1.2 0∧s=sumE g0.2 g3.1 [g2.1,g1.1,g0.1]∧u=nodeE s.2 5 zY [s.1]∧z=sndE u.2 0∧o=nodeE z.2 10 zY [u.1,z.1]∧w2=withE o.2 a∧m2=letE w2.2 w2.1 c2.1 o.1∧w1=withE m2.2 (.fn a a)∧m1=letE w1.2 w1.1 c1.1 m2.1∧w0=withE m1.2 (.fn .list (.fn a a))∧stepFE e a=letE w0.2 w0.1 c0.1 m1.1:=⟨_,_,_,_,_,_,_,_,_,_,_,_,_,_,_,_,_,_,_,_,_,_,rfl,rfl,rfl,rfl,rfl,rfl,rfl,rfl,rfl,rfl,rfl,rfl,rfl,rfl,rfl,rfl,rfl,rfl,rfl,rfl,rfl,rfl,rfl⟩
theorem z15j (e:Int)(a:T)(he:Er e):Er (stepFE e a).2:=by
 obtain ⟨p0,c0,p1,q1,c1,p2,q2,a2,c2,g3,g2,g1,g0,s,u,z,o,w2,m2,w1,m1,w0,z0,z1,z2,z3,z4,z5,z6,z7,z8,z9,z10,z11,z12,z13,z14,z15,z16,z17,z18,z19,z20,z21,z22⟩:=zd2 e a
 have y0:Er p0.2:=by rw [z0];exact z0g he _ _ _
 have y1:Er c0.2:=by rw [z1];exact z0g y0 _ _ _
 have y2:Er p1.2:=by rw [z2];exact z0g y1 _ _ _
 have y3:Er q1.2:=by rw [z3];exact z0g y2 _ _ _
 have y4:Er c1.2:=by rw [z4];exact z0g y3 _ _ _
 have y5:Er p2.2:=by rw [z5];exact z0g y4 _ _ _
 have y6:Er q2.2:=by rw [z6];exact z0g y5 _ _ _
 have y7:Er a2.2:=by rw [z7];exact z0g y6 _ _ _
 have y8:Er c2.2:=by rw [z8];exact z0g y7 _ _ _
 have y9:Er g3.2:=by rw [z9];exact z0g y8 _ _ _
 have y10:Er g2.2:=by rw [z10];exact z0g y9 _ _ _
 have y11:Er g1.2:=by rw [z11];exact z0g y10 _ _ _
 have y12:Er g0.2:=by rw [z12];exact z0g y11 _ _ _
 have y13:Er s.2:=by rw [z13];exact z6y _ y12 _
 have y14:Er u.2:=by rw [z14];exact z0g y13 _ _ _
 have y15:Er z.2:=by rw [z15];exact z0g y14 _ _ _
 have y16:Er o.2:=by rw [z16];exact z0g y15 _ _ _
 have y17:Er w2.2:=by rw [z17];exact z2m y16 _
 have y18:Er m2.2:=by rw [z18];exact z2n y17 _ _ _
 have y19:Er w1.2:=by rw [z19];exact z2m y18 _
 have y20:Er m1.2:=by rw [z20];exact z2n y19 _ _ _
 have y21:Er w0.2:=by rw [z21];exact z2m y20 _
 rw [z22];exact z2n y21 _ _ _
def lamRE (e:Int)(a:T)(t:Ty):Tm × Int:=
 let s:=stepRE e a
 let m:=nodeE s.2 2 t [s.1]
 nodeE m.2 2 natY [m.1]
theorem zau (e:Int)(a:T)(t:Ty):∃ (s:Tm × Int) (m:Tm × Int),s=stepRE e a∧m=nodeE s.2 2 t [s.1]∧lamRE e a t=nodeE m.2 2 natY [m.1]:=⟨_,_,rfl,rfl,rfl⟩
theorem z15k (e:Int)(a:T)(t:Ty)(he:Er e):Er (lamRE e a t).2:=by
 obtain ⟨s,m,z0,z1,z2⟩:=zau e a t
 have y0:Er s.2:=by rw [z0];exact z15i _ _ he
 have y1:Er m.2:=by rw [z1];exact z0g y0 _ _ _
 rw [z2];exact z0g y1 _ _ _
def lamFE (e:Int)(a:T)(t:Ty):Tm × Int:=
 let s:=stepFE e a
 let m:=nodeE s.2 2 t [s.1]
 let n:=nodeE m.2 2 (T.ty .list) [m.1]
 nodeE n.2 2 natY [n.1]
theorem zav (e:Int)(a:T)(t:Ty):∃ (s:Tm × Int) (m:Tm × Int) (n:Tm × Int),s=stepFE e a∧m=nodeE s.2 2 t [s.1]∧n=nodeE m.2 2 (T.ty .list) [m.1]∧lamFE e a t=nodeE n.2 2 natY [n.1]:=⟨_,_,_,rfl,rfl,rfl,rfl⟩
theorem z15l (e:Int)(a:T)(t:Ty)(he:Er e):Er (lamFE e a t).2:=by
 obtain ⟨s,m,n,z0,z1,z2,z3⟩:=zav e a t
 have y0:Er s.2:=by rw [z0];exact z15j _ _ he
 have y1:Er m.2:=by rw [z1];exact z0g y0 _ _ _
 have y2:Er n.2:=by rw [z2];exact z0g y1 _ _ _
 rw [z3];exact z0g y2 _ _ _
def stepLE (k e:Int)(a:T)(r:Ty):Tm × Int:=if k=6 then lamRE e a r else lamFE e a r
theorem z15m (k e:Int)(a:T)(r:Ty)(he:Er e):Er (stepLE k e a r).2:=by
 unfold stepLE
 split
 ·exact z15k _ _ _ he
 ·exact z15l _ _ _ he
def roundsE (k:Int)(a b0 b1 b2:T)(x y z:Tm):Tm × Int:=
 let w:=withE 0 a
 let t:=stepLE k w.2 a w.1
 let p:=sndE t.2 2
 let c:=nodeE p.2 10 zY [nT 4 [],p.1]
 let q:=sndE c.2 0
 let d:=nodeE q.2 k w.1 [c.1,t.1,q.1]
 let g3:=fstE d.2 3
 let g2:=fstE g3.2 2
 let g1:=fstE g2.2 1
 let g0:=fstE g1.2 0
 let s:=sumE g0.2 g3.1 [g2.1,g1.1,g0.1]
 let v:=sndE s.2 0
 let o:=nodeE v.2 10 zY [s.1,v.1]
 let m3:=letE o.2 w.1 d.1 o.1
 let w2:=withE m3.2 b2
 let m2:=letE w2.2 w2.1 (z.upN 0 2) m3.1
 let w1:=withE m2.2 b1
 let m1:=letE w1.2 w1.1 (y.upN 0 1) m2.1
 let w0:=withE m1.2 b0
 letE w0.2 w0.1 x m1.1
theorem z8o (k:Int)(a b0 b1 b2:T)(x y z:Tm):∃ (w:Ty × Int) (t:Tm × Int) (p:Tm × Int) (c:Tm × Int) (q:Tm × Int) (d:Tm × Int) (g3:Tm × Int) (g2:Tm × Int) (g1:Tm × Int) (g0:Tm × Int) (s:Tm × Int) (v:Tm × Int) (o:Tm × Int) (m3:Tm × Int) (w2:Ty × Int) (m2:Tm × Int) (w1:Ty × Int) (m1:Tm × Int) (w0:Ty × Int),w=withE 0 a∧t=stepLE k w.2 a w.1∧p=sndE t.2 2∧c=nodeE p.2 10 zY [nT 4 [],p.1]∧q=sndE c.2 0∧d=nodeE q.2 k w.1 [c.1,t.1,q.1]∧g3=fstE d.2 3∧g2=fstE g3.2 2∧g1=fstE g2.2 1∧g0=fstE g1.2 0∧s=sumE g0.2 g3.1 [g2.1,g1.1,g0.1]∧v=sndE s.2 0∧o=nodeE v.2 10 zY [s.1,v.1]∧m3=letE o.2 w.1 d.1 o.1∧w2=withE m3.2 b2∧m2=letE w2.2 w2.1 (z.upN 0 2) m3.1∧w1=withE m2.2 b1∧m1=letE w1.2 w1.1 (y.upN 0 1) m2.1∧w0=withE m1.2 b0∧roundsE k a b0 b1 b2 x y z=letE w0.2 w0.1 x m1.1:=⟨_,_,_,_,_,_,_,_,_,_,_,_,_,_,_,_,_,_,_,rfl,rfl,rfl,rfl,rfl,rfl,rfl,rfl,rfl,rfl,rfl,rfl,rfl,rfl,rfl,rfl,rfl,rfl,rfl,rfl⟩
theorem z15n (k:Int)(a b0 b1 b2:T)(x y z:Tm):Er (roundsE k a b0 b1 b2 x y z).2:=by
 obtain ⟨w,t,p,c,q,d,g3,g2,g1,g0,s,v,o,m3,w2,m2,w1,m1,w0,z0,z1,z2,z3,z4,z5,z6,z7,z8,z9,z10,z11,z12,z13,z14,z15,z16,z17,z18,z19⟩:=z8o k a b0 b1 b2 x y z
 have y0:Er w.2:=by rw [z0];exact z2m (.inl rfl:Er 0) _
 have y1:Er t.2:=by rw [z1];exact z15m _ _ _ _ y0
 have y2:Er p.2:=by rw [z2];exact z0g y1 _ _ _
 have y3:Er c.2:=by rw [z3];exact z0g y2 _ _ _
 have y4:Er q.2:=by rw [z4];exact z0g y3 _ _ _
 have y5:Er d.2:=by rw [z5];exact z0g y4 _ _ _
 have y6:Er g3.2:=by rw [z6];exact z0g y5 _ _ _
 have y7:Er g2.2:=by rw [z7];exact z0g y6 _ _ _
 have y8:Er g1.2:=by rw [z8];exact z0g y7 _ _ _
 have y9:Er g0.2:=by rw [z9];exact z0g y8 _ _ _
 have y10:Er s.2:=by rw [z10];exact z6y _ y9 _
 have y11:Er v.2:=by rw [z11];exact z0g y10 _ _ _
 have y12:Er o.2:=by rw [z12];exact z0g y11 _ _ _
 have y13:Er m3.2:=by rw [z13];exact z2n y12 _ _ _
 have y14:Er w2.2:=by rw [z14];exact z2m y13 _
 have y15:Er m2.2:=by rw [z15];exact z2n y14 _ _ _
 have y16:Er w1.2:=by rw [z16];exact z2m y15 _
 have y17:Er m1.2:=by rw [z17];exact z2n y16 _ _ _
 have y18:Er w0.2:=by rw [z18];exact z2m y17 _
 rw [z19];exact z2n y18 _ _ _
def T.cod:T→T
 | .fn _ b=>b
 | _=>.unit
def tkNodeE (k i:Int)(y:Ty)(a l:List Tm)(ts:List T):Tm × Int:=
 if k=2 then
  let n:=nodeE (cntErr (toT y)) 2 (cntY (toT y)) [l.getD 0 zeroTm]
  nodeE n.2 10 zY [nT 4 [],n.1]
 else if k=3 then appE (ts.getD 1 .unit) (ts.getD 0 .unit).cod (l.getD 0 zeroTm) (l.getD 1 zeroTm)
 else if k=5∨k=11∨k=12 then unE k (ts.getD 0 .unit) (l.getD 0 zeroTm)
 else if k=8∨k=10 then binE k (ts.getD 0 .unit) (ts.getD 1 .unit) (l.getD 0 zeroTm) (l.getD 1 zeroTm)
 else if k=6∨k=9 then roundsE k (toT y) (ts.getD 0 .unit) (ts.getD 1 .unit) (ts.getD 2 .unit) (l.getD 0 zeroTm) (l.getD 1 zeroTm) (l.getD 2 zeroTm)
 else nodeE 0 10 zY [nT 4 [],Tm.mk k i y a]
def tickE:List T→Tm→Tm × Int
 | g,.mk k i y a=>if (ticksE (if k=2 then g++[toT y] else g) a).2=0 then tkNodeE k i y a (ticksE (if k=2 then g++[toT y] else g) a).1 (tyT.tysT (if k=2 then g++[toT y] else g) a) else (zeroTm,(ticksE (if k=2 then g++[toT y] else g) a).2)
where
 ticksE:List T→List Tm→List Tm × Int
  | _,[]=>([],0)
  | g,x::r=>if (tickE g x).2=0 then if (ticksE g r).2=0 then ((tickE g x).1::(ticksE g r).1,0) else ([],(ticksE g r).2) else ([],(tickE g x).2)
theorem zd3 (g:List T)(t:Tm):tickE g t=if (tickE.ticksE (if t.kind=2 then g++[toT t.type] else g) t.args).2=0 then tkNodeE t.kind t.index t.type t.args (tickE.ticksE (if t.kind=2 then g++[toT t.type] else g) t.args).1 (tyT.tysT (if t.kind=2 then g++[toT t.type] else g) t.args) else (zeroTm,(tickE.ticksE (if t.kind=2 then g++[toT t.type] else g) t.args).2):=by
 cases t;rw [tickE];rfl
theorem zd4 {k:Int}{a:T}{x:Tm}(h:(unE k a x).2=0):a.wt.ok∧(unE k a x).1=unT k a x:=by
 obtain ⟨w,f,s,n,c,z0,z1,z2,z3,z4,z5⟩:=z6z k a x
 rw [z5] at h ⊢
 obtain ⟨h5,r5⟩:=z2o rfl h
 obtain ⟨h4,r4⟩:=z0w z4 h5
 obtain ⟨h3,r3⟩:=z0w z3 h4
 obtain ⟨h2,r2⟩:=z1p z2 h3
 obtain ⟨h1,r1⟩:=z2a z1 h2
 obtain ⟨-,o0_0,r0⟩:=z2p z0 h1
 refine ⟨o0_0,r5.trans ?_⟩
 rw [r4,r3,r2,r1,r0]
 rfl
theorem zhp {k:Int}{a b:T}{x y:Tm}(h:(binE k a b x y).2=0):b.wt.ok∧a.wt.ok∧(binE k a b x y).1=binT k a b x y:=by
 obtain ⟨g1,g0,s,s1,s0,n,c,w0,w1,m,z0,z1,z2,z3,z4,z5,z6,z7,z8,z9,z10⟩:=z8n k a b x y
 rw [z10] at h ⊢
 obtain ⟨h10,r10⟩:=z2o rfl h
 obtain ⟨h9,r9⟩:=z2o z9 h10
 obtain ⟨h8,o8_0,r8⟩:=z2p z8 h9
 obtain ⟨h7,o7_0,r7⟩:=z2p z7 h8
 obtain ⟨h6,r6⟩:=z0w z6 h7
 obtain ⟨h5,r5⟩:=z0w z5 h6
 obtain ⟨h4,r4⟩:=z1p z4 h5
 obtain ⟨h3,r3⟩:=z1p z3 h4
 obtain ⟨h2,r2⟩:=z8m z2 h3
 obtain ⟨h1,r1⟩:=z2a z1 h2
 obtain ⟨-,r0⟩:=z2a z0 h1
 refine ⟨o8_0,o7_0,r10.trans ?_⟩
 rw [r9,r8,r7,r6,r5,r4,r3,r2,r1,r0]
 rfl
theorem zhq {a b:T}{x y:Tm}(h:(appE a b x y).2=0):(T.fn a b).wt.ok∧b.wt.ok∧a.wt.ok∧(appE a b x y).1=appT2 a b x y:=by
 obtain ⟨s1,s0,c,g2,g1,g0,s,u,z,o,w1,w2,m2,m1,w0,z0,z1,z2,z3,z4,z5,z6,z7,z8,z9,z10,z11,z12,z13,z14,z15⟩:=zat a b x y
 rw [z15] at h ⊢
 obtain ⟨h15,r15⟩:=z2o rfl h
 obtain ⟨h14,o14_0,r14⟩:=z2p z14 h15
 obtain ⟨h13,r13⟩:=z2o z13 h14
 obtain ⟨h12,r12⟩:=z2o z12 h13
 obtain ⟨h11,o11_0,r11⟩:=z2p z11 h12
 obtain ⟨h10,o10_0,r10⟩:=z2p z10 h11
 obtain ⟨h9,r9⟩:=z0w z9 h10
 obtain ⟨h8,r8⟩:=z1p z8 h9
 obtain ⟨h7,r7⟩:=z0w z7 h8
 obtain ⟨h6,r6⟩:=z8m z6 h7
 obtain ⟨h5,r5⟩:=z2a z5 h6
 obtain ⟨h4,r4⟩:=z2a z4 h5
 obtain ⟨h3,r3⟩:=z2a z3 h4
 obtain ⟨h2,r2⟩:=z0w z2 h3
 obtain ⟨h1,r1⟩:=z1p z1 h2
 obtain ⟨-,r0⟩:=z1p z0 h1
 refine ⟨o14_0,o11_0,o10_0,r15.trans ?_⟩
 rw [r14,r13,r12,r11,r10,r9,r8,r7,r6,r5,r4,r3,r2,r1,r0]
 rfl
theorem z15o {e:Int}{a:T}(h:(stepRE e a).2=0):e=0∧(T.fn a a).wt.ok∧a.wt.ok∧(stepRE e a).1=stepRT a:=by
 obtain ⟨p0,c0,p1,q1,a1,c1,g2,g1,g0,s,u,z,o,w1,m1,w0,z0,z1,z2,z3,z4,z5,z6,z7,z8,z9,z10,z11,z12,z13,z14,z15,z16⟩:=zd1 e a
 rw [z16] at h ⊢
 obtain ⟨h16,r16⟩:=z2o rfl h
 obtain ⟨h15,o15_0,r15⟩:=z2p z15 h16
 obtain ⟨h14,r14⟩:=z2o z14 h15
 obtain ⟨h13,o13_0,r13⟩:=z2p z13 h14
 obtain ⟨h12,r12⟩:=z0w z12 h13
 obtain ⟨h11,r11⟩:=z1p z11 h12
 obtain ⟨h10,r10⟩:=z0w z10 h11
 obtain ⟨h9,r9⟩:=z8m z9 h10
 obtain ⟨h8,r8⟩:=z2a z8 h9
 obtain ⟨h7,r7⟩:=z2a z7 h8
 obtain ⟨h6,r6⟩:=z2a z6 h7
 obtain ⟨h5,r5⟩:=z0w z5 h6
 obtain ⟨h4,r4⟩:=z1p z4 h5
 obtain ⟨h3,r3⟩:=z1p z3 h4
 obtain ⟨h2,r2⟩:=z1p z2 h3
 obtain ⟨h1,r1⟩:=z0w z1 h2
 obtain ⟨h0,r0⟩:=z1p z0 h1
 refine ⟨h0,o15_0,o13_0,r16.trans ?_⟩
 rw [r15,r14,r13,r12,r11,r10,r9,r8,r7,r6,r5,r4,r3,r1,r0]
 rfl
theorem zhr {e:Int}{a:T}{r:Tm × Int}(q:r=stepRE e a)(h:r.2=0):e=0∧(T.fn a a).wt.ok∧a.wt.ok∧r.1=stepRT a:=by subst q;exact z15o h
theorem z15p {e:Int}{a:T}(h:(stepFE e a).2=0):e=0∧(T.fn .list (T.fn a a)).wt.ok∧(T.fn a a).wt.ok∧a.wt.ok∧(stepFE e a).1=stepFT a:=by
 obtain ⟨p0,c0,p1,q1,c1,p2,q2,a2,c2,g3,g2,g1,g0,s,u,z,o,w2,m2,w1,m1,w0,z0,z1,z2,z3,z4,z5,z6,z7,z8,z9,z10,z11,z12,z13,z14,z15,z16,z17,z18,z19,z20,z21,z22⟩:=zd2 e a
 rw [z22] at h ⊢
 obtain ⟨h22,r22⟩:=z2o rfl h
 obtain ⟨h21,o21_0,r21⟩:=z2p z21 h22
 obtain ⟨h20,r20⟩:=z2o z20 h21
 obtain ⟨h19,o19_0,r19⟩:=z2p z19 h20
 obtain ⟨h18,r18⟩:=z2o z18 h19
 obtain ⟨h17,o17_0,r17⟩:=z2p z17 h18
 obtain ⟨h16,r16⟩:=z0w z16 h17
 obtain ⟨h15,r15⟩:=z1p z15 h16
 obtain ⟨h14,r14⟩:=z0w z14 h15
 obtain ⟨h13,r13⟩:=z8m z13 h14
 obtain ⟨h12,r12⟩:=z2a z12 h13
 obtain ⟨h11,r11⟩:=z2a z11 h12
 obtain ⟨h10,r10⟩:=z2a z10 h11
 obtain ⟨h9,r9⟩:=z2a z9 h10
 obtain ⟨h8,r8⟩:=z0w z8 h9
 obtain ⟨h7,r7⟩:=z1p z7 h8
 obtain ⟨h6,r6⟩:=z1p z6 h7
 obtain ⟨h5,r5⟩:=z1p z5 h6
 obtain ⟨h4,r4⟩:=z0w z4 h5
 obtain ⟨h3,r3⟩:=z1p z3 h4
 obtain ⟨h2,r2⟩:=z1p z2 h3
 obtain ⟨h1,r1⟩:=z0w z1 h2
 obtain ⟨h0,r0⟩:=z1p z0 h1
 refine ⟨h0,o21_0,o19_0,o17_0,r22.trans ?_⟩
 rw [r21,r20,r19,r18,r17,r16,r15,r14,r13,r12,r11,r10,r9,r8,r7,r6,r4,r3,r1,r0]
 rfl
theorem zhs {e:Int}{a:T}{r:Tm × Int}(q:r=stepFE e a)(h:r.2=0):e=0∧(T.fn .list (.fn a a)).wt.ok∧(T.fn a a).wt.ok∧a.wt.ok∧r.1=stepFT a:=by subst q;exact z15p h
theorem z15q {e:Int}{a:T}{t:Ty}(ht:t=a.wt.ty)(h:(lamRE e a t).2=0):e=0∧(T.fn a a).wt.ok∧a.wt.ok∧(lamRE e a t).1=lamT .nat (lamT a.wt (stepRT a)):=by
 obtain ⟨s,m,z0,z1,z2⟩:=zau e a t
 rw [z2] at h ⊢
 obtain ⟨h2,r2⟩:=z0w rfl h
 obtain ⟨h1,r1⟩:=z0w z1 h2
 obtain ⟨h0,o0_0,o0_1,r0⟩:=zhr z0 h1
 refine ⟨h0,o0_0,o0_1,r2.trans ?_⟩
 rw [r1,r0,ht]
 rfl
theorem z15r {e:Int}{a:T}{t:Ty}(ht:t=a.wt.ty)(h:(lamFE e a t).2=0):e=0∧(T.fn .list (.fn a a)).wt.ok∧(T.fn a a).wt.ok∧a.wt.ok∧(lamFE e a t).1=lamT .nat (lamT .list (lamT a.wt (stepFT a))):=by
 obtain ⟨s,m,n,z0,z1,z2,z3⟩:=zav e a t
 rw [z3] at h ⊢
 obtain ⟨h3,r3⟩:=z0w rfl h
 obtain ⟨h2,r2⟩:=z0w z2 h3
 obtain ⟨h1,r1⟩:=z0w z1 h2
 obtain ⟨h0,o0_0,o0_1,o0_2,r0⟩:=zhs z0 h1
 refine ⟨h0,o0_0,o0_1,o0_2,r3.trans ?_⟩
 rw [r2,r1,r0,ht]
 rfl
theorem z15s {k e:Int}{a:T}{y:Ty}{r:Tm × Int}(q:r=stepLE k e a y)(h:r.2=0):e=0∧(y=a.wt.ty→(T.fn a a).wt.ok∧a.wt.ok∧(k ≠ 6→(T.fn .list (.fn a a)).wt.ok)∧r.1=stepLT k a):=by
 subst q
 unfold stepLE at h ⊢
 by_cases hk:k=6
 ·rw [if_pos hk] at h ⊢
  refine ⟨?_,fun hy=>?_⟩
  ·obtain ⟨s,m,q1,q2,q3⟩:=zau e a y
   rw [q3] at h
   exact (zhr q1 (z0w q2 (z0w rfl h).1).1).1
  ·obtain ⟨o1,o2,o3,o4⟩:=z15q hy h
   exact ⟨o2,o3,fun h=>absurd hk h,by rw [o4,stepLT,if_pos hk]⟩
 ·rw [if_neg hk] at h ⊢
  refine ⟨?_,fun hy=>?_⟩
  ·obtain ⟨s,m,n,q1,q2,q3,q4⟩:=zav e a y
   rw [q4] at h
   exact (zhs q1 (z0w q2 (z0w q3 (z0w rfl h).1).1).1).1
  ·obtain ⟨o1,o2,o3,o4,o5⟩:=z15r hy h
   exact ⟨o3,o4,fun _=>o2,by rw [o5,stepLT,if_neg hk]⟩
theorem zht {k:Int}{a b0 b1 b2:T}{x y z:Tm}(h:(roundsE k a b0 b1 b2 x y z).2=0):b0.wt.ok∧b1.wt.ok∧b2.wt.ok∧a.wt.ok∧(T.fn a a).wt.ok∧a.wt.ok∧(k ≠ 6→(T.fn .list (.fn a a)).wt.ok)∧(roundsE k a b0 b1 b2 x y z).1=roundsT k a b0 b1 b2 x y z:=by
 obtain ⟨w,t,p,c,q,d,g3,g2,g1,g0,s,v,o,m3,w2,m2,w1,m1,w0,z0,z1,z2,z3,z4,z5,z6,z7,z8,z9,z10,z11,z12,z13,z14,z15,z16,z17,z18,z19⟩:=z8o k a b0 b1 b2 x y z
 rw [z19] at h ⊢
 obtain ⟨h19,r19⟩:=z2o rfl h
 obtain ⟨h18,o18_0,r18⟩:=z2p z18 h19
 obtain ⟨h17,r17⟩:=z2o z17 h18
 obtain ⟨h16,o16_0,r16⟩:=z2p z16 h17
 obtain ⟨h15,r15⟩:=z2o z15 h16
 obtain ⟨h14,o14_0,r14⟩:=z2p z14 h15
 obtain ⟨h13,r13⟩:=z2o z13 h14
 obtain ⟨h12,r12⟩:=z0w z12 h13
 obtain ⟨h11,r11⟩:=z1p z11 h12
 obtain ⟨h10,r10⟩:=z8m z10 h11
 obtain ⟨h9,r9⟩:=z2a z9 h10
 obtain ⟨h8,r8⟩:=z2a z8 h9
 obtain ⟨h7,r7⟩:=z2a z7 h8
 obtain ⟨h6,r6⟩:=z2a z6 h7
 obtain ⟨h5,r5⟩:=z0w z5 h6
 obtain ⟨h4,r4⟩:=z1p z4 h5
 obtain ⟨h3,r3⟩:=z0w z3 h4
 obtain ⟨h2,r2⟩:=z1p z2 h3
 obtain ⟨h1,r1⟩:=z15s z1 h2
 obtain ⟨-,o0_0,r0⟩:=z2p z0 h1
 obtain ⟨p1,p2,p3,p4⟩:=r1 r0
 refine ⟨o18_0,o16_0,o14_0,o0_0,p1,p2,p3,r19.trans ?_⟩
 rw [r18,r17,r16,r15,r14,r13,r12,r11,r10,r9,r8,r7,r6,r5,r4,r3,r2,p4,r0]
 rfl
end
section
theorem er4 {e:Int}(h:Er e)(h0:¬ e=0):e=4:=by rcases h with h|h;exact absurd h h0;exact h
theorem z15t (k i:Int)(y:Ty)(a l:List Tm)(ts:List T):Er (tkNodeE k i y a l ts).2:=by
 unfold tkNodeE
 split
 ·exact z0g (z0g (zhl _) _ _ _) _ _ _
 split
 ·exact z15h _ _ _ _
 split
 ·exact z15f _ _ _
 split
 ·exact z15g _ _ _ _ _
 split
 ·exact z15n _ _ _ _ _ _ _ _
 ·exact z0g (.inl rfl) _ _ _
theorem zhu {g:List T}:∀ {l:List Tm},(∀ x ∈ l,Er (tickE g x).2)→Er (tickE.ticksE g l).2
 | [],_=>.inl rfl
 | x::r,h=>by
  simp only [tickE.ticksE]
  split
  ·split
   ·exact .inl rfl
   ·exact zhu fun y hy=>h y (List.mem_cons_of_mem _ hy)
  ·exact h x (List.mem_cons_self ..)
theorem zd5 (t:Tm):∀ g,Er (tickE g t).2:=by
 induction t using Tm.ind with
 | h t ih=>
 intro g
 rw [zd3]
 generalize (if t.kind=2 then g++[toT t.type] else g)=g'
 split
 ·exact z15t _ _ _ _ _ _
 ·exact zhu fun x hx=>ih x hx _
theorem zd6 {g:List T}{k i:Int}{y:Ty}{x:Tm}(hk:¬ k=2)(h:(tickE g (Tm.mk k i y [x])).2=0):(tickE g x).2=0∧tickE g (Tm.mk k i y [x])=tkNodeE k i y [x] [(tickE g x).1] [tyT g x]:=by
 have e:tickE g (Tm.mk k i y [x])=if (tickE.ticksE g [x]).2=0 then tkNodeE k i y [x] (tickE.ticksE g [x]).1 [tyT g x] else (zeroTm,(tickE.ticksE g [x]).2):=by rw [tickE,if_neg hk];rfl
 rw [e] at h ⊢
 simp only [tickE.ticksE] at h ⊢
 by_cases h1:(tickE g x).2=0
 ·simp only [h1,if_true];exact ⟨trivial,trivial⟩
 ·simp only [h1,if_false] at h
theorem zaw {g:List T}{k i:Int}{y:Ty}{x z:Tm}(hk:¬ k=2)(h:(tickE g (Tm.mk k i y [x,z])).2=0):(tickE g x).2=0∧(tickE g z).2=0∧tickE g (Tm.mk k i y [x,z])=tkNodeE k i y [x,z] [(tickE g x).1,(tickE g z).1] [tyT g x,tyT g z]:=by
 have e:tickE g (Tm.mk k i y [x,z])=if (tickE.ticksE g [x,z]).2=0 then tkNodeE k i y [x,z] (tickE.ticksE g [x,z]).1 [tyT g x,tyT g z] else (zeroTm,(tickE.ticksE g [x,z]).2):=by rw [tickE,if_neg hk];rfl
 rw [e] at h ⊢
 simp only [tickE.ticksE] at h ⊢
 by_cases h1:(tickE g x).2=0
 ·by_cases h2:(tickE g z).2=0
  ·simp only [h1,h2,if_true];exact ⟨trivial,trivial,trivial⟩
  ·simp only [h1,h2,if_true,if_false] at h
 ·simp only [h1,if_false] at h
theorem zhv {g:List T}{k i:Int}{y:Ty}{x z w:Tm}(hk:¬ k=2)(h:(tickE g (Tm.mk k i y [x,z,w])).2=0):(tickE g x).2=0∧(tickE g z).2=0∧(tickE g w).2=0∧tickE g (Tm.mk k i y [x,z,w])=tkNodeE k i y [x,z,w] [(tickE g x).1,(tickE g z).1,(tickE g w).1] [tyT g x,tyT g z,tyT g w]:=by
 have e:tickE g (Tm.mk k i y [x,z,w])=if (tickE.ticksE g [x,z,w]).2=0 then tkNodeE k i y [x,z,w] (tickE.ticksE g [x,z,w]).1 [tyT g x,tyT g z,tyT g w] else (zeroTm,(tickE.ticksE g [x,z,w]).2):=by rw [tickE,if_neg hk];rfl
 rw [e] at h ⊢
 simp only [tickE.ticksE] at h ⊢
 by_cases h1:(tickE g x).2=0
 ·by_cases h2:(tickE g z).2=0
  ·by_cases h3:(tickE g w).2=0
   ·simp only [h1,h2,h3,if_true];exact ⟨trivial,trivial,trivial,trivial⟩
   ·simp only [h1,h2,h3,if_true,if_false] at h
  ·simp only [h1,h2,if_true,if_false] at h
 ·simp only [h1,if_false] at h
theorem z15u {g:List T}{a:T}{b:Tm}(h:(tickE g (lamT a b)).2=0):(tickE (g++[a]) b).2=0∧tickE g (lamT a b)=nodeE (nodeE (cntErr a) 2 (cntY a) [(tickE (g++[a]) b).1]).2 10 zY [nT 4 [],(nodeE (cntErr a) 2 (cntY a) [(tickE (g++[a]) b).1]).1]:=by
 have e:tickE g (lamT a b)=if (tickE.ticksE (g++[a]) [b]).2=0 then tkNodeE 2 0 a.ty [b] (tickE.ticksE (g++[a]) [b]).1 [tyT (g++[a]) b] else (zeroTm,(tickE.ticksE (g++[a]) [b]).2):=by
  rw [lamT,tickE,if_pos rfl,z3b];rfl
 rw [e] at h ⊢
 simp only [tickE.ticksE] at h ⊢
 by_cases h1:(tickE (g++[a]) b).2=0
 ·simp only [h1,if_true]
  refine ⟨trivial,?_⟩
  unfold tkNodeE
  rw [if_pos rfl,z3b]
  rfl
 ·simp only [h1,if_false] at h
variable {Γ:List T}{a b:T}
theorem z0z {r:T}{x i:Tm}{X:Env Γ→a.wt.V}{I:Env (a.wt::Γ)→r.V}(ha:a.wt.ok)(hx:Dn Γ x a.wt X)(hi:Dn (a.wt::Γ) i r I):Dn Γ (letT a x i) r (fun e=>I (X e,e)):=.app (.lam ha hi) hx
theorem zhw {Δ:List T}{x y:Tm}{X Y:Env Δ→T.nat.V}(hx:Dn Δ x .nat X)(hy:Dn Δ y .nat Y):Dn Δ (sumT x [y]) .nat (fun e=>Nat.add (X e) (Y e)):=.app (.app (z4v _) hx) hy
theorem zd7 {Δ:List T}{x y z:Tm}{X Y Z:Env Δ→T.nat.V}(hx:Dn Δ x .nat X)(hy:Dn Δ y .nat Y)(hz:Dn Δ z .nat Z):Dn Δ (sumT x [y,z]) .nat (fun e=>Nat.add (Nat.add (X e) (Y e)) (Z e)):=.app (.app (z4v _) (.app (.app (z4v _) hx) hy)) hz
theorem zd8 {Δ:List T}{x y z w:Tm}{X Y Z W:Env Δ→T.nat.V}(hx:Dn Δ x .nat X)(hy:Dn Δ y .nat Y)(hz:Dn Δ z .nat Z)(hw:Dn Δ w .nat W):Dn Δ (sumT x [y,z,w]) .nat (fun e=>Nat.add (Nat.add (Nat.add (X e) (Y e)) (Z e)) (W e)):=.app (.app (z4v _) (.app (.app (z4v _) (.app (.app (z4v _) hx) hy)) hz)) hw
theorem z3r {Δ:List T}{a0:T}:Dn (a0.wt::Δ) (fstT 0) .nat (fun e=>Prod.fst e.1):=.fst (.var .zero)
theorem z4z {Δ:List T}{a0 a1:T}:Dn (a0::a1.wt::Δ) (fstT 1) .nat (fun e=>Prod.fst e.2.1):=.fst (.var (.succ .zero))
theorem z70 {Δ:List T}{a0 a1 a2:T}:Dn (a0::a1::a2.wt::Δ) (fstT 2) .nat (fun e=>Prod.fst e.2.2.1):=.fst (.var (.succ (.succ .zero)))
theorem zd9 {Δ:List T}{a0 a1 a2 a3:T}:Dn (a0::a1::a2::a3.wt::Δ) (fstT 3) .nat (fun e=>Prod.fst e.2.2.2.1):=.fst (.var (.succ (.succ (.succ .zero))))
theorem z25 {Δ:List T}{a0:T}:Dn (a0.wt::Δ) (sndT 0) a0.tk (fun e=>Prod.snd e.1):=.snd (.var .zero)
theorem z8p {Δ:List T}{a0 a1:T}:Dn (a0::a1.wt::Δ) (sndT 1) a1.tk (fun e=>Prod.snd e.2.1):=.snd (.var (.succ .zero))
theorem zda {Δ:List T}{a0 a1 a2:T}:Dn (a0::a1::a2.wt::Δ) (sndT 2) a2.tk (fun e=>Prod.snd e.2.2.1):=.snd (.var (.succ (.succ .zero)))
theorem z15v {Δ:List T}{a0 a1 a2 a3:T}:Dn (a0::a1::a2::a3.wt::Δ) (sndT 3) a3.tk (fun e=>Prod.snd e.2.2.2.1):=.snd (.var (.succ (.succ (.succ .zero))))
theorem z15w {Δ:List T}{a0 a1 a2 a3 a4:T}:Dn (a0::a1::a2::a3::a4.wt::Δ) (sndT 4) a4.tk (fun e=>Prod.snd e.2.2.2.2.1):=.snd (.var (.succ (.succ (.succ (.succ .zero)))))
theorem z15x {x:Tm}{X:Env Γ→T.nat.wt.V}(ho:T.nat.wt.ok)(hx:Dn Γ x T.nat.wt X):Dn Γ (unT 5 .nat x) T.nat.wt (fun e=>gSucc (X e)):=z0z ho hx (.pair z3r (.succ (z25 (a0:=.nat))))
theorem z15y {x:Tm}{X:Env Γ→(T.pair a b).wt.V}(ho:(T.pair a b).wt.ok)(hx:Dn Γ x (T.pair a b).wt X):Dn Γ (unT 11 (.pair a b) x) a.wt (fun e=>gFst (X e)):=z0z ho hx (.pair z3r (.fst (b:=b.tk) (z25 (a0:=.pair a b))))
theorem z15z {x:Tm}{X:Env Γ→(T.pair a b).wt.V}(ho:(T.pair a b).wt.ok)(hx:Dn Γ x (T.pair a b).wt X):Dn Γ (unT 12 (.pair a b) x) b.wt (fun e=>gSnd (X e)):=z0z ho hx (.pair z3r (.snd (a:=a.tk) (z25 (a0:=.pair a b))))
theorem z160 {x y:Tm}{X:Env Γ→T.nat.wt.V}{Y:Env Γ→T.list.wt.V}(ho:T.nat.wt.ok)(ho':T.list.wt.ok)(hx:Dn Γ x T.nat.wt X)(hy:Dn Γ y T.list.wt Y):Dn Γ (binT 8 .nat .list x y) T.list.wt (fun e=>gCons (X e) (Y e)):=
 z0z ho hx (z0z ho' (z2j hy [T.nat.wt]) (.pair (zhw z4z z3r) (.cons (z8p (a1:=.nat)) (z25 (a0:=.list)))))
theorem z161 {x y:Tm}{X:Env Γ→a.wt.V}{Y:Env Γ→b.wt.V}(ho:a.wt.ok)(ho':b.wt.ok)(hx:Dn Γ x a.wt X)(hy:Dn Γ y b.wt Y):Dn Γ (binT 10 a b x y) (T.pair a b).wt (fun e=>gPair (X e) (Y e)):=
 z0z ho hx (z0z ho' (z2j hy [a.wt]) (.pair (zhw z4z z3r) (.pair z8p z25)))
theorem z162 {x y:Tm}{X:Env Γ→(T.fn a b).wt.V}{Y:Env Γ→a.wt.V}(h1:(T.fn a b).wt.ok)(h2:a.wt.ok)(h3:b.wt.ok)(hx:Dn Γ x (T.fn a b).wt X)(hy:Dn Γ y a.wt Y):Dn Γ (appT2 a b x y) b.wt (fun e=>gApp (X e) (Y e)):=
 z0z h1 hx (z0z h2 (z2j hy [(T.fn a b).wt]) (z0z h3 (.app (z8p (a1:=.fn a b)) z25) (.pair (.succ (zd7 z70 z4z z3r)) z25)))
theorem z163 {Δ:List T}{a1:T}(h1:(T.fn a a).wt.ok)(h2:a.wt.ok) :
  Dn (a1.wt::(T.fn .nat (.fn a a)).wt::Δ) (lamT .nat (lamT a.wt (stepRT a))) (.fn .nat (.fn a.wt a.wt)) (fun e k c=>gStep (Prod.snd e.2.1) k c):=
 .lam z0r (.lam h2 (z0z h1 (.app (z15v (a3:=.fn .nat (.fn a a))) (.var (.succ .zero))) (z0z h2 (.app (z25 (a0:=.fn a a)) z8p) (.pair (.succ (zd7 z70 z4z z3r)) z25))))
theorem z164 {Δ:List T}{a1:T}(h0:(T.fn .list (.fn a a)).wt.ok)(h1:(T.fn a a).wt.ok)(h2:a.wt.ok) :
  Dn (a1.wt::(T.fn .nat (.fn .list (.fn a a))).wt::Δ) (lamT .nat (lamT .list (lamT a.wt (stepFT a)))) (.fn .nat (.fn .list (.fn a.wt a.wt))) (fun e x l c=>gStepL (Prod.snd e.2.1) x l c):=
 .lam z0r (.lam z15e (.lam h2 (z0z h0 (.app (z15w (a4:=.fn .nat (.fn .list (.fn a a)))) (.var (.succ (.succ .zero)))) (z0z h1 (.app (z25 (a0:=.fn .list (.fn a a))) (.var (.succ (.succ .zero)))) (z0z h2 (.app (z25 (a0:=.fn a a)) zda) (.pair (.succ (zd8 zd9 z70 z4z z3r)) z25))))))
theorem z165 {x y z:Tm}{P:Env Γ→a.wt.V}{Q:Env Γ→(T.fn .nat (.fn a a)).wt.V}{N:Env Γ→T.nat.wt.V}(h0:(T.fn .nat (.fn a a)).wt.ok)(h1:T.nat.wt.ok)(h2:(T.fn a a).wt.ok)(h3:a.wt.ok)(hx:Dn Γ x a.wt P)(hy:Dn Γ y (T.fn .nat (.fn a a)).wt Q)(hz:Dn Γ z T.nat.wt N) :
  Dn Γ (roundsT 6 a a (.fn .nat (.fn a a)) .nat x y z) a.wt (fun e=>gRec (P e) (Q e) (N e)):=by
 have hst:stepLT 6 a=lamT .nat (lamT a.wt (stepRT a)):=if_pos rfl
 unfold roundsT
 rw [hst]
 exact z0z h3 hx (z0z h0 (z2j hy [a.wt]) (z0z h1 (z2j hz [(T.fn .nat (.fn a a)).wt,a.wt]) (z0z h3 (.rc (a:=a.wt) h3 (.pair .zero zda) (z163 h2 h3) (z25 (a0:=.nat))) (.pair (zd8 zd9 z70 z4z z3r) z25))))
theorem z166 {x y z:Tm}{P:Env Γ→a.wt.V}{Q:Env Γ→(T.fn .nat (.fn .list (.fn a a))).wt.V}{N:Env Γ→T.list.wt.V}(h0:(T.fn .nat (.fn .list (.fn a a))).wt.ok)(h1:T.list.wt.ok)(h2:(T.fn .list (.fn a a)).wt.ok)(h2':(T.fn a a).wt.ok)(h3:a.wt.ok)(hx:Dn Γ x a.wt P)(hy:Dn Γ y (T.fn .nat (.fn .list (.fn a a))).wt Q)(hz:Dn Γ z T.list.wt N) :
  Dn Γ (roundsT 9 a a (.fn .nat (.fn .list (.fn a a))) .list x y z) a.wt (fun e=>gFold (P e) (Q e) (N e)):=by
 have hst:stepLT 9 a=lamT .nat (lamT .list (lamT a.wt (stepFT a))):=if_neg (by decide)
 unfold roundsT
 rw [hst]
 exact z0z h3 hx (z0z h0 (z2j hy [a.wt]) (z0z h1 (z2j hz [(T.fn .nat (.fn .list (.fn a a))).wt,a.wt]) (z0z h3 (.fold (a:=a.wt) h3 (.pair .zero zda) (z164 h2 h2' h3) (z25 (a0:=.list))) (.pair (zd8 zd9 z70 z4z z3r) z25))))
theorem z167 {P:Env Γ→a.V}{P':Env (Γ.map T.tk)→a.wt.V}{Q:Env Γ→(T.fn .nat (.fn a a)).V}{Q':Env (Γ.map T.tk)→(T.fn .nat (.fn a a)).wt.V}{N:Env Γ→T.nat.V}{N':Env (Γ.map T.tk)→T.nat.wt.V}(hP:SemD Γ a P P')(hQ:SemD Γ (.fn .nat (.fn a a)) Q Q')(hN:SemD Γ .nat N N') :
  SemD Γ a (fun e=>natRec (P e) (Q e) (N e)) (fun e=>gRec (P' e) (Q' e) (N' e)):=by
 intro e ρ h
 have key:∀ n:Nat,Rq a (natRec (P e) (Q e) n) (natRec (α:=WT a) (0,Prod.snd (P' ρ)) (gStep (Prod.snd (Q' ρ))) n).2:=by
  intro n
  induction n with
  | zero=>exact hP e ρ h
  | succ n ih=>exact hQ e ρ h n n rfl _ _ ih
 have hn:N e=Prod.snd (N' ρ):=hN e ρ h
 show Rq a (natRec (P e) (Q e) (N e)) (natRec (α:=WT a) (0,Prod.snd (P' ρ)) (gStep (Prod.snd (Q' ρ))) (Prod.snd (N' ρ))).2
 rw [hn]
 exact key _
theorem z168 {P:Env Γ→a.V}{P':Env (Γ.map T.tk)→a.wt.V}{Q:Env Γ→(T.fn .nat (.fn .list (.fn a a))).V}{Q':Env (Γ.map T.tk)→(T.fn .nat (.fn .list (.fn a a))).wt.V}{N:Env Γ→T.list.V}{N':Env (Γ.map T.tk)→T.list.wt.V}(hP:SemD Γ a P P')(hQ:SemD Γ (.fn .nat (.fn .list (.fn a a))) Q Q')(hN:SemD Γ .list N N') :
  SemD Γ a (fun e=>listRec (P e) (Q e) (N e)) (fun e=>gFold (P' e) (Q' e) (N' e)):=by
 intro e ρ h
 have key:∀ l:List Nat,Rq a (listRec (P e) (Q e) l) (listRec (α:=WT a) (0,Prod.snd (P' ρ)) (gStepL (Prod.snd (Q' ρ))) l).2:=by
  intro l
  induction l with
  | nil=>exact hP e ρ h
  | cons x l ih=>exact hQ e ρ h x x rfl l l rfl _ _ ih
 have hn:N e=Prod.snd (N' ρ):=hN e ρ h
 show Rq a (listRec (P e) (Q e) (N e)) (listRec (α:=WT a) (0,Prod.snd (P' ρ)) (gStepL (Prod.snd (Q' ρ))) (Prod.snd (N' ρ))).2
 rw [hn]
 exact key _
theorem z8q {Δ:List T}{x:Tm}{c:T}{X:Env Δ→c.V}(hx:Dn Δ x c X):Dn Δ (nT 10 [nT 4 [],x]) (.pair .nat c) (fun e=>((0:Nat),X e)):=.pair .zero hx
theorem zax {g:List T}{k i:Int}{y:Ty}(h2:¬ k=2)(hk:k=1∨k=4∨k=7∨k=13)(h:(tickE g (Tm.mk k i y [])).2=0):(tickE g (Tm.mk k i y [])).1=nT 10 [nT 4 [],Tm.mk k i y []]:=by
 have e:tickE g (Tm.mk k i y [])=nodeE 0 10 zY [nT 4 [],Tm.mk k i y []]:=by
  rw [tickE,if_neg h2]
  show tkNodeE k i y [] [] _=_
  unfold tkNodeE
  rcases hk with rfl|rfl|rfl|rfl <;> rfl
 rw [e] at h ⊢
 exact (z0p h).2.1
theorem z71 {t:Tm}{F:Env Γ→a.V}(h:Dn Γ t a F):∃ G:Env (Γ.map T.tk)→a.wt.V,SemK Γ t a G∧SemD Γ a F G∧((tickE Γ.reverse t).2=0→Dn (Γ.map T.tk) (tickE Γ.reverse t).1 a.wt G):=by
 induction h with
 | @var Γ i a p h=>
  obtain ⟨q,h1,h2,h3⟩:=z148 h
  refine ⟨fun ρ=>((0:Nat),q ρ),fun e ρ he=>?_,fun e ρ he=>h3 e ρ he,fun h0=>?_⟩
  ·obtain ⟨v,h4,h5⟩:=h2 e ρ he
   refine ⟨1,v,0,?_,h5,rfl⟩
   show (e[((i:Nat):Int).toNat]?).map (fun v=>(v,0))=some (v,0)
   rw [Int.toNat_natCast,h4]
   rfl
  ·have e:=zax (by decide) (.inl rfl) h0
   unfold vT
   rw [e]
   exact z8q (.var h1)
 | @lam Γ a r b f ha h ih=>
  obtain ⟨G,h1,h2,h3⟩:=ih
  refine ⟨_,z14a h1,fun e ρ he x X hx=>h2 (x,e) (X,ρ) ⟨hx,he⟩,fun h0=>?_⟩
  obtain ⟨e1,e2⟩:=z15u h0
  rw [e2] at h0 ⊢
  obtain ⟨e3,e4,-⟩:=z0p h0
  obtain ⟨e5,e6,-⟩:=z0p e3
  obtain ⟨e7,e8⟩:=zhn e5
  rw [e4,e6,e8]
  rw [List.reverse_cons] at h3
  exact z8q (.lam (a:=a.tk) e7 (h3 e1))
 | @app Γ a b f x F X hf hx ih1 ih2=>
  obtain ⟨G1,k1,d1,t1⟩:=ih1
  obtain ⟨G2,k2,d2,t2⟩:=ih2
  refine ⟨_,z14b k1 k2,fun e ρ he=>d1 e ρ he _ _ (d2 e ρ he),fun h0=>?_⟩
  obtain ⟨e1,e2,e3⟩:=zaw (by decide) h0
  have e4:tickE Γ.reverse (nT 3 [f,x])=appE a b (tickE Γ.reverse f).1 (tickE Γ.reverse x).1:=by
   rw [nT,e3,z0t hf,z0t hx];rfl
  rw [e4] at h0 ⊢
  obtain ⟨o1,o2,o3,r⟩:=zhq h0
  rw [r]
  exact z162 o1 o3 o2 (t1 e1) (t2 e2)
 | @zero Γ=>
  refine ⟨_,zco (v:=.num 0) (by decide) (fun _=>rfl) (show Rk .nat (.num 0) (0:Nat) from rfl),fun e ρ he=>rfl,fun h0=>?_⟩
  have e:=zax (by decide) (.inr (.inl rfl)) h0
  unfold nT
  rw [e]
  exact z8q .zero
 | @succ Γ x X hx ih=>
  obtain ⟨G1,k1,d1,t1⟩:=ih
  refine ⟨_,z14c k1,fun e ρ he=>congrArg Nat.succ (d1 e ρ he),fun h0=>?_⟩
  obtain ⟨e1,e3⟩:=zd6 (by decide) h0
  have e4:tickE Γ.reverse (nT 5 [x])=unE 5 .nat (tickE Γ.reverse x).1:=by rw [nT,e3,z0t hx];rfl
  rw [e4] at h0 ⊢
  obtain ⟨o1,r⟩:=zd4 h0
  rw [r]
  exact z15x o1 (t1 e1)
 | @rc Γ a b f n B F N ha hb hf hn ih1 ih2 ih3=>
  obtain ⟨G1,k1,d1,t1⟩:=ih1
  obtain ⟨G2,k2,d2,t2⟩:=ih2
  obtain ⟨G3,k3,d3,t3⟩:=ih3
  refine ⟨_,z14h k1 k2 k3,z167 d1 d2 d3,fun h0=>?_⟩
  obtain ⟨e1,e2,e3,e5⟩:=zhv (by decide) h0
  have e4:tickE Γ.reverse (Tm.mk 6 0 a.ty [b,f,n])=roundsE 6 a a (.fn .nat (.fn a a)) .nat (tickE Γ.reverse b).1 (tickE Γ.reverse f).1 (tickE Γ.reverse n).1:=by
   rw [e5,z0t hb,z0t hf,z0t hn]
   unfold tkNodeE
   rw [if_neg (by decide),if_neg (by decide),if_neg (by decide),if_neg (by decide),if_pos (by decide),z3b];rfl
  rw [e4] at h0 ⊢
  obtain ⟨o1,o2,o3,o4,o5,o6,o7,r⟩:=zht h0
  rw [r]
  exact z165 o2 o3 o5 o6 (t1 e1) (t2 e2) (t3 e3)
 | @nil Γ=>
  refine ⟨_,zco (v:=.list []) (by decide) (fun _=>rfl) (show Rk .list (.list []) ([]:List Nat) from rfl),fun e ρ he=>rfl,fun h0=>?_⟩
  have e:=zax (by decide) (.inr (.inr (.inl rfl))) h0
  unfold nT
  rw [e]
  exact z8q .nil
 | @cons Γ x l X L hx hl ih1 ih2=>
  obtain ⟨G1,k1,d1,t1⟩:=ih1
  obtain ⟨G2,k2,d2,t2⟩:=ih2
  refine ⟨_,z14d k1 k2,fun e ρ he=>congr (congrArg List.cons (d1 e ρ he)) (d2 e ρ he),fun h0=>?_⟩
  obtain ⟨e1,e2,e3⟩:=zaw (by decide) h0
  have e4:tickE Γ.reverse (nT 8 [x,l])=binE 8 .nat .list (tickE Γ.reverse x).1 (tickE Γ.reverse l).1:=by
   rw [nT,e3,z0t hx,z0t hl];rfl
  rw [e4] at h0 ⊢
  obtain ⟨o1,o2,r⟩:=zhp h0
  rw [r]
  exact z160 (by assumption) (by assumption) (t1 e1) (t2 e2)
 | @fold Γ a b f n B F N ha hb hf hn ih1 ih2 ih3=>
  obtain ⟨G1,k1,d1,t1⟩:=ih1
  obtain ⟨G2,k2,d2,t2⟩:=ih2
  obtain ⟨G3,k3,d3,t3⟩:=ih3
  refine ⟨_,z14i k1 k2 k3,z168 d1 d2 d3,fun h0=>?_⟩
  obtain ⟨e1,e2,e3,e5⟩:=zhv (by decide) h0
  have e4:tickE Γ.reverse (Tm.mk 9 0 a.ty [b,f,n])=roundsE 9 a a (.fn .nat (.fn .list (.fn a a))) .list (tickE Γ.reverse b).1 (tickE Γ.reverse f).1 (tickE Γ.reverse n).1:=by
   rw [e5,z0t hb,z0t hf,z0t hn]
   unfold tkNodeE
   rw [if_neg (by decide),if_neg (by decide),if_neg (by decide),if_neg (by decide),if_pos (by decide),z3b];rfl
  rw [e4] at h0 ⊢
  obtain ⟨o1,o2,o3,o4,o5,o6,o7,r⟩:=zht h0
  rw [r]
  exact z166 o2 o3 (o7 (by decide)) o5 o6 (t1 e1) (t2 e2) (t3 e3)
 | @pair Γ a b x y X Y hx hy ih1 ih2=>
  obtain ⟨G1,k1,d1,t1⟩:=ih1
  obtain ⟨G2,k2,d2,t2⟩:=ih2
  refine ⟨_,z14e k1 k2,fun e ρ he=>⟨d1 e ρ he,d2 e ρ he⟩,fun h0=>?_⟩
  obtain ⟨e1,e2,e3⟩:=zaw (by decide) h0
  have e4:tickE Γ.reverse (nT 10 [x,y])=binE 10 a b (tickE Γ.reverse x).1 (tickE Γ.reverse y).1:=by
   rw [nT,e3,z0t hx,z0t hy];rfl
  rw [e4] at h0 ⊢
  obtain ⟨o1,o2,r⟩:=zhp h0
  rw [r]
  exact z161 (by assumption) (by assumption) (t1 e1) (t2 e2)
 | @fst Γ a b x X hx ih=>
  obtain ⟨G1,k1,d1,t1⟩:=ih
  refine ⟨_,z14f k1,fun e ρ he=>(d1 e ρ he).1,fun h0=>?_⟩
  obtain ⟨e1,e3⟩:=zd6 (by decide) h0
  have e4:tickE Γ.reverse (nT 11 [x])=unE 11 (.pair a b) (tickE Γ.reverse x).1:=by rw [nT,e3,z0t hx];rfl
  rw [e4] at h0 ⊢
  obtain ⟨o1,r⟩:=zd4 h0
  rw [r]
  exact z15y o1 (t1 e1)
 | @snd Γ a b x X hx ih=>
  obtain ⟨G1,k1,d1,t1⟩:=ih
  refine ⟨_,z14g k1,fun e ρ he=>(d1 e ρ he).2,fun h0=>?_⟩
  obtain ⟨e1,e3⟩:=zd6 (by decide) h0
  have e4:tickE Γ.reverse (nT 12 [x])=unE 12 (.pair a b) (tickE Γ.reverse x).1:=by rw [nT,e3,z0t hx];rfl
  rw [e4] at h0 ⊢
  obtain ⟨o1,r⟩:=zd4 h0
  rw [r]
  exact z15z o1 (t1 e1)
 | @unit Γ=>
  refine ⟨_,zco (v:=.unit) (by decide) (fun _=>rfl) (show Rk .unit .unit () from rfl),fun e ρ he=>trivial,fun h0=>?_⟩
  have e:=zax (by decide) (.inr (.inr (.inr rfl))) h0
  unfold nT
  rw [e]
  exact z8q .unit
end
section
section
variable {X:Ctx}{s s0:St}{k:List Item}
def vcdE (X:Ctx)(esc:List Nat)(ops:Array Oper)(s0:St)(K:St→List Ev→Prop):List Oper→St→List Ev→Prop
 | [],s,ev=>chkB ops.toList s0 ev.reverse=true∧K s ev.reverse
 | o::l,s,ev=>o.guard=none∧vcdA X esc ops s0 l (fun _=>False) (vcdE X esc ops s0 K l) o ev s (fpOf X (get s) o.op)
theorem z169 {esc:List Nat}{ops:Array Oper}{K:St→List Ev→Prop}{ev:List Ev}:vcdE X esc ops s0 K [] s ev=(chkB ops.toList s0 ev.reverse=true∧K s ev.reverse):=by rw [vcdE]
theorem z16a {esc:List Nat}{ops:Array Oper}{K:St→List Ev→Prop}{ev:List Ev}{l:List Oper}(d:Option Tmp)(op:Op)(ty:TypeId)(pos:String)(af:Array Edge) :
  vcdE X esc ops s0 K (⟨d,op,ty,pos,af,none⟩::l) s ev=vcdA X esc ops s0 l (fun _=>False) (vcdE X esc ops s0 K l) ⟨d,op,ty,pos,af,none⟩ ev s (fpOf X (get s) op):=by rw [vcdE];simp
attribute [go_sem] z169 z16a
def delO (a:Option Nat)(s:St):St:=match a with|none=>s|some b=>del s (.heap b)
def effO (d:Nat)(a:Option Nat)(y:SV)(b:Nat)(cs:List SV)(s:St):St:=upd (upd (delO a s) (.slot d) (.one y)) (.heap b) (.row cs)
def newA (b:Nat)(a:Option Nat)(s:St):Prop:=∀ h,a ≠ some h→get s (.heap h) ≠ none→b ≠ h
def FreeStep (X:Ctx)(o:Oper)(s1:St)(d:Nat)(a:Option Nat)(P:SV→Nat→List SV→Prop):Prop:=
 ∀ s,leS s1 s→∀ (G:Gh) (ac:Act) (w:World),Rel X G s ac w→∀ (next:Act→World→Prop) (Q:Exit→Act→World→Prop),
  (∀ y b cs,P y b cs→newA b a s→∀ G' a' w',Rel X G' (effO d a y b cs s) a' w'→next a' w')→o.wpIn X.F 0 X.P ac w next Q
section
variable {ops ops':Array Oper}{m q:Nat}{T0:List Nat}{evs:List Ev}{K:St→Prop}{d:Nat}{a0:Option Nat}
end
def dumE (d:Nat):Eff:=[(.slot d,some (.one (.v (.prim (.bool false)))))]
def vcdF (X:Ctx)(esc:List Nat)(ops:Array Oper)(s0:St)(oq:Oper)(d:Nat)(a0:Option Nat)(P:SV→Nat→List SV→Prop)(K:St→List Ev→Prop):List (Option Oper)→St→List Ev→Prop
 | [],s,ev=>chkB ops.toList s0 ev.reverse=true∧K s ev.reverse
 | some o::l,s,ev=>o.guard=none∧vcdA X esc ops s0 [] (fun _=>False) (vcdF X esc ops s0 oq d a0 P K l) o ev s (fpOf X (get s) o.op)
 | none::l,s,ev=>∃ fp,FreeStep X oq (restr s fp) d a0 P∧vcdF X esc ops s0 oq d a0 P K l (upd s (.slot d) (.one (.v (.prim (.bool false))))) (⟨fp,dumE d,[]⟩::ev)
theorem z16b {esc:List Nat}{ops:Array Oper}{oq:Oper}{d:Nat}{a0:Option Nat}{P:SV→Nat→List SV→Prop}{K:St→List Ev→Prop}{ev:List Ev}:vcdF X esc ops s0 oq d a0 P K [] s ev=(chkB ops.toList s0 ev.reverse=true∧K s ev.reverse):=by rw [vcdF]
theorem z16c {esc:List Nat}{ops:Array Oper}{oq:Oper}{d0:Nat}{a0:Option Nat}{P:SV→Nat→List SV→Prop}{K:St→List Ev→Prop}{ev:List Ev}{l:List (Option Oper)}(d:Option Tmp)(op:Op)(ty:TypeId)(pos:String)(af:Array Edge) :
  vcdF X esc ops s0 oq d0 a0 P K (some ⟨d,op,ty,pos,af,none⟩::l) s ev=vcdA X esc ops s0 [] (fun _=>False) (vcdF X esc ops s0 oq d0 a0 P K l) ⟨d,op,ty,pos,af,none⟩ ev s (fpOf X (get s) op):=by rw [vcdF];simp
attribute [go_sem] z16b z16c
end
end
section
section
variable {X:Ctx}{s s0:St}{k:List Item}
abbrev rawQ (q:Option Nat)(n cap:Nat):DV:=.prim (.slice (q.map fun b=>⟨b,0,none⟩) n cap)
def AppP (X:Ctx)(q:Option Nat)(E n:Nat)(old zs:List (List DV)):SV→Nat→List SV→Prop:=fun y b cs=>
 ∃ cap full,y = .v (rawS b (n+zs.length) cap)∧cs=arrRow full∧full.length=cap∧(∀ e ∈ full,e.length=E)∧n+zs.length≤cap∧full.take (n+zs.length)=old.take n++zs∧(q=some b∨(X.w0.heap.size≤b∧∀ b',q=some b'→b ≠ b'))
theorem zhx {o:Oper}{x y:Operand}{T T2:TypeId}(ho:o.op = .call { callee:=.builtin .append,args:=#[x,y],argTypes:=#[T,T2] }){d:Nat}(hd:o.dst=some d)(hn:d<X.n)
  {E B:Nat} (he:elemZ X.P T=some (E,B)) (hB:0<B∧B≤1024) (h2:(elemT X.P T2).isSome=true) {q:Option Nat} {n cap:Nat} {full zs:List (List DV)} {zd:List DV} (hy:(evl X (get s) y).bind slOf=some zs)
  (hrow:∀ b,q=some b→get s (.heap b)=some (.row (arrRow full))) (hq0:q=none→n=0) (hfl:full.length=cap) (hnc:n≤cap) (hnf:cap<n+zs.length) (hbig:n+zs.length≤BIG) (hE1:∀ e ∈ full,e.length=E) (hE2:∀ e ∈ zs,e.length=E) (hz:zeroE X.P T=some zd) (hzc:cellB zd=true)
  {G:Gh} {a:Act} {w:World} (R:Rel X G s a w) (hv:a.eval x = .slice (q.map fun b=>⟨b,0,none⟩) n cap) (next:Act→World→Prop) (Q:Exit→Act→World→Prop)
  (hK:∀ b' cap',n+zs.length≤cap'→newB b' s→X.w0.heap.size≤b'→zd.length=E→∀ G' a' w',Rel X G' (upd (upd s (.slot d) (.one (.v (rawS b' (n+zs.length) cap')))) (.heap b') (.row (arrRow (full.take n++zs++List.replicate (cap' - (n+zs.length)) zd)))) a' w'→next a' w') :
  o.wpIn X.F 0 X.P a w next Q:=by
 obtain ⟨qq,hqq,hq'⟩:=Option.bind_eq_some_iff.1 hy
 obtain ⟨yb,ycap,hyv,hyr,-⟩:=z45 hq' (z0d R hqq)
 obtain ⟨c2,g,g1,g2,g3⟩:=z6d hyr hE2
 have hnE:n * E≤full.length * E:=Nat.mul_le_mul_right _ (by omega)
 have hdr:∀ w':World,w'.heap=w.heap→(Builtin.firstCells E zs.length (a.eval y)).run X.P w' = .ok (arr g (zs.length * E)) w':=fun w' hw=>by
  refine z48 (D:=G.D) ?_
  rcases g3 with h|⟨b,o',cap,h,hc⟩
  ·exact .inl h
  ·exact .inr ⟨b,o',cap,h,fun k hk=>by rw [z5c hw];exact hc k hk⟩
 obtain ⟨g0,hdo,hold⟩:∃ g0:Nat→Value,(∀ w':World,w'.heap=w.heap→(Builtin.firstCells E n (.slice (q.map fun b=>⟨b,0,none⟩) n cap)).run X.P w' = .ok (arr g0 (n * E)) w') ∧
   ∀ i j e dd,i<n→full[i]? = some e→e[j]? = some dd→dd.isCell=true∧RV G.D w dd (g0 (i * E+j)):=by
  cases q with
  | none=>
   have h0:=hq0 rfl
   subst h0
   refine ⟨fun _=>undef,fun w' _=>?_,fun i j e dd hi=>absurd hi (Nat.not_lt_zero _)⟩
   simp [Builtin.firstCells,arr]
  | some b=>
   obtain ⟨c0,e0,k1,k2,k3⟩:BlkAt G w b (arrRow full):=R.holds _ _ (hrow b rfl)
   rw [z3p hE1] at k2
   refine ⟨fun k=>(c0[k]?).getD undef,fun w' hw=>?_,fun i j e dd hi h1 h2=>?_⟩
   ·simp only [Builtin.firstCells,Option.map_some]
    refine zbz b 0 (n * E) _ (fun k hk=>?_)
    have hlt:k<c0.size:=by omega
    rw [z5c hw,Nat.zero_add]
    simp [World.cell?,k1,hlt]
   ·obtain ⟨q0,v,q1,q2⟩:=k3 (i * E+j) (.v dd) (by simp only [arrRow,List.getElem?_map,z5k hE1 h1 h2,Option.map_some])
    exact ⟨q0,by show RV G.D w dd ((c0[i * E+j]?).getD undef);rw [q1];exact q2⟩
 obtain ⟨hzl,c,e,nc,r1,r2,r3,r4,r5,r6⟩:=zha (P:=X.P) (t:=T) (ty:=o.type) (t2:=T2) (w:=w) he hB h2 (base:=q.map fun b=>⟨b,0,none⟩) (len:=n) (cap:=cap) (fun w' _=>z4n (P:=X.P) hyr w') hdr hdo (by omega) hbig (z46 _ _) (z46 _ _) hz
 rw [← hv] at r1
 have hexec:(execOp a.eval o).run X.P w = .ok (.value (.slice (some ⟨w.heap.size,0,none⟩) (n+zs.length) nc)) (w.drew.alloc (.cells c e)):=by
  simp [execOp,ho,resolve,invoke,builtin,r1]
 refine opIn (by intro c e;rw [ho] at e;cases e) ?_
 rw [hexec,z1y,hd]
 have hp:=z3k a (some d) (.slice (some ⟨w.heap.size,0,none⟩) (n+zs.length) nc)
 have T':Trans X G a w G (a.put (some d) (.slice (some ⟨w.heap.size,0,none⟩) (n+zs.length) nc)) (w.drew.alloc (.cells c e)) (fun _=>False):=by
  refine ⟨hp.1,fun h=>(h.heap fun b hb=>z1t w.drew _ b hb).put hp.2,rfl,rfl,rfl,by simp,fun b hb _=>z1t w.drew _ b hb,fun _ h=>h.elim,fun b k hD=>⟨hD,World.cell?_alloc_lt w.drew _ _ (R.wf.lt hD)⟩,fun b k hD hnD=>absurd hD hnD,R.nil⟩
 refine hK w.heap.size nc r2 (zaq R) R.ext.size hzl G _ _ (R.newArr hn (w1:=w.drew) rfl T' (E:=E) ?_ ?_ ?_ ?_)
 ·intro e he
  rcases List.mem_append.1 he with he|he
  ·rcases List.mem_append.1 he with he|he
   ·exact hE1 e (List.mem_of_mem_take he)
   ·exact hE2 e he
  ·rw [(List.mem_replicate.1 he).2];exact hzl
 ·intro e he d hd
  rcases List.mem_append.1 he with he|he
  ·rcases List.mem_append.1 he with he|he
   ·obtain ⟨i,hi⟩:=List.mem_iff_getElem?.1 he
    obtain ⟨j,hj⟩:=List.mem_iff_getElem?.1 hd
    have hin:i<n:=by
     have:=(List.getElem?_eq_some_iff.1 hi).1
     rw [List.length_take] at this;omega
    rw [List.getElem?_take_of_lt hin] at hi
    exact (hold i j e d hin hi hj).1
   ·exact c2 e he d hd
  ·rw [(List.mem_replicate.1 he).2] at hd
   exact (z6a zd).1 hzc d hd
 ·rw [r3]
  simp only [List.length_append,List.length_take,List.length_replicate]
  exact Nat.mul_le_mul_right _ (by omega)
 ·intro i j e dd hi hj
  have hl1:(full.take n).length=n:=by rw [List.length_take,Nat.min_eq_left (by omega)]
  rw [List.append_assoc] at hi
  rcases Nat.lt_or_ge i n with h|h
  ·rw [List.getElem?_append_left (by omega),List.getElem?_take_of_lt h] at hi
   have hjE:j<E:=by rw [← hE1 e (List.mem_of_getElem? hi)];exact (List.getElem?_eq_some_iff.1 hj).1
   have hlt:=z2u h hjE
   refine ⟨_,?_,(hold i j e dd h hi hj).2⟩
   rw [r4 _ hlt,z47 _ _ _ hlt]
  ·rw [List.getElem?_append_right (by omega),hl1] at hi
   rcases Nat.lt_or_ge (i - n) zs.length with h' | h'
   ·rw [List.getElem?_append_left h'] at hi
    have hjE:j<E:=by rw [← hE2 e (List.mem_of_getElem? hi)];exact (List.getElem?_eq_some_iff.1 hj).1
    have hlt:=z2u h' hjE
    refine ⟨_,?_,g1 _ _ _ _ hi hj⟩
    have e1:i * E+j=n * E+((i - n) * E+j):=by rw [← Nat.add_assoc,← Nat.add_mul];congr 2;omega
    rw [e1,r5 _ hlt,z47 _ _ _ hlt]
   ·rw [List.getElem?_append_right h'] at hi
    obtain ⟨hi1,hi2⟩:e=zd∧i - n - zs.length<nc - (n+zs.length):=by
     have hm:=List.mem_of_getElem? hi
     have hlt:=(List.getElem?_eq_some_iff.1 hi).1
     simp only [List.length_replicate] at hlt
     exact ⟨(List.mem_replicate.1 hm).2,hlt⟩
    subst hi1
    obtain ⟨v,q1,q2⟩:=r6 G w R.nil (i - n - zs.length) j dd hi2 hj
    refine ⟨v,?_,q2⟩
    rw [show n+zs.length+(i - n - zs.length)=i from by omega] at q1
    exact q1
theorem z16d {o:Oper}{x y:Operand}{T T2:TypeId}(ho:o.op = .call { callee:=.builtin .append,args:=#[x,y],argTypes:=#[T,T2] }){d:Nat}(hd:o.dst=some d)(hn:d<X.n)
  {E B:Nat} (he:elemZ X.P T=some (E,B)) (hB:0<B∧B≤1024) (h2:(elemT X.P T2).isSome=true) {q:Option Nat} {n cap:Nat} {full zs:List (List DV)} {zd:List DV} (hx:evl X (get s) x=some (.v (rawQ q n cap))) (hy:(evl X (get s) y).bind slOf=some zs)
  (hrow:∀ b,q=some b→get s (.heap b)=some (.row (arrRow full))) (hq0:q=none→n=0) (hfl:full.length=cap) (hnc:n≤cap) (hnf:cap<n+zs.length) (hbig:n+zs.length≤BIG) (hE1:∀ e ∈ full,e.length=E) (hE2:∀ e ∈ zs,e.length=E) (hz:zeroE X.P T=some zd) (hzc:cellB zd=true)
  {G:Gh} {a:Act} {w:World} (R:Rel X G s a w) (next:Act→World→Prop) (Q:Exit→Act→World→Prop)
  (hK:∀ b' cap',n+zs.length≤cap'→newB b' s→X.w0.heap.size≤b'→zd.length=E→∀ G' a' w',Rel X G' (upd (upd s (.slot d) (.one (.v (rawS b' (n+zs.length) cap')))) (.heap b') (.row (arrRow (full.take n++zs++List.replicate (cap' - (n+zs.length)) zd)))) a' w'→next a' w') :
  o.wpIn X.F 0 X.P a w next Q:=
 zhx ho hd hn he hB h2 hy hrow hq0 hfl hnc hnf hbig hE1 hE2 hz hzc R (z0o (z0d R hx)).1 next Q hK
theorem z16e {esc:List Nat}{ops:Array Oper}{l:List Oper}{K:St→Prop}{d:Tmp}{x y:Operand}{T T2 ty:TypeId}{pos:String}{af:Array Edge}{q:Option (Prop × St)}
  {E B:Nat} {zs:List (List DV)} {zd:List DV} (hx:evl X (get s) x=some (.own 0 [])) (hy:(evl X (get s) y).bind slOf=some zs)
  (he:elemZ X.P T=some (E,B)) (hz:zeroE X.P T=some zd) (hzc:cellB zd=true) (hB:0<B∧B≤1024) (h2:(elemT X.P T2).isSome=true) (hn:d<X.n)
  (hpos:0<zs.length) (hbig:zs.length≤BIG) (hE2:∀ e ∈ zs,e.length=E) (hq:q=none)
  (h:∀ b cap,zs.length≤cap→newB b s→X.w0.heap.size≤b→vc X esc ops l (upd (upd s (.slot d) (.one (.v (rawS b zs.length cap)))) (.heap b) (.row (arrRow (zs++List.replicate (cap - zs.length) zd)))) K) :
  vcK X esc ops l K ⟨some d,.call { callee:=.builtin .append,args:=#[x,y],argTypes:=#[T,T2] },ty,pos,af,none⟩ s q:=by
 subst hq
 intro m hm G a w R0
 obtain ⟨p1,p3⟩:=z2g hm
 simp only [List.length_cons,List.range'_succ,wpOpsIn,p1,Region.wanted,if_true]
 have hv:a.eval x = .slice none 0 0:=by
  obtain ⟨h1,-⟩:=(z0d R0 hx:RSV G w (.own 0 []) _)
  rw [R0.nil] at h1
  exact h1
 refine zhx (o:=⟨some d,.call { callee:=.builtin .append,args:=#[x,y],argTypes:=#[T,T2] },ty,pos,af,none⟩) (q:=none) (n:=0) (cap:=0) (full:=[]) rfl rfl hn he hB h2 hy (fun b hb=>by cases hb) (fun _=>rfl) rfl (Nat.le_refl 0) (by omega) (by omega) (fun e h=>by cases h) hE2 hz hzc R0 hv _ _ fun b' cap' hc hb hw hzl G' a' w' R'=>?_
 simp only [Nat.zero_add,List.take_nil,List.nil_append] at R' hc
 exact z1c (h b' cap' hc hb hw) (m+1) p3 G' a' w' R'
theorem z72 {b:Nat}:∀ {s:St},newB b s→∀ h v,get s (.heap h)=some v→h ≠ b
 | [],_,h,v,hg=>by cases hg
 | (.heap b',u)::r,hn,h,v,hg=>by
  simp only [get] at hg
  split at hg
  ·rename_i e
   cases e
   exact hn.1
  ·exact z72 hn.2 h v hg
 | (.slot n,u)::r,hn,h,v,hg=>by
  simp only [get] at hg
  rw [if_neg (by intro e;cases e)] at hg
  exact z72 (s:=r) hn h v hg
 | (.loc n,u)::r,hn,h,v,hg=>by
  simp only [get] at hg
  rw [if_neg (by intro e;cases e)] at hg
  exact z72 (s:=r) hn h v hg
 | (.tok n,u)::r,hn,h,v,hg=>by
  simp only [get] at hg
  rw [if_neg (by intro e;cases e)] at hg
  exact z72 (s:=r) hn h v hg
theorem zhy {o:Oper}{x y:Operand}{T T2:TypeId}(ho:o.op = .call { callee:=.builtin .append,args:=#[x,y],argTypes:=#[T,T2] }){d:Nat}(hd:o.dst=some d)(hn:d<X.n)
  {E B:Nat} (he:elemZ X.P T=some (E,B)) (hB:0<B∧B≤1024) (h2:(elemT X.P T2).isSome=true) {q:Option Nat} {n cap:Nat} {full zs:List (List DV)} {zd:List DV} (hx:evl X (get s) x=some (.v (rawQ q n cap))) (hy:(evl X (get s) y).bind slOf=some zs)
  (hrow:∀ b,q=some b→get s (.heap b)=some (.row (arrRow full))) (hq0:q=none→n=0∧cap=0) (hfl:full.length=cap) (hnc:n≤cap) (hpos:0<zs.length) (hbig:n+zs.length≤BIG) (hE1:∀ e ∈ full,e.length=E) (hE2:∀ e ∈ zs,e.length=E) (hz:zeroE X.P T=some zd) (hzc:cellB zd=true) :
  FreeStep X o s d q (AppP X q E n full zs):=by
 intro s' hs G a w R next Q hK
 have hx':=z3m hs hx
 have hy':=zc5 hs hy
 have hrow':∀ b,q=some b→get s' (.heap b)=some (.row (arrRow full)):=fun b hb=>hs _ _ (hrow b hb)
 rcases Nat.lt_or_ge cap (n+zs.length) with h|h
 ·refine z16d ho hd hn he hB h2 hx' hy' hrow' (fun hq=>(hq0 hq).1) hfl hnc h hbig hE1 hE2 hz hzc R next Q fun b' cap' hc hb hw hzl G' a' w' R'=>?_
  have hl:(full.take n).length=n:=by rw [List.length_take];omega
  have hnb:newB b' s':=hb
  refine hK _ b' _ ⟨cap',full.take n++zs++List.replicate (cap' - (n+zs.length)) zd,rfl,rfl,?_,?_,hc,?_,.inr ⟨hw,fun b'' hq=>(z72 hnb b'' _ (hrow' b'' hq)).symm⟩⟩ ?_ G' a' w' ?_
  ·simp only [List.length_append,List.length_replicate,hl];omega
  ·intro e he
   rcases List.mem_append.1 he with he|he
   ·rcases List.mem_append.1 he with he|he
    ·exact hE1 e (List.mem_of_mem_take he)
    ·exact hE2 e he
   ·rw [(List.mem_replicate.1 he).2];exact hzl
  ·rw [List.take_append_of_le_length (by rw [List.length_append,hl];exact Nat.le_refl _),List.take_of_length_le (by rw [List.length_append,hl];exact Nat.le_refl _)]
  ·intro h1 _ hg e
   subst e
   cases hg':get s' (.heap b') with
   | none=>exact hg hg'
   | some v=>exact z72 hnb b' v hg' rfl
  ·refine R'.weaken fun l v hl=>?_
   unfold effO at hl
   rw [z0h] at hl ⊢
   by_cases h1:Loc.heap b' = l
   ·rw [if_pos h1] at hl ⊢;exact hl
   ·rw [if_neg h1] at hl ⊢
    rw [z0h] at hl ⊢
    by_cases h3:Loc.slot d=l
    ·rw [if_pos h3] at hl ⊢;exact hl
    ·rw [if_neg h3] at hl ⊢
     cases q with
     | none=>exact hl
     | some b0=>
      simp only [delO] at hl
      rw [z26] at hl
      split at hl
      ·cases hl
      ·exact hl
 ·cases q with
  | none=>have:=(hq0 rfl);omega
  | some b=>
   have hstep:=zh8 (s:=s') ho hd hn he h2 (b:=b) hx' hy' (hrow' b rfl) hfl h hE1 hE2
   refine hstep G a w R next Q fun G' a' w' R'=>?_
   have hl:(full.take n).length=n:=by rw [List.length_take];omega
   refine hK _ b _ ⟨cap,full.take n++zs++full.drop (n+zs.length),rfl,rfl,?_,?_,h,?_,.inl rfl⟩ (fun h' hne hg e=>hne (by rw [e])) G' a' w' (R'.congr fun l=>?_)
   ·simp only [List.length_append,List.length_drop,hl];omega
   ·intro e he
    rcases List.mem_append.1 he with he|he
    ·rcases List.mem_append.1 he with he|he
     ·exact hE1 e (List.mem_of_mem_take he)
     ·exact hE2 e he
    ·exact hE1 e (List.mem_of_mem_drop he)
   ·rw [List.take_append_of_le_length (by rw [List.length_append,hl];exact Nat.le_refl _),List.take_of_length_le (by rw [List.length_append,hl];exact Nat.le_refl _)]
   ·unfold effO delO
    rw [z0h,z0h,z0h,z0h,z26]
    by_cases h1:Loc.slot d=l
    ·subst h1
     rw [if_neg (by intro e;cases e),if_pos rfl,if_pos rfl]
    ·by_cases h3:Loc.heap b=l
     ·rw [if_pos h3,if_neg h1,if_pos h3]
     ·rw [if_neg h3,if_neg h1,if_neg h1,if_neg h3,if_neg h3]
theorem z16f {esc:List Nat}{ops:Array Oper}{l:List Oper}{K:St→Prop}{o:Oper}{q:Option (Prop × St)}{d:Nat}{a0:Option Nat}{P:SV→Nat→List SV→Prop}(hg:o.guard=none)(hf:FreeStep X o s d a0 P)(hq:q=none)
  (h:∀ y b cs,P y b cs→newA b a0 s→vc X esc ops l (effO d a0 y b cs s) K):vcK X esc ops l K o s q:=by
 subst hq
 intro m hm G a w R0
 obtain ⟨p1,p3⟩:=z2g hm
 have hw:∀ y,Region.wanted o y=true:=fun y=>by simp [Region.wanted,hg]
 simp only [List.length_cons,List.range'_succ,wpOpsIn,p1,hw,if_true]
 exact hf s (fun _ _ h=>h) G a w R0 _ _ fun y b cs hp hn G' a' w' R'=>z1c (h y b cs hp hn) (m+1) p3 G' a' w' R'
theorem z16g (σ:Nat→Nat)(n:Nat)(v:LV)(s:St)(ψ:Objs):subLe σ ((.slot n,v)::s) (heapSt ψ)=subLe σ s (heapSt ψ):=by
 induction ψ with
 | nil=>rfl
 | cons p r ih=>obtain ⟨b,cs⟩:=p;simp only [heapSt,subLe,ih,factLe,get,reduceCtorEq,if_false]
theorem z16h (σ:Nat→Nat)(n:Nat)(v:LV)(s:St)(ψ:Objs):subLe σ ((.loc n,v)::s) (heapSt ψ)=subLe σ s (heapSt ψ):=by
 induction ψ with
 | nil=>rfl
 | cons p r ih=>obtain ⟨b,cs⟩:=p;simp only [heapSt,subLe,ih,factLe,get,reduceCtorEq,if_false]
theorem z16i (σ:Nat→Nat)(n:Nat)(v:LV)(s:St)(ψ:Objs):subLe σ ((.tok n,v)::s) (heapSt ψ)=subLe σ s (heapSt ψ):=by
 induction ψ with
 | nil=>rfl
 | cons p r ih=>obtain ⟨b,cs⟩:=p;simp only [heapSt,subLe,ih,factLe,get,reduceCtorEq,if_false]
theorem zhz (σ:Nat→Nat)(l:List DV):rowLe σ (l.map SV.v) (l.map SV.v):=by
 induction l with
 | nil=>simp [rowLe]
 | cons x r ih=>simp [rowLe,svLe,ih]
attribute [go_sem] z16g z16h z16i
structure RS where
 q:Option Nat
 n:Nat
 cap:Nat
 full:List (List DV)
abbrev RS.v (x:RS):DV:=rawQ x.q x.n x.cap
structure RS.is (x:RS)(E:Nat)(ys:List (List DV)):Prop where
 nil:x.q=none→x.n=0∧x.cap=0
 len:x.full.length=x.cap
 wid:∀ e ∈ x.full,e.length=E
 le:x.n≤x.cap
 els:x.full.take x.n=ys
theorem RS.is.n_eq {x:RS}{E:Nat}{ys:List (List DV)}(h:x.is E ys):x.n=ys.length:=by
 rw [← h.els,List.length_take,h.len,Nat.min_eq_left h.le]
theorem RS.is.app {x:RS}{E:Nat}{ys zs:List (List DV)}(h:x.is E ys){y:SV}{b:Nat}{cs:List SV}(ha:AppP X x.q E x.n x.full zs y b cs):∃ x':RS,x'.q=some b∧y = .v x'.v∧cs=arrRow x'.full∧x'.is E (ys++zs):=by
 obtain ⟨cap,full,rfl,rfl,h3,h4,h5,h6,-⟩:=ha
 refine ⟨⟨some b,x.n+zs.length,cap,full⟩,rfl,rfl,rfl,⟨(fun h=>by cases h),h3,h4,h5,?_⟩⟩
 show full.take (x.n+zs.length)=_
 rw [h6,h.els]
theorem z16j (d:Nat)(ys:List (List DV)):anyLoc d (arrRow ys)=false:=za8 d _
theorem z16k (d:Nat)(ys:List (List DV)):anyTok d (arrRow ys)=false:=za9 d _
theorem z16l (σ:Nat→Nat)(ys:List (List DV)):rowLe σ (arrRow ys) (arrRow ys):=zhz σ _
theorem z16m (k b:Nat)(ys:List (List DV)):exRow k b (arrRow ys)=arrRow ys:=by
 unfold arrRow
 generalize ys.flatten=l
 induction l with
 | nil=>rfl
 | cons x r ih=>simp only [List.map_cons,exRow,ih];rfl
attribute [go_sem] z16j z16k z16m
theorem z16n {E:Nat}{full:List (List DV)}(hE:∀ e ∈ full,e.length=E){i:Nat}{e:List DV}(h:full[i]? = some e):toDs (((arrRow full).drop (i * E)).take E)=some e:=by
 have he:=hE e (List.mem_of_getElem? h)
 have h1:((arrRow full).drop (i * E)).take E=e.map SV.v:=by
  apply List.ext_getElem?
  intro j
  by_cases hj:j<E
  ·rw [List.getElem?_take_of_lt hj,List.getElem?_drop]
   have hje:e[j]? = some (e[j]'(by omega)):=List.getElem?_eq_getElem (by omega)
   simp only [arrRow,List.getElem?_map,z5k hE h hje,hje]
  ·rw [List.getElem?_eq_none (by simp;omega),List.getElem?_eq_none (by simp;omega)]
 rw [h1]
 exact zev e
theorem RS.is.at {x:RS}{E:Nat}{ys:List (List DV)}(h:x.is E ys){i:Nat}{e:List DV}(he:ys[i]? = some e):x.full[i]? = some e:=by
 have hi:=(List.getElem?_eq_some_iff.1 he).1
 have hn:=h.n_eq
 rw [← h.els,List.getElem?_take_of_lt (by omega)] at he
 exact he
theorem RS.is.there {x:RS}{E:Nat}{ys:List (List DV)}(h:x.is E ys)(hy:ys ≠ []):∃ b,x.q=some b:=by
 cases hq:x.q with
 | some b=>exact ⟨b,rfl⟩
 | none=>
  have h1:=(h.nil hq).1
  rw [h.n_eq] at h1
  exact absurd (List.length_eq_zero_iff.1 h1) hy
theorem RS.is.set {x:RS}{E:Nat}{ys:List (List DV)}(h:x.is E ys){i:Nat}{e:List DV}(hi:i<ys.length)(he:e.length=E):RS.is ⟨x.q,x.n,x.cap,x.full.set i e⟩ E (ys.set i e):=by
 have hn:=h.n_eq
 refine ⟨h.nil,by simpa using h.len,fun z hz=>?_,h.le,?_⟩
 ·rcases List.mem_or_eq_of_mem_set hz with hz|rfl
  ·exact h.wid z hz
  ·exact he
 ·show (x.full.set i e).take x.n=_
  rw [List.take_set,h.els]
end
end
section
variable {gl:Globs}
theorem z16o (n:Nat):Con1 Tryz.prog gl 107 [dint n] [] (numTm n).dv []:=by
 refine t_in Tryz.func107 ?_
 intro X hP hgl hf hfn hn hR hids hfit
 have hn1:intOK .i64 n:=hfit (dint n) (by simp)
 rw [z57] at hn1
 refine t_g0 ?_
 refine t_c1 trivial (z1o 4 []) ?_
 refine t_a ?_
 refine z0c [] (by simp [go_sem]) (by simp [go_sem,numTm] <;> omega) (by simp [go_sem]) (z1k (fun x:Nat=>x≤n) (fun x:Nat=>[(.slot 0,.one (.v (dint x))),(.loc 3,.row ((numTm (n - x)).cells.map .v)),(.slot 3,.one (.loc 3 0)),(.loc 2,.row ([.v (dint 0),.v (dint 0),.v (dint 0),.own 0 [],.own 0 []])),(.slot 2,.one (.loc 2 0))]) (fun x:Nat=>x) n (Nat.le_refl n) ?_)
 intro x hx ih
 cases x with
 | zero=>
  refine z00 ?_
  refine t_no ?_
  refine t_g0 ?_
  refine t_r ?_
  simp [go_sem,hP,hgl,hn] <;> (try omega)
 | succ x=>
  have hs:n - x=(n - (x+1))+1:=by omega
  refine z00 ?_
  refine z07 ?_
  refine z00 ?_
  refine z00 ?_
  repeat (first|refine z03 ?_|refine z01 ?_|refine z02 ?_|refine z04 rfl ?_)
  refine z0c [] (by simp [go_sem]) (by simp [go_sem,hs,numTm] <;> omega) (by simp [go_sem]) (ih x (by omega) (by omega))
theorem zi0 (n:Nat)(hn4:n<4096):Con1 Tryz.prog gl 62 [dint n] [] (.tup [(numTm n).dv,dint 0]) []:=by
 refine t_in Tryz.func62 ?_
 intro X hP hgl hf hfn hn hR hids hfit
 have h1:¬ (n:Int)<0:=by omega
 have h2:¬ (4096:Int)≤n:=by omega
 refine t_g (j2 @h1 @h2) ?_
 refine t_c1 trivial (z16o n) ?_
 refine t_r ?_
 simp [go_sem,hP,hgl,hn] <;> (try omega)
theorem z73 (n:Nat)(hn4:n<4096):Con1 Tryz.prog gl 28 [dint n] [] (numTm n).dv []:=by
 refine t_in Tryz.func28 ?_
 intro X hP hgl hf hfn hn hR hids hfit
 refine t_g0 ?_
 refine t_c1 trivial (zi0 n hn4) ?_
 refine t_g0 ?_
 refine t_r ?_
 simp [go_sem,hP,hgl,hn] <;> (try omega)
 all_goals exact t_f
theorem z16p (t:Tm):Con1 Tryz.prog gl 91 [t.dv] [] (Tm.mk 2 0 (Ty.mk 1 []) [t]).dv []:=by
 refine t_in Tryz.func91 ?_
 intro X hP hgl hf hfn hn hR hids hfit
 refine t_g0 ?_
 refine t_c2 @z2i z1l (z37 2 (Ty.mk 1 []) [t]) ?_
 refine t_r ?_
 simp [go_sem,hP,hgl,hn] <;> (try omega)
 all_goals exact t_f
theorem z16q (a b c:Tm):Con1 Tryz.prog gl 92 [a.dv,b.dv,c.dv] [] (Tm.mk 6 0 (Ty.mk 1 []) [a,b,c]).dv []:=by
 refine t_in Tryz.func92 ?_
 intro X hP hgl hf hfn hn hR hids hfit
 refine t_g0 ?_
 refine t_c2 @z2i z1l (z37 6 (Ty.mk 1 []) [a,b,c]) ?_
 refine t_r ?_
 simp [go_sem,hP,hgl,hn] <;> (try omega)
 all_goals exact t_f
def lamN (t:Tm):Tm:=Tm.mk 2 0 (Ty.mk 1 []) [t]
def recN (a b c:Tm):Tm:=Tm.mk 6 0 (Ty.mk 1 []) [a,b,c]
theorem z3s (t:Tm):Con1 Tryz.prog gl 91 [t.dv] [] (lamN t).dv []:=z16p t
theorem zdb (a b c:Tm):Con1 Tryz.prog gl 92 [a.dv,b.dv,c.dv] [] (recN a b c).dv []:=z16q a b c
theorem var5 (i:Int):Con1 Tryz.prog gl 43 [dint i] [] (vT i).dv []:=z5h i
theorem n5 (k:Int)(l:List Tm):Con1 Tryz.prog gl 44 [dint k,.sl (l.map Tm.cells)] [] (nT k l).dv []:=z1o k l
theorem z16r:lamN (recN (nT 4 []) (lamN (lamN (vT 1))) (vT 0))=predT:=rfl
theorem z16s:lamN (lamN (recN (vT 1) (lamN (lamN (nT 5 [vT 0]))) (vT 0)))=plusT:=rfl
theorem z16t:lamN (lamN (recN (vT 1) (lamN (lamN (nT 3 [predT,vT 0]))) (vT 0)))=subT:=rfl
theorem z16u:Con1 Tryz.prog gl 93 [] [] predT.dv []:=by
 refine t_in Tryz.func93 ?_
 intro X hP hgl hf hfn hn hR hids hfit
 refine t_g0 ?_
 refine t_c7 trivial (n5 4 []) (var5 1) (z3s (vT 1)) (z3s (lamN (vT 1))) (var5 0) (zdb (nT 4 []) (lamN (lamN (vT 1))) (vT 0)) (z3s (recN (nT 4 []) (lamN (lamN (vT 1))) (vT 0))) ?_
 refine t_r ?_
 simp [go_sem,hP,hgl,hn,z16r] <;> (try omega)
theorem zi1:Con1 Tryz.prog gl 48 [] [] plusT.dv []:=by
 refine t_in Tryz.func48 ?_
 intro X hP hgl hf hfn hn hR hids hfit
 refine t_g0 ?_
 refine t_c9 trivial (var5 1) (var5 0) (n5 5 [vT 0]) (z3s (nT 5 [vT 0])) (z3s (lamN (nT 5 [vT 0]))) (var5 0) (zdb (vT 1) (lamN (lamN (nT 5 [vT 0]))) (vT 0)) (z3s (recN (vT 1) (lamN (lamN (nT 5 [vT 0]))) (vT 0))) (z3s (lamN (recN (vT 1) (lamN (lamN (nT 5 [vT 0]))) (vT 0)))) ?_
 refine t_r ?_
 simp [go_sem,hP,hgl,hn,z16s] <;> (try omega)
theorem zi2:Con1 Tryz.prog gl 49 [] [] subT.dv []:=by
 refine t_in Tryz.func49 ?_
 intro X hP hgl hf hfn hn hR hids hfit
 refine t_g0 ?_
 refine zyv trivial (var5 1) z16u (var5 0) (n5 3 [predT,vT 0]) (z3s (nT 3 [predT,vT 0])) (z3s (lamN (nT 3 [predT,vT 0]))) (var5 0) (zdb (vT 1) (lamN (lamN (nT 3 [predT,vT 0]))) (vT 0)) (z3s (recN (vT 1) (lamN (lamN (nT 3 [predT,vT 0]))) (vT 0))) (z3s (lamN (recN (vT 1) (lamN (lamN (nT 3 [predT,vT 0]))) (vT 0)))) ?_
 refine t_r ?_
 simp [go_sem,hP,hgl,hn,z16t] <;> (try omega)
end
section
variable {gl:Globs}
theorem zay (n:Nat)(b:Nat)(l:List Int)(p:Nat)(hl:l.length≤500)(hp:p≤l.length)(hn3:n≤3) :
  Con1 Tryz.prog gl 11 [ptr b,dint n] [(b,deck l p)] (typeD l n p).1.dv [(b,deck l (typeD l n p).2)]:=by
 induction n generalizing p with
 | zero=>
  refine t_in Tryz.func11 ?_
  intro X hP hgl hf hfn hn hR hids hfit
  rw [typeD] at hR
  have hkb:=z0y (l:=l) (p:=p) (n:=7) (by decide)
  refine t_g0 ?_
  refine t_c1 trivial (z1w b l p 7 (by decide) (by omega)) ?_
  generalize hd:nextD l p 7=d at *
  obtain ⟨k,q⟩:=d
  simp only at hkb hR
  by_cases h3:k=3
  ·refine t_g @h3 ?_
   refine t_c1 trivial z4c ?_
   refine t_ro [(b,deck l q)] @h3 ?_
   try simp [h3]
   try all_goals exact t_f
  by_cases h4:k=4
  ·refine t_g @h4 ?_
   refine t_c1 trivial z7w ?_
   refine t_ro [(b,deck l q)] @h4 ?_
   try simp [h4]
   try all_goals exact t_f
  by_cases h0:k=0
  ·refine t_g @h0 ?_
   refine t_c1 trivial z1l ?_
   refine t_ro [(b,deck l q)] @h0 ?_
   try simp [h0]
   try all_goals exact t_f
  by_cases h1:k=1
  ·refine t_g @h1 ?_
   refine t_c1 trivial z1l ?_
   refine t_ro [(b,deck l q)] @h1 ?_
   try simp [h1]
   try all_goals exact t_f
  by_cases h2:k=2
  ·refine t_g @h2 ?_
   refine t_c1 trivial z1l ?_
   refine t_ro [(b,deck l q)] @h2 ?_
   try simp [h2]
   try all_goals exact t_f
  by_cases h5:k=5
  ·refine t_g @h5 ?_
   refine t_c1 trivial z1l ?_
   refine t_ro [(b,deck l q)] @h5 ?_
   try simp [h5]
   try all_goals exact t_f
  have h6:k=6:=by omega
  refine t_g @h6 ?_
  refine t_c1 trivial z1l ?_
  refine t_ro [(b,deck l q)] @h6 ?_
  try simp [h6]
  try all_goals exact t_f
 | succ n ih=>
  refine t_in Tryz.func11 ?_
  intro X hP hgl hf hfn hn hR hids hfit
  rw [typeD] at hR
  have hkb:=z0y (l:=l) (p:=p) (n:=7) (by decide)
  have hq:=z0s (n:=7) hp
  refine t_g0 ?_
  refine t_c1 trivial (z1w b l p 7 (by decide) (by omega)) ?_
  generalize hd:nextD l p 7=d at *
  obtain ⟨k,q⟩:=d
  simp only at hkb hR hq
  have hpos:(0:Int)<((n+1:Nat):Int):=by omega
  have hsub:((n+1:Nat):Int) - 1=(n:Int):=by omega
  obtain ⟨a1,-⟩:=z8k l n q hq
  by_cases h3:k=3
  ·refine t_g @h3 ?_
   refine t_c1 trivial z4c ?_
   refine t_ro [(b,deck l q)] @h3 ?_
   try simp [h3]
   try all_goals exact t_f
  by_cases h4:k=4
  ·refine t_g @h4 ?_
   refine t_c1 trivial z7w ?_
   refine t_ro [(b,deck l q)] @h4 ?_
   try simp [h4]
   try all_goals exact t_f
  by_cases h0:k=0
  ·refine t_g @h0 ?_
   refine t_c1 trivial z1l ?_
   refine t_ro [(b,deck l q)] @h0 ?_
   try simp [h0]
   try all_goals exact t_f
  by_cases h1:k=1
  ·refine t_g @h1 ?_
   refine t_c1 trivial z1l ?_
   refine t_ro [(b,deck l q)] @h1 ?_
   try simp [h1]
   try all_goals exact t_f
  by_cases h2:k=2
  ·refine t_g @h2 ?_
   refine t_c1 trivial z1l ?_
   refine t_ro [(b,deck l q)] @h2 ?_
   try simp [h2]
   try all_goals exact t_f
  by_cases h5:k=5
  ·refine t_g (j2 @h5 @hpos) ?_
   refine t_c3 @hsub (ih q hq (by omega)) (ih _ a1 (by omega)) (z7x (typeD l n q).1 (typeD l n (typeD l n q).2).1) ?_
   refine t_ro [(b,deck l (typeD l n (typeD l n q).2).2)] @h5 ?_
   try simp [h5]
   try all_goals exact t_f
  have h6:k=6:=by omega
  refine t_g (j2 @h6 @hpos) ?_
  refine t_c3 @hsub (ih q hq (by omega)) (ih _ a1 (by omega)) (z36 (typeD l n q).1 (typeD l n (typeD l n q).2).1) ?_
  refine t_ro [(b,deck l (typeD l n (typeD l n q).2).2)] @h6 ?_
  try simp [h6]
  try all_goals exact t_f
def varsP (g:List Ty)(t:Ty)(n:Nat):List Nat:=(List.range n).filter fun i=>(varTy g i).same t
theorem z16v (g:List Ty)(t:Ty)(n:Nat):varsP g t (n+1)=if (varTy g n).same t=true then varsP g t n++[n] else varsP g t n:=by
 unfold varsP
 rw [List.range_succ,List.filter_append]
 split <;> simp_all
theorem zdc (g:List Ty)(t:Ty)(n:Nat):(varsP g t n).length≤n:=by
 have:=List.length_filter_le (fun i=>(varTy g i).same t) (List.range n)
 simpa [varsP] using this
def natI (l:List Nat):List Int:=l.map Int.ofNat
theorem z3z (l:List Nat):(natI l).length=l.length:=by simp [natI]
theorem z16w (l:List Nat)(n:Nat):natI (l++[n])=natI l++[(n:Int)]:=by simp [natI]
theorem zaz (g:List Ty)(t:Ty)(hlg:g.length≤1000000) :
  Con1 Tryz.prog gl 42 [.sl (g.map Ty.cells),t.dv] [] (.sl (ints (natI (varsN g t)))) []:=by
 refine t_in Tryz.func42 ?_
 intro X hP hgl hf hfn hn hR hids hfit
 refine t_g0 ?_
 refine t_a ?_
 refine z0c [(1005,0)] (by simp [go_sem]) (by simp [go_sem,natI,varsP,z6m] <;> omega) (by simp [go_sem]) (z2h (g.length) (fun i=>True) (fun i=>[(.slot 9,.one (.v (dint i))),(.slot 8,.one (.v (dint g.length))),(.slot 5,.one (.own 1005 (ints (natI (varsP g t i))))),(.tok 1005,.tk 1 (varsP g t i).length),(.slot 0,.one (.v (.sl (g.map Ty.cells)))),(.loc 3,.row ([.v (dint t.kind),.v (.sl (t.args.map Ty.cells))])),(.slot 3,.one (.loc 3 0)),(.slot 4,.one (.own 0 []))]) (trivial) ?_ ?_)
 ·intro i hi _ hnext
  have hli:=zdc g t i
  have hvt:=(z6s hi).2
  have hix:(g.length:Int) - 1 - i=((g.length - 1 - i:Nat):Int):=by omega
  refine z00 ?_
  refine z07 ?_
  refine t_g0 ?_
  refine t_c1 (j2 @hix @hvt) (z1q (varTy g i) t) ?_
  have hsu:=z16v g t i
  by_cases hs:(varTy g i).same t=true
  ·rw [if_pos hs] at hsu
   rw [hsu] at hnext
   refine t_gt (wr [(1005,25)]) (j2 @z3z (j2 @z16w (j2 @zz0 @z6m))) (j2 @hs @z3z) (hnext trivial)
  ·rw [if_neg hs] at hsu
   rw [hsu] at hnext
   refine t_gt (wr []) trivial @hs (hnext trivial)
 ·intro _
  refine z00 ?_
  refine t_no ?_
  refine t_g0 ?_
  refine t_r ?_
  simp [go_sem,hP,hgl,hn,varsN,varsP] <;> (try omega)
theorem z8r (g h:List Ty)(hlg:g.length+h.length≤1000000) :
  Con1 Tryz.prog gl 46 [.sl (g.map Ty.cells),.sl (h.map Ty.cells)] [] (.sl ((g++h).map Ty.cells)) []:=by
 refine t_in Tryz.func46 ?_
 intro X hP hgl hf hfn hn hR hids hfit
 have hl1:g.length≤1000000:=by omega
 refine t_g0 ?_
 refine t_r ?_
 simp [go_sem,hP,hgl,hn] <;> (try omega)
end
section
variable {gl:Globs}
theorem zi3 {l:List Int}{t:Ty}{g:List Ty}{p q:Nat}(h:pickD l t g p=(none,q)):((varsN g t).length=0∧q=p)∨((varsN g t).length ≠ 0∧(nextD l p 3).1=0∧q=(nextD l p 3).2):=by
 unfold pickD at h
 split at h
 ·rename_i h0;cases h;exact .inl ⟨h0,rfl⟩
 ·rename_i h0
  split at h
  ·rename_i h1;cases h;exact .inr ⟨h0,h1,rfl⟩
  ·cases h
theorem zi4 {l:List Int}{t:Ty}{g:List Ty}{p q:Nat}{x:Tm}(h:pickD l t g p=(some x,q)):(varsN g t).length ≠ 0∧(nextD l p 3).1 ≠ 0∧∃ k i:Nat,(nextD l (nextD l p 3).2 (varsN g t).length).1=k∧(varsN g t)[k]? = some i∧x=vT i∧q=(nextD l (nextD l p 3).2 (varsN g t).length).2:=by
 unfold pickD at h
 split at h
 ·cases h
 ·rename_i h0
  split at h
  ·cases h
  ·rename_i h1
   have hb:=z0y (l:=l) (p:=(nextD l p 3).2) (n:=(varsN g t).length) (by omega)
   cases h
   obtain ⟨k,hk⟩:∃ k:Nat,(nextD l (nextD l p 3).2 (varsN g t).length).1=k:=⟨_,(Int.toNat_of_nonneg hb.1).symm⟩
   rw [hk] at hb
   have hlt:k<(varsN g t).length:=by omega
   refine ⟨h0,h1,k,(varsN g t)[k],hk,List.getElem?_eq_getElem hlt,?_,rfl⟩
   rw [hk,Int.toNat_natCast,List.getD_eq_getElem?_getD,List.getElem?_eq_getElem hlt,Option.getD_some]
set_option maxHeartbeats 1000000 in
theorem z16x (b:Nat)(l:List Int)(hl:l.length≤500)(t:Ty):∀ (z:Int) (g:List Ty) (p:Nat),z≤0→t.count≤z+1000→t.small→(∀ x ∈ g,x.small)→g.length+t.count≤1000000→p≤l.length →
  Con1 Tryz.prog gl 13 [ptr b,.sl (g.map Ty.cells),t.dv,dint z] [(b,deck l p)] (leafD l t g p).1.dv [(b,deck l (leafD l t g p).2)]:=by
 induction t using Ty.ind with
 | h t ih=>
 intro z g p hz hz1 ht hg hgl1 hp
 refine t_in Tryz.func13 ?_
 intro X hP hgl hf hfn hn hR hids hfit
 rw [zcp l t g p ht.ok] at hR
 have hvl:(varsN g t).length≤g.length:=zdc g t g.length
 have hq3:=z0s (n:=3) hp
 have hb3:=z0y (l:=l) (p:=p) (n:=3) (by decide)
 rcases hpk:pickD l t g p with ⟨_|x,q⟩
 ·rw [hpk] at hR
  simp only at hR
  have hq:q≤l.length:=by have:=z6t (t:=t) (g:=g) hp;rw [hpk] at this;exact this
  apply zai [(.slot 215,.one (.v (dbool (decide (t.kind=1))))),(.slot 214,.one (.v (dint t.kind))),(.slot 0,.one (.v (ptr b))),(.slot 1,.one (.v (.sl (g.map Ty.cells)))),(.slot 3,.one (.v (dint z))),(.slot 6,.one (.loc 6 0)),(.loc 6,.row ([.v (dint t.kind),.v (.sl (t.args.map Ty.cells))])),(.slot 8,.one (.loc 8 0)),(.loc 8,.row ([.v (dint 0),.v (dint 0),.v (dint 0),.own 0 [],.own 0 []])),(.heap  b,.row ([.v (.sl (ints l)),.v (dint q)]))]
  ·intro hrest
   refine t_g0 ?_
   refine t_c1 trivial (zaz g t (by omega)) ?_
   rcases zi3 hpk with ⟨h0,rfl⟩|⟨h0,h1,rfl⟩
   ·refine t_g (j2 @z3z @h0) ?_
    refine t_b ?_
    refine z0e [] trivial hrest
   ·have hpos:0<(varsN g t).length:=by omega
    refine t_g0 ?_
    refine t_c1 (j2 @z3z (j2 @hpos @h1)) (z1w b l p 3 (by decide) (by omega)) ?_
    refine t_g @h1 ?_
    refine t_b ?_
    refine z0e [] trivial hrest
  ·have hz2:¬ 0<z:=by omega
   rcases z6u ht with ⟨h,e⟩|⟨h,e⟩|⟨h,e⟩|⟨h,e⟩|⟨h,e⟩
   ·rw [if_pos h] at hR
    have hb:=z0y (l:=l) (p:=q) (n:=3) (by decide)
    obtain ⟨k,hk⟩:∃ k:Nat,(nextD l q 3).1=k:=⟨_,(Int.toNat_of_nonneg hb.1).symm⟩
    rw [hk] at hb
    refine t_g (j2 @hz2 @h) ?_
    refine t_c2 @hk (z1w b l q 3 (by decide) (by omega)) (z73 k (by omega)) ?_
    repeat (first|refine z0a ?_|refine z01 ?_|refine z0b ?_|refine z03 ?_|refine z02 ?_|refine z04 rfl ?_)
    first|refine z0k hP hf hfn _ ([(b,deck l (nextD l q 3).2)]) (by first|(simp [go_sem,hP,hgl,hn,numD,hk];done)|(simp [go_sem,hP,hgl,hn,numD,hk];rfl)) (by simp [go_sem,hP,hgl,hn,numD,hk]) (by simp) ?_ hR.2|refine z0m hP hf hfn _ ([(b,deck l (nextD l q 3).2)]) (by first|(simp [go_sem,hP,hgl,hn,numD,hk];done)|(simp [go_sem,hP,hgl,hn,numD,hk];rfl)) (by simp [go_sem,hP,hgl,hn,numD,hk]) (by simp) ?_ hR.2
    rw [hR.1]
    refine ⟨?_,by simp [numD,hk]⟩
    try simp [numD,hk]
    try all_goals (simp [Ty.dv,Ty.cells_eq,Ty.kind_mk,Ty.args_mk,Tm.dv,Tm.cells_eq,Tm.kind_mk,Tm.index_mk,Tm.type_mk,Tm.args_mk,Val.dv,Val.cells_eq,Val.kind_mk,Val.num_mk,Val.list_mk,Val.args_mk,ints])
   ·rw [if_neg (by omega),if_pos h] at hR
    refine t_g (j2 @hz2 @h) ?_
    refine t_c1 trivial (z1o 7 []) ?_
    repeat (first|refine z0a ?_|refine z01 ?_|refine z0b ?_|refine z03 ?_|refine z02 ?_|refine z04 rfl ?_)
    first|refine z0k hP hf hfn _ ([(b,deck l q)]) (by first|(simp [go_sem,hP,hgl,hn,nT];done)|(simp [go_sem,hP,hgl,hn,nT];rfl)) (by simp [go_sem,hP,hgl,hn,nT]) (by simp) ?_ hR.2|refine z0m hP hf hfn _ ([(b,deck l q)]) (by first|(simp [go_sem,hP,hgl,hn,nT];done)|(simp [go_sem,hP,hgl,hn,nT];rfl)) (by simp [go_sem,hP,hgl,hn,nT]) (by simp) ?_ hR.2
    rw [hR.1]
    refine ⟨?_,by simp [nT]⟩
    try simp [nT]
    try all_goals (simp [Ty.dv,Ty.cells_eq,Ty.kind_mk,Ty.args_mk,Tm.dv,Tm.cells_eq,Tm.kind_mk,Tm.index_mk,Tm.type_mk,Tm.args_mk,Val.dv,Val.cells_eq,Val.kind_mk,Val.num_mk,Val.list_mk,Val.args_mk,ints])
   ·rw [if_neg (by omega),if_neg (by omega),if_neg (by omega),if_neg (by omega)] at hR
    refine t_g (j2 @hz2 @h) ?_
    refine t_c1 trivial (z1o 13 []) ?_
    repeat (first|refine z0a ?_|refine z01 ?_|refine z0b ?_|refine z03 ?_|refine z02 ?_|refine z04 rfl ?_)
    first|refine z0k hP hf hfn _ ([(b,deck l q)]) (by first|(simp [go_sem,hP,hgl,hn,nT];done)|(simp [go_sem,hP,hgl,hn,nT];rfl)) (by simp [go_sem,hP,hgl,hn,nT]) (by simp) ?_ hR.2|refine z0m hP hf hfn _ ([(b,deck l q)]) (by first|(simp [go_sem,hP,hgl,hn,nT];done)|(simp [go_sem,hP,hgl,hn,nT];rfl)) (by simp [go_sem,hP,hgl,hn,nT]) (by simp) ?_ hR.2
    rw [hR.1]
    refine ⟨?_,by simp [nT]⟩
    try simp [nT]
    try all_goals (simp [Ty.dv,Ty.cells_eq,Ty.kind_mk,Ty.args_mk,Tm.dv,Tm.cells_eq,Tm.kind_mk,Tm.index_mk,Tm.type_mk,Tm.args_mk,Val.dv,Val.cells_eq,Val.kind_mk,Val.num_mk,Val.list_mk,Val.args_mk,ints])
   ·rw [if_neg (by omega),if_neg (by omega),if_pos h] at hR
    obtain ⟨s0,s1,hc⟩:=ht.arg (.inl h)
    have p0:=Ty.count_eq (t.arg 0)
    have p1:=Ty.count_eq (t.arg 1)
    have ha:t.args=[t.arg 0,t.arg 1]:=by rw [e];rfl
    obtain ⟨a1,-⟩:=zhc zar (t.arg 0) g q s0 hg hq
    refine t_g (j2 @hz2 @h) ?_
    refine t_c3 @ha (ih (t.arg 0) (by rw [ha];simp) (z - 1) g q (by omega) (by omega) s0 hg (by omega) hq) (ih (t.arg 1) (by rw [ha];simp) (z - 1) g (leafD l (t.arg 0) g q).2 (by omega) (by omega) s1 hg (by omega) a1) (z1o 10 [(leafD l (t.arg 0) g q).1,(leafD l (t.arg 1) g (leafD l (t.arg 0) g q).2).1]) ?_
    repeat (first|refine z0a ?_|refine z01 ?_|refine z0b ?_|refine z03 ?_|refine z02 ?_|refine z04 rfl ?_)
    first|refine z0k hP hf hfn _ ([(b,deck l (leafD l (t.arg 1) g (leafD l (t.arg 0) g q).2).2)]) (by first|(simp [go_sem,hP,hgl,hn,nT];done)|(simp [go_sem,hP,hgl,hn,nT];rfl)) (by simp [go_sem,hP,hgl,hn,nT]) (by simp) ?_ hR.2|refine z0m hP hf hfn _ ([(b,deck l (leafD l (t.arg 1) g (leafD l (t.arg 0) g q).2).2)]) (by first|(simp [go_sem,hP,hgl,hn,nT];done)|(simp [go_sem,hP,hgl,hn,nT];rfl)) (by simp [go_sem,hP,hgl,hn,nT]) (by simp) ?_ hR.2
    rw [hR.1]
    refine ⟨?_,by simp [nT]⟩
    try simp [nT]
    try all_goals (simp [Ty.dv,Ty.cells_eq,Ty.kind_mk,Ty.args_mk,Tm.dv,Tm.cells_eq,Tm.kind_mk,Tm.index_mk,Tm.type_mk,Tm.args_mk,Val.dv,Val.cells_eq,Val.kind_mk,Val.num_mk,Val.list_mk,Val.args_mk,ints])
   ·rw [if_neg (by omega),if_neg (by omega),if_neg (by omega),if_pos h] at hR
    obtain ⟨s0,s1,hc⟩:=ht.arg (.inr h)
    have p0:=Ty.count_eq (t.arg 0)
    have p1:=Ty.count_eq (t.arg 1)
    have ha:t.args=[t.arg 0,t.arg 1]:=by rw [e];rfl
    have hgs:∀ x ∈ g++[t.arg 0],x.small:=by intro x hx;rcases List.mem_append.1 hx with hx|hx;exact hg x hx;rw [List.mem_singleton.1 hx];exact s0
    refine t_g (j2 @hz2 @h) ?_
    refine t_c3 @ha (z8r g [t.arg 0] (by simp;omega)) (ih (t.arg 1) (by rw [ha];simp) (z - 1) (g++[t.arg 0]) q (by omega) (by omega) s1 hgs (by simp;omega) hq) (z37 2 (t.arg 0) [(leafD l (t.arg 1) (g++[t.arg 0]) q).1]) ?_
    refine t_ro [(b,deck l (leafD l (t.arg 1) (g++[t.arg 0]) q).2)] trivial ?_
    try simp
    try all_goals exact t_f
 ·rw [hpk] at hR
  simp only at hR
  obtain ⟨h0,h1,k,i,hk,hi,rfl,rfl⟩:=zi4 hpk
  have hpos:0<(varsN g t).length:=by omega
  have hpos3:0<(nextD l p 3).1:=by omega
  have hgi:=z3x (l:=natI (varsN g t)) (i:=k) (n:=i) (by simp [natI,hi])
  have hkl:=(List.getElem?_eq_some_iff.1 hi).1
  refine t_g0 ?_
  refine t_c1 trivial (zaz g t (by omega)) ?_
  refine t_g0 ?_
  refine t_c1 (j2 @z3z (j2 @hpos @hpos3)) (z1w b l p 3 (by decide) (by omega)) ?_
  refine t_g @hpos3 ?_
  refine t_c2 (j2 @z3z (j2 @hk @hgi)) (z1w b l (nextD l p 3).2 (varsN g t).length (by omega) (by omega)) (z5h i) ?_
  repeat (first|refine z0a ?_|refine z01 ?_|refine z0b ?_|refine z03 ?_|refine z02 ?_|refine z04 rfl ?_)
  first|refine z0k hP hf hfn _ ([(b,deck l (nextD l (nextD l p 3).2 (varsN g t).length).2)]) (by first|(simp [go_sem,hP,hgl,hn,vT];done)|(simp [go_sem,hP,hgl,hn,vT];rfl)) (by simp [go_sem,hP,hgl,hn,vT]) (by simp) ?_ hR.2|refine z0m hP hf hfn _ ([(b,deck l (nextD l (nextD l p 3).2 (varsN g t).length).2)]) (by first|(simp [go_sem,hP,hgl,hn,vT];done)|(simp [go_sem,hP,hgl,hn,vT];rfl)) (by simp [go_sem,hP,hgl,hn,vT]) (by simp) ?_ hR.2
  rw [hR.1]
  refine ⟨?_,by simp [vT]⟩
  try simp [vT]
  try all_goals (simp [Ty.dv,Ty.cells_eq,Ty.kind_mk,Ty.args_mk,Tm.dv,Tm.cells_eq,Tm.kind_mk,Tm.index_mk,Tm.type_mk,Tm.args_mk,Val.dv,Val.cells_eq,Val.kind_mk,Val.num_mk,Val.list_mk,Val.args_mk,ints])
end
end Go.Proofs.YtoamlfmdkbmmpaaGreatDoor.Lift
