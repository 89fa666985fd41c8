import Derived.Test.YtoniciijokeidaaGreatDoorQn9
set_option maxHeartbeats 8000000
set_option maxRecDepth 100000
set_option linter.unusedSimpArgs false
set_option linter.unusedVariables false
set_option linter.unnecessarySimpa false
namespace Go.Proofs.YtoniciijokeidaaGreatDoor.Lift
open Go
section
abbrev SD:=Tm->List MV->Option (MV × Nat × Nat)
def KL (ev:SD):List Tm->List MV->Option (List MV × Nat × Nat)
 | [],_=>some ([],0,0)
 | x::r,e=>match ev x e with
  | none=>none
  | some (v,c,k)=>match KL ev r e with
   | none=>none
   | some (l,c',k')=>some (v::l,c+c',k+k')
def FP (ev:SD):MV->MV->Option (MV × Nat × Nat)
 | .clo b e,x=>ev b (x::e)
 | _,_=>none
def SE (ev:SD)(f:MV):Nat->Nat->MV->Option (MV × Nat × Nat)
 | 0,_,r=>some (r,0,0)
 | n+1,k,r=>match FP ev f (.num k) with
  | none=>none
  | some (g,c1,k1)=>match FP ev g r with
   | none=>none
   | some (r',c2,k2)=>match SE ev f n (k+1) r' with
    | none=>none
    | some (w,c3,k3)=>some (w,c1+c2+c3,1+k1+k2+k3)
def JY (ev:SD)(f r:MV):List Nat->Option (MV × Nat × Nat)
 | []=>some (r,0,0)
 | x::l=>match JY ev f r l with
  | none=>none
  | some (r',c0,k0)=>match FP ev f (.num x) with
   | none=>none
   | some (g,c1,k1)=>match FP ev g (.list l) with
    | none=>none
    | some (h,c2,k2)=>match FP ev h r' with
     | none=>none
     | some (w,c3,k3)=>some (w,c0+(c1+c2+c3),k0+1+k1+k2+k3)
def R6 (ev:SD)(k:Int)(l:List MV):Option (MV × Nat × Nat):=
 if k=3 then match l with
  | [f,x]=>(FP ev f x).map fun r=>(r.1,r.2.1,1+r.2.2)
  | _=>none
 else if k=4 then some (.num 0,0,0)
 else if k=5 then match l with
  | [.num n]=>some (.num (n+1),0,0)
  | _=>none
 else if k=6 then match l with
  | [b,f,.num n]=>SE ev f n 0 b
  | _=>none
 else if k=7 then some (.list [],0,0)
 else if k=8 then match l with
  | [.num n,.list m]=>some (.list (n::m),0,0)
  | _=>none
 else if k=9 then match l with
  | [b,f,.list m]=>JY ev f b m
  | _=>none
 else if k=10 then match l with
  | [x,y]=>some (.both x y,0,0)
  | _=>none
 else if k=11 then match l with
  | [.both x _]=>some (x,0,0)
  | _=>none
 else if k=12 then match l with
  | [.both _ y]=>some (y,0,0)
  | _=>none
 else if k=13 then some (.unit,0,0)
 else none
def R7:Nat->SD
 | 0,_,_=>none
 | d+1,t,e=>
  if t.kind=1 then if 0<=t.index/\t.index.toNat<e.length then some (e.getD t.index.toNat .unit,1,0) else none
  else if t.kind=2 then if t.args.length=0 then none else some (.clo (t.argN 0) e,1,0)
  else if 3<t.args.length then none
  else match KL (R7 d) t.args e with
   | none=>none
   | some (l,c,k)=>(R6 (R7 d) t.kind l).map fun r=>(r.1,1+c+r.2.1,k+r.2.2)
def vw {α:Type}(r:α × Nat × Nat):α × Nat:=(r.1,r.2.1)
def z4b (b:SD)(s:LT):Prop:=∀t e,(b t e).map vw=s t e
theorem cO {b:SD}{s:LT}(h:z4b b s):∀(l:List Tm) (e:List MV),(KL b l e).map vw=G6 s l e
 | [],_=>rfl
 | x::r,e=>by
  have ih:=cO h r e;have h1:=h x e;simp only[KL,G6];rw[<- h1,<- ih];cases b x e with
  | none=>rfl
  | some q=>
   cases KL b r e with
   | none=>rfl
   | some q'=>rfl
theorem N4 (s:LT)(v:MV):EG s v []=some (v,0):=by cases v <;> rfl
theorem L9 {b:SD}{s:LT}(h:z4b b s)(f x:MV):(FP b f x).map vw=EG s f [x]:=by
 cases f with
 | clo t e=>
  simp only[FP,EG];rw[<- h t (x::e)];cases b t (x::e) with
  | none=>rfl
  | some q=>simp only[Option.map_some,vw,N4,Nat.add_zero]
 | _=>rfl
theorem GU (s:LT)(f x:MV)(l:List MV):EG s f (x::l)=(EG s f [x]).bind fun q=>(EG s q.1 l).map fun q'=>(q'.1,q.2+q'.2):=by
 cases f with
 | clo t e=>
  simp only[EG];cases s t (x::e) with
  | none=>rfl
  | some q=>
   obtain⟨v,c⟩:=q;simp only[N4,Option.bind_some,Nat.add_zero];cases EG s v l with
   | none=>rfl
   | some q'=>rfl
 | _=>rfl
theorem nZ {b:SD}{s:LT}(h:z4b b s)(f:MV):∀(n k:Nat) (r:MV),(SE b f n k r).map vw=QF s f n k r
 | 0,_,_=>rfl
 | n+1,k,r=>by
  simp only[SE,QF];rw[GU,<- L9 h];cases FP b f (.num k) with
  | none=>rfl
  | some q=>
   obtain⟨g,c1,k1⟩:=q;simp only[Option.map_some,vw,Option.bind_some];rw[<- L9 h];cases FP b g r with
   | none=>rfl
   | some q'=>
    obtain⟨r',c2,k2⟩:=q';simp only[Option.map_some,vw];rw[<- nZ h f n (k+1) r'];cases SE b f n (k+1) r' with
    | none=>rfl
    | some q''=>rfl
theorem gB {b:SD}{s:LT}(h:z4b b s)(f r:MV):∀(l:List Nat),(JY b f r l).map vw=G7 s f r l
 | []=>rfl
 | x::l=>by
  simp only[JY,G7];rw[<- gB h f r l];cases JY b f r l with
  | none=>rfl
  | some q0=>
   obtain⟨r',c0,k0⟩:=q0;simp only[Option.map_some,vw];rw[GU,<- L9 h];cases FP b f (.num x) with
   | none=>rfl
   | some q=>
    obtain⟨g,c1,k1⟩:=q;simp only[Option.map_some,vw,Option.bind_some];rw[GU,<- L9 h];cases FP b g (.list l) with
    | none=>rfl
    | some q'=>
     obtain⟨h',c2,k2⟩:=q';simp only[Option.map_some,vw,Option.bind_some];rw[<- L9 h];cases FP b h' r' with
     | none=>rfl
     | some q''=>
      simp only[Option.map_some,vw,Nat.add_assoc]
theorem z4c {b:SD}{s:LT}(h:z4b b s)(k:Int)(l:List MV):(R6 b k l).map vw=U1 s k l:=by
 unfold U1 VZ R6;by_cases h3:k=3
 ·subst h3;simp only[if_true,show (3:Int)<=3/\(3:Int)<=13 from oO,and_self];split
  ·rename_i f x;show Option.map vw (Option.map _ (FP b f x))=EG s f [x];rw[<- L9 h];cases FP b f x <;> rfl
  ·rename_i hn;first|rfl|(split <;> first|rfl|(rename_i f x;exact absurd rfl (hn f x)))
 by_cases h4:k=4;· subst h4;rfl
 by_cases h5:k=5
 ·subst h5;simp only[show ¬(5:Int)=3 from oO,show ¬(5:Int)=4 from oO,if_false,if_true,show (3:Int)<=5/\(5:Int)<=13 from oO,and_self];split;· rfl
  ·rename_i hn;first|rfl|(split <;> first|rfl|(rename_i n;exact absurd rfl (hn n)))
 by_cases h6:k=6
 ·subst h6;simp only[show ¬(6:Int)=3 from oO,show ¬(6:Int)=4 from oO,show ¬(6:Int)=5 from oO,if_false,if_true,show (3:Int)<=6/\(6:Int)<=13 from oO,and_self];split;· exact nZ h _ _ _ _
  ·rename_i hn;first|rfl|(split <;> first|rfl|(rename_i x f n;exact absurd rfl (hn x f n)))
 by_cases h7:k=7;· subst h7;rfl
 by_cases h8:k=8
 ·subst h8;simp only[show ¬(8:Int)=3 from oO,show ¬(8:Int)=4 from oO,show ¬(8:Int)=5 from oO,show ¬(8:Int)=6 from oO,show ¬(8:Int)=7 from oO,if_false,if_true,show (3:Int)<=8/\(8:Int)<=13 from oO,and_self];split;· rfl
  ·rename_i hn;first|rfl|(split <;> first|rfl|(rename_i n m;exact absurd rfl (hn n m)))
 by_cases h9:k=9
 ·subst h9;simp only[show ¬(9:Int)=3 from oO,show ¬(9:Int)=4 from oO,show ¬(9:Int)=5 from oO,show ¬(9:Int)=6 from oO,show ¬(9:Int)=7 from oO,show ¬(9:Int)=8 from oO,if_false,if_true,show (3:Int)<=9/\(9:Int)<=13 from oO,and_self];split;· exact gB h _ _ _
  ·rename_i hn;first|rfl|(split <;> first|rfl|(rename_i x f n;exact absurd rfl (hn x f n)))
 by_cases Cc:k=10
 ·subst Cc;simp only[show ¬(10:Int)=3 from oO,show ¬(10:Int)=4 from oO,show ¬(10:Int)=5 from oO,show ¬(10:Int)=6 from oO,show ¬(10:Int)=7 from oO,show ¬(10:Int)=8 from oO,show ¬(10:Int)=9 from oO,if_false,if_true,show (3:Int)<=10/\(10:Int)<=13 from oO,and_self];split;· rfl
  ·rename_i hn;first|rfl|(split <;> first|rfl|(rename_i x y;exact absurd rfl (hn x y)))
 by_cases Ck:k=11
 ·subst Ck;simp only[show ¬(11:Int)=3 from oO,show ¬(11:Int)=4 from oO,show ¬(11:Int)=5 from oO,show ¬(11:Int)=6 from oO,show ¬(11:Int)=7 from oO,show ¬(11:Int)=8 from oO,show ¬(11:Int)=9 from oO,show ¬(11:Int)=10 from oO,if_false,if_true,show (3:Int)<=11/\(11:Int)<=13 from oO,and_self];split;· rfl
  ·rename_i hn;first|rfl|(split <;> first|rfl|(rename_i x y;exact absurd rfl (hn x y)))
 by_cases Cf:k=12
 ·subst Cf;simp only[show ¬(12:Int)=3 from oO,show ¬(12:Int)=4 from oO,show ¬(12:Int)=5 from oO,show ¬(12:Int)=6 from oO,show ¬(12:Int)=7 from oO,show ¬(12:Int)=8 from oO,show ¬(12:Int)=9 from oO,show ¬(12:Int)=10 from oO,show ¬(12:Int)=11 from oO,if_false,if_true,show (3:Int)<=12/\(12:Int)<=13 from oO,and_self];split;· rfl
  ·rename_i hn;first|rfl|(split <;> first|rfl|(rename_i x y;exact absurd rfl (hn x y)))
 by_cases Jv:k=13;· subst Jv;rfl
 simp only[h3,h4,h5,h6,h7,h8,h9,Cc,Ck,Cf,Jv,if_false];rw[if_neg oO];rfl
theorem W8:∀d,z4b (R7 d) (NY d)
 | 0=>fun t e=>rfl
 | d+1=>fun t e=>by
  have ih:=W8 d;rw[R7,NY];by_cases h1:t.kind=1;· rw[if_pos h1,if_pos h1];split <;> rfl
  rw[if_neg h1,if_neg h1];by_cases h2:t.kind=2;· rw[if_pos h2,if_pos h2];split <;> rfl
  rw[if_neg h2,if_neg h2];by_cases h3:3<t.args.length;· rw[if_pos h3,if_pos h3];rfl
  rw[if_neg h3,if_neg h3,<- cO ih];cases KL (R7 d) t.args e with
  | none=>rfl
  | some q=>
   obtain⟨l,c,k⟩:=q;simp only[Option.map_some,vw];rw[<- z4c ih];cases R6 (R7 d) t.kind l with
   | none=>rfl
   | some q'=>rfl
theorem znq {d:Nat}{t:Tm}{e:List MV}{v:MV}{c:Nat}(h:NY d t e=some (v,c)):∃k,R7 d t e=some (v,c,k):=by
 rw[<- W8 d]at h;obtain⟨⟨v',c',k⟩,h1,h2⟩:=Option.map_eq_some_iff.1 h;cases h2;exact⟨k,h1⟩
theorem znr {d:Nat}{t:Tm}{e:List MV}{v:MV}{c k:Nat}(h:R7 d t e=some (v,c,k)):NY d t e=some (v,c):=by
 rw[<- W8 d,h];rfl
def Few (b:SD):Prop:=∀t e v c k,b t e=some (v,c,k)->k<c
theorem yX {b:SD}(h:Few b):∀{l:List Tm} {e:List MV} {v:List MV} {c k:Nat},KL b l e=some (v,c,k)->k+l.length<=c
 | [],_,_,_,_,hr=>by simp only[KL]at hr;cases hr;exact Nat.le_refl _
 | x::r,e,v,c,k,hr=>by
  simp only[KL]at hr;split at hr;· cases hr
  rename_i v1 c1 k1 h1;split at hr;· cases hr
  rename_i l2 c2 k2 h2;cases hr;have:=h _ _ _ _ _ h1;have:=yX h h2;simp only[List.length_cons];omega
theorem PJ {b:SD}(h:Few b){f x v:MV}{c k:Nat}(hr:FP b f x=some (v,c,k)):k<c:=by
 cases f with
 | clo t e=>exact h _ _ _ _ _ hr
 | _=>cases hr
theorem yY {b:SD}(h:Few b){f:MV}:∀{n i:Nat} {r v:MV} {c k:Nat},SE b f n i r=some (v,c,k)->k<=c
 | 0,_,_,_,_,_,hr=>by simp only[SE]at hr;cases hr;exact Nat.le_refl _
 | n+1,i,r,v,c,k,hr=>by
  simp only[SE]at hr;split at hr;· cases hr
  rename_i g c1 k1 h1;split at hr;· cases hr
  rename_i r' c2 k2 h2;split at hr;· cases hr
  rename_i w c3 k3 h3;cases hr;have:=PJ h h1;have:=PJ h h2;have:=yY h h3;omega
theorem o8 {b:SD}(h:Few b){f r:MV}:∀{l:List Nat} {v:MV} {c k:Nat},JY b f r l=some (v,c,k)->k<=c
 | [],_,_,_,hr=>by simp only[JY]at hr;cases hr;exact Nat.le_refl _
 | x::l,v,c,k,hr=>by
  simp only[JY]at hr;split at hr;· cases hr
  rename_i r' c0 k0 h0;split at hr;· cases hr
  rename_i g c1 k1 h1;split at hr;· cases hr
  rename_i h' c2 k2 h2;split at hr;· cases hr
  rename_i w c3 k3 h3;cases hr;have:=o8 h h0;have:=PJ h h1;have:=PJ h h2;have:=PJ h h3;omega
theorem zb7 {b:SD}(h:Few b){i:Int}{l:List MV}{v:MV}{c k:Nat}(hr:R6 b i l=some (v,c,k)):k<=c:=by
 unfold R6 at hr;split at hr
 ·split at hr
  ·obtain⟨⟨v',c',k'⟩,h1,h2⟩:=Option.map_eq_some_iff.1 hr;cases h2;have:=PJ h h1;simp only;omega
  ·cases hr
 repeat' split at hr
 all_goals first|(cases hr;done)|exact yY h hr|exact o8 h hr|(cases hr;exact Nat.le_refl _)
theorem jI:∀d,Few (R7 d)
 | 0=>fun t e v c k h=>by cases h
 | d+1=>fun t e v c k h=>by
  rw[R7]at h;split at h
  ·split at h;· cases h;omega
   ·cases h
  split at h
  ·split at h;· cases h
   ·cases h;omega
  split at h;· cases h
  split at h;· cases h
  rename_i l c1 k1 h1;obtain⟨⟨v',c',k'⟩,h2,h3⟩:=Option.map_eq_some_iff.1 h;cases h3;have:=yX (jI d) h1;have:=zb7 (jI d) h2;simp only;omega
mutual
def MV.wv:MV->WV
 | .num n=>.num n
 | .list l=>.list l
 | .both a b=>.pair a.wv b.wv
 | .unit=>.unit
 | .clo b e=>.fn b (MV.wvs e)
def MV.wvs:List MV->List WV
 | []=>[]
 | v::e=>v.wv::MV.wvs e
end
theorem zhe (e:List MV):MV.wvs e=e.map MV.wv:=by
 induction e with
 | nil=>rfl
 | cons v e ih=>simp only[MV.wvs,List.map_cons,ih]
def wk (r:MV × Nat × Nat):WV × Nat:=(r.1.wv,r.2.2)
def gC (b:SD)(e:iW):Prop:=∀t l r r',b t l=some r->e t (MV.wvs l)=some r'->r' = wk r
theorem zb8 {b:SD}{ev:iW}(h:gC b ev):∀{l:List Tm} {e:List MV} {r:List MV × Nat × Nat} {r':List WV × Nat},KL b l e=some r->S4 ev l (MV.wvs e)=some r'->r' = (MV.wvs r.1,r.2.2)
 | [],_,_,_,h1,h2=>by simp only[KL,S4]at h1 h2;cases h1;cases h2;rfl
 | x::l,e,r,r',h1,h2=>by
  simp only[KL,S4]at h1 h2;split at h1;· cases h1
  rename_i v1 c1 k1 h3;split at h1;· cases h1
  rename_i l2 c2 k2 h4;split at h2;· cases h2
  rename_i v1' Xy h5;split at h2;· cases h2
  rename_i l2' Yb h6;cases h1;cases h2;cases h _ _ _ _ h3 h5;cases zb8 h h4 h6;rfl
theorem T4 {b:SD}{ev:iW}(h:gC b ev){f x:MV}{r:MV × Nat × Nat}{r':WV × Nat}(h1:FP b f x=some r)(h2:LO ev f.wv x.wv=some r'):r' = wk r:=by
 cases f with
 | clo t e=>exact h t (x::e) r r' h1 h2
 | _=>cases h1
theorem zb9 {b:SD}{ev:iW}(h:gC b ev){f:MV}:∀{n i:Nat} {x:MV} {r:MV × Nat × Nat} {r':WV × Nat},SE b f n i x=some r->UC ev f.wv n i x.wv=some r'->r' = wk r
 | 0,_,_,_,_,h1,h2=>by simp only[SE,UC]at h1 h2;cases h1;cases h2;rfl
 | n+1,i,x,r,r',h1,h2=>by
  simp only[SE,UC]at h1 h2;split at h1;· cases h1
  rename_i g c1 k1 e1;split at h1;· cases h1
  rename_i y c2 k2 e2;split at h1;· cases h1
  rename_i w c3 k3 e3;split at h2;· cases h2
  rename_i g' Xy e4;cases T4 h (x:=.num i) e1 e4;split at h2;· cases h2
  rename_i y' Yb e5;cases T4 h e2 e5;split at h2;· cases h2
  rename_i w' k3' e6;cases zb9 h e3 e6;cases h1;cases h2;rfl
theorem yZ {b:SD}{ev:iW}(h:gC b ev){f x:MV}:∀{l:List Nat} {r:MV × Nat × Nat} {r':WV × Nat},JY b f x l=some r->TP ev f.wv x.wv l=some r'->r' = wk r
 | [],_,_,h1,h2=>by simp only[JY,TP]at h1 h2;cases h1;cases h2;rfl
 | y::l,r,r',h1,h2=>by
  simp only[JY,TP]at h1 h2;split at h1;· cases h1
  rename_i x0 c0 k0 e0;split at h1;· cases h1
  rename_i g c1 k1 e1;split at h1;· cases h1
  rename_i h' c2 k2 e2;split at h1;· cases h1
  rename_i w c3 k3 e3;split at h2;· cases h2
  rename_i x0' k0' e4;cases yZ h e0 e4;split at h2;· cases h2
  rename_i g' Xy e5;cases T4 h (x:=.num y) e1 e5;split at h2;· cases h2
  rename_i Gq Yb e6;cases T4 h (x:=.list l) e2 e6;split at h2;· cases h2
  rename_i w' k3' e7;cases T4 h e3 e7;cases h1;cases h2;rfl
theorem zhf {b:SD}{ev:iW}(h:gC b ev){k:Int}{l:List MV}{r:MV × Nat × Nat}{r':WV × Nat}(h1:R6 b k l=some r)(h2:IW ev k (MV.wvs l)=some r'):r' = wk r:=by
 unfold R6 at h1;unfold IW at h2;by_cases h3:k=3
 ·rw[if_pos h3]at h1 h2;split at h1
  ·rename_i f x;obtain⟨q,e1,rfl⟩:=Option.map_eq_some_iff.1 h1;obtain⟨q',e2,rfl⟩:=Option.map_eq_some_iff.1 h2;cases T4 h e1 e2;rfl
  ·cases h1
 rw[if_neg h3]at h1 h2;by_cases h4:k=4
 ·rw[if_pos h4]at h1 h2;cases h1;split at h2;· cases h2;rfl
  ·cases h2
 rw[if_neg h4]at h1 h2;by_cases h5:k=5
 ·rw[if_pos h5]at h1 h2;split at h1;· cases h1;cases h2;rfl
  ·cases h1
 rw[if_neg h5]at h1 h2;by_cases h6:k=6
 ·rw[if_pos h6]at h1 h2;split at h1;· exact zb9 h h1 h2
  ·cases h1
 rw[if_neg h6]at h1 h2;by_cases h7:k=7
 ·rw[if_pos h7]at h1 h2;cases h1;split at h2;· cases h2;rfl
  ·cases h2
 rw[if_neg h7]at h1 h2;by_cases h8:k=8
 ·rw[if_pos h8]at h1 h2;split at h1;· cases h1;cases h2;rfl
  ·cases h1
 rw[if_neg h8]at h1 h2;by_cases h9:k=9
 ·rw[if_pos h9]at h1 h2;split at h1;· exact yZ h h1 h2
  ·cases h1
 rw[if_neg h9]at h1 h2;by_cases Cc:k=10
 ·rw[if_pos Cc]at h1 h2;split at h1;· cases h1;cases h2;rfl
  ·cases h1
 rw[if_neg Cc]at h1 h2;by_cases Ck:k=11
 ·rw[if_pos Ck]at h1 h2;split at h1;· cases h1;cases h2;rfl
  ·cases h1
 rw[if_neg Ck]at h1 h2;by_cases Cf:k=12
 ·rw[if_pos Cf]at h1 h2;split at h1;· cases h1;cases h2;rfl
  ·cases h1
 rw[if_neg Cf]at h1 h2;by_cases Jv:k=13
 ·rw[if_pos Jv]at h1 h2;cases h1;split at h2;· cases h2;rfl
  ·cases h2
 rw[if_neg Jv]at h1 h2;cases h1
theorem zj6:∀d d',gC (R7 d) (OR d')
 | 0,_=>fun t e r r' h=>by cases h
 | d+1,0=>fun t e r r' _ h=>by cases h
 | d+1,d'+1=>fun t e r r' h1 h2=>by
  have ih:=zj6 d d';rw[R7]at h1;rw[OR]at h2;by_cases k2:t.kind=2
  ·rw[if_neg oO,if_pos k2]at h1;rw[if_pos k2]at h2;split at h1;· cases h1
   rename_i hl;cases h1;split at h2
   ·rename_i b hb;cases h2;have:t.argN 0=b:=by simp[Tm.argN,hb]
    rw[this];rfl
   ·cases h2
  rw[if_neg k2]at h2;by_cases k1:t.kind=1
  ·rw[if_pos k1]at h1 h2;split at h1
   ·rename_i hi;cases h1;rw[zhe,List.getElem?_map,uB hi.2]at h2;cases h2;simp[wk,List.getD,uB hi.2]
   ·cases h1
  rw[if_neg k1]at h1 h2;rw[if_neg k2]at h1;split at h1;· cases h1
  split at h1;· cases h1
  rename_i l c k e1;obtain⟨q,e2,rfl⟩:=Option.map_eq_some_iff.1 h1;split at h2;· cases h2
  rename_i l' k' e3;obtain⟨q',e4,rfl⟩:=Option.map_eq_some_iff.1 h2;cases zb8 ih e1 e3;cases zhf ih e2 e4;rfl
end
section
variable {gl:AF}
mutual
def MV.cl:MV->DV
 | .num n=>.ref [A0 (n:Int),AV,AV,AV,AV,AV]
 | .list l=>.ref [A0 0,C8 l,AV,AV,AV,AV]
 | .both a b=>.ref [A0 0,AV,MV.cl a,MV.cl b,AV,AV]
 | .unit=>.ref [A0 0,AV,AV,AV,AV,AV]
 | .clo b e=>.ref [A0 0,AV,AV,AV,.ref b.cells,MV.varsD e]
def MV.varsD:List MV->DV
 | []=>AV
 | v::e=>.ref [MV.cl v,MV.varsD e]
end
theorem zA (v:MV):v.cl.isCell=true:=by cases v <;> (simp only[MV.cl];rfl)
theorem vR (e:List MV):(MV.varsD e).isCell=true:=by cases e <;> (simp only[MV.varsD];rfl)
theorem gD (v:MV):D6 v.cl=[v.cl]:=by cases v <;> (simp only[MV.cl];rfl)
theorem jJ (e:List MV):D6 (MV.varsD e)=[MV.varsD e]:=by cases e <;> (simp only[MV.varsD];rfl)
attribute [go_sem] zA vR gD jJ
theorem cP (v:MV)(e:List MV):MV.varsD (v::e) = .ref [v.cl,MV.varsD e]:=by rw[MV.varsD]
theorem zba (b:Tm)(e:List MV):(MV.clo b e).cl = .ref [A0 0,AV,AV,AV,.ref [A0 b.kind,A0 b.index,A0 b.type.kind,.sl (b.type.args.map Ty.cells),.sl (b.args.map Tm.cells)],MV.varsD e]:=by
 rw[MV.cl,Tm.cells_eq]
theorem UN (n:Nat):(MV.num n).cl = .ref [A0 (n:Int),AV,AV,AV,AV,AV]:=by rw[MV.cl]
theorem W9 (l:List Nat):(MV.list l).cl = .ref [A0 0,C8 l,AV,AV,AV,AV]:=by rw[MV.cl]
theorem jK (a b:MV):(MV.both a b).cl = .ref [A0 0,AV,MV.cl a,MV.cl b,AV,AV]:=by rw[MV.cl]
theorem zhg:MV.unit.cl = .ref [A0 0,AV,AV,AV,AV,AV]:=by rw[MV.cl]
def vU (P:Program)(gl:AF)(fe:FuncId)(ev:SD):Prop:=
 ∀ ⦃t:Tm⦄ ⦃e:List MV⦄ ⦃v:MV⦄ ⦃c k:Nat⦄ (u b M:Nat),ev t e=some (v,c,k)->M+c<=1073741824->u+k<=1073741824->MV.nles M e ->
  U8 P gl fe [BC b,MV.varsD e,t.dv] [(b,[A0 (u:Int)])] v.cl [(b,[A0 ((u+k:Nat):Int)])]
theorem PK {ev:SD}(H:vU Tryz.prog gl 60 ev){f x v:MV}{c k:Nat}(u b M:Nat)(h:FP ev f x=some (v,c,k))(hM:M+c<=1073741824)(hu:u+k<=1073741824)(hF:f.nle M)(hx:x.nle M) :
  cT gl 108 [BC b,f.cl,x.cl] [(b,[A0 (u:Int)])] v.cl [(b,[A0 ((u+k:Nat):Int)])]:=by
 cases f with
 | num n=>cases h
 | list q=>cases h
 | both p q=>cases h
 | unit=>cases h
 | clo body e=>
  simp only[FP]at h;simp only[MV.nle]at hF;have W:=H u b M h hM hu (by simp only[MV.nles];exact⟨hx,hF⟩);rw[cP]at W;have hT:=Tm.fold body;have Ci:=zba body e;rw[Ci];refine A8 Tryz.func108 ?_;intro X hP u7 hf u9 hn hR u6 u5;refine A4 ?_;refine BK ?_;refine AL (by rw[hP];exact AZ) [14] fun K hK=>?_;simp[go_sem,hP,u7,hn,hT];refine IE (cs:=[x.cl,MV.varsD e]) (y:=.ag [x.cl,MV.varsD e] []) (fun _ _=>D8) (by simp[go_sem,hP,u7,hn]) (by simp[go_sem]) (by simp[go_sem]) (by rw[hn];exact uF rfl) (by rfl) ?_;simp[go_sem,hP,u7,hn,hT];refine FF @hT (W) ?_;refine F1 ?_;clear hK K;exact AI [(b,[A0 ((u+k:Nat):Int)])] tT
theorem zhh (d:Nat)(t:Tm)(e:List MV)(u b:Nat)(h2:t.kind=2)(x:Tm)(r:List Tm)(ha:t.args=x::r) :
  cT gl 60 [BC b,MV.varsD e,t.dv] [(b,[A0 (u:Int)])] (MV.clo x e).cl [(b,[A0 (u:Int)])]:=by
 have Ci:=zba x e;have An:=Tm.cells_eq x;rw[Ci];refine A8 Tryz.func60 ?_;intro X hP u7 hf u9 hn hR u6 u5;refine A2 ?_;refine A2 ?_;refine t_y @h2 ?_;refine BK ?_;refine AQ [24] fun K hK=>?_;simp[go_sem,hP,u7,hn,h2,ha,An];refine KF (cs:=[A0 0,AV,AV,AV,.ref [A0 x.kind,A0 x.index,A0 x.type.kind,.sl (x.type.args.map Ty.cells),.sl (x.args.map Tm.cells)],MV.varsD e]) (y:=.ag [A0 0,AV,AV,AV,.ref [A0 x.kind,A0 x.index,A0 x.type.kind,.sl (x.type.args.map Ty.cells),.sl (x.args.map Tm.cells)],MV.varsD e] []) (by simp[go_sem,hP,u7,hn]) (by simp[go_sem]) (by simp[go_sem]) (by rw[hn];exact uF rfl) (by rfl) ?_;simp[go_sem,hP,u7,hn];refine F1 ?_;clear hK K;exact AI [(b,[A0 (u:Int)])] tT
theorem zhi (t:Tm)(e:List MV)(u b:Nat)(h1:t.kind=1)(Xf:0<=t.index)(hi:t.index.toNat<e.length) :
  cT gl 60 [BC b,MV.varsD e,t.dv] [(b,[A0 (u:Int)])] (e.getD t.index.toNat .unit).cl [(b,[A0 (u:Int)])]:=by
 obtain⟨i,Uv⟩:∃i:Nat,t.index=(i:Int):=⟨t.index.toNat,oO⟩;rw[Uv,Int.toNat_natCast]at hi ⊢;refine A8 Tryz.func60 ?_;intro X hP u7 hf u9 hn hR u6 u5;have Lt:CM .i64 i:=by
  have:=u5 t.dv sS;rw[Tm.dv_fit,Tm.fit_eq]at this;have:=this.2.1
  rwa [Uv]at this
 rw[MS]at Lt;refine A7 (j2 @h1 @Uv) ?_;refine BK ?_;refine AC [] tT (CH (fun k:Nat=>k<=i) (fun k:Nat=>[sV 0 (BC b),sV 1 (MV.varsD (e.drop k)),sV 30 (A0 (k:Int)),sV 29 (A0 (i:Int)),sV 6 AV,sB  b [.v (A0 (u:Int))]]) (fun k:Nat=>i - k) 0 (Nat.zero_le _) ?_);intro k hk ih
 obtain⟨v,r,hr⟩:∃v r,e.drop k=v::r:=by
  cases hq:e.drop k with
  | nil=>have:=List.drop_eq_nil_iff.1 hq;omega
  | cons v r=>exact⟨v,r,rfl⟩
 have hE:MV.varsD (e.drop k) = .ref [v.cl,MV.varsD r]:=by rw[hr,cP]
 by_cases hki:k=i
 ·subst hki;have hv:e[k]?.getD MV.unit=v:=by
   have:=congrArg (fun l=>l.head?) hr;simp only[List.head?_drop,List.head?_cons]at this;simp[this]
  refine A2 ?_;refine B6 ?_;refine A7 @hE ?_;exact AI [(b,[A0 (u:Int)])] @hv
 ·have hd:e.drop (k+1)=r:=by rw[<- List.drop_drop,hr,List.drop_one,List.tail_cons]
  have Ag:(k:Int)<(i:Int):=oO;refine A2 ?_;refine AE ?_;refine AX @hE ?_;refine A2 ?_;refine K0 ?_;refine AC [] @hd (ih (k+1) oO oO)
def kP (l:List MV):List (List DV):=l.map fun v=>[v.cl]
theorem zhj (l:List MV):(kP l).length=l.length:=by simp[kP]
theorem zbb (l:List MV)(v:MV):kP (l++[v])=kP l++[[v.cl]]:=by simp[kP]
theorem zhk (l:List MV):∀e∈kP l,e.length=1:=by
 intro e he;simp only[kP,List.mem_map]at he;obtain⟨x,-,rfl⟩:=he;rfl
def vsB (ev:SD)(e:List MV)(l:List Tm):List MV:=((KL ev l e).map (·.1)).getD []
def kB (ev:SD)(e:List MV)(l:List Tm):Nat:=((KL ev l e).map (·.2.2)).getD 0
theorem cQ {ev:SD}{e:List MV}{x:Tm}{rest:List Tm}:∀{done:List Tm} {l:List MV} {c k:Nat},KL ev (done++x::rest) e=some (l,c,k)->∃v c1 k1 l1 c0 k0,ev x e=some (v,c1,k1)/\KL ev done e=some (l1,c0,k0)/\KL ev (done++[x]) e=some (l1++[v],c0+c1,k0+k1)/\c0+c1<=c/\k0+k1<=k
 | [],l,c,k,h=>by
  simp only[List.nil_append,KL]at h;split at h;· cases h
  rename_i v c1 k1 h1;split at h;· cases h
  rename_i l2 c2 k2 h2;cases h;refine⟨v,c1,k1,[],0,0,h1,rfl,?_,oO,oO⟩;simp[KL,h1]
 | y::done,l,c,k,h=>by
  simp only[List.cons_append,KL]at h ⊢;split at h;· cases h
  rename_i v0 c00 k00 h0;split at h;· cases h
  rename_i l2 c2 k2 h2;cases h;obtain⟨v,c1,k1,l1,c0,k0,e1,e2,e3,e4,e5⟩:=cQ h2;refine⟨v,c1,k1,v0::l1,c00+c0,k00+k0,e1,?_,?_,oO,oO⟩;· simp only[h0,e2]
  ·simp only[h0,e3];simp[Nat.add_assoc]
theorem o9 {ev:SD}{e:List MV}:∀{l:List Tm} {vs:List MV} {c k:Nat},KL ev l e=some (vs,c,k)->vs.length=l.length
 | [],vs,c,k,h=>by simp only[KL]at h;cases h;rfl
 | x::l,vs,c,k,h=>by
  simp only[KL]at h;split at h;· cases h
  split at h;· cases h
  rename_i h2;cases h;simp only[List.length_cons,o9 h2]
theorem PL {d:Nat}{f x v:MV}{c k M:Nat}(h:FP (R7 d) f x=some (v,c,k))(hf:f.nle M)(hx:x.nle M):v.nle (M+c):=by
 have h1:=L9 (W8 d) f x;rw[h]at h1;exact NQ (T3 0 d) h1.symm hf (by simp only[MV.nles];exact⟨hx,trivial⟩)
theorem zbc {d:Nat}{l:List Tm}{e vs:List MV}{c k M:Nat}(h:KL (R7 d) l e=some (vs,c,k))(he:MV.nles M e):MV.nles (M+c) vs:=by
 have h1:=cO (W8 d) l e;rw[h]at h1;exact HK (T3 0 d) h1.symm he
theorem z4d (ev:SD)(f:MV)(k:Nat)(r:MV):SE ev f 0 k r=some (r,0,0):=rfl
theorem cR {ev:SD}{f r:MV}{x:Nat}{l:List Nat}{v:MV}{c k:Nat}(h:JY ev f r (x::l)=some (v,c,k)):∃r' c0 k0 g c1 k1 h' c2 k2 c3 k3,JY ev f r l=some (r',c0,k0)/\FP ev f (.num x)=some (g,c1,k1)/\FP ev g (.list l)=some (h',c2,k2)/\FP ev h' r' = some (v,c3,k3)/\c=c0+(c1+c2+c3)/\k=k0+1+k1+k2+k3:=by
 simp only[JY]at h;split at h;· cases h
 rename_i r' c0 k0 h0;split at h;· cases h
 rename_i g c1 k1 h1;split at h;· cases h
 rename_i h' c2 k2 h2;split at h;· cases h
 rename_i w c3 k3 h3;cases h;exact⟨r',c0,k0,g,c1,k1,h',c2,k2,c3,k3,h0,h1,h2,h3,rfl,rfl⟩
theorem cS {ev:SD}{f r:MV}:∀{l:List Nat} {v:MV} {c k:Nat},JY ev f r l=some (v,c,k)->∀j,∃v' c' k',JY ev f r (l.drop j)=some (v',c',k')/\c'<=c/\k'<=k
 | [],v,c,k,h,j=>⟨v,c,k,by simpa using h,Nat.le_refl _,Nat.le_refl _⟩
 | x::l,v,c,k,h,0=>⟨v,c,k,h,Nat.le_refl _,Nat.le_refl _⟩
 | x::l,v,c,k,h,j+1=>by
  obtain⟨r',c0,k0,g,c1,k1,h',c2,k2,c3,k3,h0,-,-,-,rfl,rfl⟩:=cR h;obtain⟨v',c',k',e1,e2,e3⟩:=cS h0 j;exact⟨v',c',k',e1,oO,oO⟩
def WA (l:List Nat)(i:Nat):List (List DV):=(List.range i).map fun j=>[C8 (l.drop j)]
theorem z4e (l:List Nat):WA l 0=[]:=rfl
theorem oA (l:List Nat)(i:Nat):(WA l i).length=i:=by simp[WA]
theorem z4f (l:List Nat)(i:Nat):WA l (i+1)=WA l i++[[C8 (l.drop i)]]:=by simp[WA,List.range_succ]
theorem zbd (l:List Nat)(i:Nat):∀e∈WA l i,e.length=1:=by
 intro e he;simp only[WA,List.mem_map]at he;obtain⟨x,-,rfl⟩:=he;rfl
theorem zbe (l:List Nat){i j:Nat}(h:j<i):(WA l i)[j]? = some [C8 (l.drop j)]:=by
 simp[WA,h]
theorem zhl {d:Nat}(H:vU Tryz.prog gl 60 (R7 d))(t:Tm)(e l:List MV)(c1 k1:Nat)(w:MV)(c2 k2 u b M:Nat)(h1:¬t.kind=1)(h2:¬t.kind=2)(h3:t.args.length<=3)
  (hl:KL (R7 d) t.args e=some (l,c1,k1)) (Ai:R6 (R7 d) t.kind l=some (w,c2,k2)) (hM:M+(1+c1+c2)<=1073741824) (hu:u+(k1+k2)<=1073741824) (he:MV.nles M e) :
  cT gl 60 [BC b,MV.varsD e,t.dv] [(b,[A0 (u:Int)])] w.cl [(b,[A0 ((u+(k1+k2):Nat):Int)])]:=by
 have Fi:=zbc hl he;refine A8 Tryz.func60 ?_;intro X hP u7 hf u9 hn hR u6 u5;have hcl0:kP (vsB (R7 d) e [])=[]:=rfl;have hkb0:kB (R7 d) e []=0:=rfl;have hvl0:(vsB (R7 d) e []).length=0:=rfl;refine A7 (j2 @h1 @h2) ?_;refine BK ?_;refine AC [(1007,0)] (j3 @hcl0 @hkb0 @hvl0) (FE (t.args) (fun done rest=>[sV 44 (A0 done.length),sV 43 (A0 t.args.length),sV 42 (.sl (t.args.map Tm.cells)),sV 0 (BC b),sV 1 (MV.varsD e),sP 5,sL 5 [.v (A0 t.kind),.v (A0 t.index),.v (A0 t.type.kind),.v (.sl (t.type.args.map Ty.cells)),.v (.sl (t.args.map Tm.cells))],sV 6 AV,(.slot 7,.one (.own 1007 (kP (vsB (R7 d) e done)))),(.tok 1007,.tk 1 (vsB (R7 d) e done).length),sB  b [.v (A0 ((u+kB (R7 d) e done:Nat):Int))]]) ?_ ?_)
 ·intro done x rest hL Aq Aa;have Ag:done.length<t.args.length:=by rw[hL];simp
  rw[hL]at hl;obtain⟨v,c3,k3,l1,c0,k0,e1,e2,e3,e4,e5⟩:=cQ hl;have hv:vsB (R7 d) e done=l1:=by unfold vsB;rw[e2];rfl
  have hk:kB (R7 d) e done=k0:=by unfold kB;rw[e2];rfl
  have Di:vsB (R7 d) e (done++[x])=l1++[v]:=by unfold vsB;rw[e3];rfl
  have hk':kB (R7 d) e (done++[x])=k0+k3:=by unfold kB;rw[e3];rfl
  rw[Di,hk',zbb]at Aa;rw[hv,hk];have Lc:=zhk l1;have Hc:=zhj l1;have Fu:l1.length<=3:=by
   have:=o9 e2;omega
  have Gf:l1.length<=2147483647:=oO;have hw:=H (u+k0) b M e1 oO oO he;have Bi:=Tm.fold x;have hs:u+k0+k3=u+(k0+k3):=oO;rw[hs]at hw;generalize kP l1=L at *;refine A2 ?_;refine AE ?_;refine A7 @Aq ?_;refine A3 (j5 @Aq @Bi @Lc @Hc @Gf) hw ?_;refine CR (wr [(1007,54)]) @Hc (j3 @Lc @Hc @Gf) Aa
 ·have hv:vsB (R7 d) e t.args=l:=by unfold vsB;rw[hl];rfl
  have hk:kB (R7 d) e t.args=k1:=by unfold kB;rw[hl];rfl
  rw[hv,hk];refine A2 ?_;refine B6 ?_;unfold R6 at Ai;by_cases k3:t.kind=3
  ·rw[if_pos k3]at Ai;split at Ai;rotate_left;· cases Ai
   rename_i f x;obtain⟨⟨v,c9,t9⟩,q1,q2⟩:=Option.map_eq_some_iff.1 Ai;cases q2;simp only at hM hu;simp only[MV.nles]at Fi;have hw:=PK H (u+k1+1) b (M+c1) q1 oO oO Fi.1 Fi.2.1;have hs:u+k1+1+t9=u+(k1+(1+t9)):=oO;rw[hs]at hw;have Dz:kP [f,x]=[[f.cl],[x.cl]]:=rfl;rw[Dz];refine A7 @k3 ?_;refine A3 @k3 hw ?_;exact AI [(b,[A0 ((u+(k1+(1+t9)):Nat):Int)])] tT
  rw[if_neg k3]at Ai;by_cases k4:t.kind=4
  ·rw[if_pos k4]at Ai;cases Ai;have Jw:u+(k1+0)=u+k1:=oO;rw[Jw]at hR;rw[UN]at hR;have Sl:=k4;clear Fi;refine AX @k4 ?_;refine AX @k4 ?_;refine QZ @k4 ?_;refine AX @k4 ?_;refine QZ @k4 ?_;refine AX @k4 ?_;refine QZ @k4 ?_;refine AX @k4 ?_;refine QZ @k4 ?_;refine AX @k4 ?_;refine QZ @k4 ?_;refine AX @k4 ?_;refine QZ @k4 ?_;refine AX @k4 ?_;refine QZ @k4 ?_;refine AX @k4 ?_;refine QZ @k4 ?_;refine BK ?_;refine AQ [227] fun K hK=>?_;simp[go_sem,hP,u7,hn,k4];refine KF (cs:=[A0 0,AV,AV,AV,AV,AV]) (y:=.ag [A0 0,AV,AV,AV,AV,AV] []) (by simp[go_sem,hP,u7,hn]) (by simp[go_sem]) (by simp[go_sem]) (by rw[hn];exact uF rfl) (by rfl) ?_;simp[go_sem,hP,u7,hn,k4];refine F1 ?_;clear hK K;exact AI [(b,[A0 ((u+k1:Nat):Int)])] tT
  rw[if_neg k4]at Ai;by_cases k5:t.kind=5
  ·rw[if_pos k5]at Ai;split at Ai;rotate_left;· cases Ai
   rename_i n;cases Ai;have Jw:u+(k1+0)=u+k1:=oO;rw[Jw]at hR;rw[UN]at hR;simp only[MV.nles,MV.nle]at Fi;have Dz:kP [MV.num n]=[[(MV.num n).cl]]:=rfl;rw[Dz,UN];refine AX @k5 ?_;refine AX @k5 ?_;refine QZ @k5 ?_;refine AX @k5 ?_;refine t_y @k5 ?_;have hn5:=Fi.1;refine BK ?_;refine AQ [85] fun K hK=>?_;simp[go_sem,hP,u7,hn,k5];repeat (refine⟨oO,?_⟩)
   refine KF (cs:=[A0 ((n:Int)+1),AV,AV,AV,AV,AV]) (y:=.ag [A0 ((n:Int)+1),AV,AV,AV,AV,AV] []) (by simp[go_sem,hP,u7,hn]) (by simp[go_sem]) (by simp[go_sem]) (by rw[hn];exact uF rfl) (by rfl) ?_;simp[go_sem,hP,u7,hn,k5];refine F1 ?_;clear hK K;exact AI [(b,[A0 ((u+k1:Nat):Int)])] tT
  rw[if_neg k5]at Ai;by_cases k6:t.kind=6
  ·rw[if_pos k6]at Ai;split at Ai;rotate_left;· cases Ai
   rename_i r0 f n;have Dz:kP [r0,f,MV.num n]=[[r0.cl],[f.cl],[(MV.num n).cl]]:=rfl;rw[Dz,UN];simp only[MV.nles,MV.nle]at Fi;refine A7 @k6 ?_;refine BK ?_;refine AC [(1007,1007)] tT (CH (fun x:Nat × MV × Nat × Nat=>x.1<=n/\x.2.1.nle (M+c1+x.2.2.2)/\∃c3 t3,SE (R7 d) f (n - x.1) x.1 x.2.1=some (w,c3,t3)/\x.2.2.2+c3=c2/\x.2.2.1+t3=u+(k1+k2)) (fun x:Nat × MV × Nat × Nat=>[sV 0 (BC b),sV 6 AV,(.slot 7,.one (.own 1007 [[r0.cl],[f.cl],[.ref [A0 (n:Int),AV,AV,AV,AV,AV]]])),(.tok 1007,.tk 1 3),sV 10 x.2.1.cl,sV 138 (A0 (n:Int)),sV 139 (A0 (x.1:Int)),sB  b [.v (A0 ((x.2.2.1:Nat):Int))]]) (fun x:Nat × MV × Nat × Nat=>n - x.1) (0,r0,u+k1,0) (⟨Nat.zero_le _,(by simpa using Fi.1),c2,k2,(by simpa using Ai),Nat.zero_add _,Nat.add_assoc _ _ _⟩) ?_);rintro⟨i,q,v,m⟩ ⟨hi,hq,c3,t3,hr,hm,hv⟩ ih;simp only at hi hq hr hm hv;by_cases Ip:i<n
   ·have e1:n - i=(n - (i+1))+1:=oO;rw[e1,SE]at hr;split at hr;· cases hr
    rename_i g c4 t4 q1;split at hr;· cases hr
    rename_i r5 c5 t5 q2;split at hr;· cases hr
    rename_i w6 c6 t6 q3;cases hr;have g1:=PL q1 (MV.nle_mono oO _ Fi.2.1:f.nle (M+c1+m)) (by simp only[MV.nle];omega);have w1:=PK H (v+1) b (M+c1+m) q1 oO oO (MV.nle_mono oO _ Fi.2.1) (by simp only[MV.nle];omega);have g2:=PL q2 g1 (MV.nle_mono oO _ hq:q.nle (M+c1+m+c4));have w2:=PK H (v+1+t4) b (M+c1+m+c4) q2 oO oO g1 (MV.nle_mono oO _ hq);rw[UN]at w1;have Ag:(i:Int)<(n:Int):=oO;have Cx:v+1<=1073741824:=oO;refine A2 ?_;refine AE ?_;refine A2 ?_;refine A2 ?_;refine BK ?_;refine AQ [156] fun K hK=>?_;simp[go_sem,hP,u7,hn];refine KF (cs:=[A0 (i:Int),AV,AV,AV,AV,AV]) (y:=.ag [A0 (i:Int),AV,AV,AV,AV,AV] []) (by simp[go_sem,hP,u7,hn]) (by simp[go_sem]) (by simp[go_sem]) (by rw[hn];exact uF rfl) (by rfl) ?_;simp[go_sem,hP,u7,hn];refine FF tT (w1) ?_;refine FF tT (w2) ?_;refine F1 ?_;clear hK K;refine A2 ?_;have d1:i+1<=n:=oO;have d2:n - (i+1)<n - i:=oO;have d3:m+(c4+c5)+c6=c2:=oO;have d4:v+1+t4+t5+t6=u+(k1+k2):=oO;have d5:M+c1+m+c4+c5<=M+c1+(m+(c4+c5)):=oO;refine K0 ?_;refine AC [(1007,1007)] tT (ih (i+1,r5,v+1+t4+t5,m+(c4+c5)) ⟨d1,MV.nle_mono d5 _ g2,c6,t6,q3,d3,d4⟩ d2)
   ·have e0:n - i=0:=oO;rw[e0,z4d]at hr;cases hr;have Ag:(n:Int)<=(i:Int):=oO;have hvv:v=u+(k1+k2):=oO;rw[<- hvv]at hR;refine A2 ?_;refine B6 ?_;refine A4 ?_;exact AI [(b,[A0 ((v:Nat):Int)])] tT
  rw[if_neg k6]at Ai;by_cases k7:t.kind=7
  ·rw[if_pos k7]at Ai;cases Ai;have Jw:u+(k1+0)=u+k1:=oO;rw[Jw]at hR;rw[W9]at hR;have Gr:C8 []=AV:=rfl;rw[Gr]at hR;have Sl:=k7;clear Fi;refine AX @k7 ?_;refine AX @k7 ?_;refine QZ @k7 ?_;refine AX @k7 ?_;refine QZ @k7 ?_;refine AX @k7 ?_;refine QZ @k7 ?_;refine AX @k7 ?_;refine QZ @k7 ?_;refine AX @k7 ?_;refine QZ @k7 ?_;refine AX @k7 ?_;refine QZ @k7 ?_;refine AX @k7 ?_;refine QZ @k7 ?_;refine AX @k7 ?_;refine QZ @k7 ?_;refine BK ?_;refine AQ [227] fun K hK=>?_;simp[go_sem,hP,u7,hn,k7];refine KF (cs:=[A0 0,AV,AV,AV,AV,AV]) (y:=.ag [A0 0,AV,AV,AV,AV,AV] []) (by simp[go_sem,hP,u7,hn]) (by simp[go_sem]) (by simp[go_sem]) (by rw[hn];exact uF rfl) (by rfl) ?_;simp[go_sem,hP,u7,hn,k7];refine F1 ?_;clear hK K;exact AI [(b,[A0 ((u+k1:Nat):Int)])] tT
  rw[if_neg k7]at Ai;by_cases k8:t.kind=8
  ·rw[if_pos k8]at Ai;split at Ai;rotate_left;· cases Ai
   rename_i n m;cases Ai;have Jw:u+(k1+0)=u+k1:=oO;rw[Jw]at hR;rw[W9]at hR;have Mm:C8 (n::m) = .ref [A0 (n:Int),C8 m]:=rfl;rw[Mm]at hR;have Dz:kP [MV.num n,MV.list m]=[[(MV.num n).cl],[(MV.list m).cl]]:=rfl;rw[Dz,UN,W9];refine AX @k8 ?_;refine AX @k8 ?_;refine QZ @k8 ?_;refine AX @k8 ?_;refine QZ @k8 ?_;refine AX @k8 ?_;refine t_y @k8 ?_;refine BK ?_;refine AL (by rw[hP];exact AZ) [101,103] fun K hK=>?_;simp[go_sem,hP,u7,hn];refine IE (cs:=[A0 (n:Int),C8 m]) (y:=.ag [A0 (n:Int),C8 m] []) (fun _ _=>D8) (by simp[go_sem,hP,u7,hn]) (by simp[go_sem]) (by simp[go_sem]) (by rw[hn];exact uF rfl) (by rfl) ?_;simp[go_sem,hP,u7,hn];refine IE (cs:=[A0 0,.ref [A0 (n:Int),C8 m],AV,AV,AV,AV]) (y:=.ag [A0 0,.ref [A0 (n:Int),C8 m],AV,AV,AV,AV] []) (fun _ _=>D8) (by simp[go_sem,hP,u7,hn]) (by simp[go_sem]) (by simp[go_sem]) (by rw[hn];exact uF rfl) (by rfl) ?_;simp[go_sem,hP,u7,hn];refine F1 ?_;clear hK K;exact AI [(b,[A0 ((u+k1:Nat):Int)])] tT
  rw[if_neg k8]at Ai;by_cases k9:t.kind=9
  ·rw[if_pos k9]at Ai;split at Ai;rotate_left;· cases Ai
   rename_i r0 f m;have Dz:kP [r0,f,MV.list m]=[[r0.cl],[f.cl],[(MV.list m).cl]]:=rfl;rw[Dz,W9];simp only[MV.nles,MV.nle]at Fi;have Rc:m.length<=1073741824:=oO;have hdz:m.drop 0=m:=rfl;have htz:=z4e m;refine A7 @k9 ?_;refine BK ?_;refine AC [(1007,1007),(1012,0)] @htz (CH (fun i:Nat=>i<=m.length) (fun i:Nat=>[sV 0 (BC b),sV 6 AV,(.slot 7,.one (.own 1007 [[r0.cl],[f.cl],[.ref [A0 0,C8 m,AV,AV,AV,AV]]])),(.tok 1007,.tk 1 3),(.slot 12,.one (.own 1012 (WA m i))),(.tok 1012,.tk 1 i),sV 13 (C8 (m.drop i)),sB  b [.v (A0 ((u+k1:Nat):Int))]]) (fun i:Nat=>m.length - i) 0 (Nat.zero_le _) ?_);rintro i hi ih;by_cases Bz:i<m.length
   ·have hd:m.drop i=m[i]::m.drop (i+1):=List.drop_eq_getElem_cons Bz;generalize m[i]=y at hd;have hE:C8 (m.drop i) = .ref [A0 (y:Int),C8 (m.drop (i+1))]:=by rw[hd];rfl
    have Hs:=z4f m i;rw[hE]at Hs;have Hc:=oA m i;have Lc:=zbd m i;have Lt:i<=2147483647:=oO;have Jt:i+1<=2147483647:=oO;have Aa:=ih (i+1) oO oO;rw[Hs]at Aa;rw[hE];generalize WA m i=L at *;clear Hs;refine A2 ?_;refine AE ?_;refine AX (j4 @Hc @Lc @Lt @Jt) ?_;refine A2 ?_;refine K0 ?_;refine AC [(1007,1007),(1012,179)] @Hc Aa
   ·have Sn:i=m.length:=oO;subst Sn;have hd:m.drop m.length=[]:=List.drop_length;have Gr:C8 []=AV:=rfl;rw[hd,Gr];clear ih;refine A2 ?_;refine B6 ?_;have Hc:=oA m m.length;refine A7 @Hc ?_;have Vo:((m.length:Nat):Int) - 1=((m.length:Nat):Int) - 1:=rfl;refine BK ?_;refine AC [(1007,1007),(1012,1012)] @Hc (CH (fun x:Nat × MV × Nat × Nat=>x.1<=m.length/\x.2.1.nle (M+c1+x.2.2.2)/\JY (R7 d) f r0 (m.drop x.1)=some (x.2.1,x.2.2.2,x.2.2.1)) (fun x:Nat × MV × Nat × Nat=>[sV 0 (BC b),sV 6 AV,(.slot 7,.one (.own 1007 [[r0.cl],[f.cl],[.ref [A0 0,C8 m,AV,AV,AV,AV]]])),(.tok 1007,.tk 1 3),(.slot 12,.one (.own 1012 (WA m m.length))),(.tok 1012,.tk 1 m.length),sV 14 x.2.1.cl,sV 15 (A0 ((x.1:Int) - 1)),sB  b [.v (A0 ((u+k1+x.2.2.1:Nat):Int))]]) (fun x:Nat × MV × Nat × Nat=>x.1) (m.length,r0,0,0) (⟨Nat.le_refl _,(by simpa using Fi.1),(by rw[hd];rfl)⟩) ?_);rintro⟨j,q,tk,wk⟩ ⟨hj,hq,hf9⟩ ih;simp only at hj hq hf9;cases j with
    | zero=>
     rw[hdz,Ai]at hf9;cases hf9;have hs:u+(k1+k2)=u+k1+k2:=oO;rw[hs]at hR;refine A2 ?_;refine B6 ?_;refine A4 ?_;exact AI [(b,[A0 ((u+k1+k2:Nat):Int)])] tT
    | succ i=>
     have Bz:i<m.length:=oO;have In:m.drop i=m[i]::m.drop (i+1):=List.drop_eq_getElem_cons Bz;have Wp:m[i]<=M+c1:=Fi.2.2.1.2 _ (List.getElem_mem Bz);generalize m[i]=y at In Wp;have hE:C8 (m.drop i) = .ref [A0 (y:Int),C8 (m.drop (i+1))]:=by rw[In];rfl
     obtain⟨v',c',k',e1,e2,e3⟩:=cS Ai i;rw[In]at e1;obtain⟨r',c0,t0,g,c4,t4,h',c5,t5,c6,t6,q0,q1,q2,q3,rfl,rfl⟩:=cR e1;rw[hf9]at q0;cases q0;have b1:MV.nle (M+c1+wk) (MV.num y):=by simp only[MV.nle];omega
     have b2:f.nle (M+c1+wk):=MV.nle_mono oO _ Fi.2.1;have g1:=PL q1 b2 b1;have w1:=PK H (u+k1+tk+1) b (M+c1+wk) q1 oO oO b2 b1;have b3:MV.nle (M+c1+wk+c4) (MV.list (m.drop (i+1))):=by
      simp only[MV.nle];refine⟨?_,fun n hn=>?_⟩;· rw[List.length_drop];have:=Fi.2.2.1.1;omega
      ·have:=Fi.2.2.1.2 n (List.mem_of_mem_drop hn);omega
     have g2:=PL q2 g1 b3;have w2:=PK H (u+k1+tk+1+t4) b (M+c1+wk+c4) q2 oO oO g1 b3;have b4:q.nle (M+c1+wk+c4+c5):=MV.nle_mono oO _ hq;have g3:=PL q3 g2 b4;have w3:=PK H (u+k1+tk+1+t4+t5) b (M+c1+wk+c4+c5) q3 oO oO g2 b4;rw[UN]at w1;rw[W9]at w2;have Ng:((i+1:Nat):Int) - 1=(i:Int):=oO;rw[Ng];have Hi:=zbe m Bz;rw[hE]at Hi;have hb9:u+k1+tk+1<=1073741824:=oO;have hi9:(i:Int)<=1073741824:=oO;have Qw:u+k1+tk+1+t4+t5+t6=u+k1+(tk+1+t4+t5+t6):=oO;rw[Qw]at w3;have d7:M+c1+wk+c4+c5+c6<=M+c1+(wk+(c4+c5+c6)):=oO;have Aa:=ih (i,v',tk+1+t4+t5+t6,wk+(c4+c5+c6)) ⟨oO,MV.nle_mono d7 _ g3,by rw[In];exact e1⟩ (by simp only;omega);have Qk:=cK (m.drop (i+1));have Qj:=W6 (m.drop (i+1));generalize C8 (m.drop (i+1))=Y9 at *;generalize WA m m.length=L at *;refine A2 ?_;refine AE ?_;refine A2 ?_;refine BK ?_;refine AL (by rw[hP];exact AZ) [211,221] fun K hK=>?_;simp[go_sem,hP,u7,hn,Hi,Qk,Qj]
     refine IE (cs:=[A0 (y:Int),AV,AV,AV,AV,AV]) (y:=.ag [A0 (y:Int),AV,AV,AV,AV,AV] []) (fun _ _=>D8) (by simp[go_sem,hP,u7,hn,Hi,Qk,Qj]) (by simp[go_sem,Qk,Qj]) (by simp[go_sem,Qk,Qj]) (by rw[hn];exact uF rfl) (by rfl) ?_;simp[go_sem,hP,u7,hn,Hi,Qk,Qj];have J0:=j3 @Hi @Qk @Qj;refine FF J0 (w1) ?_;refine IE (cs:=[A0 0,Y9,AV,AV,AV,AV]) (y:=.ag [A0 0,Y9,AV,AV,AV,AV] []) (fun _ _=>D8) (by simp[go_sem,hP,u7,hn,Hi,Qk,Qj]) (by simp[go_sem,Qk,Qj]) (by simp[go_sem,Qk,Qj]) (by rw[hn];exact uF rfl) (by rfl) ?_;simp[go_sem,hP,u7,hn,Hi,Qk,Qj];refine FF J0 (w2) ?_;refine FF J0 (w3) ?_;refine F1 ?_;clear hK K;refine A2 ?_;refine K0 ?_;refine AC [(1007,1007),(1012,1012)] tT Aa
  rw[if_neg k9]at Ai;by_cases Gu:t.kind=10
  ·rw[if_pos Gu]at Ai;split at Ai;rotate_left;· cases Ai
   rename_i x y;cases Ai;have Jw:u+(k1+0)=u+k1:=oO;rw[Jw]at hR;rw[jK]at hR;have Dz:kP [x,y]=[[x.cl],[y.cl]]:=rfl;rw[Dz];refine AX @Gu ?_;refine AX @Gu ?_;refine QZ @Gu ?_;refine AX @Gu ?_;refine QZ @Gu ?_;refine AX @Gu ?_;refine QZ @Gu ?_;refine AX @Gu ?_;refine t_y @Gu ?_;refine BK ?_;refine AL (by rw[hP];exact AZ) [114] fun K hK=>?_;simp[go_sem,hP,u7,hn];refine IE (cs:=[A0 0,AV,x.cl,y.cl,AV,AV]) (y:=.ag [A0 0,AV,x.cl,y.cl,AV,AV] []) (fun _ _=>D8) (by simp[go_sem,hP,u7,hn]) (by simp[go_sem]) (by simp[go_sem]) (by rw[hn];exact uF rfl) (by rfl) ?_;simp[go_sem,hP,u7,hn];refine F1 ?_;clear hK K;exact AI [(b,[A0 ((u+k1:Nat):Int)])] tT
  rw[if_neg Gu]at Ai;by_cases Kl:t.kind=11
  ·rw[if_pos Kl]at Ai;split at Ai;rotate_left;· cases Ai
   rename_i x y;cases Ai;have Jw:u+(k1+0)=u+k1:=oO;rw[Jw]at hR;have Dz:kP [MV.both w y]=[[(MV.both w y).cl]]:=rfl;rw[Dz,jK];refine A7 @Kl ?_;exact AI [(b,[A0 ((u+k1:Nat):Int)])] tT
  rw[if_neg Kl]at Ai;by_cases Kp:t.kind=12
  ·rw[if_pos Kp]at Ai;split at Ai;rotate_left;· cases Ai
   rename_i x y;cases Ai;have Jw:u+(k1+0)=u+k1:=oO;rw[Jw]at hR;have Dz:kP [MV.both x w]=[[(MV.both x w).cl]]:=rfl;rw[Dz,jK];refine A7 @Kp ?_;exact AI [(b,[A0 ((u+k1:Nat):Int)])] tT
  rw[if_neg Kp]at Ai;by_cases Dt:t.kind=13
  ·rw[if_pos Dt]at Ai;cases Ai;have Jw:u+(k1+0)=u+k1:=oO;rw[Jw]at hR;rw[zhg]at hR;have Sl:=Dt;clear Fi;refine AX @Dt ?_;refine AX @Dt ?_;refine QZ @Dt ?_;refine AX @Dt ?_;refine QZ @Dt ?_;refine AX @Dt ?_;refine QZ @Dt ?_;refine AX @Dt ?_;refine QZ @Dt ?_;refine AX @Dt ?_;refine QZ @Dt ?_;refine AX @Dt ?_;refine QZ @Dt ?_;refine AX @Dt ?_;refine QZ @Dt ?_;refine AX @Dt ?_;refine QZ @Dt ?_;refine BK ?_;refine AQ [227] fun K hK=>?_;simp[go_sem,hP,u7,hn,Dt];refine KF (cs:=[A0 0,AV,AV,AV,AV,AV]) (y:=.ag [A0 0,AV,AV,AV,AV,AV] []) (by simp[go_sem,hP,u7,hn]) (by simp[go_sem]) (by simp[go_sem]) (by rw[hn];exact uF rfl) (by rfl) ?_;simp[go_sem,hP,u7,hn,Dt];refine F1 ?_;clear hK K;exact AI [(b,[A0 ((u+k1:Nat):Int)])] tT
  rw[if_neg Dt]at Ai;cases Ai
end
section
def Tl:(a:T)->MV->a.V->Prop
 | .nat,v,n=>v = .num n
 | .list,v,l=>v = .list l
 | .unit,v,_=>v = .unit
 | .pair a b,v,p=>∃x y,v = .both x y/\Tl a x p.1/\Tl b y p.2
 | .fn a b,v,f=>∃body e,v = .clo body e/\∀(x:MV) (y:a.V),Tl a x y->∃(r:MV) (c d0:Nat),(∀d,d0<=d->NY d body (x::e)=some (r,c))/\Tl b r (f y)
def TlE:(Γ:List T)->List MV->C3 Γ->Prop
 | [],e,_=>e=[]
 | a::Γ,e,ρ=>∃x r,e=x::r/\Tl a x ρ.1/\TlE Γ r ρ.2
theorem TlE.get {Γ:List T}{i:Nat}{a:T}{p:C3 Γ->a.V}(h:At Γ i a p):∀{e:List MV} {ρ:C3 Γ},TlE Γ e ρ->i<e.length/\Tl a (e.getD i .unit) (p ρ):=by
 induction h with
 | zero=>rintro e ρ ⟨x,r,rfl,h1,h2⟩;exact⟨sS,h1⟩
 | succ h ih=>
  rintro e ρ ⟨x,r,rfl,h1,h2⟩;obtain⟨k1,k2⟩:=ih h2;exact⟨by simpa using k1,by simpa using k2⟩
theorem QM {a b:T}{f:MV}{F:(T.fn a b).V}(hf:Tl (.fn a b) f F){x:MV}{X:a.V}(hx:Tl a x X):∃(v:MV) (c d0:Nat),Tl b v (F X)/\∀d,d0<=d->∀(l:List MV) (w:MV) (c':Nat),EG (NY d) v l=some (w,c')->EG (NY d) f (x::l)=some (w,c+c'):=by
 obtain⟨body,e,rfl,hb⟩:=hf;obtain⟨r,c,d0,h1,h2⟩:=hb x X hx;refine⟨r,c,d0,h2,fun d hd l w c' h=>?_⟩;simp only[EG,h1 d hd,h]
theorem WB (ev:LT)(v:MV):EG ev v []=some (v,0):=by cases v <;> rfl
theorem zbf {a:T}{f:MV}{F:(T.fn .nat (.fn a a)).V}(hf:Tl (.fn .nat (.fn a a)) f F):∀(n k:Nat) {r:MV} {R:a.V},Tl a r R->∃(w:MV) (c d0:Nat),(∀d,d0<=d->QF (NY d) f n k r=some (w,c))/\Tl a w ((List.range' k n).foldl (fun r i=>F i r) R)
 | 0,k,r,R,hr=>⟨r,0,0,fun d _=>rfl,hr⟩
 | n+1,k,r,R,hr=>by
  obtain⟨v,c1,d1,hv,h1⟩:=QM hf (show Tl .nat (.num k) k from rfl);obtain⟨u,c2,d2,hu,h2⟩:=QM hv hr;obtain⟨w,c3,d3,h3,hw⟩:=zbf hf n (k+1) hu;refine⟨w,c1+(c2+0)+c3,max d1 (max d2 d3),fun d hd=>?_,hw⟩;have e1:EG (NY d) f [.num k,r]=some (u,c1+(c2+0)):=h1 d oO [r] u _ (h2 d oO [] u 0 (WB _ _));simp only[QF,e1,h3 d oO]
theorem zB {a:T}{f:MV}{F:(T.fn .nat (.fn .list (.fn a a))).V}(hf:Tl (.fn .nat (.fn .list (.fn a a))) f F){b:MV}{B:a.V}(hb:Tl a b B):∀(l:List Nat),∃(w:MV) (c d0:Nat),(∀d,d0<=d->G7 (NY d) f b l=some (w,c))/\Tl a w (FK B F l)
 | []=>⟨b,0,0,fun d _=>rfl,hb⟩
 | x::l=>by
  obtain⟨w,c0,d0,h0,hw⟩:=zB hf hb l;obtain⟨v,c1,d1,hv,h1⟩:=QM hf (show Tl .nat (.num x) x from rfl);obtain⟨u,c2,d2,hu,h2⟩:=QM hv (show Tl .list (.list l) l from rfl);obtain⟨z,c3,d3,hz,h3⟩:=QM hu hw;refine⟨z,c0+(c1+(c2+(c3+0))),max d0 (max d1 (max d2 d3)),fun d hd=>?_,hz⟩;have e1:EG (NY d) f [.num x,.list l,w]=some (z,c1+(c2+(c3+0))):=h1 d oO _ _ _ (h2 d oO _ _ _ (h3 d oO [] z 0 (WB _ _)));simp only[G7,h0 d oO,e1]
theorem zbg {d:Nat}{t:Tm}{e:List MV}{l:List MV}{c1 c2:Nat}{v:MV}(h1:3<=t.kind/\t.kind<=13)(h3:t.args.length<=3)(hl:G6 (NY d) t.args e=some (l,c1))(hn:VZ (NY d) t.kind l=some (v,c2)):NY (d+1) t e=some (v,1+c1+c2):=by
 rw[NY,if_neg (show ¬t.kind=1 from oO),if_neg (show ¬t.kind=2 from oO),if_neg (show ¬3<t.args.length from oO),hl];simp only;unfold U1;rw[if_pos h1,hn]
def zqu (t:Tm)(e:List MV)(P:MV->Prop):Prop:=∃(v:MV) (c d0:Nat),(∀d,d0<=d->NY d t e=some (v,c))/\P v
theorem GA {t:Tm}{e l:List MV}{v:MV}{P:MV->Prop}{c1 c2 d0:Nat}(h1:3<=t.kind/\t.kind<=13)(h3:t.args.length<=3)(hl:∀d,d0<=d->G6 (NY d) t.args e=some (l,c1)/\VZ (NY d) t.kind l=some (v,c2))(hP:P v):zqu t e P:=by
 refine⟨v,1+c1+c2,d0+1,fun d hd=>?_,hP⟩;obtain⟨d',rfl⟩:∃d',d=d'+1:=⟨d - 1,oO⟩;exact zbg h1 h3 (hl d' oO).1 (hl d' oO).2
theorem zbh {Γ:List T}{t:Tm}{a:T}{F:C3 Γ->a.V}(h:Dn Γ t a F):∀{e:List MV} {ρ:C3 Γ},TlE Γ e ρ->zqu t e fun v=>Tl a v (F ρ):=by
 induction h with
 | var h=>
  intro e ρ he;rename_i Γ i a p;obtain⟨k1,k2⟩:=TlE.get h he;refine⟨_,1,1,fun d hd=>?_,k2⟩;obtain⟨d',rfl⟩:∃d',d=d'+1:=⟨d - 1,oO⟩;have hi:(vT (i:Nat)).index=(i:Int):=rfl;rw[NY,if_pos (show (vT (i:Nat)).kind=1 from rfl),hi,if_pos ⟨oO,by simpa using k1⟩];rfl
 | lam ha hb ih=>
  intro e ρ he;rename_i Γ a r b f;refine⟨.clo b e,1,1,fun d hd=>?_,b,e,rfl,fun x y Qe=>?_⟩
  ·obtain⟨d',rfl⟩:∃d',d=d'+1:=⟨d - 1,oO⟩;rw[NY,if_neg (by simp[AY,Tm.kind]),if_pos (show (AY a b).kind=2 from rfl),if_neg (by simp[AY,Tm.args])];rfl
  ·obtain⟨v,c,d0,h1,h2⟩:=ih (ρ:=(y,ρ)) ⟨x,e,rfl,Qe,he⟩;exact⟨v,c,d0,h1,h2⟩
 | app hf hx Ie Ga=>
  intro e ρ he;obtain⟨f',c1,d1,h1,k1⟩:=Ie he;obtain⟨x',c2,d2,h2,k2⟩:=Ga he;obtain⟨w,c3,d3,hw,h3⟩:=QM k1 k2;refine GA (l:=[f',x']) (v:=w) (c1:=c1+(c2+0)) (c2:=c3+0) (d0:=max d1 (max d2 d3)) (by simp[nT,Tm.kind]) (by simp[nT,Tm.args]) (fun d hd=>⟨?_,h3 d oO [] w 0 (WB _ _)⟩) hw;simp only[nT,Tm.args,G6,h1 d oO,h2 d oO]
 | zero=>
  intro e ρ he;exact GA (l:=[]) (v:=.num 0) (c1:=0) (c2:=0) (d0:=0) (by simp[nT,Tm.kind]) (by simp[nT,Tm.args]) (fun d hd=>⟨rfl,rfl⟩) rfl
 | succ hx ih=>
  intro e ρ he;rename_i Γ x X;obtain⟨x',c1,d1,h1,k1⟩:=ih he;have k1:x' = .num (X ρ):=k1;refine GA (l:=[x']) (v:=.num (Nat.succ (X ρ))) (c1:=c1+0) (c2:=0) (d0:=d1) (by simp[nT,Tm.kind]) (by simp[nT,Tm.args]) (fun d hd=>⟨?_,by rw[k1];rfl⟩) rfl;simp only[nT,Tm.args,G6,h1 d oO]
 | rc ha hb hf hn Cu Ie Dj=>
  intro e ρ he;obtain⟨b',c1,d1,h1,k1⟩:=Cu he;obtain⟨f',c2,d2,h2,k2⟩:=Ie he;obtain⟨n',c3,d3,h3,k3⟩:=Dj he;obtain rfl:n' = .num _:=k3;obtain⟨w,c4,d4,h4,hw⟩:=zbf k2 _ 0 k1;refine GA (l:=[b',f',.num _]) (v:=w) (c1:=c1+(c2+(c3+0))) (c2:=c4) (d0:=max d1 (max d2 (max d3 d4))) (by simp[Tm.kind]) (by simp[Tm.args]) (fun d hd=>⟨?_,h4 d oO⟩) (Eq.mpr (congrArg (Tl _ w) (QG _ _ _)) hw);simp only[Tm.args,G6,h1 d oO,h2 d oO,h3 d oO]
 | nil=>
  intro e ρ he;exact GA (l:=[]) (v:=.list []) (c1:=0) (c2:=0) (d0:=0) (by simp[nT,Tm.kind]) (by simp[nT,Tm.args]) (fun d hd=>⟨rfl,rfl⟩) rfl
 | cons hx hl Ga Uo=>
  intro e ρ he;obtain⟨x',c1,d1,h1,k1⟩:=Ga he;obtain⟨l',c2,d2,h2,k2⟩:=Uo he;obtain rfl:x' = .num _:=k1;obtain rfl:l' = .list _:=k2;refine GA (l:=[.num _,.list _]) (v:=.list (_::_)) (c1:=c1+(c2+0)) (c2:=0) (d0:=max d1 d2) (by simp[nT,Tm.kind]) (by simp[nT,Tm.args]) (fun d hd=>⟨?_,rfl⟩) rfl;simp only[nT,Tm.args,G6,h1 d oO,h2 d oO]
 | fold ha hb hf hn Cu Ie Dj=>
  intro e ρ he;obtain⟨b',c1,d1,h1,k1⟩:=Cu he;obtain⟨f',c2,d2,h2,k2⟩:=Ie he;obtain⟨n',c3,d3,h3,k3⟩:=Dj he;obtain rfl:n' = .list _:=k3;obtain⟨w,c4,d4,h4,hw⟩:=zB k2 k1 _;refine GA (l:=[b',f',.list _]) (v:=w) (c1:=c1+(c2+(c3+0))) (c2:=c4) (d0:=max d1 (max d2 (max d3 d4))) (by simp[Tm.kind]) (by simp[Tm.args]) (fun d hd=>⟨?_,h4 d oO⟩) hw;simp only[Tm.args,G6,h1 d oO,h2 d oO,h3 d oO]
 | pair hx hy Ga Pg=>
  intro e ρ he;obtain⟨x',c1,d1,h1,k1⟩:=Ga he;obtain⟨y',c2,d2,h2,k2⟩:=Pg he;refine GA (l:=[x',y']) (v:=.both x' y') (c1:=c1+(c2+0)) (c2:=0) (d0:=max d1 d2) (by simp[nT,Tm.kind]) (by simp[nT,Tm.args]) (fun d hd=>⟨?_,rfl⟩) ⟨x',y',rfl,k1,k2⟩;simp only[nT,Tm.args,G6,h1 d oO,h2 d oO]
 | fst hx ih=>
  intro e ρ he;obtain⟨x',c1,d1,h1,k1⟩:=ih he;obtain⟨p,q,rfl,hp,hq⟩:=k1;refine GA (l:=[.both p q]) (v:=p) (c1:=c1+0) (c2:=0) (d0:=d1) (by simp[nT,Tm.kind]) (by simp[nT,Tm.args]) (fun d hd=>⟨?_,rfl⟩) hp;simp only[nT,Tm.args,G6,h1 d oO]
 | snd hx ih=>
  intro e ρ he;obtain⟨x',c1,d1,h1,k1⟩:=ih he;obtain⟨p,q,rfl,hp,hq⟩:=k1;refine GA (l:=[.both p q]) (v:=q) (c1:=c1+0) (c2:=0) (d0:=d1) (by simp[nT,Tm.kind]) (by simp[nT,Tm.args]) (fun d hd=>⟨?_,rfl⟩) hq;simp only[nT,Tm.args,G6,h1 d oO]
 | unit=>
  intro e ρ he;exact GA (l:=[]) (v:=.unit) (c1:=0) (c2:=0) (d0:=0) (by simp[nT,Tm.kind]) (by simp[nT,Tm.args]) (fun d hd=>⟨rfl,rfl⟩) rfl
end
section
variable {gl:AF}
def H4 (l:List MV)(i:Nat):DV:=match l[i]? with
 | some v=>v.thing
 | none=>GT
theorem zbi (l:List MV)(i:Nat):(H4 l i).isCell=true:=by unfold H4;split;exact QK _;rfl
attribute [go_sem] zbi
def NR (l:List MV):List DV:=[H4 l 0,H4 l 1,H4 l 2]
def QN (ev:LT)(most:Nat)(e:List MV):Nat->List Tm->List MV
 | _,[]=>[]
 | u,t::r=>match ev t e with
  | none=>[]
  | some (v,c)=>if u+c<=most then v::QN ev most e (u+c) r else []
def SF (most n:Nat)(l:List MV):DV:=.tup [.agg (NR l),AK (decide (n<=most))]
theorem H5 {ev:LT}{most:Nat}{e:List MV}:∀{l:List Tm} {u:Nat} {vs:List MV} {c:Nat},G6 ev l e=some (vs,c)->u+c<=most->QN ev most e u l=vs
 | [],u,vs,c,h,k=>by simp only[G6,uC,uD]at h;rw[QN,h.1]
 | t::r,u,vs,c,h,k=>by
  simp only[G6]at h;split at h;· cases h
  ·rename_i v c1 hv;split at h;· cases h
   ·rename_i l c2 hl;simp only[uC,uD]at h;obtain⟨rfl,rfl⟩:=h;rw[QN,hv];simp only;rw[if_pos (show u+c1<=most from oO),H5 hl (show u+c1+c2<=most from oO)]
theorem JB {most:Nat}(hm:most<=1073741824){ev:LT}(H:JX Tryz.prog gl 142 most ev)(hN:NP most ev){l:List Tm}{e vs:List MV}{u c:Nat}(b M:Nat)
  (h:G6 ev l e=some (vs,c)) (h3:l.length<=3) (hu:u<=most) (hM:M+(most - u)<=1073741824) (he:MV.nles M e) :
  cT gl 169 [BC b,.sl (l.map Tm.cells),MV.envM e] [(b,CI most u)] (SF most (u+c) (QN ev most e u l)) [(b,CI most (u+c))]:=by
 refine A8 Tryz.func169 ?_;intro X hP u7 hf u9 hn hR u6 u5;have Sm:CI most u=[A0 (u:Int),A0 (most:Int)]:=by unfold CI;rw[if_pos hu]
 rw[Sm];have z0:H4 [] 0=GT:=rfl;have z1:H4 [] 1=GT:=rfl;have z2:H4 [] 2=GT:=rfl;refine A4 ?_;refine BK ?_;refine AC [] (j3 @z0 @z1 @z2) (CH (fun x:List MV × Nat × Nat=>x.2.1<=l.length/\x.2.2<=most/\u<=x.2.2/\x.1.length=x.2.1/\MV.nles (M+(x.2.2 - u)) e/\∃c' vs',G6 ev (l.drop x.2.1) e=some (vs',c')/\x.2.2+c' = u+c/\x.1++QN ev most e x.2.2 (l.drop x.2.1)=QN ev most e u l) (fun x:List MV × Nat × Nat=>[sV 15 (A0 (x.2.1:Int)),sV 14 (A0 (l.length:Int)),sV 13 (.sl (l.map Tm.cells)),sV 0 (BC b),sV 2 (MV.envM e),sV 7 (AK false),sP 6,sP 8,sL 6 [.v GT,.v GT,.v GT],sL 8 [.v (H4 x.1 0),.v (H4 x.1 1),.v (H4 x.1 2)],sB  b [.v (A0 (x.2.2:Int)),.v (A0 (most:Int))]]) (fun x:List MV × Nat × Nat=>l.length - x.2.1) (([]:List MV),0,u) (⟨Nat.zero_le _,hu,Nat.le_refl u,rfl,by simpa using he,c,vs,by simpa using h,rfl,sS⟩) ?_);rintro⟨p,i,u'⟩ ⟨hi,Qd,huu,Fe,hg,c',vs',hc,Cw,Fx⟩ ih;simp only at hi Qd huu Fe hg hc Cw Fx;by_cases Bz:i<l.length
 ·obtain⟨t,ht⟩:∃t,l[i]? = some t:=⟨l[i],uB Bz⟩;have hd:l.drop i=t::l.drop (i+1):=by
   rw[List.drop_eq_getElem_cons Bz];rw[uB Bz,uC]at ht;rw[ht]
  rw[hd]at hc;rw[hd]at Fx;simp only[G6]at hc;split at hc;· cases hc
  rename_i v1 c1 Dv;rw[QN,Dv]at Fx;simp only at Fx;split at hc;· cases hc
  rename_i vs1 c2 hw;simp only[uC,uD]at hc;obtain⟨rfl,rfl⟩:=hc;have hgz:MV.nles (M+(u' - u)) e:=hg;have W1:=H b (M+(u' - u)) Dv Qd oO hg;have hT:=Tm.fold t;have Vl:CI most u' = [A0 (u':Int),A0 (most:Int)]:=by unfold CI;rw[if_pos Qd]
  rw[Vl]at W1;have Hi:(l.map Tm.cells)[i]? = some [A0 t.kind,A0 t.index,A0 t.type.kind,.sl (t.type.args.map Ty.cells),.sl (t.args.map Tm.cells)]:=by rw[List.getElem?_map,ht];simp[Tm.cells_eq]
  have Ba:l≠[]:=by rintro rfl;simp at Bz
  rcases (show i=0\/i=1\/i=2 from oO) with rfl|rfl|rfl
  ·refine A2 ?_;refine t_y (j2 @Ba @Bz) ?_;refine AX (j2 @Hi @hT) ?_;by_cases Ap:u'+c1<=most
   ·have o1:FV most (u'+c1) v1.thing = .tup [v1.thing,AK true]:=by unfold FV;rw[if_pos Ap]
    have o2:CI most (u'+c1)=[A0 ((u'+c1:Nat):Int),A0 (most:Int)]:=by unfold CI;rw[if_pos Ap]
    rw[o1,o2]at W1;refine A3 @hT W1 ?_;refine A2 ?_;refine B6 ?_;refine A2 ?_;refine A2 ?_;have a4:u'+c1+c2=u+c:=oO;have a6:(p++[v1]).length=0+1:=by simp[Fe]
    have a7:H4 (p++[v1]) 0=v1.thing:=by simp[H4,Fe]
    have a8:p++[v1]++QN ev most e (u'+c1) (l.drop (0+1))=QN ev most e u l:=by rw[List.append_assoc];rw[<- Fx,if_pos Ap];rfl
    have b1:H4 (p++[v1]) 1=H4 p 1:=by simp[H4,Fe,List.getElem?_append]
    have b2:H4 (p++[v1]) 2=H4 p 2:=by simp[H4,Fe,List.getElem?_append]
    have d1:0+1<=l.length:=oO;have d2:u<=u'+c1:=oO;have d3:M+(u' - u)<=M+(u'+c1 - u):=oO;have d5:l.length - (0+1)<l.length - 0:=oO;refine K0 ?_;refine AC [] (j3 @a7 @b1 @b2) (ih (p++[v1],0+1,u'+c1) ⟨d1,Ap,d2,a6,MV.nles_mono d3 _ hgz,c2,vs1,hw,a4,a8⟩ d5)
   ·have o1:FV most (u'+c1) v1.thing = .tup [GT,AK false]:=by unfold FV;rw[if_neg Ap]
    have o2:CI most (u'+c1)=[A0 (most:Int),A0 (most:Int)]:=by unfold CI;rw[if_neg Ap]
    have Al:¬u+c<=most:=oO;have o4:CI most (u+c)=[A0 (most:Int),A0 (most:Int)]:=by unfold CI;rw[if_neg Al]
    have o5:QN ev most e u l=p:=by rw[<- Fx,if_neg Ap];simp
    have o6:decide (u+c<=most)=false:=decide_eq_false Al;unfold SF at hR;rw[o4,o5,o6]at hR;rw[o1,o2]at W1;refine A3 @hT W1 ?_;refine A2 ?_;refine AE ?_;refine A2 ?_;exact AI [(b,[A0 (most:Int),A0 (most:Int)])] @NR.eq_1
  ·refine A2 ?_;refine t_y (j2 @Ba @Bz) ?_;refine AX (j2 @Hi @hT) ?_;by_cases Ap:u'+c1<=most
   ·have o1:FV most (u'+c1) v1.thing = .tup [v1.thing,AK true]:=by unfold FV;rw[if_pos Ap]
    have o2:CI most (u'+c1)=[A0 ((u'+c1:Nat):Int),A0 (most:Int)]:=by unfold CI;rw[if_pos Ap]
    rw[o1,o2]at W1;refine A3 @hT W1 ?_;refine A2 ?_;refine B6 ?_;refine A2 ?_;refine A2 ?_;have a4:u'+c1+c2=u+c:=oO;have a6:(p++[v1]).length=1+1:=by simp[Fe]
    have a7:H4 (p++[v1]) 1=v1.thing:=by simp[H4,Fe]
    have a8:p++[v1]++QN ev most e (u'+c1) (l.drop (1+1))=QN ev most e u l:=by rw[List.append_assoc];rw[<- Fx,if_pos Ap];rfl
    have b0:H4 (p++[v1]) 0=H4 p 0:=by simp[H4,Fe,List.getElem?_append]
    have b2:H4 (p++[v1]) 2=H4 p 2:=by simp[H4,Fe,List.getElem?_append]
    have d1:1+1<=l.length:=oO;have d2:u<=u'+c1:=oO;have d3:M+(u' - u)<=M+(u'+c1 - u):=oO;have d5:l.length - (1+1)<l.length - 1:=oO;refine K0 ?_;refine AC [] (j3 @a7 @b0 @b2) (ih (p++[v1],1+1,u'+c1) ⟨d1,Ap,d2,a6,MV.nles_mono d3 _ hgz,c2,vs1,hw,a4,a8⟩ d5)
   ·have o1:FV most (u'+c1) v1.thing = .tup [GT,AK false]:=by unfold FV;rw[if_neg Ap]
    have o2:CI most (u'+c1)=[A0 (most:Int),A0 (most:Int)]:=by unfold CI;rw[if_neg Ap]
    have Al:¬u+c<=most:=oO;have o4:CI most (u+c)=[A0 (most:Int),A0 (most:Int)]:=by unfold CI;rw[if_neg Al]
    have o5:QN ev most e u l=p:=by rw[<- Fx,if_neg Ap];simp
    have o6:decide (u+c<=most)=false:=decide_eq_false Al;unfold SF at hR;rw[o4,o5,o6]at hR;rw[o1,o2]at W1;refine A3 @hT W1 ?_;refine A2 ?_;refine AE ?_;refine A2 ?_;exact AI [(b,[A0 (most:Int),A0 (most:Int)])] @NR.eq_1
  ·refine A2 ?_;refine t_y (j2 @Ba @Bz) ?_;refine AX (j2 @Hi @hT) ?_;by_cases Ap:u'+c1<=most
   ·have o1:FV most (u'+c1) v1.thing = .tup [v1.thing,AK true]:=by unfold FV;rw[if_pos Ap]
    have o2:CI most (u'+c1)=[A0 ((u'+c1:Nat):Int),A0 (most:Int)]:=by unfold CI;rw[if_pos Ap]
    rw[o1,o2]at W1;refine A3 @hT W1 ?_;refine A2 ?_;refine B6 ?_;refine A2 ?_;refine A2 ?_;have a4:u'+c1+c2=u+c:=oO;have a6:(p++[v1]).length=2+1:=by simp[Fe]
    have a7:H4 (p++[v1]) 2=v1.thing:=by simp[H4,Fe]
    have a8:p++[v1]++QN ev most e (u'+c1) (l.drop (2+1))=QN ev most e u l:=by rw[List.append_assoc];rw[<- Fx,if_pos Ap];rfl
    have b0:H4 (p++[v1]) 0=H4 p 0:=by simp[H4,Fe,List.getElem?_append]
    have b1:H4 (p++[v1]) 1=H4 p 1:=by simp[H4,Fe,List.getElem?_append]
    have d1:2+1<=l.length:=oO;have d2:u<=u'+c1:=oO;have d3:M+(u' - u)<=M+(u'+c1 - u):=oO;have d5:l.length - (2+1)<l.length - 2:=oO;refine K0 ?_;refine AC [] (j3 @a7 @b0 @b1) (ih (p++[v1],2+1,u'+c1) ⟨d1,Ap,d2,a6,MV.nles_mono d3 _ hgz,c2,vs1,hw,a4,a8⟩ d5)
   ·have o1:FV most (u'+c1) v1.thing = .tup [GT,AK false]:=by unfold FV;rw[if_neg Ap]
    have o2:CI most (u'+c1)=[A0 (most:Int),A0 (most:Int)]:=by unfold CI;rw[if_neg Ap]
    have Al:¬u+c<=most:=oO;have o4:CI most (u+c)=[A0 (most:Int),A0 (most:Int)]:=by unfold CI;rw[if_neg Al]
    have o5:QN ev most e u l=p:=by rw[<- Fx,if_neg Ap];simp
    have o6:decide (u+c<=most)=false:=decide_eq_false Al;unfold SF at hR;rw[o4,o5,o6]at hR;rw[o1,o2]at W1;refine A3 @hT W1 ?_;refine A2 ?_;refine AE ?_;refine A2 ?_;exact AI [(b,[A0 (most:Int),A0 (most:Int)])] @NR.eq_1
 ·have hd:l.drop i=[]:=List.drop_eq_nil_iff.2 oO;have Uv:i=l.length:=oO;subst Uv;rw[hd]at hc Fx;simp only[G6,uC,uD]at hc;obtain⟨rfl,rfl⟩:=hc;simp only[QN,List.append_nil]at Fx;have Oc:u+c<=most:=oO;have o4:CI most (u+c)=[A0 (u':Int),A0 (most:Int)]:=by unfold CI;rw[if_pos Oc];rw[<- Cw];simp
  have o6:decide (u+c<=most)=true:=decide_eq_true Oc;unfold SF at hR;rw[<- Fx,o4,o6]at hR;refine A2 ?_;refine B6 ?_;refine A2 ?_;exact AI [(b,[A0 (u':Int),A0 (most:Int)])] @NR.eq_1
theorem LA (n:Nat):(MV.num n).thing = .iface 3 (A0 (n:Int)):=by rw[MV.thing]
theorem zhm {most:Nat}(hm:most<=1073741824){ev:LT}(H:JX Tryz.prog gl 142 most ev)(hN:NP most ev)(hNc:∀{f v:MV} {l:List MV} {c M:Nat},EG ev f l=some (v,c)->f.nle M->MV.nles M l->v.nle (M+c)){r f v:MV}{n u c:Nat}(b M:Nat)
  (h:QF ev f n 0 r=some (v,c)) (hu:u<=most) (hM:M+(most - u)<=1073741824) (Xg:r.nle M) (Dl:f.nle M) (Mq:n<=M) :
  cT gl 170 [BC b,.agg (NR [r,f,.num n])] [(b,CI most u)] (FV most (u+c) v.thing) [(b,CI most (u+c))]:=by
 have z0:H4 [r,f,.num n] 0=r.thing:=rfl;have z1:H4 [r,f,.num n] 1=f.thing:=rfl;have z2:H4 [r,f,.num n] 2 = .iface 3 (A0 (n:Int)):=LA n;have Sm:CI most u=[A0 (u:Int),A0 (most:Int)]:=by unfold CI;rw[if_pos hu]
 unfold NR;rw[z0,z1,z2,Sm];refine A8 Tryz.func170 ?_;intro X hP u7 hf u9 hn hR u6 u5;refine A4 ?_;refine BK ?_;refine AC [] tT (CH (fun x:DV × Bool × Nat × Nat=>x.1.isCell=true/\D6 x.1=[x.1]/\(x.2.1=true->x.2.2.1<=n/\x.2.2.2<=most/\u<=x.2.2.2/\∃(q:MV) (c':Nat),x.1=q.thing/\q.nle (M+(x.2.2.2 - u))/\QF ev f (n - x.2.2.1) x.2.2.1 q=some (v,c')/\x.2.2.2+c' = u+c)/\(x.2.1=false->x.1=GT/\x.2.2.2=most/\¬u+c<=most/\x.2.2.1<=n+1)) (fun x:DV × Bool × Nat × Nat=>[sV 6 x.1,sV 7 (AK x.2.1),sV 8 (A0 (x.2.2.1:Int)),sV 0 (BC b),sV 4 GT,sV 5 (AK false),sP 3,sL 3 [.v r.thing,.v f.thing,.v (.iface 3 (A0 (n:Int)))],sB  b [.v (A0 (x.2.2.2:Int)),.v (A0 (most:Int))]]) (fun x:DV × Bool × Nat × Nat=>(if x.2.1 then n - x.2.2.1+1 else 0)) (r.thing,true,0,u) (⟨QK r,QL r,fun _=>⟨Nat.zero_le _,hu,Nat.le_refl u,r,c,rfl,by simpa using Xg,by simpa using h,rfl⟩,fun e=>by cases e⟩) ?_);rintro⟨y,ok,k,u'⟩ ⟨Is,Py,Wv,hy4⟩ ih;simp only at Is Py Wv hy4;cases ok with
 | false=>
  obtain⟨rfl,rfl,Al,hk⟩:=hy4 rfl;have o3:FV u' (u+c) v.thing = .tup [GT,AK false]:=by unfold FV;rw[if_neg Al]
  have o4:CI u' (u+c)=[A0 (u':Int),A0 (u':Int)]:=by unfold CI;rw[if_neg Al]
  rw[o3,o4]at hR;refine A2 ?_;refine B6 ?_;refine A2 ?_;exact AI [(b,[A0 (u':Int),A0 (u':Int)])] tT
 | true=>
  obtain⟨hk,Qd,huu,q,c',rfl,hq,hc,Cw⟩:=Wv rfl;have Fo:(n:Int)<=1073741824:=oO;by_cases hkn:k<n
  ·have e1:n - k=(n - (k+1))+1:=oO;rw[e1,QF]at hc;split at hc;· cases hc
   rename_i v1 c1 Dv;split at hc;· cases hc
   rename_i w c2 hw;simp only[uC,uD]at hc;obtain⟨rfl,rfl⟩:=hc;have So:f.nle (M+(u' - u)):=MV.nle_mono oO _ Dl;have Jx:MV.nles (M+(u' - u)) [.num k,q]:=by simp only[MV.nles,MV.nle];exact⟨oO,hq,trivial⟩
   have W1:=W7 hm H hN b (M+(u' - u)) Dv Qd oO So Jx;have hN1:=hNc Dv So Jx;have Vl:CI most u' = [A0 (u':Int),A0 (most:Int)]:=by unfold CI;rw[if_pos Qd]
   have hkn':(k:Int)<(n:Int):=oO;rw[Vl]at W1;simp only[List.map,LA]at W1;refine A2 ?_;refine AE ?_;by_cases Ap:u'+c1<=most
   ·have o1:FV most (u'+c1) v1.thing = .tup [v1.thing,AK true]:=by unfold FV;rw[if_pos Ap]
    have o2:CI most (u'+c1)=[A0 ((u'+c1:Nat):Int),A0 (most:Int)]:=by unfold CI;rw[if_pos Ap]
    rw[o1,o2]at W1;refine A3 tT W1 ?_;refine A2 ?_;have d1:k+1<=n:=oO;have d2:u<=u'+c1:=oO;have d3:M+(u' - u)+c1<=M+(u'+c1 - u):=oO;have d4:u'+c1+c2=u+c:=oO;have d5:n - (k+1)+1<n - k+1:=oO;refine K0 ?_;refine AC [] tT (ih (v1.thing,true,k+1,u'+c1) ⟨QK v1,QL v1,fun _=>⟨d1,Ap,d2,v1,c2,rfl,MV.nle_mono d3 _ hN1,hw,d4⟩,fun e=>by cases e⟩ d5)
   ·have o1:FV most (u'+c1) v1.thing = .tup [GT,AK false]:=by unfold FV;rw[if_neg Ap]
    have o2:CI most (u'+c1)=[A0 (most:Int),A0 (most:Int)]:=by unfold CI;rw[if_neg Ap]
    have Al:¬u+c<=most:=oO;have d1:k+1<=n+1:=oO;have d5:0<n - k+1:=oO;rw[o1,o2]at W1;refine A3 tT W1 ?_;refine A2 ?_;refine K0 ?_;refine AC [] tT (ih (GT,false,k+1,most) ⟨rfl,rfl,fun e=>(by cases e),fun _=>⟨rfl,rfl,Al,d1⟩⟩ d5)
  ·have e0:n - k=0:=oO;rw[e0,QF]at hc;simp only[uC,uD]at hc;obtain⟨rfl,rfl⟩:=hc;have hkn':(n:Int)<=(k:Int):=oO;have Oc:u+c<=most:=oO;have o3:FV most (u+c) q.thing = .tup [q.thing,AK true]:=by unfold FV;rw[if_pos Oc]
   have o4:CI most (u+c)=[A0 (u':Int),A0 (most:Int)]:=by unfold CI;rw[if_pos Oc];rw[<- Cw];simp
   rw[o3,o4]at hR;refine A2 ?_;refine B6 ?_;refine A2 ?_;exact AI [(b,[A0 (u':Int),A0 (most:Int)])] tT
theorem zhn:∀{d:Nat} {t:Tm} {e:List MV} {v:MV} {c:Nat},NY d t e=some (v,c)->1<=c
 | 0,t,e,v,c,h=>by cases h
 | d+1,t,e,v,c,h=>by
  rw[NY]at h;repeat' split at h
  all_goals first
   | (cases h;done)
   | (simp only[uC,uD]at h;omega)
theorem zbj:blC [] (some [])=some (True,.ag [] []):=rfl
attribute [go_sem] zbj
theorem NS (l:List Nat):(MV.list l).thing = .iface 199 (C8 l):=by rw[MV.thing]
theorem UO (x y:MV):(MV.both x y).thing = .iface 205 (.ref [x.thing,y.thing]):=by rw[MV.thing]
theorem vV:MV.unit.thing = .iface 209 (.agg []):=by rw[MV.thing]
theorem T5:C8 []=AV:=rfl
theorem NT (n:Nat)(l:List Nat):C8 (n::l) = .ref [A0 (n:Int),C8 l]:=rfl
theorem ER {most n:Nat}(h:n<=most)(v:DV):FV most n v = .tup [v,AK true]:=by unfold FV;rw[if_pos h]
theorem JC {most n:Nat}(h:¬n<=most)(v:DV):FV most n v = .tup [GT,AK false]:=by unfold FV;rw[if_neg h]
theorem AJ {most n:Nat}(h:n<=most):CI most n=[A0 (n:Int),A0 (most:Int)]:=by unfold CI;rw[if_pos h]
theorem FQ {most n:Nat}(h:¬n<=most):CI most n=[A0 (most:Int),A0 (most:Int)]:=by unfold CI;rw[if_neg h]
def zC (P:Program)(gl:AF)(ff:FuncId)(most:Nat)(ev:LT):Prop:=
 ∀ ⦃r f v:MV⦄ ⦃l:List Nat⦄ ⦃u c:Nat⦄ (b M:Nat),G7 ev f r l=some (v,c)->u<=most->M+(most - u)<=1073741824->r.nle M->f.nle M->(l.length<=M/\∀n∈l,n<=M) ->
  U8 P gl ff [BC b,.agg (NR [r,f,.list l])] [(b,CI most u)] (FV most (u+c) v.thing) [(b,CI most (u+c))]
theorem zho {most:Nat}(hm:most<=1073741824)(t:Tm){e:List MV}{u:Nat}(b:Nat)(hu:u<=most)(h1:t.kind=1)(hi:0<=t.index/\t.index.toNat<e.length) :
  cT gl 142 [BC b,t.dv,MV.envM e] [(b,CI most u)] (FV most (u+1) (e.getD t.index.toNat .unit).thing) [(b,CI most (u+1))]:=by
 rw[AJ hu];have hti:(t.index.toNat:Int)=t.index:=Int.toNat_of_nonneg hi.1;have W1:=z49 (gl:=gl) e t.index.toNat hi.2;rw[hti]at W1;by_cases Ar:u+1<=most
 ·rw[AJ Ar,ER Ar];have Ca:¬(most:Int)<=(u:Int):=oO;refine A8 Tryz.func142 ?_;intro X hP u7 hf u9 hn hR u6 u5;refine A7 (j2 @Ca @h1) ?_;refine A3 tT W1 ?_;exact AI [(b,[A0 ((u+1:Nat):Int),A0 (most:Int)])] tT
 ·rw[FQ Ar,JC Ar];have Ca:(most:Int)<=(u:Int):=oO;have Qy:(u:Int)=(most:Int):=oO;refine A8 Tryz.func142 ?_;intro X hP u7 hf u9 hn hR u6 u5;refine A7 @Ca ?_;exact AI [(b,[A0 (most:Int),A0 (most:Int)])] @Qy
theorem zhp {most:Nat}(hm:most<=1073741824)(t:Tm){e:List MV}{u:Nat}(b:Nat)(hu:u<=most)(h2:t.kind=2){body:Tm}{rest:List Tm}(ha:t.args=body::rest) :
  cT gl 142 [BC b,t.dv,MV.envM e] [(b,CI most u)] (FV most (u+1) (MV.clo body e).thing) [(b,CI most (u+1))]:=by
 rw[AJ hu];by_cases Ar:u+1<=most
 ·rw[AJ Ar,ER Ar,gA];have Ca:¬(most:Int)<=(u:Int):=oO;have hg:(t.args.map Tm.cells)[0]? = some [A0 body.kind,A0 body.index,A0 body.type.kind,.sl (body.type.args.map Ty.cells),.sl (body.args.map Tm.cells)]:=by rw[ha];simp[Tm.cells_eq]
  have Hd:t.args[0]? = some body:=by rw[ha];rfl
  have hT:=Tm.fold body;refine A8 Tryz.func142 ?_;intro X hP u7 hf u9 hn hR u6 u5;refine A7 (j2 @Ca @h2) ?_;refine AQ [42] fun K hK=>?_;simp[go_sem,hP,u7,hn,hg,Hd,hT,Tm.cells_eq];refine KF (cs:=[A0 body.kind,A0 body.index,A0 body.type.kind,.sl (body.type.args.map Ty.cells),.sl (body.args.map Tm.cells),MV.envM e]) (y:=.ag [A0 body.kind,A0 body.index,A0 body.type.kind,.sl (body.type.args.map Ty.cells),.sl (body.args.map Tm.cells),MV.envM e] []) (by simp[go_sem,hP,u7,hn]) (by simp[go_sem]) (by simp[go_sem]) (by rw[hn];exact uF rfl) (by rfl) ?_;simp[go_sem,hP,u7,hn];refine F1 ?_;clear hK K;exact AI [(b,[A0 ((u+1:Nat):Int),A0 (most:Int)])] tT
 ·rw[FQ Ar,JC Ar];have Ca:(most:Int)<=(u:Int):=oO;have Qy:(u:Int)=(most:Int):=oO;refine A8 Tryz.func142 ?_;intro X hP u7 hf u9 hn hR u6 u5;refine A7 @Ca ?_;exact AI [(b,[A0 (most:Int),A0 (most:Int)])] @Qy
def LW (l:List DV):List (List DV):=l.map fun x=>[x]
theorem YH (l:List DV):(LW l).length=l.length:=by simp[LW]
theorem zbk {l:List DV}{i:Nat}{x:DV}(h:l[i]? = some x):(LW l)[i]? = some [x]:=by simp[LW,h]
attribute [go_sem] YH
theorem jL (l:List DV):Con Tryz.prog gl 184 [.sl (LW l)] [] fun r φ=>∃b,r = .prim (.func (.func 189) #[] #[.pointer (some ⟨b,0,none⟩)])/\φ=[(b,[.sl (LW l)])]:=by
 refine A8 Tryz.func184 ?_;intro X hP u7 hf u9 hn hR u6 u5;refine A2 ?_;refine EC 1 (by simp[go_sem];rfl) ?_;intro b hb;simp[go_sem];refine A2 ?_;refine BK ?_;refine WZ hP hf u9 (.prim (.func (.func 189) #[] #[.pointer (some ⟨b,0,none⟩)])) [(b,[.sl (LW l)])] (by simp[go_sem,hP,u7,hn]) (by simp[go_sem]) sS (by rw[hR.1];exact⟨b,rfl,rfl⟩) hR.2
def zj7 (P:Program)(gl:AF)(l:List DV)(φ:Nat->BU)(Stop:BU->Loop->Prop)(lp:Nat)(r:Loop)(D0:Nat->Nat->Prop)(w0:World):Prop:=
 ∀(i:Nat) (x:DV),l[i]? = some x->YC P gl D0 w0 lp r [A0 i,x] (φ (i+1)) fun b Ae r'=>if b=true then Ae=φ i/\r' = r else Stop Ae r'
theorem vW (l:List DV)(hlen:l.length<=2147483648)(b0:Nat)(φ:Nat->BU)(Bd:∀i,(φ i).map (·.1)=(φ 0).map (·.1))(Ai:((φ 0).map (·.1)).Nodup)(Da:b0∉(φ 0).map (·.1)){Stop:BU->Loop->Prop}(Kx:∀ψ r',Stop ψ r'->ψ.map (·.1)=(φ 0).map (·.1))(lp:Nat)(r:Loop)(Ka:r.params.size=2) :
  ItC Tryz.prog gl 189 [.prim (.func (.yield lp) #[] #[]),BC b0] ((b0,[.sl (LW l)])::φ l.length) lp r (zj7 Tryz.prog gl l φ Stop lp r) (fun Ae r'=>(Ae=(b0,[.sl (LW l)])::φ 0/\r' = r)\/∃ψ,Ae=(b0,[.sl (LW l)])::ψ/\Stop ψ r'):=by
 refine SQ Tryz.func189 rfl kK (uF rfl) ?_;intro X hP u7 hf u9 hn Ft u6 u5 Rf hY;simp only[List.map_cons,List.mem_cons,not_or,Bd]at Rf;obtain⟨Bc,Iv⟩:=Rf;have Ip:∀(i:Nat) (A:St),(∀m v,(m,v)∈A->∀b∈(φ 0).map (·.1),m≠.heap b)->BP (get (A++D9 (φ i))) (φ i):=fun i A h=>RW (by rw[Bd];exact Ai) (by rw[Bd];exact h);simp only[RU,OY,QX,D9,List.map_cons,List.map_nil,List.cons_append,List.nil_append];refine AX @Bc ?_;refine BK ?_;refine iM (A':=[(.slot 3,.one (.v (A0 ((l.length:Int) - 1 - (0:Nat))))),(.slot 0,.one (.v (.prim (.func (.yield lp) #[] #[])))),(.slot 1,.one (.v (BC b0))),(.heap lp,.ob r),(.heap b0,.row [.v (.sl (LW l))])]) (A:=[_,_,_,_,_,_,_,_]) ?_ ?_ ?_
 ·intro m v h;simp only[List.mem_cons,List.not_mem_nil,or_false,uD]at h;rcases h with⟨rfl,rfl⟩|⟨rfl,rfl⟩|⟨rfl,rfl⟩|⟨rfl,rfl⟩|⟨rfl,rfl⟩ <;> simp[go_sem,Bc]
 ·simp only[List.cons_append,List.nil_append];refine FD (X:=X) l.length (fun _=>True) (fun j=>(.slot 3,.one (.v (A0 ((l.length:Int) - 1 - (j:Nat)))))::(.slot 0,.one (.v (.prim (.func (.yield lp) #[] #[]))))::(.slot 1,.one (.v (BC b0)))::(.heap lp,.ob r)::(.heap b0,.row [.v (.sl (LW l))])::D9 (φ (l.length - j))) tT ?_ ?_
  ·intro j hj _ Aa;obtain⟨i,hi⟩:∃i:Nat,l.length=j+1+i:=⟨l.length - (j+1),oO⟩;have Lt:(l.length:Int) - 1 - (j:Nat)=(i:Nat):=oO;have Jt:l.length - j=i+1:=oO;have hi3:l.length - (j+1)=i:=oO;have hx:l[i]? = some l[i]:=uB oO;rw[Lt,Jt];rw[hi3]at Aa;generalize l[i]=x at hx;have Hi:=zbk hx;refine A2 ?_;refine AE ?_;refine BK ?_;first|refine AQ [] fun K hK=>?_|refine AL (by rw[hP];exact AZ) [] fun K hK=>?_
   refine QY (j2 @Bc @Hi) ?_;repeat (refine⟨oO,?_⟩)
   refine Q7 (by simp[go_sem]) hP u7 (hY i x hx) Ka (by simp[go_sem]) rfl ?_ (by rw[Bd];exact Ai) (by simp[go_sem]) (by rw[hn];exact uF rfl) [(.slot 3,.one (.v (A0 (i:Nat)))),(.slot 0,.one (.v (.prim (.func (.yield lp) #[] #[])))),(.slot 1,.one (.v (BC b0))),(.heap b0,.row [.v (.sl (LW l))])] ?_ ?_ ?_
   ·repeat (first|refine JO ?_|refine JP (by rw[Bd];assumption) ?_)
    exact JQ (by rw[Bd];exact Ai)
   ·intro m v h;simp only[List.mem_cons,List.not_mem_nil,or_false,uD]at h;rw[Bd];rcases h with⟨rfl,rfl⟩|⟨rfl,rfl⟩|⟨rfl,rfl⟩|⟨rfl,rfl⟩;· simp[go_sem]
    ·simp[go_sem]
    ·simp[go_sem]
    ·refine⟨by simp[go_sem,Bc],sS,by simp;exact fun e=>Bc e.symm,fun b hb e=>?_⟩;cases e;exact Da hb
   ·intro b Ae r' h;have:Ae.map (·.1)=(φ 0).map (·.1):=by
     split at h;· rw[h.1,Bd]
     ·exact Kx _ _ h
    rw[this];exact⟨Ai,Iv⟩
   ·intro b Ae r' h _;simp only[List.cons_append,List.nil_append];cases b with
    | true=>
     simp only[if_true]at h;obtain⟨rfl,rfl⟩:=h;simp[go_sem,hP,u7,hn];refine F1 ?_;clear hK K;refine B6 ?_;refine A2 ?_;refine BK ?_;refine iM (A':=[(.slot 3,.one (.v (A0 ((l.length:Int) - 1 - (j+1:Nat))))),(.slot 0,.one (.v (.prim (.func (.yield lp) #[] #[])))),(.slot 1,.one (.v (BC b0))),(.heap lp,.ob r'),(.heap b0,.row [.v (.sl (LW l))])]) (A:=[_,_,_,_,_,_,_,_,_]) ?_ (Aa tT) ?_
     ·intro m v h;simp only[List.mem_cons,List.not_mem_nil,or_false,uD]at h;rcases h with⟨rfl,rfl⟩|⟨rfl,rfl⟩|⟨rfl,rfl⟩|⟨rfl,rfl⟩|⟨rfl,rfl⟩ <;> simp[go_sem,Bc];omega
     ·intro m v h;simp only[List.mem_cons,List.not_mem_nil,or_false,uD]at h;rw[Bd];intro b hb;rcases h with⟨rfl,rfl⟩|⟨rfl,rfl⟩|⟨rfl,rfl⟩|⟨rfl,rfl⟩|⟨rfl,rfl⟩|⟨rfl,rfl⟩|⟨rfl,rfl⟩|⟨rfl,rfl⟩|⟨rfl,rfl⟩ <;> first|(simp;done)|(intro e;cases e;first|exact Da hb|exact Iv hb)
    | false=>
     simp only[Bool.false_eq_true,if_false]at h;have Bw:=Kx _ _ h;simp[go_sem,hP,u7,hn];refine F1 ?_;clear hK K;refine AE ?_;refine BK ?_;refine SO Ft (φ:=(b0,[.sl (LW l)])::Ae) (q:=r') (r:=.tup []) (by rw[hP,hf,u9];exact Tryz.func189) (by rw[u9];simp[go_sem]) (AO ?_ ?_) ?_ ?_ (.inr ⟨Ae,rfl,h⟩) V4;· simp[go_sem,Bc]
     ·repeat (first|refine JO ?_|refine JP (by rw[Bw];assumption) ?_)
      exact JQ (by rw[Bw];exact Ai)
     ·simp only[List.map_cons,List.nodup_cons,Bw];exact⟨Da,Ai⟩
     ·simp[go_sem,Bc]
  ·intro _;refine A2 ?_;refine B6 ?_;refine BK ?_;refine SO Ft (φ:=(b0,[.sl (LW l)])::φ 0) (q:=r) (r:=.tup []) (by rw[hP,hf,u9];exact Tryz.func189) (by rw[u9];simp[go_sem]) (AO ?_ ?_) ?_ ?_ (.inl ⟨rfl,rfl⟩) V5;· simp[go_sem,Bc]
   ·repeat (first|refine JO ?_|refine JP (by assumption) ?_)
    exact JQ Ai
   ·simp only[List.map_cons,List.nodup_cons];exact⟨Da,Ai⟩
   ·simp[go_sem,Bc]
 ·intro m v h;simp only[List.mem_cons,List.not_mem_nil,or_false,uD]at h;rw[Bd];intro b hb;rcases h with⟨rfl,rfl⟩|⟨rfl,rfl⟩|⟨rfl,rfl⟩|⟨rfl,rfl⟩|⟨rfl,rfl⟩|⟨rfl,rfl⟩|⟨rfl,rfl⟩|⟨rfl,rfl⟩ <;> first|(simp;done)|(intro e;cases e;first|exact Da hb|exact Iv hb)
def cellsOf:List Nat->List DV
 | []=>[]
 | n::l=>C8 (n::l)::cellsOf l
theorem SG:∀l,(cellsOf l).length=l.length
 | []=>rfl
 | n::l=>by simp[cellsOf,SG l]
theorem YI:∀{l:List Nat} {i:Nat},i<l.length->(cellsOf l)[i]? = some (C8 (l.drop i))
 | n::l,0,_=>rfl
 | n::l,i+1,h=>by simpa [cellsOf] using YI (l:=l) (i:=i) (by simpa using h)
theorem T6 {ev:LT}{f r:MV}:∀{l:List Nat} {v:MV} {c:Nat} (i:Nat),G7 ev f r l=some (v,c)->∃v' c',G7 ev f r (l.drop i)=some (v',c')/\c'<=c
 | l,v,c,0,h=>⟨v,c,h,Nat.le_refl _⟩
 | [],v,c,i+1,h=>⟨v,c,h,Nat.le_refl _⟩
 | x::l,v,c,i+1,h=>by
  simp only[G7]at h;split at h;· cases h
  rename_i v1 c1 Dv;split at h;· cases h
  rename_i w c2 hw;simp only[uC,uD]at h;obtain⟨rfl,rfl⟩:=h;obtain⟨v',c',h1,h2⟩:=T6 i Dv;exact⟨v',c',h1,oO⟩
theorem XE {ev:LT}{f r:MV}{x:Nat}{l:List Nat}{v:MV}{c:Nat}(h:G7 ev f r (x::l)=some (v,c)):∃v1 c1 c2,G7 ev f r l=some (v1,c1)/\EG ev f [.num x,.list l,v1]=some (v,c2)/\c=c1+c2:=by
 simp only[G7]at h;split at h;· cases h
 rename_i v1 c1 Dv;split at h;· cases h
 rename_i w c2 hw;simp only[uC,uD]at h;obtain⟨rfl,rfl⟩:=h;exact⟨v1,c1,c2,Dv,hw,rfl⟩
def YJ (ev:LT)(f r:MV)(l:List Nat)(i:Nat):MV × Nat:=(G7 ev f r (l.drop i)).getD (.unit,0)
theorem zhq {M c1 most u:Nat}(h:M+(most - u)<=1073741824)(k:u+c1<=most):M+c1+(most - (u+c1))<=1073741824:=oO
theorem zbl {most:Nat}(hm:most<=1073741824){ev:LT}(H:JX Tryz.prog gl 142 most ev)(hN:NP most ev):zC Tryz.prog gl 171 most ev:=by
 intro r f v l u c b M h hu hM Xg Dl hl0;have z0:H4 [r,f,.list l] 0=r.thing:=rfl;have z1:H4 [r,f,.list l] 1=f.thing:=rfl;have z2:H4 [r,f,.list l] 2 = .iface 199 (C8 l):=NS l;have Hc:(l.length:Int)<=1073741824:=oO;unfold NR;rw[z0,z1,z2,AJ hu];refine A8 Tryz.func171 ?_;intro X hP u7 hf u9 hn hR u6 u5;refine A4 ?_;refine BK ?_;refine AC [(1006,0)] @LW.eq_1 (CH (fun x:List DV × List Nat=>x.1++cellsOf x.2=cellsOf l/\x.1.length+x.2.length=l.length) (fun x:List DV × List Nat=>[(.slot 6,.one (.own 1006 (LW x.1))),(.tok 1006,.tk 1 x.1.length),sV 7 (C8 x.2),sV 4 GT,sV 5 (AK false),sP 2,sL 2 [.v (BC b)],sP 3,sL 3 [.v r.thing,.v f.thing,.v (.iface 199 (C8 l))],sB  b [.v (A0 (u:Int)),.v (A0 (most:Int))]]) (fun x:List DV × List Nat=>x.2.length) (([]:List DV),l) (⟨rfl,sS⟩) ?_);rintro⟨cs,q⟩ ⟨Fk,hq2⟩ ih;simp only at Fk hq2;cases q with
 | cons n q=>
  have Mm:=NT n q;have hon:=YH cs;simp only[List.length_cons]at hq2;have hle:(cs.length:Int)+1<=1073741824:=oO;have Ci:cs.length<=2147483647:=oO;have Iq:∀e:List DV,e∈LW cs->e.length=1:=by intro e he;simp only[LW,List.mem_map]at he;obtain⟨x,-,rfl⟩:=he;rfl
  have hone:LW cs++[[DV.ref [A0 (n:Int),C8 q]]]=LW (cs++[DV.ref [A0 (n:Int),C8 q]]):=by simp[LW]
  have e1:(cs++[DV.ref [A0 (n:Int),C8 q]])++cellsOf q=cellsOf l:=by rw[<- Fk,cellsOf,Mm];simp
  have e2:(cs++[DV.ref [A0 (n:Int),C8 q]]).length+q.length=l.length:=by simp;omega
  have e3:q.length<(n::q).length:=sS;rw[Mm];refine A2 ?_;refine AE ?_;refine AX (j3 @Ci @Iq @hon) ?_;refine A2 ?_;have Fu:(cs++[DV.ref [A0 (n:Int),C8 q]]).length=cs.length+1:=sS;refine K0 ?_;refine AC [(1006,24)] (j3 @hone @hon @Fu) (ih (cs++[DV.ref [A0 (n:Int),C8 q]],q) ⟨e1,e2⟩ e3)
 | nil=>
  simp only[cellsOf,List.append_nil]at Fk;subst Fk;have Mm:=T5;rw[Mm];refine A2 ?_;refine B6 ?_;refine A2 ?_;refine BK ?_;first|refine AQ [] fun K hK=>?_|refine AL (by rw[hP];exact AZ) [] fun K hK=>?_
  refine KI ?_;repeat (refine⟨oO,?_⟩)
  refine P5 hP u7 (jL (cellsOf l)) (by simp[go_sem]) rfl (by simp[go_sem]) sS (by rw[hn];exact uF rfl) ?_;rintro rr ψ ⟨b0,rfl,rfl⟩ Br;simp[go_sem]at Br ⊢;refine F1 ?_;clear hK K;refine BK ?_;refine EC 2 (by simp[go_sem];rfl) ?_;intro b2 Bt;simp[go_sem,Br]at Bt ⊢;refine EC 3 (by simp[go_sem];rfl) ?_;intro b3 Mf;simp[go_sem,Br,Bt]at Mf ⊢;refine EC 8 (by simp[go_sem];rfl) ?_;intro b8 Yd;simp[go_sem,Br,Bt,Mf]at Yd ⊢;refine EC 9 (by simp[go_sem];rfl) ?_;intro b9 hb9;simp[go_sem,Br,Bt,Mf,Yd]at hb9 ⊢;have Cn:¬b0=b:=fun e=>Br e.symm;obtain⟨q1,q2⟩:=Bt;obtain⟨q3,q4,q5⟩:=Mf;obtain⟨q6,q7,q8,q9⟩:=Yd;obtain⟨Gy,Gw,Gv,Hf,Hk⟩:=hb9;have Id:¬b9=b:=fun e=>Hk e.symm;have Hx:¬b8=b:=fun e=>q9 e.symm;have Hv:¬b3=b:=fun e=>q5 e.symm;have If:¬b2=b:=fun e=>q2 e.symm;have p1:=Ne.symm q1;have p3:=Ne.symm q3;have p4:=Ne.symm q4;have p6:=Ne.symm q6;have p7:=Ne.symm q7;have p8:=Ne.symm q8;have Hm:=Ne.symm Gy;have Ig:=Ne.symm Gw;have Hp:=Ne.symm Gv;have Hz:=Ne.symm Hf;have hS:∀i,G7 ev f r (l.drop i)=some (YJ ev f r l i)/\(YJ ev f r l i).2<=c:=by
   intro i;obtain⟨v',c',e1,e2⟩:=T6 i h;unfold YJ;rw[e1];exact⟨rfl,e2⟩
  have hS0:YJ ev f r l 0=(v,c):=by unfold YJ;rw[List.drop_zero,h];rfl
  have hSl:YJ ev f r l l.length=(r,0):=by unfold YJ;rw[List.drop_length];rfl
  generalize hSS:YJ ev f r l=S at hS hS0 hSl
  let Φ:Nat->BU:=fun i=>[(b2,[BC b]),(b3,[r.thing,f.thing,.iface 199 (C8 l)]),(b8,[if u+(S i).2<=most then (S i).1.thing else GT]),(b9,[AK (decide (u+(S i).2<=most))]),(b,CI most (u+(S i).2))]
  have Ph:(cellsOf l).length=l.length:=SG l;have Qb:Φ (cellsOf l).length=[(b2,[BC b]),(b3,[r.thing,f.thing,.iface 199 (C8 l)]),(b8,[r.thing]),(b9,[AK true]),(b,[A0 (u:Int),A0 (most:Int)])]:=by
   simp only[Φ,Ph,hSl,Nat.add_zero,if_pos hu,AJ hu,decide_eq_true hu]
  refine O9 hR.2 (f:=189) (fi:=#[]) (ca:=#[.pointer (some ⟨b0,0,none⟩)]) (by simp[go_sem]) (by simp[FR]) (φ:=(b0,[.sl (LW (cellsOf l))])::Φ (cellsOf l).length) ?_ ?_ (Y:=zj7 X.P X.gl (cellsOf l) Φ (fun ψ r'=>∃i,ψ=Φ i/\¬u+(S i).2<=most/\r'.state = .done/\r'.pending=some (.exit 2))) (R:=fun Ae r'=>(Ae=(b0,[.sl (LW (cellsOf l))])::Φ 0/\r'.state = .ready/\r'.pending=none)\/∃i,Ae=(b0,[.sl (LW (cellsOf l))])::Φ i/\¬u+(S i).2<=most/\r'.state = .done/\r'.pending=some (.exit 2)) (SL:=[(2,BC b2),(3,BC b3),(8,BC b8),(9,BC b9)]) ?_ ?_ ?_ ?_ ?_
  ·rw[Qb];refine AO ?_ (AO ?_ (AO ?_ (AO ?_ (AO ?_ (AO ?_ (by simp[BP]))))));all_goals simp[go_sem,Br,Cn,q1,q2,q3,q4,q5,q6,q7,q8,q9,Gy,Gw,Gv,Hf,Hk,Id,Hx,Hv,If,p1,p3,p4,p6,p7,p8,Hm,Ig,Hp,Hz]
  ·rw[Qb];simp[Br,Cn,q1,q2,q3,q4,q5,q6,q7,q8,q9,Gy,Gw,Gv,Hf,Hk,Id,Hx,Hv,If,p1,p3,p4,p6,p7,p8,Hm,Ig,Hp,Hz];try (refine⟨?_,?_⟩ <;> (intro e;subst e;simp_all))
  ·intro n x h;simp only[List.mem_cons,List.not_mem_nil,or_false,uD]at h;rcases h with⟨rfl,rfl⟩|⟨rfl,rfl⟩|⟨rfl,rfl⟩|⟨rfl,rfl⟩ <;> simp[go_sem]
  ·intro lp rr h1 h2 h3 h4;have:=vW (gl:=gl) (cellsOf l) (by rw[Ph];omega) b0 Φ (fun _=>rfl) (by simp only[Φ];simp[Br,Cn,q1,q2,q3,q4,q5,q6,q7,q8,q9,Gy,Gw,Gv,Hf,Hk,Id,Hx,Hv,If,p1,p3,p4,p6,p7,p8,Hm,Ig,Hp,Hz];try (intro e;subst e;simp_all)) (by simp only[Φ];simp[Br,Cn,q1,q2,q3,q4,q5,q6,q7,q8,q9,Gy,Gw,Gv,Hf,Hk,Id,Hx,Hv,If,p1,p3,p4,p6,p7,p8,Hm,Ig,Hp,Hz]) (Stop:=fun ψ r'=>∃i,ψ=Φ i/\¬u+(S i).2<=most/\r'.state = .done/\r'.pending=some (.exit 2)) (by rintro ψ r' ⟨i,rfl,-⟩;rfl) lp rr (by rw[h3];rfl);rw[hP,u7];refine⟨this.1,fun D w vs a1 a2 a3 a4 a5 a6=>(this.2 D w vs a1 a2 a3 a4 a5 a6).mono ?_⟩;rintro e w' ⟨v1,D',Ae,r',rfl,Uw,rest⟩;refine⟨v1,D',Ae,r',rfl,?_,rest⟩;rcases Uw with⟨rfl,rfl⟩|⟨ψ,hψ,i,rfl,k1,k2,k3⟩;· exact .inl ⟨rfl,h1,h2⟩
   ·exact .inr ⟨i,hψ,k1,k2,k3⟩
  ·intro lp rr D0 w0 h1 h2 h3 h4 h5 h6 h7 h8 h9 i x hx;rw[hP,u7];have Bz:i<l.length:=by have:=(uA hx).1;rw[Ph]at this;exact this
   rw[YI Bz,uC]at hx;subst hx;refine VG X.n h5 h9 h1 (by rw[h3];rfl) (by rw[h3,hn];decide) (by rw[h3];decide) (by rw[h3];simp) ?_;intro X' Uq Mh hf' Lx En Bw Ha Ox;rw[h3,h6,h7];rw[hn]at Lx;clear hP u7 hn;have hP:=Uq;have u7:=Mh;have hn:=Lx;have Gf:¬lp=b2/\¬lp=b3/\¬lp=b8/\¬lp=b9/\¬lp=b:=by simpa [Φ] using Ha
   obtain⟨x2,x3,x8,x9,xb⟩:=Gf;have i2:=Ne.symm x2;have i3:=Ne.symm x3;have i8:=Ne.symm x8;have i9:=Ne.symm x9;have ib:=Ne.symm xb;obtain⟨n,Yt⟩:∃n,l.drop i=n::l.drop (i+1):=⟨l[i],List.drop_eq_getElem_cons Bz⟩;have Mm:=NT n (l.drop (i+1));have hfS:=(hS i).1;rw[Yt]at hfS ⊢;obtain⟨v1,c1,c2,g1,g2,g3⟩:=XE hfS;have hS1:=(hS (i+1)).1;rw[g1,uC]at hS1;rw[Mm];by_cases Cy:u+c1<=most
   ·have Ro:Φ (i+1)=[(b2,[BC b]),(b3,[r.thing,f.thing,.iface 199 (C8 l)]),(b8,[v1.thing]),(b9,[AK true]),(b,[A0 ((u+c1:Nat):Int),A0 (most:Int)])]:=by
     simp only[Φ,<- hS1,if_pos Cy,AJ Cy,decide_eq_true Cy]
    have Vy:∀n'∈l.drop (i+1),n'<=M:=fun n' Lx=>hl0.2 n' (List.mem_of_mem_drop Lx);have Of:(l.drop (i+1)).length<=M:=by have:=hl0.1;rw[List.length_drop];omega
    have hnM:n<=M:=hl0.2 n (List.mem_of_mem_drop (by rw[Yt];exact List.mem_cons_self));have Dv:=cN hN g1 Dl Xg ⟨Of,Vy⟩;have w1:f.nle (M+c1):=MV.nle_mono (Nat.le_add_right M c1) f Dl;have w2:M+c1+(most - (u+c1))<=1073741824:=zhq hM Cy;have w3:MV.nles (M+c1) [.num n,.list (l.drop (i+1)),v1]:=by
     simp only[MV.nles,MV.nle];exact⟨oO,⟨oO,fun n' Lx=>Nat.le_trans (Vy n' Lx) (Nat.le_add_right M c1)⟩,Dv,trivial⟩
    have W1:=W7 hm H hN b (M+c1) g2 Cy w2 w1 w3;rw[AJ Cy]at W1;simp only[List.map,LA,NS]at W1;rw[Ro];simp only[OK,h3,VF,Q6,D9,List.cons_append,List.nil_append];have J0:=j8 @Br @Cn @q1 @q2 @q3 @q4 @q5 (j8 @q6 @q7 @q8 @q9 @Gy @Gw @Gv (j8 @Hf @Hk @Id @Hx @Hv @If @p1 (j8 @p3 @p4 @p6 @p7 @p8 @Hm @Ig (j8 @Hp @Hz @x2 @x3 @x8 @x9 @xb (j5 @i2 @i3 @i8 @i9 @ib)))));refine AX J0 ?_;refine VE (r:=rr) (l:=lp) (by simp[Ctx.rd,En]) (by simp[go_sem]) h1 ?_;simp[go_sem,Br,Cn,q1,q2,q3,q4,q5,q6,q7,q8,q9,Gy,Gw,Gv,Hf,Hk,Id,Hx,Hv,If,p1,p3,p4,p6,p7,p8,Hm,Ig,Hp,Hz,x2,x3,x8,x9,xb,i2,i3,i8,i9,ib];refine AX J0 ?_;refine B6 ?_;by_cases Ky:u+c1+c2<=most
    ·have o1:FV most (u+c1+c2) (S i).1.thing = .tup [(S i).1.thing,AK true]:=ER Ky _;have Jg:Φ i=[(b2,[BC b]),(b3,[r.thing,f.thing,.iface 199 (C8 l)]),(b8,[(S i).1.thing]),(b9,[AK true]),(b,[A0 ((u+c1+c2:Nat):Int),A0 (most:Int)])]:=by
      have e9:u+(S i).2=u+c1+c2:=oO;simp only[Φ,e9,if_pos Ky,AJ Ky,decide_eq_true Ky]
     rw[o1,AJ Ky]at W1;refine BK ?_;first|refine AQ [] fun K hK=>?_|refine AL (by rw[hP];exact AZ) [] fun K hK=>?_
     refine QY J0 ?_;refine DT J0 (W1) ?_;refine F1 ?_;clear hK K;refine BK ?_;refine PY En (φ:=Φ i) ?_ (by simp only[Φ];simp[Br,Cn,q1,q2,q3,q4,q5,q6,q7,q8,q9,Gy,Gw,Gv,Hf,Hk,Id,Hx,Hv,If,p1,p3,p4,p6,p7,p8,Hm,Ig,Hp,Hz]) (by simp[go_sem,Br,Cn,q1,q2,q3,q4,q5,q6,q7,q8,q9,Gy,Gw,Gv,Hf,Hk,Id,Hx,Hv,If,p1,p3,p4,p6,p7,p8,Hm,Ig,Hp,Hz,x2,x3,x8,x9,xb,i2,i3,i8,i9,ib]) none rfl ?_
     ·rw[Jg];refine AO ?_ (AO ?_ (AO ?_ (AO ?_ (AO ?_ (by simp[BP])))));all_goals simp[go_sem,Br,Cn,q1,q2,q3,q4,q5,q6,q7,q8,q9,Gy,Gw,Gv,Hf,Hk,Id,Hx,Hv,If,p1,p3,p4,p6,p7,p8,Hm,Ig,Hp,Hz,x2,x3,x8,x9,xb,i2,i3,i8,i9,ib]
     ·simp only[Option.isNone_none,if_true,true_and];cases rr;simp only[NG]at h1 h2 ⊢;subst h1 h2;rfl
    ·have o1:FV most (u+c1+c2) (S i).1.thing = .tup [GT,AK false]:=JC Ky _;have Jg:Φ i=[(b2,[BC b]),(b3,[r.thing,f.thing,.iface 199 (C8 l)]),(b8,[GT]),(b9,[AK false]),(b,[A0 (most:Int),A0 (most:Int)])]:=by
      have e9:u+(S i).2=u+c1+c2:=oO;simp only[Φ,e9,if_neg Ky,FQ Ky,decide_eq_false Ky]
     rw[o1,FQ Ky]at W1;refine BK ?_;first|refine AQ [] fun K hK=>?_|refine AL (by rw[hP];exact AZ) [] fun K hK=>?_
     refine QY J0 ?_;refine DT J0 (W1) ?_;refine F1 ?_;clear hK K;refine BK ?_;refine PY En (φ:=Φ i) ?_ (by simp only[Φ];simp[Br,Cn,q1,q2,q3,q4,q5,q6,q7,q8,q9,Gy,Gw,Gv,Hf,Hk,Id,Hx,Hv,If,p1,p3,p4,p6,p7,p8,Hm,Ig,Hp,Hz]) (by simp[go_sem,Br,Cn,q1,q2,q3,q4,q5,q6,q7,q8,q9,Gy,Gw,Gv,Hf,Hk,Id,Hx,Hv,If,p1,p3,p4,p6,p7,p8,Hm,Ig,Hp,Hz,x2,x3,x8,x9,xb,i2,i3,i8,i9,ib]) none rfl ?_
     ·rw[Jg];refine AO ?_ (AO ?_ (AO ?_ (AO ?_ (AO ?_ (by simp[BP])))));all_goals simp[go_sem,Br,Cn,q1,q2,q3,q4,q5,q6,q7,q8,q9,Gy,Gw,Gv,Hf,Hk,Id,Hx,Hv,If,p1,p3,p4,p6,p7,p8,Hm,Ig,Hp,Hz,x2,x3,x8,x9,xb,i2,i3,i8,i9,ib]
     ·simp only[Option.isNone_none,if_true,true_and];cases rr;simp only[NG]at h1 h2 ⊢;subst h1 h2;rfl
   ·have Ro:Φ (i+1)=[(b2,[BC b]),(b3,[r.thing,f.thing,.iface 199 (C8 l)]),(b8,[GT]),(b9,[AK false]),(b,[A0 (most:Int),A0 (most:Int)])]:=by
     simp only[Φ,<- hS1,if_neg Cy,FQ Cy,decide_eq_false Cy]
    rw[Ro];simp only[OK,h3,VF,Q6,D9,List.cons_append,List.nil_append];have J1:=j8 @Br @Cn @q1 @q2 @q3 @q4 @q5 (j8 @q6 @q7 @q8 @q9 @Gy @Gw @Gv (j8 @Hf @Hk @Id @Hx @Hv @If @p1 (j8 @p3 @p4 @p6 @p7 @p8 @Hm @Ig (j8 @Hp @Hz @x2 @x3 @x8 @x9 @xb (j5 @i2 @i3 @i8 @i9 @ib)))));refine AX J1 ?_;refine VE (r:=rr) (l:=lp) (by simp[Ctx.rd,En]) (by simp[go_sem]) h1 ?_;simp[go_sem,Br,Cn,q1,q2,q3,q4,q5,q6,q7,q8,q9,Gy,Gw,Gv,Hf,Hk,Id,Hx,Hv,If,p1,p3,p4,p6,p7,p8,Hm,Ig,Hp,Hz,x2,x3,x8,x9,xb,i2,i3,i8,i9,ib];refine AX J1 ?_;refine AE ?_;refine PY En (φ:=Φ (i+1)) ?_ (by simp only[Φ];simp[Br,Cn,q1,q2,q3,q4,q5,q6,q7,q8,q9,Gy,Gw,Gv,Hf,Hk,Id,Hx,Hv,If,p1,p3,p4,p6,p7,p8,Hm,Ig,Hp,Hz]) (by simp[go_sem,Br,Cn,q1,q2,q3,q4,q5,q6,q7,q8,q9,Gy,Gw,Gv,Hf,Hk,Id,Hx,Hv,If,p1,p3,p4,p6,p7,p8,Hm,Ig,Hp,Hz,x2,x3,x8,x9,xb,i2,i3,i8,i9,ib]) (some (.exit 2)) ⟨_,rfl,rfl⟩ ?_
    ·rw[Ro];refine AO ?_ (AO ?_ (AO ?_ (AO ?_ (AO ?_ (by simp[BP])))));all_goals simp[go_sem,Br,Cn,q1,q2,q3,q4,q5,q6,q7,q8,q9,Gy,Gw,Gv,Hf,Hk,Id,Hx,Hv,If,p1,p3,p4,p6,p7,p8,Hm,Ig,Hp,Hz,x2,x3,x8,x9,xb,i2,i3,i8,i9,ib]
    ·rw[if_neg sS];exact⟨i+1,rfl,by rw[<- hS1];exact Cy,rfl,rfl⟩
  ·rintro Ae r' (⟨-,h,-⟩|⟨_,-,-,h,-⟩) <;> (rw[h];simp)
  ·rintro Ae r' (⟨rfl,-,h⟩|⟨i,rfl,hi,-,h⟩) -
   ·rw[h];by_cases Jy:u+c<=most
    ·rw[ER Jy,AJ Jy]at hR;have Jg:Φ 0=[(b2,[BC b]),(b3,[r.thing,f.thing,.iface 199 (C8 l)]),(b8,[v.thing]),(b9,[AK true]),(b,[A0 ((u+c:Nat):Int),A0 (most:Int)])]:=by
      simp only[Φ,hS0,if_pos Jy,AJ Jy,decide_eq_true Jy]
     rw[Jg,Qb];simp[go_sem,Br,Cn,q1,q2,q3,q4,q5,q6,q7,q8,q9,Gy,Gw,Gv,Hf,Hk,Id,Hx,Hv,If,p1,p3,p4,p6,p7,p8,Hm,Ig,Hp,Hz];have J2:=j8 @Br @Cn @q1 @q2 @q3 @q4 @q5 (j8 @q6 @q7 @q8 @q9 @Gy @Gw @Gv (j8 @Hf @Hk @Id @Hx @Hv @If @p1 (j8 @p3 @p4 @p6 @p7 @p8 @Hm @Ig (j2 @Hp @Hz))));refine AX J2 ?_;exact AI [(b,[A0 ((u+c:Nat):Int),A0 (most:Int)])] J2
    ·rw[JC Jy,FQ Jy]at hR;have Jg:Φ 0=[(b2,[BC b]),(b3,[r.thing,f.thing,.iface 199 (C8 l)]),(b8,[GT]),(b9,[AK false]),(b,[A0 (most:Int),A0 (most:Int)])]:=by
      simp only[Φ,hS0,if_neg Jy,FQ Jy,decide_eq_false Jy]
     rw[Jg,Qb];simp[go_sem,Br,Cn,q1,q2,q3,q4,q5,q6,q7,q8,q9,Gy,Gw,Gv,Hf,Hk,Id,Hx,Hv,If,p1,p3,p4,p6,p7,p8,Hm,Ig,Hp,Hz];have J3:=j8 @Br @Cn @q1 @q2 @q3 @q4 @q5 (j8 @q6 @q7 @q8 @q9 @Gy @Gw @Gv (j8 @Hf @Hk @Id @Hx @Hv @If @p1 (j8 @p3 @p4 @p6 @p7 @p8 @Hm @Ig (j2 @Hp @Hz))));refine AX J3 ?_;exact AI [(b,[A0 (most:Int),A0 (most:Int)])] J3
   ·rw[h];have Jy:¬u+c<=most:=by have:=(hS i).2;omega
    rw[JC Jy,FQ Jy]at hR;have Jg:Φ i=[(b2,[BC b]),(b3,[r.thing,f.thing,.iface 199 (C8 l)]),(b8,[GT]),(b9,[AK false]),(b,[A0 (most:Int),A0 (most:Int)])]:=by
     simp only[Φ,if_neg hi,FQ hi,decide_eq_false hi]
    rw[Jg,Qb];simp[go_sem,Br,Cn,q1,q2,q3,q4,q5,q6,q7,q8,q9,Gy,Gw,Gv,Hf,Hk,Id,Hx,Hv,If,p1,p3,p4,p6,p7,p8,Hm,Ig,Hp,Hz];have J4:=j8 @Br @Cn @q1 @q2 @q3 @q4 @q5 (j8 @q6 @q7 @q8 @q9 @Gy @Gw @Gv (j8 @Hf @Hk @Id @Hx @Hv @If @p1 (j8 @p3 @p4 @p6 @p7 @p8 @Hm @Ig (j2 @Hp @Hz))));refine AX J4 ?_;exact AI [(b,[A0 (most:Int),A0 (most:Int)])] J4
theorem zhr {most:Nat}(hm:most<=1073741824)(t:Tm){e:List MV}{u:Nat}(b:Nat)(hu:u<=most)(Ar:¬u+1<=most) :
  cT gl 142 [BC b,t.dv,MV.envM e] [(b,CI most u)] (.tup [GT,AK false]) [(b,[A0 (most:Int),A0 (most:Int)])]:=by
 rw[AJ hu];have Ca:(most:Int)<=(u:Int):=oO;have Qy:(u:Int)=(most:Int):=oO;refine A8 Tryz.func142 ?_;intro X hP u7 hf u9 hn hR u6 u5;refine A7 @Ca ?_;exact AI [(b,[A0 (most:Int),A0 (most:Int)])] @Qy
theorem z4g {most:Nat}(hm:most<=1073741824){ev:LT}(H:JX Tryz.prog gl 142 most ev)(hN:NP most ev)(t:Tm){e:List MV}{u:Nat}(b M:Nat)(hu:u<=most)(hM:M+(most - u)<=1073741824)(he:MV.nles M e)
  (h3:t.args.length<=3) (Dx:¬t.kind=1) (Ay:¬t.kind=2) {vs:List MV} {c1:Nat} (Ah:G6 ev t.args e=some (vs,c1)) (Ar:u+1<=most) (As:¬u+1+c1<=most) :
  cT gl 142 [BC b,t.dv,MV.envM e] [(b,CI most u)] (.tup [GT,AK false]) [(b,[A0 (most:Int),A0 (most:Int)])]:=by
 rw[AJ hu];have Ca:¬(most:Int)<=(u:Int):=oO;have A1:=JB hm H hN b (M+1) Ah h3 Ar oO (MV.nles_mono oO _ he);have o6:decide (u+1+c1<=most)=false:=decide_eq_false As;unfold SF NR at A1;rw[AJ Ar,FQ As,o6]at A1;generalize QN ev most e (u+1) t.args=pp at A1;refine A8 Tryz.func142 ?_;intro X hP u7 hf u9 hn hR u6 u5;refine A7 (j3 @Ca @Dx @Ay) ?_;refine A3 tT A1 ?_;refine A4 ?_;exact AI [(b,[A0 (most:Int),A0 (most:Int)])] tT
theorem zbm {most:Nat}(hm:most<=1073741824){ev:LT}(H:JX Tryz.prog gl 142 most ev)(hN:NP most ev)(t:Tm){e:List MV}{u:Nat}(b M:Nat)(hu:u<=most)(hM:M+(most - u)<=1073741824)(he:MV.nles M e)
  (h3:t.args.length<=3) (hk:t.kind=3) {f x:MV} {v:MV} {c2:Nat} {c1:Nat} (Ah:G6 ev t.args e=some ([f,x],c1)) (Ar:u+1<=most) (As:u+1+c1<=most) (Af:EG ev f [x]=some (v,c2)) :
  cT gl 142 [BC b,t.dv,MV.envM e] [(b,CI most u)] (FV most (u+1+c1+c2) v.thing) [(b,CI most (u+1+c1+c2))]:=by
 rw[AJ hu];have Ca:¬(most:Int)<=(u:Int):=oO;have A1:=JB hm H hN b (M+1) Ah h3 Ar oO (MV.nles_mono oO _ he);have B1:=HK hN Ah he;have o6:decide (u+1+c1<=most)=true:=decide_eq_true As;unfold SF NR at A1;rw[AJ Ar,AJ As,o6,H5 Ah As]at A1;have z0:H4 [f,x] 0=f.thing:=by first|rfl|(simp only[H4];rw[MV.thing];done)|exact rfl
 have z1:H4 [f,x] 1=x.thing:=by first|rfl|(simp only[H4];rw[MV.thing];done)|exact rfl
 have z2:H4 [f,x] 2=GT:=by first|rfl|(simp only[H4];rw[MV.thing];done)|exact rfl
 rw[z0,z1,z2]at A1;simp only[MV.nles]at B1;have W1:=W7 hm H hN b (M+c1) Af As oO B1.1 (by simp only[MV.nles];exact⟨B1.2.1,trivial⟩);rw[AJ As]at W1;simp only[List.map]at W1;by_cases Fv:u+1+c1+c2<=most
 ·rw[AJ Fv,ER Fv]at W1 ⊢;refine A8 Tryz.func142 ?_;intro X hP u7 hf u9 hn hR u6 u5;refine A7 (j2 @Ca @hk) ?_;refine A3 tT A1 ?_;refine A7 @hk ?_;refine A3 tT W1 ?_;exact AI [(b,[A0 ((u+1+c1+c2:Nat):Int),A0 (most:Int)])] tT
 ·rw[FQ Fv,JC Fv]at W1 ⊢;refine A8 Tryz.func142 ?_;intro X hP u7 hf u9 hn hR u6 u5;refine A7 (j2 @Ca @hk) ?_;refine A3 tT A1 ?_;refine A7 @hk ?_;refine A3 tT W1 ?_;exact AI [(b,[A0 (most:Int),A0 (most:Int)])] tT
theorem zbn {most:Nat}(hm:most<=1073741824){ev:LT}(H:JX Tryz.prog gl 142 most ev)(hN:NP most ev)(t:Tm){e:List MV}{u:Nat}(b M:Nat)(hu:u<=most)(hM:M+(most - u)<=1073741824)(he:MV.nles M e)
  (h3:t.args.length<=3) (hk:t.kind=4) {vs:List MV} {c1:Nat} (Ah:G6 ev t.args e=some (vs,c1)) (Ar:u+1<=most) (As:u+1+c1<=most) :
  cT gl 142 [BC b,t.dv,MV.envM e] [(b,CI most u)] (.tup [(.iface 3 (A0 (0:Int))),AK true]) [(b,[A0 ((u+1+c1:Nat):Int),A0 (most:Int)])]:=by
 rw[AJ hu];have Ca:¬(most:Int)<=(u:Int):=oO;have A1:=JB hm H hN b (M+1) Ah h3 Ar oO (MV.nles_mono oO _ he);have B1:=HK hN Ah he;have o6:decide (u+1+c1<=most)=true:=decide_eq_true As;unfold SF NR at A1;rw[AJ Ar,AJ As,o6,H5 Ah As]at A1;refine A8 Tryz.func142 ?_;intro X hP u7 hf u9 hn hR u6 u5;refine A7 (j2 @Ca @hk) ?_;refine A3 tT A1 ?_;refine A7 @hk ?_;exact AI [(b,[A0 ((u+1+c1:Nat):Int),A0 (most:Int)])] tT
theorem zbo {most:Nat}(hm:most<=1073741824){ev:LT}(H:JX Tryz.prog gl 142 most ev)(hN:NP most ev)(t:Tm){e:List MV}{u:Nat}(b M:Nat)(hu:u<=most)(hM:M+(most - u)<=1073741824)(he:MV.nles M e)
  (h3:t.args.length<=3) (hk:t.kind=5) {n:Nat} {c1:Nat} (Ah:G6 ev t.args e=some ([.num n],c1)) (Ar:u+1<=most) (As:u+1+c1<=most) :
  cT gl 142 [BC b,t.dv,MV.envM e] [(b,CI most u)] (.tup [(.iface 3 (A0 (((n+1:Nat)):Int))),AK true]) [(b,[A0 ((u+1+c1:Nat):Int),A0 (most:Int)])]:=by
 rw[AJ hu];have Ca:¬(most:Int)<=(u:Int):=oO;have A1:=JB hm H hN b (M+1) Ah h3 Ar oO (MV.nles_mono oO _ he);have B1:=HK hN Ah he;have o6:decide (u+1+c1<=most)=true:=decide_eq_true As;unfold SF NR at A1;rw[AJ Ar,AJ As,o6,H5 Ah As]at A1;have z0:H4 [.num n] 0=(.iface 3 (A0 (n:Int))):=by first|rfl|(simp only[H4];rw[MV.thing];done)|exact LA _
 have z1:H4 [.num n] 1=GT:=by first|rfl|(simp only[H4];rw[MV.thing];done)|exact rfl
 have z2:H4 [.num n] 2=GT:=by first|rfl|(simp only[H4];rw[MV.thing];done)|exact rfl
 rw[z0,z1,z2]at A1;refine A8 Tryz.func142 ?_;intro X hP u7 hf u9 hn hR u6 u5;refine A7 (j2 @Ca @hk) ?_;refine A3 tT A1 ?_;simp only[MV.nles,MV.nle]at B1;have Fo:(n:Int)<=1073741824:=oO;have Qc:((n+1:Nat):Int)=(n:Int)+1:=oO;refine A7 (j2 @hk @Fo) ?_;exact AI [(b,[A0 ((u+1+c1:Nat):Int),A0 (most:Int)])] @Qc
theorem zbp {most:Nat}(hm:most<=1073741824){ev:LT}(H:JX Tryz.prog gl 142 most ev)(hN:NP most ev)(t:Tm){e:List MV}{u:Nat}(b M:Nat)(hu:u<=most)(hM:M+(most - u)<=1073741824)(he:MV.nles M e)
  (h3:t.args.length<=3) (hk:t.kind=6) {r f:MV} {n:Nat} {v:MV} {c2:Nat} {c1:Nat} (Ah:G6 ev t.args e=some ([r,f,.num n],c1)) (Ar:u+1<=most) (As:u+1+c1<=most) (Af:QF ev f n 0 r=some (v,c2)) :
  cT gl 142 [BC b,t.dv,MV.envM e] [(b,CI most u)] (FV most (u+1+c1+c2) v.thing) [(b,CI most (u+1+c1+c2))]:=by
 rw[AJ hu];have Ca:¬(most:Int)<=(u:Int):=oO;have A1:=JB hm H hN b (M+1) Ah h3 Ar oO (MV.nles_mono oO _ he);have B1:=HK hN Ah he;have o6:decide (u+1+c1<=most)=true:=decide_eq_true As;unfold SF NR at A1;rw[AJ Ar,AJ As,o6,H5 Ah As]at A1;simp only[MV.nles,MV.nle]at B1;have W1:=zhm hm H hN (fun h=>NQ hN h) b (M+c1) Af As oO B1.1 B1.2.1 B1.2.2.1;unfold NR at W1;rw[AJ As]at W1;by_cases Fv:u+1+c1+c2<=most
 ·rw[AJ Fv,ER Fv]at W1 ⊢;refine A8 Tryz.func142 ?_;intro X hP u7 hf u9 hn hR u6 u5;refine A7 (j2 @Ca @hk) ?_;refine A3 tT A1 ?_;refine A7 @hk ?_;refine A3 tT W1 ?_;exact AI [(b,[A0 ((u+1+c1+c2:Nat):Int),A0 (most:Int)])] tT
 ·rw[FQ Fv,JC Fv]at W1 ⊢;refine A8 Tryz.func142 ?_;intro X hP u7 hf u9 hn hR u6 u5;refine A7 (j2 @Ca @hk) ?_;refine A3 tT A1 ?_;refine A7 @hk ?_;refine A3 tT W1 ?_;exact AI [(b,[A0 (most:Int),A0 (most:Int)])] tT
theorem zbq {most:Nat}(hm:most<=1073741824){ev:LT}(H:JX Tryz.prog gl 142 most ev)(hN:NP most ev)(t:Tm){e:List MV}{u:Nat}(b M:Nat)(hu:u<=most)(hM:M+(most - u)<=1073741824)(he:MV.nles M e)
  (h3:t.args.length<=3) (hk:t.kind=7) {vs:List MV} {c1:Nat} (Ah:G6 ev t.args e=some (vs,c1)) (Ar:u+1<=most) (As:u+1+c1<=most) :
  cT gl 142 [BC b,t.dv,MV.envM e] [(b,CI most u)] (.tup [(.iface 199 (C8 [])),AK true]) [(b,[A0 ((u+1+c1:Nat):Int),A0 (most:Int)])]:=by
 rw[AJ hu];have Ca:¬(most:Int)<=(u:Int):=oO;have A1:=JB hm H hN b (M+1) Ah h3 Ar oO (MV.nles_mono oO _ he);have B1:=HK hN Ah he;have o6:decide (u+1+c1<=most)=true:=decide_eq_true As;unfold SF NR at A1;rw[AJ Ar,AJ As,o6,H5 Ah As]at A1;refine A8 Tryz.func142 ?_;intro X hP u7 hf u9 hn hR u6 u5;refine A7 (j2 @Ca @hk) ?_;refine A3 tT A1 ?_;have hnil:=T5;refine A7 @hk ?_;exact AI [(b,[A0 ((u+1+c1:Nat):Int),A0 (most:Int)])] @T5
theorem zbr {most:Nat}(hm:most<=1073741824){ev:LT}(H:JX Tryz.prog gl 142 most ev)(hN:NP most ev)(Ho:zC Tryz.prog gl 171 most ev)(t:Tm){e:List MV}{u:Nat}(b M:Nat)(hu:u<=most)(hM:M+(most - u)<=1073741824)(he:MV.nles M e)
  (h3:t.args.length<=3) (hk:t.kind=9) {r f:MV} {l:List Nat} {v:MV} {c2:Nat} {c1:Nat} (Ah:G6 ev t.args e=some ([r,f,.list l],c1)) (Ar:u+1<=most) (As:u+1+c1<=most) (Af:G7 ev f r l=some (v,c2)) :
  cT gl 142 [BC b,t.dv,MV.envM e] [(b,CI most u)] (FV most (u+1+c1+c2) v.thing) [(b,CI most (u+1+c1+c2))]:=by
 rw[AJ hu];have Ca:¬(most:Int)<=(u:Int):=oO;have A1:=JB hm H hN b (M+1) Ah h3 Ar oO (MV.nles_mono oO _ he);have B1:=HK hN Ah he;have o6:decide (u+1+c1<=most)=true:=decide_eq_true As;unfold SF NR at A1;rw[AJ Ar,AJ As,o6,H5 Ah As]at A1;simp only[MV.nles,MV.nle]at B1;have W1:=Ho b (M+c1) Af As oO B1.1 B1.2.1 B1.2.2.1;unfold NR at W1;rw[AJ As]at W1;by_cases Fv:u+1+c1+c2<=most
 ·rw[AJ Fv,ER Fv]at W1 ⊢;refine A8 Tryz.func142 ?_;intro X hP u7 hf u9 hn hR u6 u5;refine A7 (j2 @Ca @hk) ?_;refine A3 tT A1 ?_;refine A7 @hk ?_;refine A3 tT W1 ?_;exact AI [(b,[A0 ((u+1+c1+c2:Nat):Int),A0 (most:Int)])] tT
 ·rw[FQ Fv,JC Fv]at W1 ⊢;refine A8 Tryz.func142 ?_;intro X hP u7 hf u9 hn hR u6 u5;refine A7 (j2 @Ca @hk) ?_;refine A3 tT A1 ?_;refine A7 @hk ?_;refine A3 tT W1 ?_;exact AI [(b,[A0 (most:Int),A0 (most:Int)])] tT
theorem z4h {most:Nat}(hm:most<=1073741824){ev:LT}(H:JX Tryz.prog gl 142 most ev)(hN:NP most ev)(t:Tm){e:List MV}{u:Nat}(b M:Nat)(hu:u<=most)(hM:M+(most - u)<=1073741824)(he:MV.nles M e)
  (h3:t.args.length<=3) (hk:t.kind=11) {x y:MV} {c1:Nat} (Ah:G6 ev t.args e=some ([.both x y],c1)) (Ar:u+1<=most) (As:u+1+c1<=most) :
  cT gl 142 [BC b,t.dv,MV.envM e] [(b,CI most u)] (.tup [x.thing,AK true]) [(b,[A0 ((u+1+c1:Nat):Int),A0 (most:Int)])]:=by
 rw[AJ hu];have Ca:¬(most:Int)<=(u:Int):=oO;have A1:=JB hm H hN b (M+1) Ah h3 Ar oO (MV.nles_mono oO _ he);have B1:=HK hN Ah he;have o6:decide (u+1+c1<=most)=true:=decide_eq_true As;unfold SF NR at A1;rw[AJ Ar,AJ As,o6,H5 Ah As]at A1;have z0:H4 [.both x y] 0=(.iface 205 (.ref [x.thing,y.thing])):=by first|rfl|(simp only[H4];rw[MV.thing];done)|exact UO _ _
 have z1:H4 [.both x y] 1=GT:=by first|rfl|(simp only[H4];rw[MV.thing];done)|exact rfl
 have z2:H4 [.both x y] 2=GT:=by first|rfl|(simp only[H4];rw[MV.thing];done)|exact rfl
 rw[z0,z1,z2]at A1;refine A8 Tryz.func142 ?_;intro X hP u7 hf u9 hn hR u6 u5;refine A7 (j2 @Ca @hk) ?_;refine A3 tT A1 ?_;refine A7 @hk ?_;exact AI [(b,[A0 ((u+1+c1:Nat):Int),A0 (most:Int)])] tT
theorem z4i {most:Nat}(hm:most<=1073741824){ev:LT}(H:JX Tryz.prog gl 142 most ev)(hN:NP most ev)(t:Tm){e:List MV}{u:Nat}(b M:Nat)(hu:u<=most)(hM:M+(most - u)<=1073741824)(he:MV.nles M e)
  (h3:t.args.length<=3) (hk:t.kind=12) {x y:MV} {c1:Nat} (Ah:G6 ev t.args e=some ([.both x y],c1)) (Ar:u+1<=most) (As:u+1+c1<=most) :
  cT gl 142 [BC b,t.dv,MV.envM e] [(b,CI most u)] (.tup [y.thing,AK true]) [(b,[A0 ((u+1+c1:Nat):Int),A0 (most:Int)])]:=by
 rw[AJ hu];have Ca:¬(most:Int)<=(u:Int):=oO;have A1:=JB hm H hN b (M+1) Ah h3 Ar oO (MV.nles_mono oO _ he);have B1:=HK hN Ah he;have o6:decide (u+1+c1<=most)=true:=decide_eq_true As;unfold SF NR at A1;rw[AJ Ar,AJ As,o6,H5 Ah As]at A1;have z0:H4 [.both x y] 0=(.iface 205 (.ref [x.thing,y.thing])):=by first|rfl|(simp only[H4];rw[MV.thing];done)|exact UO _ _
 have z1:H4 [.both x y] 1=GT:=by first|rfl|(simp only[H4];rw[MV.thing];done)|exact rfl
 have z2:H4 [.both x y] 2=GT:=by first|rfl|(simp only[H4];rw[MV.thing];done)|exact rfl
 rw[z0,z1,z2]at A1;refine A8 Tryz.func142 ?_;intro X hP u7 hf u9 hn hR u6 u5;refine A7 (j2 @Ca @hk) ?_;refine A3 tT A1 ?_;refine A7 @hk ?_;exact AI [(b,[A0 ((u+1+c1:Nat):Int),A0 (most:Int)])] tT
theorem z4j {most:Nat}(hm:most<=1073741824){ev:LT}(H:JX Tryz.prog gl 142 most ev)(hN:NP most ev)(t:Tm){e:List MV}{u:Nat}(b M:Nat)(hu:u<=most)(hM:M+(most - u)<=1073741824)(he:MV.nles M e)
  (h3:t.args.length<=3) (hk:t.kind=13) {vs:List MV} {c1:Nat} (Ah:G6 ev t.args e=some (vs,c1)) (Ar:u+1<=most) (As:u+1+c1<=most) :
  cT gl 142 [BC b,t.dv,MV.envM e] [(b,CI most u)] (.tup [(.iface 209 (.agg [])),AK true]) [(b,[A0 ((u+1+c1:Nat):Int),A0 (most:Int)])]:=by
 rw[AJ hu];have Ca:¬(most:Int)<=(u:Int):=oO;have A1:=JB hm H hN b (M+1) Ah h3 Ar oO (MV.nles_mono oO _ he);have B1:=HK hN Ah he;have o6:decide (u+1+c1<=most)=true:=decide_eq_true As;unfold SF NR at A1;rw[AJ Ar,AJ As,o6,H5 Ah As]at A1;refine A8 Tryz.func142 ?_;intro X hP u7 hf u9 hn hR u6 u5;refine A7 (j2 @Ca @hk) ?_;refine A3 tT A1 ?_;refine A7 @hk ?_;exact AI [(b,[A0 ((u+1+c1:Nat):Int),A0 (most:Int)])] tT
theorem z4k {most:Nat}(hm:most<=1073741824){ev:LT}(H:JX Tryz.prog gl 142 most ev)(hN:NP most ev)(t:Tm){e:List MV}{u:Nat}(b M:Nat)(hu:u<=most)(hM:M+(most - u)<=1073741824)(he:MV.nles M e)
  (h3:t.args.length<=3) (hk:t.kind=10) {x y:MV} {c1:Nat} (Ah:G6 ev t.args e=some ([x,y],c1)) (Ar:u+1<=most) (As:u+1+c1<=most) :
  cT gl 142 [BC b,t.dv,MV.envM e] [(b,CI most u)] (.tup [(.iface 205 (.ref [x.thing,y.thing])),AK true]) [(b,[A0 ((u+1+c1:Nat):Int),A0 (most:Int)])]:=by
 rw[AJ hu];have Ca:¬(most:Int)<=(u:Int):=oO;have A1:=JB hm H hN b (M+1) Ah h3 Ar oO (MV.nles_mono oO _ he);have B1:=HK hN Ah he;have o6:decide (u+1+c1<=most)=true:=decide_eq_true As;unfold SF NR at A1;rw[AJ Ar,AJ As,o6,H5 Ah As]at A1;have z0:H4 [x,y] 0=x.thing:=by first|rfl|(simp only[H4];rw[MV.thing];done)|exact rfl
 have z1:H4 [x,y] 1=y.thing:=by first|rfl|(simp only[H4];rw[MV.thing];done)|exact rfl
 have z2:H4 [x,y] 2=GT:=by first|rfl|(simp only[H4];rw[MV.thing];done)|exact rfl
 rw[z0,z1,z2]at A1;refine A8 Tryz.func142 ?_;intro X hP u7 hf u9 hn hR u6 u5;refine A7 (j2 @Ca @hk) ?_;refine A3 tT A1 ?_;refine A7 @hk ?_;refine AQ [109] fun K hK=>?_;simp[go_sem,hP,u7,hn];refine KF (cs:=[x.thing,y.thing]) (y:=.ag [x.thing,y.thing] []) (by simp[go_sem,hP,u7,hn]) (by simp[go_sem]) (by simp[go_sem]) (by rw[hn];exact uF rfl) (by rfl) ?_;simp[go_sem,hP,u7,hn];refine F1 ?_;clear hK K;exact AI [(b,[A0 ((u+1+c1:Nat):Int),A0 (most:Int)])] tT
theorem zbs {most:Nat}(hm:most<=1073741824){ev:LT}(H:JX Tryz.prog gl 142 most ev)(hN:NP most ev)(t:Tm){e:List MV}{u:Nat}(b M:Nat)(hu:u<=most)(hM:M+(most - u)<=1073741824)(he:MV.nles M e)
  (h3:t.args.length<=3) (hk:t.kind=8) {n:Nat} {l:List Nat} {c1:Nat} (Ah:G6 ev t.args e=some ([.num n,.list l],c1)) (Ar:u+1<=most) (As:u+1+c1<=most) :
  cT gl 142 [BC b,t.dv,MV.envM e] [(b,CI most u)] (.tup [(.iface 199 (C8 (n::l))),AK true]) [(b,[A0 ((u+1+c1:Nat):Int),A0 (most:Int)])]:=by
 rw[AJ hu];have Ca:¬(most:Int)<=(u:Int):=oO;have A1:=JB hm H hN b (M+1) Ah h3 Ar oO (MV.nles_mono oO _ he);have B1:=HK hN Ah he;have o6:decide (u+1+c1<=most)=true:=decide_eq_true As;unfold SF NR at A1;rw[AJ Ar,AJ As,o6,H5 Ah As]at A1;have z0:H4 [.num n,.list l] 0=(.iface 3 (A0 (n:Int))):=by first|rfl|(simp only[H4];rw[MV.thing];done)|exact LA _
 have z1:H4 [.num n,.list l] 1=(.iface 199 (C8 l)):=by first|rfl|(simp only[H4];rw[MV.thing];done)|exact NS _
 have z2:H4 [.num n,.list l] 2=GT:=by first|rfl|(simp only[H4];rw[MV.thing];done)|exact rfl
 rw[z0,z1,z2]at A1;refine A8 Tryz.func142 ?_;intro X hP u7 hf u9 hn hR u6 u5;refine A7 (j2 @Ca @hk) ?_;refine A3 tT A1 ?_;refine A7 @hk ?_;refine AL (by rw[hP];exact AZ) [93] fun K hK=>?_;simp[go_sem,hP,u7,hn];refine IE (cs:=[A0 (n:Int),C8 l]) (y:=.ag [A0 (n:Int),C8 l] []) (fun _ _=>D8) (by simp[go_sem,hP,u7,hn]) (by simp[go_sem]) (by simp[go_sem]) (by rw[hn];exact uF rfl) (by rfl) ?_;simp[go_sem,hP,u7,hn];refine F1 ?_;clear hK K;exact AI [(b,[A0 ((u+1+c1:Nat):Int),A0 (most:Int)])] @NT
theorem vX {most:Nat}(hm:most<=1073741824){d:Nat}(H:JX Tryz.prog gl 142 most (NY d))(Ho:zC Tryz.prog gl 171 most (NY d)) :
  JX Tryz.prog gl 142 most (NY (d+1)):=by
 intro t e u v c b M h hu hM he;have hN:=T3 most d;have Dw:=zhn h;by_cases Ar:u+1<=most;rotate_left
 ·have Al:¬u+c<=most:=oO;rw[JC Al,FQ Al];exact zhr hm t b hu Ar
 rw[NY]at h;by_cases h1:t.kind=1
 ·rw[if_pos h1]at h;split at h
  ·rename_i hi;simp only[uC,uD]at h;obtain⟨rfl,rfl⟩:=h;exact zho hm t b hu h1 hi
  ·cases h
 rw[if_neg h1]at h;by_cases h2:t.kind=2
 ·rw[if_pos h2]at h;split at h;· cases h
  ·rename_i ha;simp only[uC,uD]at h;obtain⟨rfl,rfl⟩:=h;cases u8:t.args with
   | nil=>rw[u8]at ha;exact absurd rfl ha
   | cons body rest=>
    have:t.argN 0=body:=by simp[Tm.argN,u8]
    rw[this];exact zhp hm t b hu h2 u8
 rw[if_neg h2]at h;split at h;· cases h
 rename_i h3;have h3:t.args.length<=3:=oO;split at h;· cases h
 rename_i vs c1 Ah;split at h;· cases h
 rename_i w c2 Af;simp only[uC,uD]at h;obtain⟨rfl,rfl⟩:=h;have e0:u+(1+c1+c2)=u+1+c1+c2:=oO;rw[e0];by_cases As:u+1+c1<=most;rotate_left
 ·have Al:¬u+1+c1+c2<=most:=oO;rw[JC Al,FQ Al];exact z4g hm H hN t b M hu hM he h3 h1 h2 Ah Ar As
 unfold U1 at Af;split at Af;rotate_left;· cases Af
 rename_i hk;unfold VZ at Af;by_cases k3:t.kind=3
 ·rw[if_pos k3]at Af;split at Af;· exact zbm hm H hN t b M hu hM he h3 k3 Ah Ar As Af
  ·cases Af
 rw[if_neg k3]at Af;by_cases k4:t.kind=4
 ·rw[if_pos k4]at Af;simp only[uC,uD]at Af;obtain⟨rfl,rfl⟩:=Af;rw[Nat.add_zero,ER As,AJ As,LA];exact zbn hm H hN t b M hu hM he h3 k4 Ah Ar As
 rw[if_neg k4]at Af;by_cases k5:t.kind=5
 ·rw[if_pos k5]at Af;split at Af
  ·simp only[uC,uD]at Af;obtain⟨rfl,rfl⟩:=Af;rw[Nat.add_zero,ER As,AJ As,LA];exact zbo hm H hN t b M hu hM he h3 k5 Ah Ar As
  ·cases Af
 rw[if_neg k5]at Af;by_cases k6:t.kind=6
 ·rw[if_pos k6]at Af;split at Af;· exact zbp hm H hN t b M hu hM he h3 k6 Ah Ar As Af
  ·cases Af
 rw[if_neg k6]at Af;by_cases k7:t.kind=7
 ·rw[if_pos k7]at Af;simp only[uC,uD]at Af;obtain⟨rfl,rfl⟩:=Af;rw[Nat.add_zero,ER As,AJ As,NS];exact zbq hm H hN t b M hu hM he h3 k7 Ah Ar As
 rw[if_neg k7]at Af;by_cases k8:t.kind=8
 ·rw[if_pos k8]at Af;split at Af
  ·simp only[uC,uD]at Af;obtain⟨rfl,rfl⟩:=Af;rw[Nat.add_zero,ER As,AJ As,NS];exact zbs hm H hN t b M hu hM he h3 k8 Ah Ar As
  ·cases Af
 rw[if_neg k8]at Af;by_cases k9:t.kind=9
 ·rw[if_pos k9]at Af;split at Af;· exact zbr hm H hN Ho t b M hu hM he h3 k9 Ah Ar As Af
  ·cases Af
 rw[if_neg k9]at Af;by_cases Gu:t.kind=10
 ·rw[if_pos Gu]at Af;split at Af
  ·simp only[uC,uD]at Af;obtain⟨rfl,rfl⟩:=Af;rw[Nat.add_zero,ER As,AJ As,UO];exact z4k hm H hN t b M hu hM he h3 Gu Ah Ar As
  ·cases Af
 rw[if_neg Gu]at Af;by_cases Kl:t.kind=11
 ·rw[if_pos Kl]at Af;split at Af
  ·simp only[uC,uD]at Af;obtain⟨rfl,rfl⟩:=Af;rw[Nat.add_zero,ER As,AJ As];exact z4h hm H hN t b M hu hM he h3 Kl Ah Ar As
  ·cases Af
 rw[if_neg Kl]at Af;by_cases Kp:t.kind=12
 ·rw[if_pos Kp]at Af;split at Af
  ·simp only[uC,uD]at Af;obtain⟨rfl,rfl⟩:=Af;rw[Nat.add_zero,ER As,AJ As];exact z4i hm H hN t b M hu hM he h3 Kp Ah Ar As
  ·cases Af
 rw[if_neg Kp]at Af;have Dt:t.kind=13:=oO;simp only[uC,uD]at Af;obtain⟨rfl,rfl⟩:=Af;rw[Nat.add_zero,ER As,AJ As,vV];exact z4j hm H hN t b M hu hM he h3 Dt Ah Ar As
theorem XF {most:Nat}(hm:most<=1073741824)(Ho:∀ev,JX Tryz.prog gl 142 most ev->NP most ev->zC Tryz.prog gl 171 most ev) :
  ∀d,JX Tryz.prog gl 142 most (NY d)
 | 0=>by intro t e u v c b M h;cases h
 | d+1=>vX hm (XF hm Ho d) (Ho _ (XF hm Ho d) (T3 most d))
end
end Go.Proofs.YtoniciijokeidaaGreatDoor.Lift
