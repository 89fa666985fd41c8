import Derived.Test.YtoamlfmdkbmmpaaGreatDoorQl6
namespace Go.Proofs.YtoamlfmdkbmmpaaGreatDoor.Lift
set_option linter.unusedSimpArgs false
set_option linter.unusedVariables false
set_option linter.unnecessarySimpa false
open Go
section
variable {gl:Globs}
theorem zeg (t:Ty):Con1 Tryz.prog gl 111 [t.dv] [] (bareN t).dv []:=by
 induction t using Ty.ind with
 | h t ih=>
 refine t_in Tryz.func111 ?_
 intro X hP hgl hf hfn hn hR hids hfit
 have hlen:=Ty.fit_len (hfit t.dv (by simp))
 have wn:=zbh (gl:=gl)
 rw [z1aw] at hR
 by_cases h:t.kind=2
 ·refine t_g @h ?_
  refine t_c1 trivial wn ?_
  refine t_r ?_
  simp [go_sem,hP,hgl,hn,h,natY] <;> (try omega)
  all_goals exact t_f
 ·refine t_g @h ?_
  refine t_a ?_
  refine z0e [(1003,0)] trivial (z1z (t.args) (fun done rest=>[(.slot 4,.one (.v (dint done.length))),(.slot 1,.one (.loc 1 0)),(.loc 1,.row ([.v (dint t.kind),.v (.sl (t.args.map Ty.cells))])),(.loc 3,.row ([.v (dint t.kind),.own 1003 (done.map fun x=>(bareN x).cells)])),(.slot 3,.one (.loc 3 0)),(.tok 1003,.tk 2 done.length),(.loc 2,.row ([.v (dint 0),.own 0 []])),(.slot 2,.one (.loc 2 0))]) ?_ ?_)
  ·intro done x rest hL hg0 hnext
   have hlt:done.length<t.args.length:=by rw [hL];simp
   have hxm:=List.mem_of_getElem? hg0
   refine z00 ?_
   refine z07 ?_
   refine t_c1 @hg0 (ih x hxm) ?_
   refine t_gt (wr [(1003,28)]) (Ty.cells_eq (bareN x)) trivial hnext
  ·refine z00 ?_
   refine t_no ?_
   refine t_g0 ?_
   refine t_r ?_
   simp [go_sem,hP,hgl,hn,h] <;> (try omega)
   simp [Ty.dv,Ty.cells_eq,Ty.kind_mk,Ty.args_mk]
theorem z61 (x:Tm)(hs:x.shape=true)(hc:x.count≤2147483648):Con1 Tryz.prog gl 110 [x.dv] [] (.tup [(cutE x).1.dv,dint (cutE x).2]) []:=by
 have hfo:=Tm.fold x
 have wc:=z2q (gl:=gl) x (z2b x hs) hc
 refine t_in Tryz.func110 ?_
 intro X hP hgl hf hfn hn hR hids hfit
 by_cases h:4096<x.count
 ·have hk:¬ x.checkN=0:=fun h0=>by have:=((Tm.checkN_iff x).1 h0).2;omega
  rw [z3v h] at hR
  refine t_g0 ?_
  refine t_c1 (j2 @hfo @hk) wc ?_
  refine t_g0 ?_
  refine t_r ?_
  simp [go_sem,hP,hgl,hn,zeroTm] <;> (try omega)
  all_goals exact t_f
 ·have hk:x.checkN=0:=(Tm.checkN_iff x).2 ⟨hs,by omega⟩
  rw [z2z h] at hR
  rw [hk] at wc
  refine t_g0 ?_
  refine t_c1 @hfo wc ?_
  refine t_g0 ?_
  refine t_r ?_
  simp [go_sem,hP,hgl,hn] <;> (try omega)
  all_goals exact t_f
theorem z1bs (t:Tm):Con1 Tryz.prog gl 64 [t.dv] [] (dbool (!t.leastN 268435456)) []:=by
 induction t using Tm.ind with
 | h t ih=>
 refine t_in Tryz.func64 ?_
 intro X hP hgl hf hfn hn hR hids hfit
 have hl1:=Tm.fit_len (hfit t.dv (by simp))
 rw [Tm.leastN_eq] at hR
 by_cases h:268435456<t.index
 ·refine t_g @h ?_
  refine t_r ?_
  simp [go_sem,hP,hgl,hn,h] <;> (try omega)
 ·refine t_g @h ?_
  refine t_a ?_
  refine z0e [] trivial (z35 (t.args) (fun done=>Tm.leastN.leasts done 268435456=true) (fun done rest=>[(.slot 3,.one (.v (dint done.length))),(.slot 1,.one (.loc 1 0)),(.loc 1,.row ([.v (dint t.kind),.v (dint t.index),.v (dint t.type.kind),.v (.sl (t.type.args.map Ty.cells)),.v (.sl (t.args.map Tm.cells))]))]) (rfl) ?_ ?_)
  ·intro done x rest hL hg0 hI hnext
   have hlt:done.length<t.args.length:=by rw [hL];simp
   have hxm:=List.mem_of_getElem? hg0
   refine z00 ?_
   refine z07 ?_
   by_cases hx:x.leastN 268435456=true
   ·refine t_c1 (j2 @hg0 @hx) (ih x hxm) ?_
    refine t_g @hx ?_
    refine t_gt (wr []) trivial @hx (hnext (by rw [Tm.leasts_append,hI];simp [Tm.leastN.leasts,hx]))
   ·have hx':x.leastN 268435456=false:=by simpa using hx
    have hall:Tm.leastN.leasts t.args 268435456=false:=by rw [hL,Tm.leasts_append];simp [Tm.leastN.leasts,hx']
    refine t_c1 (j2 @hg0 @hx') (ih x hxm) ?_
    refine t_g @hx' ?_
    refine t_r ?_
    simp [go_sem,hP,hgl,hn,hall] <;> (try omega)
  ·intro hI
   refine z00 ?_
   refine t_no ?_
   refine t_g0 ?_
   refine t_r ?_
   simp [go_sem,hP,hgl,hn,h,hI] <;> (try omega)
theorem z2e (f a:Tm):Con1 Tryz.prog gl 27 [f.dv,a.dv] [] (nT 3 [f,a]).dv []:=by
 have wn:=z4i (gl:=gl) 3 [f,a]
 have hff:=Tm.fold f
 have hfa:=Tm.fold a
 have hfn1:=Tm.fold (nT 3 [f,a])
 have e:Tm.mk 3 0 (Ty.mk 0 []) [f,a]=nT 3 [f,a]:=rfl
 rw [e] at wn
 simp only [List.map_cons,List.map_nil,Tm.cells_eq f,Tm.cells_eq a] at wn
 generalize nT 3 [f,a]=r at *
 refine t_in Tryz.func27 ?_
 intro X hP hgl hf hfn hn hR hids hfit
 refine t_g0 ?_
 refine t_c1 (j2 @hff @hfa) wn ?_
 refine t_r ?_
 simp [go_sem,hP,hgl,hn] <;> (try omega)
 all_goals exact t_f
theorem z1bt (t:Tm)(b:Nat)(hb:b≤4096)(hs:t.shape=true)(hc:t.count≤4096)(hi:t.idx 536870912):Con1 Tryz.prog gl 68 [t.dv,dint 0,dint (b:Int)] [] (.tup [(t.upN 0 b).dv,dint 0]) []:=by
 have hfo:=Tm.fold t
 have wc:=z2q (gl:=gl) t (z2b t hs) (by omega)
 rw [(Tm.checkN_iff t).2 ⟨hs,hc⟩] at wc
 have wl:=z13w (gl:=gl) t 536870912
 have hl:t.leastN 536870912=true:=by
  have:∀ t:Tm,t.idx 536870912→t.leastN 536870912=true:=by
   intro t
   induction t using Tm.ind with
   | h t ih=>
   intro h
   obtain ⟨h1,h2⟩:=(Tm.idx_eq t _).1 h
   rw [Tm.leastN_eq]
   have h3:∀ l:List Tm,(∀ a ∈ l,a ∈ t.args)→Tm.leastN.leasts l 536870912=true:=by
    intro l
    induction l with
    | nil=>intro _;rfl
    | cons a l ihl=>intro hl;simp only [Tm.leastN.leasts,ih a (hl a (by simp)) (h2 a (hl a (by simp))),ihl fun x hx=>hl x (by simp [hx]),Bool.and_self]
   rw [h3 t.args fun _ h=>h]
   simp;omega
  exact this t hi
 rw [hl] at wl
 have wu:=z140 (gl:=gl) t 0 b (Tm.idx_mono (by decide) hi) (by omega) (by omega) (by decide) (by omega)
 have wcp:=zgq (gl:=gl) (t.upN 0 b)
 have hfu:=Tm.fold (t.upN 0 b)
 have e1:¬ ((b:Int)<0):=by omega
 have e2:¬ (4096<(b:Int)):=by omega
 have e3:¬ (4096<b):=by omega
 generalize t.upN 0 b=u at *
 refine t_in Tryz.func68 ?_
 intro X hP hgl hf hfn hn hR hids hfit
 refine t_g0 ?_
 refine t_c1 @hfo wc ?_
 refine t_g0 ?_
 refine t_c1 (j2 @hfo (j2 @e1 (j2 @e2 @e3))) wl ?_
 refine t_g0 ?_
 refine t_c2 (j2 @hfo @hfu) wu wcp ?_
 refine t_r ?_
 simp [go_sem,hP,hgl,hn] <;> (try omega)
 all_goals exact t_f
theorem z7f (t:Tm)(b:Nat)(hb:b≤4096)(hs:t.shape=true)(hc:t.count≤4096)(hi:t.idx 536870912):Con1 Tryz.prog gl 33 [t.dv,dint (b:Int)] [] (t.upN 0 b).dv []:=by
 have w:=z1bt (gl:=gl) t b hb hs hc hi
 have hfo:=Tm.fold t
 have hfu:=Tm.fold (t.upN 0 b)
 generalize t.upN 0 b=u at *
 refine t_in Tryz.func33 ?_
 intro X hP hgl hf hfn hn hR hids hfit
 refine t_g0 ?_
 refine t_c1 @hfo w ?_
 refine t_g0 ?_
 refine t_r ?_
 simp [go_sem,hP,hgl,hn] <;> (try omega)
 all_goals exact t_f
theorem z1bu:Con1 Tryz.prog gl 145 [] [] greatT.dv []:=by
 have w1:=zi2 (gl:=gl)
 have w2:=z5x (gl:=gl) 0
 have w3:=z2e (gl:=gl) subT (vT 0)
 have w4:=z5x (gl:=gl) 1
 have w5:=z2e (gl:=gl) (nT 3 [subT,vT 0]) (vT 1)
 have wn:=zbh (gl:=gl)
 have w6:=zi1 (gl:=gl)
 have w7:=z2e (gl:=gl) plusT (vT 1)
 have w8:=z2e (gl:=gl) (nT 3 [plusT,vT 1]) (nT 3 [nT 3 [subT,vT 0],vT 1])
 have w9:=z3u (gl:=gl) (Ty.mk 1 []) (nT 3 [nT 3 [plusT,vT 1],nT 3 [nT 3 [subT,vT 0],vT 1]])
 have w10:=z3u (gl:=gl) (Ty.mk 1 []) (Tm.mk 2 0 (Ty.mk 1 []) [nT 3 [nT 3 [plusT,vT 1],nT 3 [nT 3 [subT,vT 0],vT 1]]])
 have eg:Tm.mk 2 0 (Ty.mk 1 []) [Tm.mk 2 0 (Ty.mk 1 []) [nT 3 [nT 3 [plusT,vT 1],nT 3 [nT 3 [subT,vT 0],vT 1]]]]=greatT:=rfl
 rw [eg] at w10
 have ev0:Tm.mk 1 0 (Ty.mk 0 []) []=vT 0:=rfl
 have ev1:Tm.mk 1 1 (Ty.mk 0 []) []=vT 1:=rfl
 rw [ev0] at w2
 rw [ev1] at w4
 have hfs:=Tm.fold (nT 3 [nT 3 [subT,vT 0],vT 1])
 have hfg:=Tm.fold greatT
 generalize greatT=gg at *
 generalize Tm.mk 2 0 (Ty.mk 1 []) [nT 3 [nT 3 [plusT,vT 1],nT 3 [nT 3 [subT,vT 0],vT 1]]]=g2 at *
 generalize nT 3 [nT 3 [plusT,vT 1],nT 3 [nT 3 [subT,vT 0],vT 1]]=g3 at *
 generalize nT 3 [nT 3 [subT,vT 0],vT 1]=g4 at *
 generalize nT 3 [subT,vT 0]=g5 at *
 generalize nT 3 [plusT,vT 1]=g6 at *
 generalize plusT=pp at *
 generalize subT=ss at *
 generalize vT 0=v0 at *
 generalize vT 1=v1 at *
 refine t_in Tryz.func145 ?_
 intro X hP hgl hf hfn hn hR hids hfit
 refine t_g0 ?_
 refine t_c5 trivial w1 w2 w3 w4 w5 ?_
 refine t_g0 ?_
 refine t_c8 @hfs wn wn w6 w4 w7 w8 w9 w10 ?_
 refine t_r ?_
 simp [go_sem,hP,hgl,hn] <;> (try omega)
 all_goals exact t_f
end
section
theorem z1bv (y:Ty)(t:Tm)(f b:Int):(Tm.mk 2 0 y [t]).upN f b=Tm.mk 2 0 y [t.upN (f+1) b]:=by
 rw [Tm.upN_eq]
 simp [Tm.kind,Tm.index,Tm.type,Tm.args,bindI]
theorem zeh (k:Int):0≤bindI k:=by unfold bindI;split <;> decide
theorem z1bw (t:Tm):∀ (k f n c:Int),0≤f→0≤n→0≤c→(t.upN k n).upN (k+f+n) c=(t.upN (k+f) c).upN k n:=by
 induction t using Tm.ind with
 | h t ih=>
 intro k f n c hf hn hc
 rw [Tm.upN_eq t k n,Tm.upN_eq,Tm.upN_eq t (k+f) c,Tm.upN_eq (.mk t.kind _ t.type _)]
 simp only [Tm.kind_mk,Tm.index_mk,Tm.type_mk,Tm.args_mk,List.map_map]
 have e2:(t.args.map ((fun x=>x.upN (k+f+n+bindI t.kind) c) ∘ fun x=>x.upN (k+bindI t.kind) n))=t.args.map ((fun x=>x.upN (k+bindI t.kind) n) ∘ fun x=>x.upN (k+f+bindI t.kind) c):=by
  refine List.map_congr_left fun x hx=>?_
  have:=ih x hx (k+bindI t.kind) f n c hf hn hc
  rw [show k+bindI t.kind+f+n=k+f+n+bindI t.kind by omega,show k+bindI t.kind+f=k+f+bindI t.kind by omega] at this
  exact this
 rw [e2]
 congr 1
 by_cases h1:t.kind=1
 ·simp only [h1,true_and]
  by_cases h2:k+f≤t.index
  ·rw [if_pos (show k≤t.index by omega),if_pos (by omega),if_pos h2,if_pos (by omega)];omega
  ·rw [if_neg h2]
   by_cases h3:k≤t.index
   ·rw [if_pos h3,if_neg (by omega)]
   ·rw [if_neg h3,if_neg (by omega)]
 ·simp only [h1,false_and,if_false]
theorem zks {Γ:List T}{i:Nat}{a:T}{p:Env Γ→a.V}(h:At Γ i a p):i<Γ.length:=by
 induction h with
 | zero=>simp
 | succ h ih=>simpa using ih
theorem z1bx {Γ:List T}{t:Tm}{a:T}{F:Env Γ→a.V}(h:Dn Γ t a F):∀ (f b:Int),(Γ.length:Int)≤f→t.upN f b=t:=by
 induction h with
 | var h=>intro f b hf;have:=zks h;rw [z6q,if_neg (by omega)]
 | lam ha h ih=>intro f b hf;rw [zh0,ih _ _ (by simp only [List.length_cons];omega)]
 | app h1 h2 i1 i2=>intro f b hf;rw [nT,z1d (by decide),List.map_cons,List.map_cons,List.map_nil,i1 f b hf,i2 f b hf]
 | zero=>intro f b hf;rw [nT,z1d (by decide)];rfl
 | succ h1 i1=>intro f b hf;rw [nT,z1d (by decide),List.map_cons,List.map_nil,i1 f b hf]
 | rc ha h1 h2 h3 i1 i2 i3=>intro f b hf;rw [z1d (by decide),List.map_cons,List.map_cons,List.map_cons,List.map_nil,i1 f b hf,i2 f b hf,i3 f b hf]
 | nil=>intro f b hf;rw [nT,z1d (by decide)];rfl
 | cons h1 h2 i1 i2=>intro f b hf;rw [nT,z1d (by decide),List.map_cons,List.map_cons,List.map_nil,i1 f b hf,i2 f b hf]
 | fold ha h1 h2 h3 i1 i2 i3=>intro f b hf;rw [z1d (by decide),List.map_cons,List.map_cons,List.map_cons,List.map_nil,i1 f b hf,i2 f b hf,i3 f b hf]
 | pair h1 h2 i1 i2=>intro f b hf;rw [nT,z1d (by decide),List.map_cons,List.map_cons,List.map_nil,i1 f b hf,i2 f b hf]
 | fst h1 i1=>intro f b hf;rw [nT,z1d (by decide),List.map_cons,List.map_nil,i1 f b hf]
 | snd h1 i1=>intro f b hf;rw [nT,z1d (by decide),List.map_cons,List.map_nil,i1 f b hf]
 | unit=>intro f b hf;rw [nT,z1d (by decide)];rfl
structure Acts (A:Int→Tm→Tm):Prop where
 node:∀ (d:Int) (k i:Int) (y:Ty) (a:List Tm),k ≠ 1→k ≠ 2→A d (Tm.mk k i y a)=Tm.mk k i y (a.map (A d))
 lam:∀ (d:Int) (y:Ty) (x:Tm),A d (Tm.mk 2 0 y [x])=Tm.mk 2 0 y [A (d+1) x]
 low:∀ (d:Int) (i:Nat),(i:Int)<d→A d (vT i)=vT i
 great:∀ d:Int,0≤d→A d greatT=greatT
 up:∀ (d n:Int) (x:Tm),0≤d→0≤n→A (d+n) (x.upN 0 n)=(A d x).upN 0 n
theorem z1by (b:Int)(hb:0≤b):Acts (fun d x=>x.upN d b) where
 node d k i y a h1 h2:=z1d ⟨h1,h2⟩ i y a d b
 lam d y x:=z1bv y x d b
 low d i h:=by show (vT i).upN d b=_;rw [z6q,if_neg (by omega)]
 great d h:=z1bx (zao []) d b h
 up d n x hd hn:=by
  have:=z1bw x 0 d n b hd hn hb
  simp only [Int.zero_add] at this
  exact this
theorem Acts.n1 {A:Int→Tm→Tm}(H:Acts A)(d k:Int)(x:Tm)(h1:k ≠ 1)(h2:k ≠ 2):A d (nT k [x])=nT k [A d x]:=H.node d k 0 _ [x] h1 h2
theorem Acts.n2 {A:Int→Tm→Tm}(H:Acts A)(d k:Int)(x y:Tm)(h1:k ≠ 1)(h2:k ≠ 2):A d (nT k [x,y])=nT k [A d x,A d y]:=H.node d k 0 _ [x,y] h1 h2
theorem zkt {A:Int→Tm→Tm}(H:Acts A)(y:Ty):∀ (d:Int) (a b:Tm),0≤d→A d (maxY y a b)=maxY y (A d a) (A d b):=by
 induction y using Ty.ind with
 | h y ih=>
 intro d a b hd
 rw [maxY.eq_def,maxY.eq_def y]
 cases y with
 | mk k ts=>
 simp only
 by_cases h1:k=1
 ·rw [if_pos h1,if_pos h1]
  show A d (nT 3 [nT 3 [greatT,a],b])=nT 3 [nT 3 [greatT,A d a],A d b]
  rw [H.n2 d 3 _ _ (by decide) (by decide),H.n2 d 3 _ _ (by decide) (by decide),H.great d hd]
 rw [if_neg h1,if_neg h1]
 have leaf:A d (nT 13 [])=nT 13 []:=H.node d 13 0 _ [] (by decide) (by decide)
 match ts,ih with
 | [],_=>exact leaf
 | [_],_=>exact leaf
 | _::_::_::_,_=>exact leaf
 | [s,t],ih=>
  have is:=ih s (by simp [Ty.args])
  have it:=ih t (by simp [Ty.args])
  simp only
  by_cases h3:k=3
  ·rw [if_pos h3,if_pos h3,H.n2 d 10 _ _ (by decide) (by decide),is d _ _ hd,it d _ _ hd]
   rw [H.n1 d 11 _ (by decide) (by decide),H.n1 d 11 _ (by decide) (by decide),H.n1 d 12 _ (by decide) (by decide),H.n1 d 12 _ (by decide) (by decide)]
  rw [if_neg h3,if_neg h3]
  by_cases h4:k=4
  ·rw [if_pos h4,if_pos h4,H.lam,it (d+1) _ _ (by omega),H.n2 _ 3 _ _ (by decide) (by decide),H.n2 _ 3 _ _ (by decide) (by decide),H.up d 1 a hd (by decide),H.up d 1 b hd (by decide)]
   have hv:A (d+1) (vT 0)=vT 0:=H.low (d+1) 0 (by omega)
   rw [hv]
  ·rw [if_neg h4,if_neg h4]
   exact leaf
theorem zku {A:Int→Tm→Tm}(H:Acts A)(s:Ty)(d:Int)(next:Tm)(hd:0≤d):A d (stepY s next)=stepY s (A (d+2) next):=by
 unfold stepY
 rw [H.lam,H.lam,show d+1+1=d+2 by omega,zkt H s (d+2) _ _ (by omega)]
 have hv:A (d+2) (vT 0)=vT 0:=H.low (d+2) 0 (by omega)
 rw [hv]
theorem zkv {A:Int→Tm→Tm}(H:Acts A){k i:Int}(hk1:k ≠ 1)(y:Ty)(a a' l l':List Tm)(d:Int)(hd:0≤d)(hz:A (d+bindI k) zeroTm=zeroTm)(hl:l' = l.map (A (d+bindI k)))(h2:k=2→∃ x,l=[x]) :
  A d (majNode k i y a l)=majNode k i y a' l':=by
 have get:∀ j,l'.getD j zeroTm=A (d+bindI k) (l.getD j zeroTm):=by
  intro j
  subst hl
  rw [List.getD_eq_getElem?_getD,List.getD_eq_getElem?_getD,List.getElem?_map]
  cases hq:l[j]? with
  | none=>simp [hz]
  | some x=>simp
 unfold majNode
 rw [if_neg hk1,if_neg hk1]
 by_cases h:k=2
 ·rw [if_pos h,if_pos h]
  obtain ⟨x,rfl⟩:=h2 h
  subst hl
  rw [H.lam,h]
  rfl
 rw [if_neg h,if_neg h]
 have hb:bindI k=0:=by unfold bindI;rw [if_neg h]
 rw [hb,Int.add_zero] at get hl
 by_cases h6:k=6
 ·rw [if_pos h6,if_pos h6,H.node _ _ _ _ _ (by decide) (by decide),List.map_cons,List.map_cons,List.map_cons,List.map_nil,zku H _ _ _ hd,get 0,get 1,get 2]
  show Tm.mk 6 0 (bareN y) [_,stepY (bareN y) (A (d+2) (nT 3 [nT 3 [_,vT 1],vT 0])),_]=_
  rw [H.n2 _ 3 _ _ (by decide) (by decide),H.n2 _ 3 _ _ (by decide) (by decide),H.up d 2 _ hd (by decide),show A (d+2) (vT 1)=vT 1 from H.low (d+2) 1 (by omega),show A (d+2) (vT 0)=vT 0 from H.low (d+2) 0 (by omega)]
  rfl
 rw [if_neg h6,if_neg h6]
 by_cases h7:k=7
 ·rw [if_pos h7,if_pos h7]
  exact H.node d 4 0 _ [] (by decide) (by decide)
 rw [if_neg h7,if_neg h7]
 by_cases h8:k=8
 ·rw [if_pos h8,if_pos h8,zkt H _ _ _ _ hd,H.n1 _ 5 _ (by decide) (by decide),get 0,get 1]
 rw [if_neg h8,if_neg h8]
 by_cases h9:k=9
 ·rw [if_pos h9,if_pos h9,H.n2 _ 3 _ _ (by decide) (by decide),H.lam,H.node _ _ _ _ _ (by decide) (by decide),List.map_cons,List.map_cons,List.map_cons,List.map_nil,zku H _ _ _ (by omega),H.up d 1 _ hd (by decide),get 0,get 1,get 2]
  show nT 3 [Tm.mk 2 0 (Ty.mk 1 []) [Tm.mk 6 0 (bareN y) [_,stepY (bareN y) (A (d+1+2) (nT 3 [nT 3 [nT 3 [_,vT 2],vT 2],vT 0])),A (d+1) (vT 0)]],_]=_
  rw [show d+1+2=d+3 by omega,H.n2 _ 3 _ _ (by decide) (by decide),H.n2 _ 3 _ _ (by decide) (by decide),H.n2 _ 3 _ _ (by decide) (by decide),H.up d 3 _ hd (by decide),show A (d+3) (vT 2)=vT 2 from H.low (d+3) 2 (by omega),show A (d+3) (vT 0)=vT 0 from H.low (d+3) 0 (by omega),show A (d+1) (vT 0)=vT 0 from H.low (d+1) 0 (by omega)]
  rfl
 rw [if_neg h9,if_neg h9,H.node _ _ _ _ _ hk1 h,hl]
theorem zkw (t:Tm)(ht:t.shape=true):∀ (d b:Int),0≤d→0≤b→majT (t.upN d b)=(majT t).upN d b:=by
 induction t using Tm.ind with
 | h t ih=>
 intro d b hd hb
 obtain ⟨hlen,hi0,hv,hty,hsa⟩:=Tm.shape_node ht
 by_cases h1:t.kind=1
 ·have ha:t.args=[]:=by rw [h1] at hlen;simp [arityI] at hlen;exact hlen
  have e:∀ x:Tm,x.kind=1→majT x=x:=by
   intro x hx
   rw [z0u]
   unfold majNode
   rw [if_pos hx]
   exact Tm.eta x
  rw [e t h1,e _ (by rw [Tm.upN_eq,Tm.kind_mk];exact h1)]
 ·rw [z0u t,z0u (t.upN d b)]
  rw [Tm.upN_eq t d b,Tm.kind_mk,Tm.index_mk,Tm.type_mk,Tm.args_mk,if_neg (show ¬ (t.kind=1∧d≤t.index) from fun h=>h1 h.1)]
  refine (zkv (z1by b hb) h1 _ _ _ _ _ d hd rfl ?_ fun h2=>?_).symm
  ·rw [List.map_map,List.map_map]
   refine List.map_congr_left fun x hx=>?_
   have:=zeh t.kind
   exact ih x hx (hsa x hx) _ b (by omega) hb
  ·rw [h2] at hlen
   simp [arityI] at hlen
   obtain ⟨x,hx⟩:=List.length_eq_one_iff.1 (show t.args.length=1 by omega)
   exact ⟨majT x,by rw [hx];rfl⟩
end
section
theorem zkx:∀ n:Nat,evK (n+1) (numTm n) []=some (.num n,0)
 | 0=>rfl
 | n+1=>by
  have ih:=zkx n
  show (match allK (evK (n+1)) [numTm n] [] with|none=>none|some (l,c)=>(nodeK (evK (n+1)) 5 l).map fun (r:WV × Nat)=>(r.1,c+r.2))=_
  simp only [allK,ih]
  rfl
theorem zky (n:Nat):∃ G:Env []→(T.wt .nat).V,((tickE [] (numTm n)).2=0→Dn [] (tickE [] (numTm n)).1 (T.wt .nat) G)∧Prod.fst (G ())=(0:Nat)∧Prod.snd (G ())=(n:Nat):=by
 obtain ⟨G,hK,hD,hT⟩:=z71 (z99 [] n)
 refine ⟨G,hT,?_,?_⟩
 ·obtain ⟨d,v,k,h1,-,h3⟩:=hK [] () trivial
  have:=z147 h1 (zkx n)
  cases this
  exact h3.symm
 ·exact (hD () () trivial:(n:Nat)=_).symm
theorem zkz {t:Tm}{Ft:Env []→(T.fn .nat .nat).V}(ht:Dn [] t (.fn .nat .nat) Ft)(n:Nat)(h0:(tickE [] (nT 3 [t,numTm n])).2=0) :
  (tickE [] t).2=0∧(tickE [] (numTm n)).2=0∧(T.wt (.fn .nat .nat)).ok∧(T.wt .nat).ok∧(tickE [] (nT 3 [t,numTm n])).1=appT2 .nat .nat (tickE [] t).1 (tickE [] (numTm n)).1:=by
 have hn:=z99 [] n
 obtain ⟨e1,e2,e3⟩:=zaw (by decide) h0
 have e4:tickE [] (nT 3 [t,numTm n])=appE .nat .nat (tickE [] t).1 (tickE [] (numTm n)).1:=by
  have h1:=z0t ht
  have h2:=z0t hn
  simp only [List.reverse_nil] at h1 h2
  rw [nT,e3,h1,h2];rfl
 rw [e4] at h0 ⊢
 obtain ⟨o1,o2,o3,r⟩:=zhq h0
 exact ⟨e1,e2,o1,o2,r⟩
def bodyA:Tm:=letT .nat (nT 3 [sndT 1,sndT 0]) (nT 10 [nT 5 [sumT (fstT 2) [fstT 1,fstT 0]],sndT 0])
theorem z1bz (h3:(T.wt .nat).ok):∃ F2:Env [T.wt .nat,T.wt (.fn .nat .nat)]→(T.wt .nat).V,Dn [T.wt .nat,T.wt (.fn .nat .nat)] bodyA (T.wt .nat) F2:=
 ⟨_,z0z h3 (.app (z8p (a1:=.fn .nat .nat)) (z25 (a0:=.nat))) (.pair (.succ (zd7 z70 z4z z3r)) z25)⟩
theorem zl0 {a:T}{is inn:Tm}:majT (letT a is inn)=nT 3 [lamT a.wt.maj (majT inn),majT is]:=by
 have e:majT (letT a is inn)=nT 3 [Tm.mk 2 0 (bareN a.wt.ty) [majT inn],majT is]:=rfl
 rw [e,← z3o];rfl
theorem z1c0 {X Yn Ym:Tm}{Gt:Env []→(T.wt (.fn .nat .nat)).V}{Gn Gm:Env []→(T.wt .nat).V}(hX:Dn [] X (T.wt (.fn .nat .nat)) Gt)(hn:Dn [] Yn (T.wt .nat) Gn)(hm:Dn [] Ym (T.wt .nat) Gm)
  (ho1:(T.wt (.fn .nat .nat)).ok) (ho2:(T.wt .nat).ok) (h1:Prod.fst (Gn ())=(0:Nat)) (h2:Nat.le (Prod.snd (Gn ())) (Prod.snd (Gm ()))) :
  ∃ (Fx:Env []→(T.wt .nat).V) (Py:Env []→(T.wt .nat).maj.V),Dn [] (appT2 .nat .nat X Yn) (T.wt .nat) Fx∧Dn [] (majT (appT2 .nat .nat X Ym)) (T.wt .nat).maj Py∧Mj (T.wt .nat) (Py ()) (Fx ()):=by
 obtain ⟨F2,d2⟩:=z1bz ho2
 obtain ⟨P2,p2,m2,-⟩:=z85 d2
 obtain ⟨Pt,pt,mt,-⟩:=z85 hX
 obtain ⟨Pm,pm,mm,-⟩:=z85 hm
 have ex:∀ Y:Tm,appT2 .nat .nat X Y=letT (.fn .nat .nat) X (letT .nat (Y.upN 0 1) bodyA):=fun _=>rfl
 have hup:majT (Ym.upN 0 1)=(majT Ym).upN 0 1:=zkw Ym (z1g hm) 0 1 (by decide) (by decide)
 have dx:Dn [] (appT2 .nat .nat X Yn) (T.wt .nat) (fun e=>F2 (Gn e,(Gt e,e))):=by
  rw [ex]
  exact z0z ho1 hX (z0z ho2 (z2j hn [T.wt (.fn .nat .nat)]) d2)
 have dy:Dn [] (majT (appT2 .nat .nat X Ym)) (T.wt .nat).maj (fun e=>P2 (Pm e,(Pt e,e))):=by
  rw [ex,zl0,zl0,hup]
  exact .app (.lam (z29 ho1) (.app (.lam (z29 ho2) p2) (z2j pm [(T.wt (.fn .nat .nat)).maj]))) pt
 refine ⟨_,_,dx,dy,m2 (Pm (),(Pt (),())) (Gn (),(Gt (),())) ⟨?_,mt () () trivial,trivial⟩⟩
 have hM:Mj (T.wt .nat) (Pm ()) (Gm ()):=mm () () trivial
 refine ⟨?_,?_⟩
 ·show Nat.le (Prod.fst (Gn ())) (Prod.fst (Pm ()))
  rw [h1];exact Nat.zero_le _
 ·exact Nat.le_trans h2 hM.2
end
section
variable {gl:Globs}
theorem zl1 {M:Int}{x:Tm}(hs:x.shape=true)(hi:x.idx M)(hc:x.count≤268435456):Fine 0 M x:=⟨hc,fun _=>⟨hs,hi⟩⟩
theorem z9d (c:T)(ho:c.ok){a b:Tm}{M:Int}(hM:10≤M)(ha:a.shape=true)(hai:a.idx M)(hb:b.shape=true)(hbi:b.idx M)(h:(max33 c.ty a b).2=0):(max33 c.ty a b).1.shape=true∧(max33 c.ty a b).1.idx (M+c.size)∧(max33 c.ty a b).1.count≤4096:=by
 by_cases h1:4096<a.count∨4096<b.count
 ·rw [z30 h1] at h;cases h
 rw [z42 h1] at h ⊢
 have hf:=z7c c ho hM (zl1 ha hai (by omega)) (zl1 hb hbi (by omega))
 obtain ⟨k1,k2⟩:=hf.2 h
 exact ⟨k1,k2,zkp c ho h⟩
theorem z9e {k:Int}(hk:k=5∨k=11∨k=12){x:Tm}(hx:x.shape=true):(nT k [x]).shape=true:=by
 exact z1m (by rcases hk with rfl|rfl|rfl <;> rfl) (by rcases hk with rfl|rfl|rfl <;> decide) (by intro z hz;simp at hz;rw [hz];exact hx)
theorem z3w {k:Int}(hk:k=3∨k=8∨k=10){x y:Tm}(hx:x.shape=true)(hy:y.shape=true):(nT k [x,y]).shape=true:=by
 exact z1m (by rcases hk with rfl|rfl|rfl <;> rfl) (by rcases hk with rfl|rfl|rfl <;> decide) (by intro z hz;simp at hz;rcases hz with rfl|rfl;exact hx;exact hy)
theorem z43 {k:Int}{M:Int}(hM:0≤M){l:List Tm}(h:∀ x ∈ l,x.idx M):(nT k l).idx M:=z93 hM h
theorem zbj (y:Ty)(a b:Tm)(ha:a.shape=true)(hac:a.count≤2147483648)(hb:b.shape=true)(hbc:b.count≤2147483648)(h:4096<a.count∨4096<b.count) :
  Con1 Tryz.prog gl 112 [y.dv,a.dv,b.dv] [] (.tup [zeroTm.dv,dint 4]) []:=by
 have wa:=z2q (gl:=gl) a (z2b a ha) hac
 have wb:=z2q (gl:=gl) b (z2b b hb) hbc
 have hfa:=Tm.fold a
 have hfb:=Tm.fold b
 by_cases h1:4096<a.count
 ·have ka:¬ a.checkN=0:=fun h0=>by have:=((Tm.checkN_iff a).1 h0).2;omega
  refine t_in Tryz.func112 ?_
  intro X hP hgl hf hfn hn hR hids hfit
  refine t_g0 ?_
  refine t_c1 (j2 @hfa @ka) wa ?_
  refine t_g0 ?_
  refine t_r ?_
  simp [go_sem,hP,hgl,hn,zeroTm] <;> (try omega)
  all_goals exact t_f
 ·have kb:¬ b.checkN=0:=fun h0=>by have:=((Tm.checkN_iff b).1 h0).2;omega
  rw [(Tm.checkN_iff a).2 ⟨ha,by omega⟩] at wa
  refine t_in Tryz.func112 ?_
  intro X hP hgl hf hfn hn hR hids hfit
  refine t_g0 ?_
  refine t_c2 (j2 @hfa (j2 @hfb @kb)) wa wb ?_
  refine t_g0 ?_
  refine t_r ?_
  simp [go_sem,hP,hgl,hn,zeroTm] <;> (try omega)
  all_goals exact t_f
theorem z1c1 (a b:Tm)(ha:a.shape=true)(hb:b.shape=true)(h:¬ (4096<a.count∨4096<b.count)) :
  Con1 Tryz.prog gl 112 [(T.ty .unit).dv,a.dv,b.dv] [] (.tup [(nT 13 []).dv,dint 0]) []:=by
 have wa:=z2q (gl:=gl) a (z2b a ha) (by omega)
 have wb:=z2q (gl:=gl) b (z2b b hb) (by omega)
 rw [(Tm.checkN_iff a).2 ⟨ha,by omega⟩] at wa
 rw [(Tm.checkN_iff b).2 ⟨hb,by omega⟩] at wb
 have hfa:=Tm.fold a
 have hfb:=Tm.fold b
 have wu:=z1bg (gl:=gl)
 have e:(T.ty .unit).dv = .agg [dint 5,.sl []]:=rfl
 have e2:Tm.mk 13 0 (Ty.mk 0 []) []=nT 13 []:=rfl
 have hfu:=Tm.fold (nT 13 [])
 rw [e2] at wu
 rw [e]
 generalize nT 13 []=u at *
 refine t_in Tryz.func112 ?_
 intro X hP hgl hf hfn hn hR hids hfit
 refine t_g0 ?_
 refine t_c2 (j2 @hfa @hfb) wa wb ?_
 refine t_g0 ?_
 refine t_c1 trivial wu ?_
 refine t_r ?_
 simp [go_sem,hP,hgl,hn] <;> (try omega)
 all_goals exact t_f
theorem z1c2 (a b:Tm)(ha:a.shape=true)(hb:b.shape=true)(h:¬ (4096<a.count∨4096<b.count)) :
  Con1 Tryz.prog gl 112 [(T.ty .nat).dv,a.dv,b.dv] [] (.tup [(cutE (nT 3 [nT 3 [greatT,a],b])).1.dv,dint (cutE (nT 3 [nT 3 [greatT,a],b])).2]) []:=by
 have wa:=z2q (gl:=gl) a (z2b a ha) (by omega)
 have wb:=z2q (gl:=gl) b (z2b b hb) (by omega)
 rw [(Tm.checkN_iff a).2 ⟨ha,by omega⟩] at wa
 rw [(Tm.checkN_iff b).2 ⟨hb,by omega⟩] at wb
 have hfa:=Tm.fold a
 have hfb:=Tm.fold b
 have sg:greatT.shape=true:=by decide
 have w1:=z1bu (gl:=gl)
 have w2:=z2e (gl:=gl) greatT a
 have w3:=z2e (gl:=gl) (nT 3 [greatT,a]) b
 have cg:greatT.count≤1000:=by decide
 have c1:(nT 3 [nT 3 [greatT,a],b]).count=1+(1+(greatT.count+(a.count+0))+(b.count+0)):=rfl
 have w4:=z61 (gl:=gl) (nT 3 [nT 3 [greatT,a],b]) (z3w (.inl rfl) (z3w (.inl rfl) sg ha) hb) (by omega)
 have e:(T.ty .nat).dv = .agg [dint 1,.sl []]:=rfl
 rw [e]
 generalize cutE (nT 3 [nT 3 [greatT,a],b])=z at *
 obtain ⟨z1,z2⟩:=z
 simp only at w4 ⊢
 have hfz:=Tm.fold z1
 generalize nT 3 [nT 3 [greatT,a],b]=x2 at *
 generalize nT 3 [greatT,a]=x1 at *
 generalize greatT=g at *
 refine t_in Tryz.func112 ?_
 intro X hP hgl hf hfn hn hR hids hfit
 refine t_g0 ?_
 refine t_c2 (j2 @hfa @hfb) wa wb ?_
 refine t_g0 ?_
 refine t_c4 (j2 @hfa @hfb) w1 w2 w3 w4 ?_
 refine t_r ?_
 simp [go_sem,hP,hgl,hn] <;> (try omega)
 all_goals exact t_f
set_option maxHeartbeats 1000000 in
theorem z1c3 (s t:T)(a b:Tm)(ha:a.shape=true)(hb:b.shape=true)(h:¬ (4096<a.count∨4096<b.count))(X Y:Tm × Int)
  (wx:Con1 Tryz.prog gl 112 [s.ty.dv,(nT 11 [a]).dv,(nT 11 [b]).dv] [] (.tup [X.1.dv,dint X.2]) [])
  (wy:Con1 Tryz.prog gl 112 [t.ty.dv,(nT 12 [a]).dv,(nT 12 [b]).dv] [] (.tup [Y.1.dv,dint Y.2]) [])
  (wc:X.2=0→Y.2=0→Con1 Tryz.prog gl 110 [(nT 10 [X.1,Y.1]).dv] [] (.tup [(cutE (nT 10 [X.1,Y.1])).1.dv,dint (cutE (nT 10 [X.1,Y.1])).2]) []) :
  Con1 Tryz.prog gl 112 [(T.ty (.pair s t)).dv,a.dv,b.dv] [] (.tup [(if X.2=0 then if Y.2=0 then cutE (nT 10 [X.1,Y.1]) else (zeroTm,Y.2) else (zeroTm,X.2)).1.dv,dint (if X.2=0 then if Y.2=0 then cutE (nT 10 [X.1,Y.1]) else (zeroTm,Y.2) else (zeroTm,X.2)).2]) []:=by
 have wa:=z2q (gl:=gl) a (z2b a ha) (by omega)
 have wb:=z2q (gl:=gl) b (z2b b hb) (by omega)
 rw [(Tm.checkN_iff a).2 ⟨ha,by omega⟩] at wa
 rw [(Tm.checkN_iff b).2 ⟨hb,by omega⟩] at wb
 have hfa:=Tm.fold a
 have hfb:=Tm.fold b
 have hfs:=Ty.fold s.ty
 have hft:=Ty.fold t.ty
 have n1:=z4i (gl:=gl) 11 [a]
 have n2:=z4i (gl:=gl) 11 [b]
 have n3:=z4i (gl:=gl) 12 [a]
 have n4:=z4i (gl:=gl) 12 [b]
 have n5:=z4i (gl:=gl) 10 [X.1,Y.1]
 have e1:∀ k l,Tm.mk k 0 (Ty.mk 0 []) l=nT k l:=fun _ _=>rfl
 rw [e1] at n1 n2 n3 n4 n5
 simp only [List.map_cons,List.map_nil,Tm.cells_eq a,Tm.cells_eq b,Tm.cells_eq X.1,Tm.cells_eq Y.1] at n1 n2 n3 n4 n5
 have hfp1:=Tm.fold (nT 11 [a])
 have hfp2:=Tm.fold (nT 11 [b])
 have e:(T.ty (.pair s t)).dv = .agg [dint 3,.sl [s.ty.cells,t.ty.cells]]:=rfl
 rw [e,Ty.cells_eq s.ty,Ty.cells_eq t.ty]
 generalize nT 11 [a]=a1 at *
 generalize nT 11 [b]=b1 at *
 generalize nT 12 [a]=a2 at *
 generalize nT 12 [b]=b2 at *
 generalize nT 10 [X.1,Y.1]=xy at *
 obtain ⟨x1,x2⟩:=X
 obtain ⟨y1,y2⟩:=Y
 simp only at wx wy wc n5 ⊢
 have hfx:=Tm.fold x1
 have hfy:=Tm.fold y1
 generalize s.ty=sy at *
 generalize t.ty=ty at *
 by_cases hx:x2=0
 rotate_left
 ·rw [if_neg hx]
  refine t_in Tryz.func112 ?_
  intro X hP hgl hf hfn hn hR hids hfit
  refine t_g0 ?_
  refine t_c2 (j2 @hfa @hfb) wa wb ?_
  refine t_g0 ?_
  refine t_c3 (j2 @hfa (j2 @hfb @hfs)) n1 n2 wx ?_
  refine t_g @hx ?_
  refine t_r ?_
  simp [go_sem,hP,hgl,hn,zeroTm] <;> (try omega)
  all_goals exact t_f
 rw [if_pos hx]
 by_cases hy:y2=0
 rotate_left
 ·rw [if_neg hy]
  refine t_in Tryz.func112 ?_
  intro X hP hgl hf hfn hn hR hids hfit
  refine t_g0 ?_
  refine t_c2 (j2 @hfa @hfb) wa wb ?_
  refine t_g0 ?_
  refine t_c3 (j2 @hfa (j2 @hfb @hfs)) n1 n2 wx ?_
  refine t_g @hx ?_
  refine t_c3 (j2 @hfa (j2 @hfb @hft)) n3 n4 wy ?_
  refine t_g @hy ?_
  refine t_r ?_
  simp [go_sem,hP,hgl,hn,zeroTm] <;> (try omega)
  all_goals exact t_f
 rw [if_pos hy]
 have wc:=wc hx hy
 generalize cutE xy=z at *
 obtain ⟨z1,z2⟩:=z
 simp only at wc ⊢
 refine t_in Tryz.func112 ?_
 intro X hP hgl hf hfn hn hR hids hfit
 refine t_g0 ?_
 refine t_c2 (j2 @hfa @hfb) wa wb ?_
 refine t_g0 ?_
 refine t_c3 (j2 @hfa (j2 @hfb @hfs)) n1 n2 wx ?_
 refine t_g @hx ?_
 refine t_c3 (j2 @hfa (j2 @hfb @hft)) n3 n4 wy ?_
 refine t_g @hy ?_
 refine t_c2 (j2 @hfx @hfy) n5 wc ?_
 refine t_r ?_
 simp [go_sem,hP,hgl,hn] <;> (try omega)
 all_goals exact t_f
set_option maxHeartbeats 1000000 in
theorem z1c4 (s t:T)(a b:Tm)(M:Int)(hM:M≤536870912)(ha:a.shape=true)(hai:a.idx M)(hb:b.shape=true)(hbi:b.idx M)(h:¬ (4096<a.count∨4096<b.count))(X:Tm × Int)
  (wx:Con1 Tryz.prog gl 112 [t.ty.dv,(nT 3 [a.upN 0 1,vT 0]).dv,(nT 3 [b.upN 0 1,vT 0]).dv] [] (.tup [X.1.dv,dint X.2]) [])
  (wc:X.2=0→Con1 Tryz.prog gl 110 [(Tm.mk 2 0 s.ty [X.1]).dv] [] (.tup [(cutE (Tm.mk 2 0 s.ty [X.1])).1.dv,dint (cutE (Tm.mk 2 0 s.ty [X.1])).2]) []) :
  Con1 Tryz.prog gl 112 [(T.ty (.fn s t)).dv,a.dv,b.dv] [] (.tup [(if X.2=0 then cutE (Tm.mk 2 0 s.ty [X.1]) else (zeroTm,X.2)).1.dv,dint (if X.2=0 then cutE (Tm.mk 2 0 s.ty [X.1]) else (zeroTm,X.2)).2]) []:=by
 have wa:=z2q (gl:=gl) a (z2b a ha) (by omega)
 have wb:=z2q (gl:=gl) b (z2b b hb) (by omega)
 rw [(Tm.checkN_iff a).2 ⟨ha,by omega⟩] at wa
 rw [(Tm.checkN_iff b).2 ⟨hb,by omega⟩] at wb
 have hfa:=Tm.fold a
 have hfb:=Tm.fold b
 have hfs:=Ty.fold s.ty
 have hft:=Ty.fold t.ty
 have u1:=z7f (gl:=gl) a 1 (by decide) ha (by omega) (Tm.idx_mono hM hai)
 have u2:=z7f (gl:=gl) b 1 (by decide) hb (by omega) (Tm.idx_mono hM hbi)
 have wv:=z5x (gl:=gl) 0
 have ev0:Tm.mk 1 0 (Ty.mk 0 []) []=vT 0:=rfl
 rw [ev0] at wv
 have p1:=z2e (gl:=gl) (a.upN 0 1) (vT 0)
 have p2:=z2e (gl:=gl) (b.upN 0 1) (vT 0)
 have wl:=z3u (gl:=gl) s.ty X.1
 have hc1:((1:Nat):Int)=1:=rfl
 rw [hc1] at u1 u2
 have e:(T.ty (.fn s t)).dv = .agg [dint 4,.sl [s.ty.cells,t.ty.cells]]:=rfl
 rw [e,Ty.cells_eq s.ty,Ty.cells_eq t.ty]
 generalize nT 3 [a.upN 0 1,vT 0]=a1 at *
 generalize nT 3 [b.upN 0 1,vT 0]=b1 at *
 generalize a.upN 0 1=a0 at *
 generalize b.upN 0 1=b0 at *
 generalize vT 0=v0 at *
 obtain ⟨x1,x2⟩:=X
 simp only at wx wc wl ⊢
 have hfx:=Tm.fold x1
 generalize Tm.mk 2 0 s.ty [x1]=lx at *
 generalize s.ty=sy at *
 generalize t.ty=ty at *
 by_cases hx:x2=0
 rotate_left
 ·rw [if_neg hx]
  refine t_in Tryz.func112 ?_
  intro X hP hgl hf hfn hn hR hids hfit
  refine t_g0 ?_
  refine t_c2 (j2 @hfa @hfb) wa wb ?_
  refine t_g0 ?_
  refine t_c7 (j2 @hfa (j2 @hfb @hft)) u1 wv p1 u2 wv p2 wx ?_
  refine t_g @hx ?_
  refine t_r ?_
  simp [go_sem,hP,hgl,hn,zeroTm] <;> (try omega)
  all_goals exact t_f
 rw [if_pos hx]
 have wc:=wc hx
 generalize cutE lx=z at *
 obtain ⟨z1,z2⟩:=z
 simp only at wc ⊢
 refine t_in Tryz.func112 ?_
 intro X hP hgl hf hfn hn hR hids hfit
 refine t_g0 ?_
 refine t_c2 (j2 @hfa @hfb) wa wb ?_
 refine t_g0 ?_
 refine t_c7 (j2 @hfa (j2 @hfb @hft)) u1 wv p1 u2 wv p2 wx ?_
 refine t_g @hx ?_
 refine t_c2 (j2 @hfx @hfs) wl wc ?_
 refine t_r ?_
 simp [go_sem,hP,hgl,hn] <;> (try omega)
 all_goals exact t_f
theorem zei:∀ (c:T) (a b:Tm) (M:Int),c.ok→c.bare→10≤M→M+c.size≤536870912→a.shape=true→a.idx M→a.count≤2147483648→b.shape=true→b.idx M→b.count≤2147483648 →
  Con1 Tryz.prog gl 112 [c.ty.dv,a.dv,b.dv] [] (.tup [(max33 c.ty a b).1.dv,dint (max33 c.ty a b).2]) []:=by
 intro c
 induction c with
 | nat=>
  intro a b M ho hbr hM hMs ha hai hac hb hbi hbc
  by_cases h:4096<a.count∨4096<b.count
  ·rw [z30 h];exact zbj _ a b ha hac hb hbc h
  ·rw [zec h];exact z1c2 a b ha hb h
 | list=>intro a b M ho hb;exact hb.elim
 | unit=>
  intro a b M ho hbr hM hMs ha hai hac hb hbi hbc
  by_cases h:4096<a.count∨4096<b.count
  ·rw [z30 h];exact zbj _ a b ha hac hb hbc h
  ·rw [zkl h];exact z1c1 a b ha hb h
 | pair s t ihs iht=>
  intro a b M ho hbr hM hMs ha hai hac hb hbi hbc
  by_cases h:4096<a.count∨4096<b.count
  ·rw [z30 h];exact zbj _ a b ha hac hb hbc h
  rw [zkm ho h]
  have ho':=ho
  simp only [T.ok,T.size] at ho' hMs
  have so:s.ok:=by unfold T.ok;omega
  have to:t.ok:=by unfold T.ok;omega
  have ca:∀ k,(nT k [a]).count=1+(a.count+0):=fun _=>rfl
  have cb:∀ k,(nT k [b]).count=1+(b.count+0):=fun _=>rfl
  have ia:∀ k,(nT k [a]).idx M:=fun k=>z43 (by omega) (by intro x hx;simp at hx;rw [hx];exact hai)
  have ib:∀ k,(nT k [b]).idx M:=fun k=>z43 (by omega) (by intro x hx;simp at hx;rw [hx];exact hbi)
  have a1:=z9e (k:=11) (.inr (.inl rfl)) ha
  have a2:=z9e (k:=12) (.inr (.inr rfl)) ha
  have b1:=z9e (k:=11) (.inr (.inl rfl)) hb
  have b2:=z9e (k:=12) (.inr (.inr rfl)) hb
  have wx:=ihs (nT 11 [a]) (nT 11 [b]) M so hbr.1 hM (by omega) a1 (ia 11) (by rw [ca];omega) b1 (ib 11) (by rw [cb];omega)
  have wy:=iht (nT 12 [a]) (nT 12 [b]) M to hbr.2 hM (by omega) a2 (ia 12) (by rw [ca];omega) b2 (ib 12) (by rw [cb];omega)
  refine z1c3 s t a b ha hb h _ _ wx wy fun h1 h2=>?_
  obtain ⟨k1,-,k3⟩:=z9d s so hM a1 (ia 11) b1 (ib 11) h1
  obtain ⟨l1,-,l3⟩:=z9d t to hM a2 (ia 12) b2 (ib 12) h2
  exact z61 _ (z3w (.inr (.inr rfl)) k1 l1) (by show 1+(_+(_+0))≤_;omega)
 | fn s t ihs iht=>
  intro a b M ho hbr hM hMs ha hai hac hb hbi hbc
  by_cases h:4096<a.count∨4096<b.count
  ·rw [z30 h];exact zbj _ a b ha hac hb hbc h
  rw [zkn ho h]
  have ho':=ho
  simp only [T.ok,T.size] at ho' hMs
  have so:s.ok:=by unfold T.ok;omega
  have to:t.ok:=by unfold T.ok;omega
  have hs1:1≤s.size:=by cases s <;> simp only [T.size] <;> omega
  have ua:(a.upN 0 1).shape=true:=z7b (by decide) ha
  have ub:(b.upN 0 1).shape=true:=z7b (by decide) hb
  have uia:(a.upN 0 1).idx (M+1):=z92 (by decide) hai
  have uib:(b.upN 0 1).idx (M+1):=z92 (by decide) hbi
  have va:(nT 3 [a.upN 0 1,vT 0]).shape=true:=z3w (.inl rfl) ua (z2k (i:=0))
  have vb:(nT 3 [b.upN 0 1,vT 0]).shape=true:=z3w (.inl rfl) ub (z2k (i:=0))
  have ia:(nT 3 [a.upN 0 1,vT 0]).idx (M+1):=z43 (by omega) (by intro x hx;simp at hx;rcases hx with rfl|rfl;exact uia;exact z2t (by decide) (by omega))
  have ib:(nT 3 [b.upN 0 1,vT 0]).idx (M+1):=z43 (by omega) (by intro x hx;simp at hx;rcases hx with rfl|rfl;exact uib;exact z2t (by decide) (by omega))
  have ca:(nT 3 [a.upN 0 1,vT 0]).count=1+((a.upN 0 1).count+(1+0)):=rfl
  have cb:(nT 3 [b.upN 0 1,vT 0]).count=1+((b.upN 0 1).count+(1+0)):=rfl
  have cu:=z2r a 0 1
  have cv:=z2r b 0 1
  have wx:=iht (nT 3 [a.upN 0 1,vT 0]) (nT 3 [b.upN 0 1,vT 0]) (M+1) to hbr.2 (by omega) (by omega) va ia (by omega) vb ib (by omega)
  refine z1c4 s t a b M (by omega) ha hai hb hbi h _ wx fun h1=>?_
  obtain ⟨k1,-,k3⟩:=z9d t to (by omega) va ia vb ib h1
  exact z61 _ (z1f rfl (.inl rfl) (T.ok_ty so) (by intro z hz;simp at hz;rw [hz];exact k1)) (by show 1+(_+0)≤_;omega)
end
section
variable {gl:Globs}
theorem z9f (x:Tm):runT (cutE x)=cutE x:=by
 by_cases h:4096<x.count
 ·rw [z3v h];rfl
 ·rw [z2z h];rfl
theorem zbk (m:Int)(x:Tm):runT (if m=0 then cutE x else (zeroTm,m))=if m=0 then cutE x else (zeroTm,m):=by
 by_cases h:m=0
 ·rw [if_pos h,z9f]
 ·rw [if_neg h];unfold runT;simp only;rw [if_neg h]
theorem z1c5:∀ (c:T) (ho:c.ok) (hb:c.bare) (a b:Tm),runT (max33 c.ty a b)=max33 c.ty a b:=by
 intro c ho hb a b
 by_cases h:4096<a.count∨4096<b.count
 ·rw [z30 h];rfl
 cases c with
 | nat=>rw [zec h,z9f]
 | list=>exact hb.elim
 | unit=>rw [zkl h];rfl
 | pair s t=>
  rw [zkm ho h]
  by_cases h1:(max33 s.ty (nT 11 [a]) (nT 11 [b])).2=0
  ·rw [if_pos h1,zbk]
  ·rw [if_neg h1];unfold runT;simp only;rw [if_neg h1]
 | fn s t=>rw [zkn ho h,zbk]
structure Good33 (M:Int)(x:Tm):Prop where
 shape:x.shape=true
 idx:x.idx M
 small:x.count≤4096
theorem zej {y:Ty}(hy:y.ok):∃ c:T,bareN y=c.ty∧c.ok∧c.bare:=by
 obtain ⟨a,rfl⟩:=T.of_shape y hy.1
 have:=hy.2
 rw [T.ty_count] at this
 exact ⟨a.maj,(z3o a).symm,z29 this,a.maj_bare⟩
set_option maxHeartbeats 4000000 in
set_option maxRecDepth 100000 in
theorem z1c6 (t:Tm):∀ {M:Int},t.shape=true→t.idx M→10≤M→M+100 * t.count≤536800000→t.count≤4096 →
  Con1 Tryz.prog gl 65 [t.dv] [] (.tup [(runT (majE t)).1.dv,dint (runT (majE t)).2]) []:=by
 induction t using Tm.ind with
 | h t ih=>
 intro M hs hi hM hMc hcc
 obtain ⟨hlen,hi0,hv,hty,hsa⟩:=Tm.shape_node hs
 have hix:=(Tm.idx_eq t _).1 hi
 have hct:=Tm.count_eq t
 have hc1:1≤t.count:=Tm.count_pos t
 have wnat:=zbh (gl:=gl)
 refine t_in Tryz.func65 ?_
 intro X hP hgl hf hfn hn hR hids hfit
 have hlen2:=Tm.fit_len (hfit t.dv (by simp))
 rw [zas] at hR
 refine t_g0 ?_
 refine t_a ?_
 refine z0c [(1004,0)] (by simp [go_sem]) (by simp [go_sem,majE.majsE] <;> omega) (by simp [go_sem]) (z35 (t.args) (fun done=>(majE.majsE done).2=0) (fun done rest=>[(.slot 5,.one (.v (dint done.length))),(.slot 1,.one (.loc 1 0)),(.loc 1,.row ([.v (dint t.kind),.v (dint t.index),.v (dint t.type.kind),.v (.sl (t.type.args.map Ty.cells)),.v (.sl (t.args.map Tm.cells))])),(.slot 2,.one (.loc 2 0)),(.loc 2,.row ([.v (dint 0),.v (dint 0),.v (dint 0),.own 0 [],.own 0 []])),(.slot 4,.one (.own 1004 ((majE.majsE done).1.map Tm.cells))),(.tok 1004,.tk 5 (majE.majsE done).1.length)]) (rfl) ?_ ?_)
 ·intro done x rest hL hg0 hI hnext
  have hlt:done.length<t.args.length:=by rw [hL];simp
  have hxm:=List.mem_of_getElem? hg0
  have hcx:=Tm.count_mem hxm
  have w:=ih x hxm (hsa x hxm) (hix.2 x hxm) hM (by omega) (by omega)
  have hdl:=(ze7 done hI).1
  have hfx:=Tm.fold x
  refine z00 ?_
  refine z07 ?_
  refine t_g @hg0 ?_
  by_cases he:(majE x).2=0
  ·have hrun:runT (majE x)=majE x:=if_pos he
   rw [hrun] at w
   have hsn:=z1ax done x hI he
   refine t_c1 (j2 @hg0 @hfx) w ?_
   refine t_g @he ?_
   refine t_gt (wr [(1004,41)]) (j2 @hsn (j2 @hdl (Tm.cells_eq (majE x).1))) @hdl (hnext (by rw [hsn]))
  ·have hrun:runT (majE x)=(zeroTm,(majE x).2):=if_neg he
   rw [hrun] at w
   have hst:=z1ay done x rest hI he
   rw [← hL] at hst
   have hru:runT ((zeroTm,(majE x).2):Tm × Int)=(zeroTm,(majE x).2):=by unfold runT;simp only;rw [if_neg he]
   rw [hst,if_neg he,hru] at hR
   generalize (majE x).2=ex at *
   refine t_c1 (j2 @hg0 @hfx) w ?_
   refine t_g @he ?_
   refine t_r ?_
   simp [go_sem,hP,hgl,hn,zeroTm] <;> (try omega)
   all_goals exact t_f
 ·intro h0
  obtain ⟨hl,hx⟩:=ze7 t.args h0
  rw [if_pos h0] at hR
  have all:∀ z ∈ (majE.majsE t.args).1,Good33 (M+100 * ((t.count:Int) - 1)) z:=by
   intro z hz
   obtain ⟨i,hi⟩:=List.getElem?_of_mem hz
   have hil:=(List.getElem?_eq_some_iff.1 hi).1
   have hxi:t.args[i]? = some t.args[i]:=List.getElem?_eq_getElem (by omega)
   obtain ⟨x1,x2⟩:=hx i _ hxi
   have hm:=List.getElem_mem (l:=t.args) (n:=i) (by omega)
   have hc:=Tm.count_mem hm
   have hf:=zka _ (hsa _ hm) (hix.2 _ hm) hM
   rw [hi] at x2;cases x2
   obtain ⟨k1,k2⟩:=hf.2 x1
   exact ⟨k1,Tm.idx_mono (by omega) k2,z1bo _ (hsa _ hm) x1⟩
  clear hx
  obtain ⟨l,hle⟩:∃ l,l=(majE.majsE t.args).1:=⟨_,rfl⟩
  rw [← hle] at hR hl all ⊢
  generalize hM1:M+100 * ((t.count:Int) - 1)=M1 at all
  have hM2:10≤M1:=by omega
  have hM3:M1+100≤536870000:=by omega
  have hlb:l.length≤3:=by
   have:=z1az t.kind
   omega
  have hla:(l.length:Int)=arityI t.kind:=by rw [hl];exact hlen
  clear ih
  refine z00 ?_
  refine t_no ?_
  refine t_g0 ?_
  refine t_c1 trivial wnat ?_
  by_cases h7:t.kind=7
  ·have hn7:majNodeE t.kind t.index t.type t.args l=(nT 4 [],0):=by unfold majNodeE;rw [if_pos h7]
   rw [hn7,show runT (nT 4 [],0)=(nT 4 [],0) from rfl] at hR
   have w:=z4i (gl:=gl) 4 []
   rw [show Tm.mk 4 0 (Ty.mk 0 []) []=nT 4 [] from rfl] at w
   have hfw:=Tm.fold (nT 4 [])
   simp only [List.map_nil] at w
   generalize nT 4 []=z at *
   refine t_g @h7 ?_
   refine t_c1 trivial w ?_
   refine t_r ?_
   simp [go_sem,hP,hgl,hn] <;> (try omega)
   all_goals exact t_f
  by_cases h2:t.kind=2
  ·rw [h2] at hla
   match l,hla,all,hR with
   | [p],_,all,hR=>
    obtain ⟨gp1,gp2,gp3⟩:=all p (by simp)
    rw [if_pos (.inl h2)] at hty
    have hn2:majNodeE t.kind t.index t.type t.args [p]=cutE (Tm.mk 2 0 (bareN t.type) [p]):=by
     unfold majNodeE
     rw [if_neg h7,if_neg (by rw [h2];decide),if_pos h2]
     rfl
    rw [hn2,z9f] at hR
    obtain ⟨c,hc,hco,hcb⟩:=zej hty
    have wo:=zeg (gl:=gl) t.type
    rw [hc] at wo hR
    have wl:=z3u (gl:=gl) c.ty p
    have wc:=z61 (gl:=gl) (Tm.mk 2 0 c.ty [p]) (z1f rfl (.inl rfl) (T.ok_ty hco) (by intro z hz;simp at hz;rw [hz];exact gp1)) (by show 1+(p.count+0)≤_;omega)
    have hfp:=Tm.fold p
    have hcp:=Tm.cells_eq p
    have hft:=Ty.fold t.type
    have hfc:=Ty.fold c.ty
    generalize c.ty=y at *
    generalize Tm.mk 2 0 y [p]=lp at *
    have hfl:=Tm.fold lp
    generalize cutE lp=z at *
    obtain ⟨z1,z2⟩:=z
    simp only at wc hR
    refine t_g (j2 @h7 (j2 @h2 @hcp)) ?_
    refine t_c3 (j2 @hft (j2 @hfp @hcp)) wo wl wc ?_
    refine t_r ?_
    simp [go_sem,hP,hgl,hn] <;> (try omega)
    all_goals exact t_f
  by_cases h8:t.kind=8
  ·rw [h8] at hla
   match l,hla,all,hR with
   | [p,q],_,all,hR=>
    obtain ⟨gp1,gp2,gp3⟩:=all p (by simp)
    obtain ⟨gq1,gq2,gq3⟩:=all q (by simp)
    have hn8:majNodeE t.kind t.index t.type t.args [p,q]=max33 (T.ty .nat) p (nT 5 [q]):=by rw [h8];exact z1bj (by omega)
    rw [hn8,z1c5 .nat z0r trivial] at hR
    have w5:=z4i (gl:=gl) 5 [q]
    rw [show Tm.mk 5 0 (Ty.mk 0 []) [q]=nT 5 [q] from rfl] at w5
    have wm:=zei (gl:=gl) .nat p (nT 5 [q]) M1 z0r trivial hM2 (by simp only [T.size];omega) gp1 gp2 (by omega) (z9e (.inl rfl) gq1) (z43 (by omega) (by intro x hx;simp at hx;rw [hx];exact gq2)) (by show 1+(q.count+0)≤_;omega)
    have hfp:=Tm.fold p
    have hcp:=Tm.cells_eq p
    have hfq:=Tm.fold q
    have hcq:=Tm.cells_eq q
    simp only [List.map_cons,List.map_nil,hcq] at w5
    have hf5:=Tm.fold (nT 5 [q])
    generalize max33 (T.ty .nat) p (nT 5 [q])=z at *
    rw [show (T.ty .nat).dv = .agg [dint 1,.sl []] from rfl] at wm
    obtain ⟨z1,z2⟩:=z
    simp only at wm hR
    generalize nT 5 [q]=sq at *
    refine t_g (j2 @h7 (j2 @h2 (j2 @h8 (j2 @hcp @hcq)))) ?_
    refine t_c2 (j2 @hfp (j2 @hcp (j2 @hfq @hcq))) w5 wm ?_
    refine t_r ?_
    simp [go_sem,hP,hgl,hn] <;> (try omega)
    all_goals exact t_f
  by_cases h6:t.kind=6
  ·rw [h6] at hla
   match l,hla,all,hR with
   | [p,q,r],_,all,hR=>
    obtain ⟨gp1,gp2,gp3⟩:=all p (by simp)
    obtain ⟨gq1,gq2,gq3⟩:=all q (by simp)
    obtain ⟨gr1,gr2,gr3⟩:=all r (by simp)
    rw [if_pos (.inr (.inl h6))] at hty
    obtain ⟨c,hc,hco,hcb⟩:=zej hty
    have hcs:c.size≤64:=hco
    have hn6:=z1bk (i:=t.index) (y:=t.type) (a:=t.args) (p:=p) (q:=q) (r:=r)
    rw [h6] at hR
    rw [hn6,hc,zbk] at hR
    have wo:=zeg (gl:=gl) t.type
    rw [hc] at wo
    have uq:(q.upN 0 2).shape=true:=z7b (by decide) gq1
    have uqi:(q.upN 0 2).idx (M1+2):=z92 (by decide) gq2
    have cu:=z2r q 0 2
    have sv0:(vT 0).shape=true:=z2k (i:=0)
    have sv1:(vT 1).shape=true:=z2k (i:=1)
    have iv0:(vT 0).idx (M1+2):=z2t (by decide) (by omega)
    have iv1:(vT 1).idx (M1+2):=z2t (by decide) (by omega)
    have sn:(recNext q).shape=true:=z3w (.inl rfl) (z3w (.inl rfl) uq sv1) sv0
    have inn:(recNext q).idx (M1+2):=z43 (by omega) (by intro x hx;simp at hx;rcases hx with rfl|rfl;exact z43 (by omega) (by intro x hx;simp at hx;rcases hx with rfl|rfl;exact uqi;exact iv1);exact iv0)
    have cn:(recNext q).count=1+((1+((q.upN 0 2).count+(1+0)))+(1+0)):=rfl
    have wu:=z7f (gl:=gl) q 2 (by decide) gq1 gq3 (Tm.idx_mono (by omega) gq2)
    have wv0:=z5x (gl:=gl) 0
    have wv1:=z5x (gl:=gl) 1
    rw [show Tm.mk 1 0 (Ty.mk 0 []) []=vT 0 from rfl] at wv0
    rw [show Tm.mk 1 1 (Ty.mk 0 []) []=vT 1 from rfl] at wv1
    have wa1:=z2e (gl:=gl) (q.upN 0 2) (vT 1)
    have wa2:=z2e (gl:=gl) (nT 3 [q.upN 0 2,vT 1]) (vT 0)
    rw [show nT 3 [nT 3 [q.upN 0 2,vT 1],vT 0]=recNext q from rfl] at wa2
    have wm:=zei (gl:=gl) c (vT 0) (recNext q) (M1+2) hco hcb (by omega) (by omega) sv0 iv0 (by decide) sn inn (by omega)
    have hsh:=fun h=>z9d (a:=vT 0) (b:=recNext q) c hco (M:=M1+2) (by omega) sv0 iv0 sn inn h
    have hc2:((2:Nat):Int)=2:=rfl
    rw [hc2] at wu
    have hft:=Ty.fold t.type
    have hfc:=Ty.fold c.ty
    have hccy:=Ty.cells_eq c.ty
    have hfp:=Tm.fold p
    have hfq:=Tm.fold q
    have hcp:=Tm.cells_eq p
    have hcq:=Tm.cells_eq q
    have hcr:=Tm.cells_eq r
    have hfn1:=Tm.fold (recNext q)
    generalize max33 c.ty (vT 0) (recNext q)=X at *
    obtain ⟨m1,m2⟩:=X
    simp only at wm hsh hR
    generalize nT 3 [q.upN 0 2,vT 1]=q1 at *
    generalize recNext q=q2 at *
    generalize q.upN 0 2=q0 at *
    generalize vT 0=v0 at *
    generalize vT 1=v1 at *
    by_cases hm:m2=0
    rotate_left
    ·rw [if_neg hm] at hR
     generalize c.ty=y at *
     refine t_g (j2 @h7 (j2 @h2 (j2 @h8 @h6))) ?_
     refine t_c1 @hft wo ?_
     refine t_g (j2 @hcp (j2 @hcq @hcr)) ?_
     refine t_c5 (j2 @hfq @hcq) wu wv1 wa1 wv0 wa2 ?_
     refine t_g0 ?_
     refine t_c2 (j2 @hfc @hfn1) wv0 wm ?_
     refine t_g @hm ?_
     refine t_r ?_
     simp [go_sem,hP,hgl,hn,zeroTm] <;> (try omega)
     all_goals exact t_f
    rw [if_pos hm] at hR
    obtain ⟨x1,x2,x3⟩:=hsh hm
    have wl1:=z3u (gl:=gl) c.ty m1
    have wl2:=z3u (gl:=gl) (Ty.mk 1 []) (Tm.mk 2 0 c.ty [m1])
    have sl1:(Tm.mk 2 0 c.ty [m1]).shape=true:=z1f rfl (.inl rfl) (T.ok_ty hco) (by intro z hz;simp at hz;rw [hz];exact x1)
    have sl2:(Tm.mk 2 0 natY [Tm.mk 2 0 c.ty [m1]]).shape=true:=z1f rfl (.inl rfl) (T.ok_ty z0r) (by intro z hz;simp at hz;rw [hz];exact sl1)
    have wc:=z61 (gl:=gl) (Tm.mk 6 0 c.ty [p,Tm.mk 2 0 natY [Tm.mk 2 0 c.ty [m1]],r]) (z1f rfl (.inr (.inl rfl)) (T.ok_ty hco) (by intro z hz;simp at hz;rcases hz with rfl|rfl|rfl;exact gp1;exact sl2;exact gr1)) (by show 1+(p.count+((1+((1+(m1.count+0))+0))+(r.count+0)))≤_;omega)
    have hf6:DV.agg [dint 6,dint 0,dint c.ty.kind,.sl (c.ty.args.map Ty.cells),.sl [p.cells,(Tm.mk 2 0 natY [Tm.mk 2 0 c.ty [m1]]).cells,r.cells]]=(Tm.mk 6 0 c.ty [p,Tm.mk 2 0 natY [Tm.mk 2 0 c.ty [m1]],r]).dv:=by
     have:=Tm.fold (Tm.mk 6 0 c.ty [p,Tm.mk 2 0 natY [Tm.mk 2 0 c.ty [m1]],r])
     simpa [Tm.kind,Tm.index,Tm.type,Tm.args] using this
    rw [show (Ty.mk 1 []).dv = .agg [dint 1,.sl []] from rfl] at wl2
    have hfm:=Tm.fold m1
    generalize c.ty=y at *
    generalize Tm.mk 6 0 y [p,Tm.mk 2 0 natY [Tm.mk 2 0 y [m1]],r]=tz at *
    generalize Tm.mk 2 0 natY [Tm.mk 2 0 y [m1]]=l2 at *
    generalize Tm.mk 2 0 y [m1]=l1 at *
    have hcl2:=Tm.cells_eq l2
    rw [hcp,hcl2,hcr] at hf6
    generalize cutE tz=z at *
    obtain ⟨z1,z2⟩:=z
    simp only at wc hR
    refine t_g (j2 @h7 (j2 @h2 (j2 @h8 @h6))) ?_
    refine t_c1 @hft wo ?_
    refine t_g (j2 @hcp (j2 @hcq @hcr)) ?_
    refine t_c5 (j2 @hfq @hcq) wu wv1 wa1 wv0 wa2 ?_
    refine t_g0 ?_
    refine t_c2 (j2 @hfc @hfn1) wv0 wm ?_
    refine t_g @hm ?_
    refine t_c3 (j2 @hfc (j2 @hfm (j2 @hfp (j2 @hcp (j2 @hcr @hf6))))) wl1 wl2 wc ?_
    refine t_r ?_
    simp [go_sem,hP,hgl,hn] <;> (try omega)
    all_goals exact t_f
  by_cases h9:t.kind=9
  ·rw [h9] at hla
   match l,hla,all,hR with
   | [p,q,r],_,all,hR=>
    obtain ⟨gp1,gp2,gp3⟩:=all p (by simp)
    obtain ⟨gq1,gq2,gq3⟩:=all q (by simp)
    obtain ⟨gr1,gr2,gr3⟩:=all r (by simp)
    rw [if_pos (.inr (.inr h9))] at hty
    obtain ⟨c,hc,hco,hcb⟩:=zej hty
    have hcs:c.size≤64:=hco
    have hn9:=z1bl (i:=t.index) (y:=t.type) (a:=t.args) (p:=p) (q:=q) (r:=r)
    rw [h9] at hR
    rw [hn9,hc,zbk] at hR
    have wo:=zeg (gl:=gl) t.type
    rw [hc] at wo
    have uq:(q.upN 0 3).shape=true:=z7b (by decide) gq1
    have uqi:(q.upN 0 3).idx (M1+3):=z92 (by decide) gq2
    have up1:(p.upN 0 1).shape=true:=z7b (by decide) gp1
    have cu:=z2r q 0 3
    have cup:=z2r p 0 1
    have sv0:(vT 0).shape=true:=z2k (i:=0)
    have sv2:(vT 2).shape=true:=z2k (i:=2)
    have iv0:(vT 0).idx (M1+3):=z2t (by decide) (by omega)
    have iv2:(vT 2).idx (M1+3):=z2t (by decide) (by omega)
    have sn:(foldNext q).shape=true:=z3w (.inl rfl) (z3w (.inl rfl) (z3w (.inl rfl) uq sv2) sv2) sv0
    have inn:(foldNext q).idx (M1+3):=z43 (by omega) (by intro x hx;simp at hx;rcases hx with rfl|rfl;exact z43 (by omega) (by intro x hx;simp at hx;rcases hx with rfl|rfl;exact z43 (by omega) (by intro x hx;simp at hx;rcases hx with rfl|rfl;exact uqi;exact iv2);exact iv2);exact iv0)
    have cn:(foldNext q).count=1+((1+((1+((q.upN 0 3).count+(1+0)))+(1+0)))+(1+0)):=rfl
    have wu:=z7f (gl:=gl) q 3 (by decide) gq1 gq3 (Tm.idx_mono (by omega) gq2)
    have wup:=z7f (gl:=gl) p 1 (by decide) gp1 gp3 (Tm.idx_mono (by omega) gp2)
    have wv0:=z5x (gl:=gl) 0
    have wv2:=z5x (gl:=gl) 2
    rw [show Tm.mk 1 0 (Ty.mk 0 []) []=vT 0 from rfl] at wv0
    rw [show Tm.mk 1 2 (Ty.mk 0 []) []=vT 2 from rfl] at wv2
    have wa1:=z2e (gl:=gl) (q.upN 0 3) (vT 2)
    have wa2:=z2e (gl:=gl) (nT 3 [q.upN 0 3,vT 2]) (vT 2)
    have wa3:=z2e (gl:=gl) (nT 3 [nT 3 [q.upN 0 3,vT 2],vT 2]) (vT 0)
    rw [show nT 3 [nT 3 [nT 3 [q.upN 0 3,vT 2],vT 2],vT 0]=foldNext q from rfl] at wa3
    have wm:=zei (gl:=gl) c (vT 0) (foldNext q) (M1+3) hco hcb (by omega) (by omega) sv0 iv0 (by decide) sn inn (by omega)
    have hsh:=fun h=>z9d (a:=vT 0) (b:=foldNext q) c hco (M:=M1+3) (by omega) sv0 iv0 sn inn h
    have hc3:((3:Nat):Int)=3:=rfl
    have hc1':((1:Nat):Int)=1:=rfl
    rw [hc3] at wu
    rw [hc1'] at wup
    have hft:=Ty.fold t.type
    have hfc:=Ty.fold c.ty
    have hfp:=Tm.fold p
    have hfq:=Tm.fold q
    have hfr:=Tm.fold r
    have hcp:=Tm.cells_eq p
    have hcq:=Tm.cells_eq q
    have hcr:=Tm.cells_eq r
    have hfn1:=Tm.fold (foldNext q)
    have hv0c:=Tm.cells_eq (vT 0)
    have hcup:=Tm.cells_eq (p.upN 0 1)
    generalize max33 c.ty (vT 0) (foldNext q)=X at *
    obtain ⟨m1,m2⟩:=X
    simp only at wm hsh hR
    generalize nT 3 [nT 3 [q.upN 0 3,vT 2],vT 2]=q3 at *
    generalize nT 3 [q.upN 0 3,vT 2]=q1 at *
    generalize foldNext q=q2 at *
    generalize q.upN 0 3=q0 at *
    generalize hp1:p.upN 0 1=p1 at *
    generalize hv0:vT 0=v0 at *
    generalize vT 2=v2 at *
    by_cases hm:m2=0
    rotate_left
    ·rw [if_neg hm] at hR
     generalize c.ty=y at *
     refine t_g (j2 @h7 (j2 @h2 (j2 @h8 (j2 @h6 @h9)))) ?_
     refine t_c1 @hft wo ?_
     refine t_g (j2 @hcp (j2 @hcq @hcr)) ?_
     refine t_c7 (j2 @hfq @hcq) wu wv2 wa1 wv2 wa2 wv0 wa3 ?_
     refine t_g0 ?_
     refine t_c2 (j2 @hfc @hfn1) wv0 wm ?_
     refine t_g @hm ?_
     refine t_r ?_
     simp [go_sem,hP,hgl,hn,zeroTm] <;> (try omega)
     all_goals exact t_f
    rw [if_pos hm] at hR
    obtain ⟨x1,x2,x3⟩:=hsh hm
    have wl1:=z3u (gl:=gl) c.ty m1
    have wl2:=z3u (gl:=gl) (Ty.mk 1 []) (Tm.mk 2 0 c.ty [m1])
    have wl3:=z3u (gl:=gl) (Ty.mk 1 []) (Tm.mk 6 0 c.ty [p1,Tm.mk 2 0 natY [Tm.mk 2 0 c.ty [m1]],v0])
    have wa4:=z2e (gl:=gl) (Tm.mk 2 0 natY [Tm.mk 6 0 c.ty [p1,Tm.mk 2 0 natY [Tm.mk 2 0 c.ty [m1]],v0]]) r
    have sl1:(Tm.mk 2 0 c.ty [m1]).shape=true:=z1f rfl (.inl rfl) (T.ok_ty hco) (by intro z hz;simp at hz;rw [hz];exact x1)
    have sl2:(Tm.mk 2 0 natY [Tm.mk 2 0 c.ty [m1]]).shape=true:=z1f rfl (.inl rfl) (T.ok_ty z0r) (by intro z hz;simp at hz;rw [hz];exact sl1)
    have sl3:(Tm.mk 6 0 c.ty [p1,Tm.mk 2 0 natY [Tm.mk 2 0 c.ty [m1]],v0]).shape=true:=z1f rfl (.inr (.inl rfl)) (T.ok_ty hco) (by intro z hz;simp at hz;rcases hz with rfl|rfl|rfl;exact up1;exact sl2;exact sv0)
    have sl4:(Tm.mk 2 0 natY [Tm.mk 6 0 c.ty [p1,Tm.mk 2 0 natY [Tm.mk 2 0 c.ty [m1]],v0]]).shape=true:=z1f rfl (.inl rfl) (T.ok_ty z0r) (by intro z hz;simp at hz;rw [hz];exact sl3)
    have cv0:v0.count=1:=by rw [← hv0];rfl
    have wc:=z61 (gl:=gl) (nT 3 [Tm.mk 2 0 natY [Tm.mk 6 0 c.ty [p1,Tm.mk 2 0 natY [Tm.mk 2 0 c.ty [m1]],v0]],r]) (z3w (.inl rfl) sl4 gr1) (by show 1+((1+((1+(p1.count+((1+((1+(m1.count+0))+0))+(v0.count+0))))+0))+(r.count+0))≤_;omega)
    have hf6:DV.agg [dint 6,dint 0,dint c.ty.kind,.sl (c.ty.args.map Ty.cells),.sl [p1.cells,(Tm.mk 2 0 natY [Tm.mk 2 0 c.ty [m1]]).cells,v0.cells]]=(Tm.mk 6 0 c.ty [p1,Tm.mk 2 0 natY [Tm.mk 2 0 c.ty [m1]],v0]).dv:=by
     have:=Tm.fold (Tm.mk 6 0 c.ty [p1,Tm.mk 2 0 natY [Tm.mk 2 0 c.ty [m1]],v0])
     simpa [Tm.kind,Tm.index,Tm.type,Tm.args] using this
    have e1:(Ty.mk 1 []).dv = .agg [dint 1,.sl []]:=rfl
    rw [e1] at wl2 wl3
    have hfm:=Tm.fold m1
    generalize c.ty=y at *
    generalize nT 3 [Tm.mk 2 0 natY [Tm.mk 6 0 y [p1,Tm.mk 2 0 natY [Tm.mk 2 0 y [m1]],v0]],r]=tz at *
    generalize Tm.mk 2 0 natY [Tm.mk 6 0 y [p1,Tm.mk 2 0 natY [Tm.mk 2 0 y [m1]],v0]]=l4 at *
    generalize Tm.mk 6 0 y [p1,Tm.mk 2 0 natY [Tm.mk 2 0 y [m1]],v0]=l3 at *
    generalize Tm.mk 2 0 natY [Tm.mk 2 0 y [m1]]=l2 at *
    generalize Tm.mk 2 0 y [m1]=l1 at *
    have hcl2:=Tm.cells_eq l2
    have hfl3:=Tm.fold l3
    have hcl3:=Tm.cells_eq l3
    rw [hcup,hcl2,hv0c] at hf6
    generalize cutE tz=z at *
    obtain ⟨z1,z2⟩:=z
    simp only at wc hR
    refine t_g (j2 @h7 (j2 @h2 (j2 @h8 (j2 @h6 @h9)))) ?_
    refine t_c1 @hft wo ?_
    refine t_g (j2 @hcp (j2 @hcq @hcr)) ?_
    refine t_c7 (j2 @hfq @hcq) wu wv2 wa1 wv2 wa2 wv0 wa3 ?_
    refine t_g0 ?_
    refine t_c2 (j2 @hfc @hfn1) wv0 wm ?_
    refine t_g @hm ?_
    refine t_c4 (j2 @hfc (j2 @hfm (j2 @hfp (j2 @hcp @hf6)))) wup wl1 wl2 wv0 ?_
    refine t_g @hcl3 ?_
    refine t_c3 (j2 @hf6 (j2 @hfl3 (j2 @hfr @hcr))) wl3 wa4 wc ?_
    refine t_r ?_
    simp [go_sem,hP,hgl,hn] <;> (try omega)
    all_goals exact t_f
  ·rw [if_neg (by omega)] at hty
   have hkz:t.type=Ty.mk 0 []:=by
    unfold Ty.zero at hty
    simp at hty
    obtain ⟨z1,z2⟩:=hty
    cases hh:t.type with
    | mk k ts=>
     rw [hh] at z1 z2
     simp only [Ty.kind,Ty.args] at z1 z2
     rw [z1,z2]
   have hsh:(Tm.mk t.kind t.index (Ty.mk 0 []) l).shape=true:=by
    by_cases h1:t.kind=1
    ·have hl0:l=[]:=by
      rw [h1] at hla
      exact List.length_eq_zero_iff.1 (by simpa [arityI] using hla)
     have ha0:t.args=[]:=List.length_eq_zero_iff.1 (by rw [← hl,hl0];rfl)
     have ht:t=Tm.mk t.kind t.index (Ty.mk 0 []) []:=by
      cases t
      simp only [Tm.kind,Tm.index,Tm.type,Tm.args] at hkz ha0 ⊢
      rw [hkz,ha0]
     rw [hl0,← ht];exact hs
    ·have hi0':t.index=0:=by rcases hv with h|h;exact absurd h h1;exact h
     rw [hi0']
     exact z1m hla (by omega) fun x hx=>(all x hx).shape
   have hnE:majNodeE t.kind t.index t.type t.args l=cutE (Tm.mk t.kind t.index (Ty.mk 0 []) l):=by
    unfold majNodeE
    rw [if_neg h7,if_neg h8,if_neg h2,if_neg h6,if_neg h9]
    by_cases h1:t.kind=1
    ·rw [if_pos h1]
     have hl0:l=[]:=by
      rw [h1] at hla
      exact List.length_eq_zero_iff.1 (by simpa [arityI] using hla)
     have ha0:t.args=[]:=List.length_eq_zero_iff.1 (by rw [← hl,hl0];rfl)
     rw [hl0,ha0,hkz,z2z (show ¬ 4096<(Tm.mk t.kind t.index (Ty.mk 0 []) []).count from by show ¬ 4096<1+0;omega)]
    ·rw [if_neg h1]
     have hi0':t.index=0:=by rcases hv with h|h;exact absurd h h1;exact h
     rw [hi0']
     rfl
   have hcnt:∀ l:List Tm,(∀ z ∈ l,Good33 M1 z)→Tm.count.counts l≤4096 * l.length:=by
    intro l
    induction l with
    | nil=>intro _;exact Nat.zero_le _
    | cons a r ih=>
     intro h
     have h1:=(h a (by simp)).small
     have h2:=ih fun z hz=>h z (by simp [hz])
     show a.count+Tm.count.counts r≤4096 * (r.length+1)
     omega
   have hcl:=hcnt l all
   have wc:=z61 (gl:=gl) (Tm.mk t.kind t.index (Ty.mk 0 []) l) hsh (by show 1+Tm.count.counts l≤_;omega)
   rw [hnE,z9f] at hR
   have hfz:=Tm.fold (Tm.mk t.kind t.index (Ty.mk 0 []) l)
   have hfz:DV.agg [dint t.kind,dint t.index,dint 0,.sl [],.sl (l.map Tm.cells)]=(Tm.mk t.kind t.index (Ty.mk 0 []) l).dv:=hfz
   generalize Tm.mk t.kind t.index (Ty.mk 0 []) l=z0 at *
   generalize cutE z0=z at *
   obtain ⟨z1,z2⟩:=z
   simp only at wc hR
   refine t_g (j2 @h7 (j2 @h2 (j2 @h8 (j2 @h6 @h9)))) ?_
   refine t_c1 @hfz wc ?_
   refine t_r ?_
   simp [go_sem,hP,hgl,hn] <;> (try omega)
   all_goals exact t_f
end
section
variable {gl:Globs}
theorem z1c7 (t:Tm)(ht:t.tys)(hc:t.count≤1073741824):Con1 Tryz.prog gl 29 [t.dv] [] (.tup [t.mTermE.1.dv,dint t.mTermE.2]) []:=by
 have hfo:=Tm.fold t
 have wc:=z2q (gl:=gl) t ht (by omega)
 have wl:=z1bs (gl:=gl) t
 unfold Tm.mTermE
 by_cases h:t.checkN=0
 ·rw [if_pos h]
  obtain ⟨hs,hcc⟩:=(Tm.checkN_iff t).1 h
  rw [h] at wc
  by_cases h2:t.leastN 268435456=true
  ·rw [if_pos h2]
   have wt:=z1c6 (gl:=gl) t (M:=268435456) hs (Tm.idx_of t _ hs h2) (by decide) (by omega) hcc
   rw [h2] at wl
   generalize runT (majE t)=z at *
   obtain ⟨z1,z2⟩:=z
   simp only at wt ⊢
   refine t_in Tryz.func29 ?_
   intro X hP hgl hf hfn hn hR hids hfit
   refine t_g0 ?_
   refine t_c1 @hfo wc ?_
   refine t_g0 ?_
   refine t_c1 @hfo wl ?_
   refine t_g0 ?_
   refine t_c1 @hfo wt ?_
   refine t_r ?_
   simp [go_sem,hP,hgl,hn] <;> (try omega)
   all_goals exact t_f
  ·rw [if_neg h2]
   have h2':t.leastN 268435456=false:=by simpa using h2
   rw [h2'] at wl
   refine t_in Tryz.func29 ?_
   intro X hP hgl hf hfn hn hR hids hfit
   refine t_g0 ?_
   refine t_c1 @hfo wc ?_
   refine t_g0 ?_
   refine t_c1 @hfo wl ?_
   refine t_g0 ?_
   refine t_r ?_
   simp [go_sem,hP,hgl,hn,zeroTm] <;> (try omega)
   all_goals exact t_f
 ·rw [if_neg h]
  generalize t.checkN=e at *
  refine t_in Tryz.func29 ?_
  intro X hP hgl hf hfn hn hR hids hfit
  refine t_g0 ?_
  refine t_c1 @hfo wc ?_
  refine t_g @h ?_
  refine t_r ?_
  simp [go_sem,hP,hgl,hn,zeroTm] <;> (try omega)
  all_goals exact t_f
theorem zl2 {v:Val}(h:v.nodesN.2=true):((v.kind=1∧v.args=[])∨(v.kind=2∧v.num=0∧v.args=[])∨(v.kind=3∧v.num=0∧v.args.length=2)∨(v.kind=4∧v.num=0∧v.args=[]))∧∀ a ∈ v.args,a.nodesN.2=true:=by
 rw [Val.nodesN_eq] at h
 obtain ⟨h1,h2⟩:=Val.nodesL_ok h
 refine ⟨?_,h2⟩
 unfold Val.okB at h1
 by_cases k1:v.kind=1
 ·rw [if_pos k1] at h1
  simp at h1
  exact .inl ⟨k1,h1.2⟩
 rw [if_neg k1] at h1
 by_cases k2:v.kind=2
 ·rw [if_pos k2] at h1
  simp at h1
  exact .inr (.inl ⟨k2,h1.1.1,h1.2⟩)
 rw [if_neg k2] at h1
 by_cases k3:v.kind=3
 ·rw [if_pos k3] at h1
  simp at h1
  exact .inr (.inr (.inl ⟨k3,h1.1.1,h1.2⟩))
 rw [if_neg k3] at h1
 by_cases k4:v.kind=4
 ·rw [if_pos k4] at h1
  simp at h1
  exact .inr (.inr (.inr ⟨k4,h1.1.1,h1.2⟩))
 rw [if_neg k4] at h1
 cases h1
set_option maxHeartbeats 1000000 in
theorem z1c8 (a:Val):∀ (v:Val),a.nodesN.2=true→v.nodesN.2=true→Con1 Tryz.prog gl 67 [a.dv,v.dv] [] (dbool (a.overN v)) []:=by
 induction a using Val.ind with
 | h a ih=>
 intro v ha hv
 obtain ⟨fa,ga⟩:=zl2 ha
 obtain ⟨fv,gv⟩:=zl2 hv
 have hfv:=Val.fold v
 have hfa:=Val.fold a
 refine t_in Tryz.func67 ?_
 intro X hP hgl hf hfn hn hR hids hfit
 rw [Val.overN_eq] at hR
 by_cases k2:v.kind=2
 ·have wv:=z1br (gl:=gl) v
  have hfv2:=hfv
  rw [k2] at hfv2
  have hb:=(Val.boundN_eq v).trans (if_pos k2)
  have h33:=(Val.val33N_eq v).trans (if_pos k2)
  have hbn:v.boundN.num=mostOf v.list.length v.list:=by rw [hb];rfl
  rw [h33] at wv
  have wv:Con1 Tryz.prog gl 116 [v.dv] [] (.agg [dint 1,dint (mostOf v.list.length v.list),.sl [],.sl []]) []:=wv
  by_cases k1:a.kind=1
  ·rw [if_pos ⟨k1,.inr k2⟩,hbn] at hR
   refine t_g @k2 ?_
   refine t_c1 (j2 @hfv2 @k1) wv ?_
   refine t_r ?_
   simp [go_sem,hP,hgl,hn,k1] <;> (try omega)
  ·have hnf:¬ (a.kind=1∧(v.kind=1∨v.kind=2)):=fun h=>k1 h.1
   have hf3:¬ (a.kind=3∧v.kind=3):=fun h=>by rw [k2] at h;exact absurd h.2 (by decide)
   have hf4:decide (a.kind=4∧v.kind=4)=false:=decide_eq_false fun h=>by rw [k2] at h;exact absurd h.2 (by decide)
   rw [if_neg hnf,if_neg hf3,hf4] at hR
   refine t_g (j2 @k2 @k1) ?_
   refine t_r ?_
   simp [go_sem,hP,hgl,hn,k1] <;> (try omega)
 by_cases hk:a.kind=v.kind
 rotate_left
 ·have hov:(if a.kind=1∧(v.kind=1∨v.kind=2) then decide (v.boundN.num≤a.num) else if a.kind=3∧v.kind=3 then Val.overN.overs a.args v.args else decide (a.kind=4∧v.kind=4))=false:=by
   rw [if_neg (by rintro ⟨h1,h2|h2⟩;exact hk (by rw [h1,h2]);exact k2 h2),if_neg (by rintro ⟨h1,h2⟩;exact hk (by rw [h1,h2]))]
   exact decide_eq_false (by rintro ⟨h1,h2⟩;exact hk (by rw [h1,h2]))
  rw [hov] at hR
  refine t_g (j2 @k2 @hk) ?_
  refine t_r ?_
  simp [go_sem,hP,hgl,hn] <;> (try omega)
 rcases fv with ⟨v1,vA⟩|⟨v1,-,-⟩|⟨v1,v0,vA⟩|⟨v1,v0,vA⟩
 ·have a1:a.kind=1:=by rw [hk,v1]
  have hb:v.boundN.num=v.num:=by rw [Val.boundN_eq,if_neg k2,if_neg (by rw [v1];decide)]
  rw [if_pos ⟨a1,.inl v1⟩,hb] at hR
  by_cases hlt:a.num<v.num
  ·have hd:decide (v.num≤a.num)=false:=decide_eq_false (by omega)
   rw [hd] at hR
   refine t_g (j2 @a1 (j2 @v1 @hlt)) ?_
   refine t_r ?_
   simp [go_sem,hP,hgl,hn] <;> (try omega)
  ·have hd:decide (v.num≤a.num)=true:=decide_eq_true (by omega)
   rw [hd] at hR
   refine t_g (j2 @a1 (j2 @v1 (j2 @hlt @vA))) ?_
   refine z0n ?_
   refine t_g @vA ?_
   refine t_r ?_
   simp [go_sem,hP,hgl,hn] <;> (try omega)
 ·exact absurd v1 k2
 ·have a1:a.kind=3:=by rw [hk,v1]
  have aA:a.num=0∧a.args.length=2:=by
   rcases fa with ⟨h,-⟩|⟨h,-,-⟩|⟨-,h1,h2⟩|⟨h,-,-⟩
   ·rw [a1] at h;cases h
   ·rw [a1] at h;cases h
   ·exact ⟨h1,h2⟩
   ·rw [a1] at h;cases h
  obtain ⟨a0,aL⟩:=aA
  rw [if_neg (by rw [a1];rintro ⟨h,-⟩;cases h),if_pos ⟨a1,v1⟩] at hR
  match hargs:a.args,aL,hargs2:v.args,vA with
  | [x,y],_,[x',y'],_=>
  have hx:x ∈ a.args:=by rw [hargs];simp
  have hy:y ∈ a.args:=by rw [hargs];simp
  have hx':x' ∈ v.args:=by rw [hargs2];simp
  have hy':y' ∈ v.args:=by rw [hargs2];simp
  rw [hargs,hargs2] at hR
  simp only [Val.overN.overs,Bool.and_true] at hR
  have w1:=ih x hx x' (ga x hx) (gv x' hx')
  have w2:=ih y hy y' (ga y hy) (gv y' hy')
  have hfx:=Val.fold x
  have hfy:=Val.fold y
  have hfx':=Val.fold x'
  have hfy':=Val.fold y'
  by_cases hq:x.overN x' = true
  ·rw [hq] at w1 hR
   by_cases hq2:y.overN y' = true
   ·rw [hq2] at w2 hR
    refine t_g (j2 @a1 (j2 @v1 (j2 @a0 (j2 @v0 (j2 @hargs @hargs2))))) ?_
    refine z0n ?_
    refine t_g (j2 @hargs @hargs2) ?_
    refine t_c1 (j2 @hargs (j2 @hargs2 (j2 @hfx @hfx'))) w1 ?_
    refine t_g (j2 @hargs @hargs2) ?_
    refine z0j ?_
    refine t_g (j2 @hargs @hargs2) ?_
    refine t_c1 (j2 @hargs (j2 @hargs2 (j2 @hfy @hfy'))) w2 ?_
    refine t_g (j2 @hargs @hargs2) ?_
    refine z0j ?_
    refine t_g (j2 @hargs @hargs2) ?_
    refine t_r ?_
    simp [go_sem,hP,hgl,hn] <;> (try omega)
   ·have hq2':y.overN y' = false:=by simpa using hq2
    rw [hq2'] at w2 hR
    refine t_g (j2 @a1 (j2 @v1 (j2 @a0 (j2 @v0 (j2 @hargs @hargs2))))) ?_
    refine z0n ?_
    refine t_g (j2 @hargs @hargs2) ?_
    refine t_c1 (j2 @hargs (j2 @hargs2 (j2 @hfx @hfx'))) w1 ?_
    refine t_g (j2 @hargs @hargs2) ?_
    refine z0j ?_
    refine t_g (j2 @hargs @hargs2) ?_
    refine t_c1 (j2 @hargs (j2 @hargs2 (j2 @hfy @hfy'))) w2 ?_
    refine t_g (j2 @hargs @hargs2) ?_
    refine t_r ?_
    simp [go_sem,hP,hgl,hn] <;> (try omega)
  ·have hq':x.overN x' = false:=by simpa using hq
   rw [hq'] at w1 hR
   refine t_g (j2 @a1 (j2 @v1 (j2 @a0 (j2 @v0 (j2 @hargs @hargs2))))) ?_
   refine z0n ?_
   refine t_g (j2 @hargs @hargs2) ?_
   refine t_c1 (j2 @hargs (j2 @hargs2 (j2 @hfx @hfx'))) w1 ?_
   refine t_g (j2 @hargs @hargs2) ?_
   refine t_r ?_
   simp [go_sem,hP,hgl,hn] <;> (try omega)
 ·have a1:a.kind=4:=by rw [hk,v1]
  have a0:a.num=0:=by
   rcases fa with ⟨h,-⟩|⟨h,-,-⟩|⟨h,-,-⟩|⟨-,h1,-⟩
   ·rw [a1] at h;cases h
   ·rw [a1] at h;cases h
   ·rw [a1] at h;cases h
   ·exact h1
  rw [if_neg (by rw [a1];rintro ⟨h,-⟩;cases h),if_neg (by rw [a1];rintro ⟨h,-⟩;cases h),decide_eq_true (show a.kind=4∧v.kind=4 from ⟨a1,v1⟩)] at hR
  refine t_g (j2 @a1 (j2 @v1 (j2 @a0 (j2 @v0 @vA)))) ?_
  refine z0n ?_
  refine t_g @vA ?_
  refine t_r ?_
  simp [go_sem,hP,hgl,hn] <;> (try omega)
theorem z1c9 (a v:Val)(hc:a.count≤1073741824)(hc2:v.count≤1073741824):Con1 Tryz.prog gl 30 [a.dv,v.dv] [] (dbool (a.majorizesN v)) []:=by
 have ca:=zcu (gl:=gl) a hc
 have cv:=zcu (gl:=gl) v hc2
 have hfv:=Val.fold v
 have hfa:=Val.fold a
 have hn0:∀ v:Val,v.checkN=0→v.nodesN.2=true:=by
  intro v h
  unfold Val.checkN at h
  by_cases hk:v.nodesN.2=true
  ·exact hk
  ·rw [if_neg hk] at h;exact absurd h (by decide)
 unfold Val.majorizesN
 refine t_in Tryz.func30 ?_
 intro X hP hgl hf hfn hn hR hids hfit
 by_cases h1:a.checkN=0
 ·by_cases h2:v.checkN=0
  ·have wb:=z1c8 (gl:=gl) a v (hn0 a h1) (hn0 v h2)
   rw [h1] at ca
   rw [h2] at cv
   refine t_g0 ?_
   refine t_c3 (j2 @hfa @hfv) ca cv wb ?_
   refine t_r ?_
   simp [go_sem,hP,hgl,hn,h1,h2] <;> (try omega)
  ·rw [h1] at ca
   generalize v.checkN=e at *
   refine t_g0 ?_
   refine t_c2 (j2 @hfa (j2 @hfv @h2)) ca cv ?_
   refine t_r ?_
   simp [go_sem,hP,hgl,hn,h1,h2] <;> (try omega)
 ·generalize a.checkN=e at *
  refine t_g0 ?_
  refine t_c1 (j2 @hfa @h1) ca ?_
  refine t_r ?_
  simp [go_sem,hP,hgl,hn,h1] <;> (try omega)
end
end Go.Proofs.YtoamlfmdkbmmpaaGreatDoor.Lift
