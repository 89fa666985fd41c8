import Derived.Test.YtoamlfmdkbmmpaaGreatDoorQl4
namespace Go.Proofs.YtoamlfmdkbmmpaaGreatDoor.Lift
set_option linter.unusedSimpArgs false
set_option linter.unusedVariables false
set_option linter.unnecessarySimpa false
open Go
section
variable {gl:Globs}
def funP (g:List Ty)(t:Ty)(i:Nat):Bool:=decide ((varTy g i).kind=4) && ((varTy g i).arg 1).same t
theorem zi5 {Q:Nat→Prop}{i:Nat}(h:∀ j,j<i→Q j)(hi:Q i):∀ j,j<i+1→Q j:=by
 intro j hj
 by_cases e:j=i
 ·rw [e];exact hi
 ·exact h j (by omega)
theorem z16y {g:List Ty}{t:Ty}{i:Nat}(hi:i<g.length)(h:∀ j,j<i→funP g t j=false)(hp:funP g t i=true):funN g t=some i:=by
 unfold funN
 rw [List.find?_range_eq_some]
 exact ⟨hp,List.mem_range.2 hi,fun j hj=>by show (!funP g t j)=true;rw [h j hj];rfl⟩
theorem z16z {g:List Ty}{t:Ty}(h:∀ j,j<g.length→funP g t j=false):funN g t=none:=by
 unfold funN
 rw [List.find?_eq_none]
 intro j hj
 show ¬ funP g t j=true
 rw [h j (List.mem_range.1 hj)]
 decide
theorem z170 {X:Ctx}{k kk:List Item}{s:St}(E:Prop)(S:St)(h1:(E→W X kk S)→W X k s)(h2:E→W X kk S):W X k s:=h1 h2
set_option maxHeartbeats 4000000 in
theorem zi6 (b:Nat)(l:List Int)(hl:l.length≤500)(n:Nat)(hn9:n≤9):∀ (t:Ty) (g:List Ty) (p:Nat),t.small→(∀ x ∈ g,x.small)→g.length+3 * n+15≤1000000→p≤l.length →
  Con1 Tryz.prog gl 13 [ptr b,.sl (g.map Ty.cells),t.dv,dint n] [(b,deck l p)] (termD l n t g p).1.dv [(b,deck l (termD l n t g p).2)]:=by
 induction n with
 | zero=>
  intro t g p ht hg hgl1 hp
  exact z16x b l hl t 0 g p (by omega) (by have:=ht.2;omega) ht hg (by have:=ht.2;omega) hp
 | succ n ihn0=>
 intro t g p ht hg hgl1 hp
 have ihn:=ihn0 (by omega)
 have hD:=z4x (l:=l) zar n
 have hg1:∀ a:List Ty,(∀ x ∈ a,x.small)→∀ x ∈ g++a,x.small:=by
  intro a ha x hx
  rcases List.mem_append.1 hx with hx|hx
  ·exact hg x hx
  ·exact ha x hx
 have hz2:(0:Int)<((n+1:Nat):Int):=by omega
 have hsub:((n+1:Nat):Int) - 1=(n:Int):=by omega
 refine t_in Tryz.func13 ?_
 intro X hP hgl hf hfn hn hR hids hfit
 rw [termD] at hR
 have hvl:(varsN g t).length≤g.length:=zdc g t g.length
 have hq3:=z0s (n:=3) hp
 have hb3:=z0y (l:=l) (p:=p) (n:=3) (by decide)
 rcases hpk:pickD l t g p with ⟨_|x,q⟩
 ·rw [hpk] at hR
  simp only at hR
  have hq:q≤l.length:=by have:=z6t (t:=t) (g:=g) hp;rw [hpk] at this;exact this
  apply zai [(.slot 0,.one (.v (ptr b))),(.slot 1,.one (.v (.sl (g.map Ty.cells)))),(.slot 3,.one (.v (dint ((n+1:Nat):Int)))),(.slot 6,.one (.loc 6 0)),(.loc 6,.row ([.v (dint t.kind),.v (.sl (t.args.map Ty.cells))])),(.slot 8,.one (.loc 8 0)),(.loc 8,.row ([.v (dint 0),.v (dint 0),.v (dint 0),.own 0 [],.own 0 []])),(.heap  b,.row ([.v (.sl (ints l)),.v (dint q)]))]
  ·intro hrest
   refine t_g0 ?_
   refine t_c1 trivial (zaz g t (by omega)) ?_
   rcases zi3 hpk with ⟨h0,rfl⟩|⟨h0,h1,rfl⟩
   ·refine t_g (j2 @z3z @h0) ?_
    refine t_b ?_
    refine z0e [] trivial hrest
   ·have hpos:0<(varsN g t).length:=by omega
    refine t_g0 ?_
    refine t_c1 (j2 @z3z (j2 @hpos @h1)) (z1w b l p 3 (by decide) (by omega)) ?_
    refine t_g @h1 ?_
    refine t_b ?_
    refine z0e [] trivial hrest
  ·have hq8:=z0s (n:=8) hq
   have hb8:=z0y (l:=l) (p:=q) (n:=8) (by decide)
   refine t_g @hz2 ?_
   refine t_c1 trivial (z1w b l q 8 (by decide) (by omega)) ?_
   generalize hd:nextD l q 8=d at *
   obtain ⟨k,r⟩:=d
   simp only at hR hb8 hq8
   have hr:r≤l.length:=hq8
   by_cases h0:k=0
   ·rw [stepD,if_pos h0] at hR
    have cs:=zay (gl:=gl) 0 b l r hl hr (by decide)
    obtain ⟨fs,ss⟩:=z5m l (n:=0) hr (by decide)
    generalize hes:typeD l 0 r=rs at cs fs ss hR
    obtain ⟨s,qs⟩:=rs
    simp only at cs fs ss hR
    have cx:=ihn (t) (g++[s]) qs ht (hg1 [s] (by simpa using ss)) (by simp;omega) fs
    have fx:=(hD (t) (g++[s]) qs ht (hg1 [s] (by simpa using ss)) fs).1
    generalize hex:termD l n (t) (g++[s]) qs=rx at cx fx hR
    obtain ⟨x,qx⟩:=rx
    simp only at cx fx hR
    have cy:=ihn (s) (g) qx ss hg (by omega) fx
    have fy:=(hD (s) (g) qx ss hg fx).1
    generalize hey:termD l n (s) (g) qx=ry at cy fy hR
    obtain ⟨y,qy⟩:=ry
    simp only at cy fy hR
    refine t_g @h0 ?_
    refine t_c1 trivial cs ?_
    refine t_c5 @hsub (z8r g [s] (by simp;omega)) cx (z37 2 s [x]) cy (z1o 3 [Tm.mk 2 0 s [x],y]) ?_
    repeat (first|refine z0a ?_|refine z01 ?_|refine z0b ?_|refine z03 ?_|refine z02 ?_|refine z04 rfl ?_)
    first|refine z0k hP hf hfn _ ([(b,deck l qy)]) (by first|(simp [go_sem,hP,hgl,hn,nT];done)|(simp [go_sem,hP,hgl,hn,nT];rfl)) (by simp [go_sem,hP,hgl,hn,nT]) (by simp) ?_ hR.2|refine z0m hP hf hfn _ ([(b,deck l qy)]) (by first|(simp [go_sem,hP,hgl,hn,nT];done)|(simp [go_sem,hP,hgl,hn,nT];rfl)) (by simp [go_sem,hP,hgl,hn,nT]) (by simp) ?_ hR.2
    rw [hR.1]
    refine ⟨?_,by simp [nT]⟩
    try simp [nT]
    try all_goals (simp [Ty.dv,Ty.cells_eq,Ty.kind_mk,Ty.args_mk,Tm.dv,Tm.cells_eq,Tm.kind_mk,Tm.index_mk,Tm.type_mk,Tm.args_mk,Val.dv,Val.cells_eq,Val.kind_mk,Val.num_mk,Val.list_mk,Val.args_mk,ints])
   by_cases h1:k=1
   ·rw [stepD,if_neg h0,if_pos h1] at hR
    have cs:=zay (gl:=gl) 0 b l r hl hr (by decide)
    obtain ⟨fs,ss⟩:=z5m l (n:=0) hr (by decide)
    generalize hes:typeD l 0 r=rs at cs fs ss hR
    obtain ⟨s,qs⟩:=rs
    simp only at cs fs ss hR
    have cx:=ihn (t) (g) qs ht hg (by omega) fs
    have fx:=(hD (t) (g) qs ht hg fs).1
    generalize hex:termD l n (t) (g) qs=rx at cx fx hR
    obtain ⟨x,qx⟩:=rx
    simp only at cx fx hR
    have cy:=ihn (s) (g) qx ss hg (by omega) fx
    have fy:=(hD (s) (g) qx ss hg fx).1
    generalize hey:termD l n (s) (g) qx=ry at cy fy hR
    obtain ⟨y,qy⟩:=ry
    simp only at cy fy hR
    refine t_g @h1 ?_
    refine t_c1 trivial cs ?_
    refine t_c4 @hsub cx cy (z1o 10 [x,y]) (z1o 11 [Tm.mk 10 0 (Ty.mk 0 []) [x,y]]) ?_
    repeat (first|refine z0a ?_|refine z01 ?_|refine z0b ?_|refine z03 ?_|refine z02 ?_|refine z04 rfl ?_)
    first|refine z0k hP hf hfn _ ([(b,deck l qy)]) (by first|(simp [go_sem,hP,hgl,hn,nT];done)|(simp [go_sem,hP,hgl,hn,nT];rfl)) (by simp [go_sem,hP,hgl,hn,nT]) (by simp) ?_ hR.2|refine z0m hP hf hfn _ ([(b,deck l qy)]) (by first|(simp [go_sem,hP,hgl,hn,nT];done)|(simp [go_sem,hP,hgl,hn,nT];rfl)) (by simp [go_sem,hP,hgl,hn,nT]) (by simp) ?_ hR.2
    rw [hR.1]
    refine ⟨?_,by simp [nT]⟩
    try simp [nT]
    try all_goals (simp [Ty.dv,Ty.cells_eq,Ty.kind_mk,Ty.args_mk,Tm.dv,Tm.cells_eq,Tm.kind_mk,Tm.index_mk,Tm.type_mk,Tm.args_mk,Val.dv,Val.cells_eq,Val.kind_mk,Val.num_mk,Val.list_mk,Val.args_mk,ints])
   by_cases h2:k=2
   ·rw [stepD,if_neg h0,if_neg h1,if_pos h2] at hR
    have cx:=ihn (t) (g++[Ty.mk 1 [],t]) r ht (hg1 [Ty.mk 1 [],t] (by intro x hx;simp at hx;rcases hx with rfl|rfl;exact z1e;exact ht)) (by simp;omega) hr
    have fx:=(hD (t) (g++[Ty.mk 1 [],t]) r ht (hg1 [Ty.mk 1 [],t] (by intro x hx;simp at hx;rcases hx with rfl|rfl;exact z1e;exact ht)) hr).1
    generalize hex:termD l n (t) (g++[Ty.mk 1 [],t]) r=rx at cx fx hR
    obtain ⟨x,qx⟩:=rx
    simp only at cx fx hR
    have cy:=ihn (t) (g) qx ht hg (by omega) fx
    have fy:=(hD (t) (g) qx ht hg fx).1
    generalize hey:termD l n (t) (g) qx=ry at cy fy hR
    obtain ⟨y,qy⟩:=ry
    simp only at cy fy hR
    have hqy:=z0s (n:=3) fy
    have hby:=z0y (l:=l) (p:=qy) (n:=3) (by decide)
    obtain ⟨m,hm⟩:∃ m:Nat,(nextD l qy 3).1=m:=⟨_,(Int.toNat_of_nonneg hby.1).symm⟩
    rw [hm] at hby
    refine t_g @h2 ?_
    refine t_c6 (j2 @hsub @z2i) z1l z1l (z8r g [Ty.mk 1 [],t] (by simp;omega)) cx (z37 2 t [x]) (z37 2 (Ty.mk 1 []) [Tm.mk 2 0 t [x]]) ?_
    refine t_c4 (j2 @hsub @hm) cy (z1w b l qy 3 (by decide) (by omega)) (z73 m (by omega)) (z37 6 t [y,Tm.mk 2 0 (Ty.mk 1 []) [Tm.mk 2 0 t [x]],numTm m]) ?_
    repeat (first|refine z0a ?_|refine z01 ?_|refine z0b ?_|refine z03 ?_|refine z02 ?_|refine z04 rfl ?_)
    first|refine z0k hP hf hfn _ ([(b,deck l (nextD l qy 3).2)]) (by first|(simp [go_sem,hP,hgl,hn,numD,hm];done)|(simp [go_sem,hP,hgl,hn,numD,hm];rfl)) (by simp [go_sem,hP,hgl,hn,numD,hm]) (by simp) ?_ hR.2|refine z0m hP hf hfn _ ([(b,deck l (nextD l qy 3).2)]) (by first|(simp [go_sem,hP,hgl,hn,numD,hm];done)|(simp [go_sem,hP,hgl,hn,numD,hm];rfl)) (by simp [go_sem,hP,hgl,hn,numD,hm]) (by simp) ?_ hR.2
    rw [hR.1]
    refine ⟨?_,by simp [numD,hm]⟩
    try simp [numD,hm]
    try all_goals (simp [Ty.dv,Ty.cells_eq,Ty.kind_mk,Ty.args_mk,Tm.dv,Tm.cells_eq,Tm.kind_mk,Tm.index_mk,Tm.type_mk,Tm.args_mk,Val.dv,Val.cells_eq,Val.kind_mk,Val.num_mk,Val.list_mk,Val.args_mk,ints])
   by_cases h3:k=3
   ·rw [stepD,if_neg h0,if_neg h1,if_neg h2,if_pos h3] at hR
    have cx:=ihn (t) (g++[Ty.mk 1 [],Ty.mk 2 [],t]) r ht (hg1 [Ty.mk 1 [],Ty.mk 2 [],t] (by intro x hx;simp at hx;rcases hx with rfl|rfl|rfl;exact z1e;exact z3q;exact ht)) (by simp;omega) hr
    have fx:=(hD (t) (g++[Ty.mk 1 [],Ty.mk 2 [],t]) r ht (hg1 [Ty.mk 1 [],Ty.mk 2 [],t] (by intro x hx;simp at hx;rcases hx with rfl|rfl|rfl;exact z1e;exact z3q;exact ht)) hr).1
    generalize hex:termD l n (t) (g++[Ty.mk 1 [],Ty.mk 2 [],t]) r=rx at cx fx hR
    obtain ⟨x,qx⟩:=rx
    simp only at cx fx hR
    have cy:=ihn (t) (g) qx ht hg (by omega) fx
    have fy:=(hD (t) (g) qx ht hg fx).1
    generalize hey:termD l n (t) (g) qx=ry at cy fy hR
    obtain ⟨y,qy⟩:=ry
    simp only at cy fy hR
    have cz:=ihn (Ty.mk 2 []) (g) qy z3q hg (by omega) fy
    have fz:=(hD (Ty.mk 2 []) (g) qy z3q hg fy).1
    generalize hez:termD l n (Ty.mk 2 []) (g) qy=rz at cz fz hR
    obtain ⟨z,qz⟩:=rz
    simp only at cz fz hR
    refine t_g @h3 ?_
    refine t_c9 (j2 @hsub (j2 @z2i @z3y)) z1l z4c z1l z4c (z8r g [Ty.mk 1 [],Ty.mk 2 [],t] (by simp;omega)) cx (z37 2 t [x]) (z37 2 (Ty.mk 2 []) [Tm.mk 2 0 t [x]]) (z37 2 (Ty.mk 1 []) [Tm.mk 2 0 (Ty.mk 2 []) [Tm.mk 2 0 t [x]]]) ?_
    refine t_c4 (j2 @hsub @z3y) cy z4c cz (z37 9 t [y,Tm.mk 2 0 (Ty.mk 1 []) [Tm.mk 2 0 (Ty.mk 2 []) [Tm.mk 2 0 t [x]]],z]) ?_
    refine t_ro [(b,deck l qz)] trivial ?_
    try simp
    try all_goals exact t_f
   by_cases h4:k=4
   ·rw [stepD,if_neg h0,if_neg h1,if_neg h2,if_neg h3,if_pos h4] at hR
    have cs:=zay (gl:=gl) 0 b l r hl hr (by decide)
    obtain ⟨fs,ss⟩:=z5m l (n:=0) hr (by decide)
    generalize hes:typeD l 0 r=rs at cs fs ss hR
    obtain ⟨s,qs⟩:=rs
    simp only at cs fs ss hR
    have cx:=ihn (s) (g) qs ss hg (by omega) fs
    have fx:=(hD (s) (g) qs ss hg fs).1
    generalize hex:termD l n (s) (g) qs=rx at cx fx hR
    obtain ⟨x,qx⟩:=rx
    simp only at cx fx hR
    have cy:=ihn (t) (g) qx ht hg (by omega) fx
    have fy:=(hD (t) (g) qx ht hg fx).1
    generalize hey:termD l n (t) (g) qx=ry at cy fy hR
    obtain ⟨y,qy⟩:=ry
    simp only at cy fy hR
    refine t_g @h4 ?_
    refine t_c1 trivial cs ?_
    refine t_c4 @hsub cx cy (z1o 10 [x,y]) (z1o 12 [Tm.mk 10 0 (Ty.mk 0 []) [x,y]]) ?_
    repeat (first|refine z0a ?_|refine z01 ?_|refine z0b ?_|refine z03 ?_|refine z02 ?_|refine z04 rfl ?_)
    first|refine z0k hP hf hfn _ ([(b,deck l qy)]) (by first|(simp [go_sem,hP,hgl,hn,nT];done)|(simp [go_sem,hP,hgl,hn,nT];rfl)) (by simp [go_sem,hP,hgl,hn,nT]) (by simp) ?_ hR.2|refine z0m hP hf hfn _ ([(b,deck l qy)]) (by first|(simp [go_sem,hP,hgl,hn,nT];done)|(simp [go_sem,hP,hgl,hn,nT];rfl)) (by simp [go_sem,hP,hgl,hn,nT]) (by simp) ?_ hR.2
    rw [hR.1]
    refine ⟨?_,by simp [nT]⟩
    try simp [nT]
    try all_goals (simp [Ty.dv,Ty.cells_eq,Ty.kind_mk,Ty.args_mk,Tm.dv,Tm.cells_eq,Tm.kind_mk,Tm.index_mk,Tm.type_mk,Tm.args_mk,Val.dv,Val.cells_eq,Val.kind_mk,Val.num_mk,Val.list_mk,Val.args_mk,ints])
   apply z170 (stepD l (termD l n) t g k r=endD l (termD l n) t g r) [(.slot 215,.one (.v (dbool (decide (t.kind=1))))),(.slot 214,.one (.v (dint t.kind))),(.slot 0,.one (.v (ptr b))),(.slot 1,.one (.v (.sl (g.map Ty.cells)))),(.slot 3,.one (.v (dint ((n+1:Nat):Int)))),(.slot 6,.one (.loc 6 0)),(.loc 6,.row ([.v (dint t.kind),.v (.sl (t.args.map Ty.cells))])),(.slot 8,.one (.loc 8 0)),(.loc 8,.row ([.v (dint 0),.v (dint 0),.v (dint 0),.own 0 [],.own 0 []])),(.heap  b,.row ([.v (.sl (ints l)),.v (dint r)]))]
   ·intro hrest
    by_cases h5:k=5
    ·refine t_g @h5 ?_
     refine t_a ?_
     refine z0e [] trivial (z2h (g.length) (fun i=>∀ j,j<i→funP g t j=false) (fun i=>[(.slot 177,.one (.v (dint i))),(.slot 176,.one (.v (dint g.length))),(.slot 0,.one (.v (ptr b))),(.slot 1,.one (.v (.sl (g.map Ty.cells)))),(.slot 3,.one (.v (dint ((n+1:Nat):Int)))),(.slot 6,.one (.loc 6 0)),(.loc 6,.row ([.v (dint t.kind),.v (.sl (t.args.map Ty.cells))])),(.slot 8,.one (.loc 8 0)),(.loc 8,.row ([.v (dint 0),.v (dint 0),.v (dint 0),.own 0 [],.own 0 []])),(.heap  b,.row ([.v (.sl (ints l)),.v (dint r)]))]) (by intro j hj;omega) ?_ ?_)
     ·intro i hi hI hnext
      have hvt:=(z6s hi).2
      have hix:(g.length:Int) - 1 - i=((g.length - 1 - i:Nat):Int):=by omega
      refine z00 ?_
      refine z07 ?_
      refine t_g (j2 @hix @hvt) ?_
      by_cases hk4:(varTy g i).kind=4
      ·have hfs:=hg _ (z6s hi).1
       obtain ⟨c0,c1,-⟩:=hfs.arg (.inr hk4)
       obtain ⟨a0,a1,ha,-,-,e0,e1⟩:=Ty.ok_args hfs.ok (.inr hk4)
       rw [e0] at c0
       refine t_c1 (j2 @hix (j2 @hvt (j2 @hk4 @ha))) (z1q a1 t) ?_
       by_cases hs:a1.same t=true
       ·have hfi:funN g t=some i:=z16y hi hI (by simp [funP,hk4,e1,hs])
        rw [stepD,if_neg h0,if_neg h1,if_neg h2,if_neg h3,if_neg h4,if_pos h5,hfi] at hR
        simp only at hR
        rw [e0] at hR
        have cx:=ihn (a0) (g) r c0 hg (by omega) hr
        have fx:=(hD (a0) (g) r c0 hg hr).1
        generalize hex:termD l n (a0) (g) r=rx at cx fx hR
        obtain ⟨x,qx⟩:=rx
        simp only at cx fx hR
        refine t_g @hs ?_
        refine t_a ?_
        first|refine z05 [] fun K hK=>?_|refine z09 (by rw [hP];exact z08) [] fun K hK=>?_
        simp [go_sem,hP,hgl,hn,hsub,ha,vT]
        repeat (refine ⟨by omega,?_⟩)
        first|refine z1u hP hgl (z5h i) (by simp [go_sem,hP,hgl,hn,hsub,ha,vT]) rfl (by simp [go_sem]) (by simp) (by rw [hn];exact Nat.le_of_ble_eq_true rfl) ?_|refine z1v (fun _ _=>z0l) hP hgl (z5h i) (by simp [go_sem,hP,hgl,hn,hsub,ha,vT]) rfl (by simp [go_sem]) (by simp) (by rw [hn];exact Nat.le_of_ble_eq_true rfl) ?_|refine z23 hP hgl (z5h i) (by simp [go_sem,hP,hgl,hn,hsub,ha,vT]) rfl (by simp [go_sem]) (by simp) (by rw [hn];exact Nat.le_of_ble_eq_true rfl) (by simp [go_sem];rfl) (by rw [hn];exact Nat.le_of_ble_eq_true rfl) (by simp [go_sem]) ?_|refine z24 (fun _ _=>z0l) hP hgl (z5h i) (by simp [go_sem,hP,hgl,hn,hsub,ha,vT]) rfl (by simp [go_sem]) (by simp) (by rw [hn];exact Nat.le_of_ble_eq_true rfl) (by simp [go_sem];rfl) (by rw [hn];exact Nat.le_of_ble_eq_true rfl) (by simp [go_sem]) ?_
        simp [go_sem,hP,hgl,hn,hsub,ha,vT]
        repeat (refine ⟨by omega,?_⟩)
        first|refine z1u hP hgl (cx) (by simp [go_sem,hP,hgl,hn,hsub,ha,vT]) rfl (by simp [go_sem]) (by simp) (by rw [hn];exact Nat.le_of_ble_eq_true rfl) ?_|refine z1v (fun _ _=>z0l) hP hgl (cx) (by simp [go_sem,hP,hgl,hn,hsub,ha,vT]) rfl (by simp [go_sem]) (by simp) (by rw [hn];exact Nat.le_of_ble_eq_true rfl) ?_|refine z23 hP hgl (cx) (by simp [go_sem,hP,hgl,hn,hsub,ha,vT]) rfl (by simp [go_sem]) (by simp) (by rw [hn];exact Nat.le_of_ble_eq_true rfl) (by simp [go_sem];rfl) (by rw [hn];exact Nat.le_of_ble_eq_true rfl) (by simp [go_sem]) ?_|refine z24 (fun _ _=>z0l) hP hgl (cx) (by simp [go_sem,hP,hgl,hn,hsub,ha,vT]) rfl (by simp [go_sem]) (by simp) (by rw [hn];exact Nat.le_of_ble_eq_true rfl) (by simp [go_sem];rfl) (by rw [hn];exact Nat.le_of_ble_eq_true rfl) (by simp [go_sem]) ?_
        simp [go_sem,hP,hgl,hn,hsub,ha,vT]
        repeat (refine ⟨by omega,?_⟩)
        first|refine z1u hP hgl (z1o 3 [vT i,x]) (by simp [go_sem,hP,hgl,hn,hsub,ha,vT]) rfl (by simp [go_sem]) (by simp) (by rw [hn];exact Nat.le_of_ble_eq_true rfl) ?_|refine z1v (fun _ _=>z0l) hP hgl (z1o 3 [vT i,x]) (by simp [go_sem,hP,hgl,hn,hsub,ha,vT]) rfl (by simp [go_sem]) (by simp) (by rw [hn];exact Nat.le_of_ble_eq_true rfl) ?_|refine z23 hP hgl (z1o 3 [vT i,x]) (by simp [go_sem,hP,hgl,hn,hsub,ha,vT]) rfl (by simp [go_sem]) (by simp) (by rw [hn];exact Nat.le_of_ble_eq_true rfl) (by simp [go_sem];rfl) (by rw [hn];exact Nat.le_of_ble_eq_true rfl) (by simp [go_sem]) ?_|refine z24 (fun _ _=>z0l) hP hgl (z1o 3 [vT i,x]) (by simp [go_sem,hP,hgl,hn,hsub,ha,vT]) rfl (by simp [go_sem]) (by simp) (by rw [hn];exact Nat.le_of_ble_eq_true rfl) (by simp [go_sem];rfl) (by rw [hn];exact Nat.le_of_ble_eq_true rfl) (by simp [go_sem]) ?_
        simp [go_sem,hP,hgl,hn,hsub,ha,vT]
        refine t_e ?_
        clear hK K
        repeat (first|refine z0a ?_|refine z01 ?_|refine z0b ?_|refine z03 ?_|refine z02 ?_|refine z04 rfl ?_)
        first|refine z0k hP hf hfn _ ([(b,deck l qx)]) (by first|(simp [go_sem,hP,hgl,hn,nT,vT];done)|(simp [go_sem,hP,hgl,hn,nT,vT];rfl)) (by simp [go_sem,hP,hgl,hn,nT,vT]) (by simp) ?_ hR.2|refine z0m hP hf hfn _ ([(b,deck l qx)]) (by first|(simp [go_sem,hP,hgl,hn,nT,vT];done)|(simp [go_sem,hP,hgl,hn,nT,vT];rfl)) (by simp [go_sem,hP,hgl,hn,nT,vT]) (by simp) ?_ hR.2
        rw [hR.1]
        refine ⟨?_,by simp [nT,vT]⟩
        try simp [nT,vT]
        try all_goals (simp [Ty.dv,Ty.cells_eq,Ty.kind_mk,Ty.args_mk,Tm.dv,Tm.cells_eq,Tm.kind_mk,Tm.index_mk,Tm.type_mk,Tm.args_mk,Val.dv,Val.cells_eq,Val.kind_mk,Val.num_mk,Val.list_mk,Val.args_mk,ints])
       ·refine t_gt (wr []) trivial @hs (hnext (zi5 hI (by simp [funP,hk4,e1,hs])))
      ·refine t_gt (wr []) trivial @hk4 (hnext (zi5 hI (by simp [funP,hk4])))
     ·intro hI
      refine z00 ?_
      refine t_no ?_
      refine t_g0 ?_
      refine t_b ?_
      refine z0e [] trivial (hrest (by rw [stepD,if_neg h0,if_neg h1,if_neg h2,if_neg h3,if_neg h4,if_pos h5,z16z hI]))
    ·have hE:stepD l (termD l n) t g k r=endD l (termD l n) t g r:=by rw [stepD,if_neg h0,if_neg h1,if_neg h2,if_neg h3,if_neg h4,if_neg h5]
     by_cases h6:k=6
     ·refine t_g @h6 ?_
      refine t_b ?_
      refine z0e [] trivial (hrest hE)
     ·have h7:k=7:=by omega
      refine t_g @h7 ?_
      refine t_b ?_
      refine z0e [] trivial (hrest hE)
   ·intro hE
    rw [hE,endD] at hR
    have h5q:=z0s (n:=5) hr
    have h2q:=z0s (n:=2) hr
    have hfd:=Ty.fold t
    rcases z6u ht with ⟨h,e⟩|⟨h,e⟩|⟨h,e⟩|⟨h,e⟩|⟨h,e⟩
    ·rw [if_pos h] at hR
     rw [h] at hfd
     have hb5:=z0y (l:=l) (p:=r) (n:=5) (by decide)
     refine t_g (j2 @h @hz2) ?_
     refine t_c1 trivial (z1w b l r 5 (by decide) (by omega)) ?_
     generalize hd5:nextD l r 5=d at *
     obtain ⟨c,q5⟩:=d
     simp only at hR hb5 h5q
     by_cases c0:c=0
     ·rw [if_pos c0] at hR
      have cx:=ihn (t) (g) q5 ht hg (by omega) h5q
      have fx:=(hD (t) (g) q5 ht hg h5q).1
      generalize hex:termD l n (t) (g) q5=rx at cx fx hR
      obtain ⟨x,qx⟩:=rx
      simp only at cx fx hR
      refine t_g @c0 ?_
      refine t_c2 (j2 @hsub @hfd) cx (z1o 5 [x]) ?_
      repeat (first|refine z0a ?_|refine z01 ?_|refine z0b ?_|refine z03 ?_|refine z02 ?_|refine z04 rfl ?_)
      first|refine z0k hP hf hfn _ ([(b,deck l qx)]) (by first|(simp [go_sem,hP,hgl,hn,nT];done)|(simp [go_sem,hP,hgl,hn,nT];rfl)) (by simp [go_sem,hP,hgl,hn,nT]) (by simp) ?_ hR.2|refine z0m hP hf hfn _ ([(b,deck l qx)]) (by first|(simp [go_sem,hP,hgl,hn,nT];done)|(simp [go_sem,hP,hgl,hn,nT];rfl)) (by simp [go_sem,hP,hgl,hn,nT]) (by simp) ?_ hR.2
      rw [hR.1]
      refine ⟨?_,by simp [nT]⟩
      try simp [nT]
      try all_goals (simp [Ty.dv,Ty.cells_eq,Ty.kind_mk,Ty.args_mk,Tm.dv,Tm.cells_eq,Tm.kind_mk,Tm.index_mk,Tm.type_mk,Tm.args_mk,Val.dv,Val.cells_eq,Val.kind_mk,Val.num_mk,Val.list_mk,Val.args_mk,ints])
     rw [if_neg c0] at hR
     by_cases c1:c=1
     ·rw [if_pos c1] at hR
      have cx:=ihn (t) (g) q5 ht hg (by omega) h5q
      have fx:=(hD (t) (g) q5 ht hg h5q).1
      generalize hex:termD l n (t) (g) q5=rx at cx fx hR
      obtain ⟨x,qx⟩:=rx
      simp only at cx fx hR
      have cy:=ihn (t) (g) qx ht hg (by omega) fx
      have fy:=(hD (t) (g) qx ht hg fx).1
      generalize hey:termD l n (t) (g) qx=ry at cy fy hR
      obtain ⟨y,qy⟩:=ry
      simp only at cy fy hR
      refine t_g @c1 ?_
      refine t_c4 (j2 @hsub @hfd) zi1 cx cy (zgz plusT [x,y]) ?_
      refine t_ro [(b,deck l qy)] trivial ?_
      try simp
      try all_goals exact t_f
     rw [if_neg c1] at hR
     by_cases c2:c=2
     ·rw [if_pos c2] at hR
      have cx:=ihn (t) (g) q5 ht hg (by omega) h5q
      have fx:=(hD (t) (g) q5 ht hg h5q).1
      generalize hex:termD l n (t) (g) q5=rx at cx fx hR
      obtain ⟨x,qx⟩:=rx
      simp only at cx fx hR
      have cy:=ihn (t) (g) qx ht hg (by omega) fx
      have fy:=(hD (t) (g) qx ht hg fx).1
      generalize hey:termD l n (t) (g) qx=ry at cy fy hR
      obtain ⟨y,qy⟩:=ry
      simp only at cy fy hR
      refine t_g @c2 ?_
      refine t_c4 (j2 @hsub @hfd) zi2 cx cy (zgz subT [x,y]) ?_
      refine t_ro [(b,deck l qy)] trivial ?_
      try simp
      try all_goals exact t_f
     rw [if_neg c2] at hR
     have hb3:=z0y (l:=l) (p:=q5) (n:=3) (by decide)
     obtain ⟨m,hm⟩:∃ m:Nat,(nextD l q5 3).1=m:=⟨_,(Int.toNat_of_nonneg hb3.1).symm⟩
     rw [hm] at hb3
     by_cases c3:c=3
     ·refine t_g @c3 ?_
      refine t_c2 @hm (z1w b l q5 3 (by decide) (by omega)) (z73 m (by omega)) ?_
      repeat (first|refine z0a ?_|refine z01 ?_|refine z0b ?_|refine z03 ?_|refine z02 ?_|refine z04 rfl ?_)
      first|refine z0k hP hf hfn _ ([(b,deck l (nextD l q5 3).2)]) (by first|(simp [go_sem,hP,hgl,hn,numD,hm];done)|(simp [go_sem,hP,hgl,hn,numD,hm];rfl)) (by simp [go_sem,hP,hgl,hn,numD,hm]) (by simp) ?_ hR.2|refine z0m hP hf hfn _ ([(b,deck l (nextD l q5 3).2)]) (by first|(simp [go_sem,hP,hgl,hn,numD,hm];done)|(simp [go_sem,hP,hgl,hn,numD,hm];rfl)) (by simp [go_sem,hP,hgl,hn,numD,hm]) (by simp) ?_ hR.2
      rw [hR.1]
      refine ⟨?_,by simp [numD,hm]⟩
      try simp [numD,hm]
      try all_goals (simp [Ty.dv,Ty.cells_eq,Ty.kind_mk,Ty.args_mk,Tm.dv,Tm.cells_eq,Tm.kind_mk,Tm.index_mk,Tm.type_mk,Tm.args_mk,Val.dv,Val.cells_eq,Val.kind_mk,Val.num_mk,Val.list_mk,Val.args_mk,ints])
     ·have c4:c=4:=by omega
      refine t_g @c4 ?_
      refine t_c2 @hm (z1w b l q5 3 (by decide) (by omega)) (z73 m (by omega)) ?_
      repeat (first|refine z0a ?_|refine z01 ?_|refine z0b ?_|refine z03 ?_|refine z02 ?_|refine z04 rfl ?_)
      first|refine z0k hP hf hfn _ ([(b,deck l (nextD l q5 3).2)]) (by first|(simp [go_sem,hP,hgl,hn,numD,hm];done)|(simp [go_sem,hP,hgl,hn,numD,hm];rfl)) (by simp [go_sem,hP,hgl,hn,numD,hm]) (by simp) ?_ hR.2|refine z0m hP hf hfn _ ([(b,deck l (nextD l q5 3).2)]) (by first|(simp [go_sem,hP,hgl,hn,numD,hm];done)|(simp [go_sem,hP,hgl,hn,numD,hm];rfl)) (by simp [go_sem,hP,hgl,hn,numD,hm]) (by simp) ?_ hR.2
      rw [hR.1]
      refine ⟨?_,by simp [numD,hm]⟩
      try simp [numD,hm]
      try all_goals (simp [Ty.dv,Ty.cells_eq,Ty.kind_mk,Ty.args_mk,Tm.dv,Tm.cells_eq,Tm.kind_mk,Tm.index_mk,Tm.type_mk,Tm.args_mk,Val.dv,Val.cells_eq,Val.kind_mk,Val.num_mk,Val.list_mk,Val.args_mk,ints])
    ·rw [if_neg (by omega),if_pos h] at hR
     rw [h] at hfd
     have hb2:=z0y (l:=l) (p:=r) (n:=2) (by decide)
     refine t_g @h ?_
     generalize hd2:nextD l r 2=d at *
     obtain ⟨c,q2⟩:=d
     have cn:=z1w (gl:=gl) b l r 2 (by decide) (by omega)
     rw [hd2] at cn
     simp only at hR hb2 h2q cn
     by_cases c0:c=0
     ·rw [if_pos c0] at hR
      have cx:=ihn (Ty.mk 1 []) (g) q2 z1e hg (by omega) h2q
      have fx:=(hD (Ty.mk 1 []) (g) q2 z1e hg h2q).1
      generalize hex:termD l n (Ty.mk 1 []) (g) q2=rx at cx fx hR
      obtain ⟨x,qx⟩:=rx
      simp only at cx fx hR
      have cy:=ihn (t) (g) qx ht hg (by omega) fx
      have fy:=(hD (t) (g) qx ht hg fx).1
      generalize hey:termD l n (t) (g) qx=ry at cy fy hR
      obtain ⟨y,qy⟩:=ry
      simp only at cy fy hR
      refine t_c1 (j2 @hz2 @c0) cn ?_
      refine t_g @c0 ?_
      refine t_c4 (j2 @hsub (j2 @z2i @hfd)) z1l cx cy (z1o 8 [x,y]) ?_
      repeat (first|refine z0a ?_|refine z01 ?_|refine z0b ?_|refine z03 ?_|refine z02 ?_|refine z04 rfl ?_)
      first|refine z0k hP hf hfn _ ([(b,deck l qy)]) (by first|(simp [go_sem,hP,hgl,hn,nT];done)|(simp [go_sem,hP,hgl,hn,nT];rfl)) (by simp [go_sem,hP,hgl,hn,nT]) (by simp) ?_ hR.2|refine z0m hP hf hfn _ ([(b,deck l qy)]) (by first|(simp [go_sem,hP,hgl,hn,nT];done)|(simp [go_sem,hP,hgl,hn,nT];rfl)) (by simp [go_sem,hP,hgl,hn,nT]) (by simp) ?_ hR.2
      rw [hR.1]
      refine ⟨?_,by simp [nT]⟩
      try simp [nT]
      try all_goals (simp [Ty.dv,Ty.cells_eq,Ty.kind_mk,Ty.args_mk,Tm.dv,Tm.cells_eq,Tm.kind_mk,Tm.index_mk,Tm.type_mk,Tm.args_mk,Val.dv,Val.cells_eq,Val.kind_mk,Val.num_mk,Val.list_mk,Val.args_mk,ints])
     ·rw [if_neg c0] at hR
      refine t_c1 (j2 @hz2 @c0) cn ?_
      refine t_g @c0 ?_
      refine t_c1 trivial (z1o 7 []) ?_
      repeat (first|refine z0a ?_|refine z01 ?_|refine z0b ?_|refine z03 ?_|refine z02 ?_|refine z04 rfl ?_)
      first|refine z0k hP hf hfn _ ([(b,deck l q2)]) (by first|(simp [go_sem,hP,hgl,hn,nT];done)|(simp [go_sem,hP,hgl,hn,nT];rfl)) (by simp [go_sem,hP,hgl,hn,nT]) (by simp) ?_ hR.2|refine z0m hP hf hfn _ ([(b,deck l q2)]) (by first|(simp [go_sem,hP,hgl,hn,nT];done)|(simp [go_sem,hP,hgl,hn,nT];rfl)) (by simp [go_sem,hP,hgl,hn,nT]) (by simp) ?_ hR.2
      rw [hR.1]
      refine ⟨?_,by simp [nT]⟩
      try simp [nT]
      try all_goals (simp [Ty.dv,Ty.cells_eq,Ty.kind_mk,Ty.args_mk,Tm.dv,Tm.cells_eq,Tm.kind_mk,Tm.index_mk,Tm.type_mk,Tm.args_mk,Val.dv,Val.cells_eq,Val.kind_mk,Val.num_mk,Val.list_mk,Val.args_mk,ints])
    ·rw [if_neg (by omega),if_neg (by omega),if_neg (by omega),if_neg (by omega)] at hR
     refine t_g @h ?_
     refine t_c1 trivial (z1o 13 []) ?_
     repeat (first|refine z0a ?_|refine z01 ?_|refine z0b ?_|refine z03 ?_|refine z02 ?_|refine z04 rfl ?_)
     first|refine z0k hP hf hfn _ ([(b,deck l r)]) (by first|(simp [go_sem,hP,hgl,hn,nT];done)|(simp [go_sem,hP,hgl,hn,nT];rfl)) (by simp [go_sem,hP,hgl,hn,nT]) (by simp) ?_ hR.2|refine z0m hP hf hfn _ ([(b,deck l r)]) (by first|(simp [go_sem,hP,hgl,hn,nT];done)|(simp [go_sem,hP,hgl,hn,nT];rfl)) (by simp [go_sem,hP,hgl,hn,nT]) (by simp) ?_ hR.2
     rw [hR.1]
     refine ⟨?_,by simp [nT]⟩
     try simp [nT]
     try all_goals (simp [Ty.dv,Ty.cells_eq,Ty.kind_mk,Ty.args_mk,Tm.dv,Tm.cells_eq,Tm.kind_mk,Tm.index_mk,Tm.type_mk,Tm.args_mk,Val.dv,Val.cells_eq,Val.kind_mk,Val.num_mk,Val.list_mk,Val.args_mk,ints])
    ·rw [if_neg (by omega),if_neg (by omega),if_pos h] at hR
     obtain ⟨s0,s1,hc⟩:=ht.arg (.inl h)
     have ha:t.args=[t.arg 0,t.arg 1]:=by rw [e];rfl
     have cx:=ihn (t.arg 0) (g) r s0 hg (by omega) hr
     have fx:=(hD (t.arg 0) (g) r s0 hg hr).1
     generalize hex:termD l n (t.arg 0) (g) r=rx at cx fx hR
     obtain ⟨x,qx⟩:=rx
     simp only at cx fx hR
     have cy:=ihn (t.arg 1) (g) qx s1 hg (by omega) fx
     have fy:=(hD (t.arg 1) (g) qx s1 hg fx).1
     generalize hey:termD l n (t.arg 1) (g) qx=ry at cy fy hR
     obtain ⟨y,qy⟩:=ry
     simp only at cy fy hR
     refine t_g @h ?_
     refine t_c3 (j2 @hsub @ha) cx cy (z1o 10 [x,y]) ?_
     repeat (first|refine z0a ?_|refine z01 ?_|refine z0b ?_|refine z03 ?_|refine z02 ?_|refine z04 rfl ?_)
     first|refine z0k hP hf hfn _ ([(b,deck l qy)]) (by first|(simp [go_sem,hP,hgl,hn,nT];done)|(simp [go_sem,hP,hgl,hn,nT];rfl)) (by simp [go_sem,hP,hgl,hn,nT]) (by simp) ?_ hR.2|refine z0m hP hf hfn _ ([(b,deck l qy)]) (by first|(simp [go_sem,hP,hgl,hn,nT];done)|(simp [go_sem,hP,hgl,hn,nT];rfl)) (by simp [go_sem,hP,hgl,hn,nT]) (by simp) ?_ hR.2
     rw [hR.1]
     refine ⟨?_,by simp [nT]⟩
     try simp [nT]
     try all_goals (simp [Ty.dv,Ty.cells_eq,Ty.kind_mk,Ty.args_mk,Tm.dv,Tm.cells_eq,Tm.kind_mk,Tm.index_mk,Tm.type_mk,Tm.args_mk,Val.dv,Val.cells_eq,Val.kind_mk,Val.num_mk,Val.list_mk,Val.args_mk,ints])
    ·rw [if_neg (by omega),if_neg (by omega),if_neg (by omega),if_pos h] at hR
     obtain ⟨s0,s1,hc⟩:=ht.arg (.inr h)
     have ha:t.args=[t.arg 0,t.arg 1]:=by rw [e];rfl
     have cx:=ihn (t.arg 1) (g++[t.arg 0]) r s1 (hg1 [t.arg 0] (by simpa using s0)) (by simp;omega) hr
     have fx:=(hD (t.arg 1) (g++[t.arg 0]) r s1 (hg1 [t.arg 0] (by simpa using s0)) hr).1
     generalize hex:termD l n (t.arg 1) (g++[t.arg 0]) r=rx at cx fx hR
     obtain ⟨x,qx⟩:=rx
     simp only at cx fx hR
     refine t_g @h ?_
     refine t_c3 (j2 @hsub @ha) (z8r g [t.arg 0] (by simp;omega)) cx (z37 2 (t.arg 0) [x]) ?_
     refine t_ro [(b,deck l qx)] trivial ?_
     try simp
     try all_goals exact t_f
 ·rw [hpk] at hR
  simp only at hR
  obtain ⟨h0,h1,k,i,hk,hi,rfl,rfl⟩:=zi4 hpk
  have hpos:0<(varsN g t).length:=by omega
  have hpos3:0<(nextD l p 3).1:=by omega
  have hgi:=z3x (l:=natI (varsN g t)) (i:=k) (n:=i) (by simp [natI,hi])
  have hkl:=(List.getElem?_eq_some_iff.1 hi).1
  refine t_g0 ?_
  refine t_c1 trivial (zaz g t (by omega)) ?_
  refine t_g0 ?_
  refine t_c1 (j2 @z3z (j2 @hpos @hpos3)) (z1w b l p 3 (by decide) (by omega)) ?_
  refine t_g @hpos3 ?_
  refine t_c2 (j2 @z3z (j2 @hk @hgi)) (z1w b l (nextD l p 3).2 (varsN g t).length (by omega) (by omega)) (z5h i) ?_
  repeat (first|refine z0a ?_|refine z01 ?_|refine z0b ?_|refine z03 ?_|refine z02 ?_|refine z04 rfl ?_)
  first|refine z0k hP hf hfn _ ([(b,deck l (nextD l (nextD l p 3).2 (varsN g t).length).2)]) (by first|(simp [go_sem,hP,hgl,hn,vT];done)|(simp [go_sem,hP,hgl,hn,vT];rfl)) (by simp [go_sem,hP,hgl,hn,vT]) (by simp) ?_ hR.2|refine z0m hP hf hfn _ ([(b,deck l (nextD l (nextD l p 3).2 (varsN g t).length).2)]) (by first|(simp [go_sem,hP,hgl,hn,vT];done)|(simp [go_sem,hP,hgl,hn,vT];rfl)) (by simp [go_sem,hP,hgl,hn,vT]) (by simp) ?_ hR.2
  rw [hR.1]
  refine ⟨?_,by simp [vT]⟩
  try simp [vT]
  try all_goals (simp [Ty.dv,Ty.cells_eq,Ty.kind_mk,Ty.args_mk,Tm.dv,Tm.cells_eq,Tm.kind_mk,Tm.index_mk,Tm.type_mk,Tm.args_mk,Val.dv,Val.cells_eq,Val.kind_mk,Val.num_mk,Val.list_mk,Val.args_mk,ints])
end
section
variable {gl:Globs}
theorem z5p (i:Int):Con1 Tryz.prog gl 125 [dint i] [] (vT i).dv []:=by
 refine t_in Tryz.func125 ?_
 intro X hP hgl hf hfn hn hR hids hfit
 refine t_g0 ?_
 refine t_r ?_
 simp [go_sem,hP,hgl,hn,vT] <;> (try omega)
 all_goals exact t_f
theorem z50:Con1 Tryz.prog gl 77 [] [] natY.dv []:=by
 refine t_in Tryz.func77 ?_
 intro X hP hgl hf hfn hn hR hids hfit
 refine t_g0 ?_
 refine t_r ?_
 simp [go_sem,hP,hgl,hn,natY] <;> (try omega)
 all_goals exact t_f
theorem z74 (t:Ty)(hc:t.count≤2147483648):Con1 Tryz.prog gl 50 [t.dv] [] (dint t.checkN) []:=by
 refine t_in Tryz.func50 ?_
 intro X hP hgl hf hfn hn hR hids hfit
 refine t_g0 ?_
 refine t_c1 trivial (z7z t hc) ?_
 refine t_g0 ?_
 refine t_r ?_
 simp [go_sem,hP,hgl,hn] <;> (try omega)
theorem z171 (t:Tm)(hc:t.count≤1073741824):Con1 Tryz.prog gl 154 [t.dv] [] (dint t.count) []:=by
 induction t using Tm.ind with
 | h t ih=>
 refine t_in Tryz.func154 ?_
 intro X hP hgl hf hfn hn hR hids hfit
 have hl1:=Tm.fit_len (hfit t.dv (by simp))
 have hcv:=Tm.count_eq t
 refine t_g0 ?_
 refine t_a ?_
 refine z0c [] (by simp [go_sem]) (by simp [go_sem,Tm.count.counts] <;> omega) (by simp [go_sem]) (z1z (t.args) (fun done rest=>[(.slot 9,.one (.v (dint done.length))),(.slot 8,.one (.v (dint t.args.length))),(.slot 7,.one (.v (.sl (t.args.map Tm.cells)))),(.slot 3,.one (.v (dint (1+Tm.count.counts done:Nat)))),(.slot 2,.one (.v (dint 0)))]) ?_ ?_)
 ·intro done x rest hL hg0 hnext
  have hlt:done.length<t.args.length:=by rw [hL];simp
  have hxm:=List.mem_of_getElem? hg0
  have hca:=Tm.counts_append done (x::rest)
  have hcs:=Tm.counts_append done [x]
  rw [← hL] at hca
  simp only [Tm.count.counts] at hca hcs
  refine z00 ?_
  refine z07 ?_
  refine t_g @hg0 ?_
  refine t_c1 @hg0 (ih x hxm (by omega)) ?_
  refine t_gt (wr []) @hcs trivial hnext
 ·refine z00 ?_
  refine t_no ?_
  refine t_g0 ?_
  refine t_r ?_
  simp [go_sem,hP,hgl,hn,hcv] <;> (try omega)
theorem z172 (k:Int)(s:Ty)(l:List Tm)(hc:(Tm.mk k 0 s l).count≤1073741824):Con1 Tryz.prog gl 124 [dint k,s.dv,.sl (l.map Tm.cells)] [] (.tup [(buildN k s l).1.dv,dint (buildN k s l).2]) []:=by
 refine t_in Tryz.func124 ?_
 intro X hP hgl hf hfn hn hR hids hfit
 have hfm:=Tm.fold_mk k 0 s l
 refine t_g0 ?_
 refine t_c1 @hfm (z171 (Tm.mk k 0 s l) hc) ?_
 by_cases h:4096<(Tm.mk k 0 s l).count
 ·refine t_g @h ?_
  refine t_r ?_
  simp [go_sem,hP,hgl,hn,buildN,h,zeroTm] <;> (try omega)
  all_goals exact t_f
 ·refine t_g @h ?_
  refine t_r ?_
  simp [go_sem,hP,hgl,hn,buildN,h] <;> (try omega)
  all_goals exact t_f
theorem z173 (t:Tm)(f b:Int)(hs:t.shape=true)(hi:t.idx 549755813888)(hb1:0≤b)(hb2:b≤1048576)(hf0:0≤f)(hfc:f+t.count≤549755813888):Con1 Tryz.prog gl 127 [t.dv,dint f,dint b] [] (t.upN f b).dv []:=by
 induction t using Tm.ind generalizing f with
 | h t ih=>
 have hct:=Tm.count_eq t
 have hbd:=zgx t.kind
 have hix:=(Tm.idx_eq t _).1 hi
 obtain ⟨hlen0,-,-,-,hsa⟩:=Tm.shape_node hs
 refine t_in Tryz.func127 ?_
 intro X hP hgl hf hfn hn hR hids hfit
 have hlen:=Tm.fit_len (hfit t.dv (by simp))
 have hfd:=Tm.fold t
 by_cases h0:b=0
 ·rw [h0,zh1] at hR
  refine t_g @h0 ?_
  refine t_r ?_
  simp [go_sem,hP,hgl,hn] <;> (try omega)
  all_goals exact t_f
 by_cases h1:t.kind=1
 ·have ha:t.args=[]:=by rw [h1] at hlen0;simp [arityI] at hlen0;exact hlen0
  rw [Tm.upN_eq,ha] at hR
  by_cases h2:f≤t.index
  ·refine t_g (j2 @h0 (j2 @h1 @h2)) ?_
   refine t_r ?_
   simp [go_sem,hP,hgl,hn,h1,h2,ha] <;> (try omega)
   all_goals (simp [Ty.dv,Ty.cells_eq,Ty.kind_mk,Ty.args_mk,Tm.dv,Tm.cells_eq,Tm.kind_mk,Tm.index_mk,Tm.type_mk,Tm.args_mk,Val.dv,Val.cells_eq,Val.kind_mk,Val.num_mk,Val.list_mk,Val.args_mk,ints])
  ·refine t_g (j2 @h0 (j2 @h1 @h2)) ?_
   refine t_r ?_
   simp [go_sem,hP,hgl,hn,h1,h2,ha] <;> (try omega)
   all_goals (simp [Ty.dv,Ty.cells_eq,Ty.kind_mk,Ty.args_mk,Tm.dv,Tm.cells_eq,Tm.kind_mk,Tm.index_mk,Tm.type_mk,Tm.args_mk,Val.dv,Val.cells_eq,Val.kind_mk,Val.num_mk,Val.list_mk,Val.args_mk,ints])
 rw [Tm.upN_eq,if_neg (fun h=>h1 h.1)] at hR
 apply zai [(.slot 36,.one (.v (dint 0))),(.slot 35,.one (.v (dint t.args.length))),(.slot 34,.one (.v (.sl (t.args.map Tm.cells)))),(.loc 7,.row ([.v (dint t.kind),.v (dint t.index),.v (dint t.type.kind),.v (.sl (t.type.args.map Ty.cells)),.own 0 []])),(.slot 7,.one (.loc 7 0)),(.slot 1,.one (.v (dint (f+bindI t.kind)))),(.slot 2,.one (.v (dint b))),(.loc 6,.row ([.v (dint 0),.v (dint 0),.v (dint 0),.own 0 [],.own 0 []])),(.slot 6,.one (.loc 6 0))]
 ·intro hrest
  by_cases h2:t.kind=2
  ·have hbi:bindI 2=1:=rfl
   refine t_g (j2 @h0 (j2 @h1 @h2)) ?_
   refine t_b ?_
   refine z0e [] (j2 @hbi @h2) hrest
  ·have hbi:bindI t.kind=0:=by simp [bindI,h2]
   refine t_g (j2 @h0 (j2 @h1 @h2)) ?_
   refine t_b ?_
   refine z0e [] (j2 @hbi @h2) hrest
 ·refine t_a ?_
  refine z0e [(1007,0)] trivial (z1z (t.args) (fun done rest=>[(.slot 36,.one (.v (dint done.length))),(.slot 35,.one (.v (dint t.args.length))),(.slot 34,.one (.v (.sl (t.args.map Tm.cells)))),(.loc 7,.row ([.v (dint t.kind),.v (dint t.index),.v (dint t.type.kind),.v (.sl (t.type.args.map Ty.cells)),.own 1007 (done.map fun x=>(x.upN (f+bindI t.kind) b).cells)])),(.slot 7,.one (.loc 7 0)),(.tok 1007,.tk 5 done.length),(.slot 1,.one (.v (dint (f+bindI t.kind)))),(.slot 2,.one (.v (dint b))),(.loc 6,.row ([.v (dint 0),.v (dint 0),.v (dint 0),.own 0 [],.own 0 []])),(.slot 6,.one (.loc 6 0))]) ?_ ?_)
  ·intro done x rest hL hg0 hnext
   have hlt:done.length<t.args.length:=by rw [hL];simp
   have hxm:=List.mem_of_getElem? hg0
   have hcs:=Tm.count_mem hxm
   refine z00 ?_
   refine z07 ?_
   refine t_g @hg0 ?_
   refine t_c1 @hg0 (ih x hxm (f+bindI t.kind) (hsa x hxm) (hix.2 x hxm) (by omega) (by omega)) ?_
   refine t_gt (wr [(1007,47)]) (Tm.cells_eq (x.upN (f+bindI t.kind) b)) trivial hnext
  ·refine z00 ?_
   refine t_no ?_
   refine t_g0 ?_
   refine t_r ?_
   simp [go_sem,hP,hgl,hn] <;> (try omega)
   simp [Tm.dv,Tm.cells_eq,Tm.kind_mk,Tm.index_mk,Tm.type_mk,Tm.args_mk]
abbrev mk1 (e:Int):List DV:=[dint e]
theorem z06 (e k:Int)(s:Ty)(l:List Tm):(nodeE e k s l).1.count≤4096:=by
 unfold nodeE buildN
 split
 ·split
  ·show 1+0≤4096;omega
  ·simp only;omega
 ·show 1+0≤4096;omega
end
section
section
variable {X:Ctx}{s:St}
theorem zi7 {o:Oper}{t len E B:Nat}{parts:Array (Nat × Operand)}(ho:o.op = .buildSlice t len parts){d:Nat}(hd:o.dst=some d)(hn:d<X.n)(hd0:d ≠ 0)(hf:freshT d s=true)(he:elemZ X.P t=some (E,B)){els:List (List DV)}
  (h:litEls X (get s) E 0 parts.toList=some els) (hc:els.length=len∧len * E≤16777216∧len≤BIG):StepOK X s o (upd (upd (del s (.tok 0)) (.slot d) (.one (.own d els))) (.tok d) (.tk E len)):=by
 intro G a w R next Q hK
 obtain ⟨c,e,h1,h2,h3⟩:=zfe R he h hc.1 hc.2.1 hc.2.2
 refine opIn (by intro c e;rw [ho] at e;cases e) ?_
 simp only [execOp,ho,Sem.run_bind,h1,Result.andThen_ok,Sem.run_pure,z1y,hd]
 have hτ0:(setτ G (withData G.D w.heap.size 0 (len * E)) d (some ⟨w.heap.size,0,none⟩,len)).τ 0=(none,0):=by simp only [setτ,if_neg (Ne.symm hd0)];exact R.nil
 have T:Trans X G a w (setτ G (withData G.D w.heap.size 0 (len * E)) d (some ⟨w.heap.size,0,none⟩,len)) a (w.alloc (.cells c e)) (fun _=>False):=zby R (hi:=len * E) (by omega) rfl hτ0
 refine hK (setτ G (withData G.D w.heap.size 0 (len * E)) d (some ⟨w.heap.size,0,none⟩,len)) _ _ (R.ownNew (t:=0) hn hf T rfl (fun k hk=>by simp [setτ,hk]) (fun b h=>h.elim) ?_ ?_ (fun b hb=>?_))
 ·simp only [RSV,setτ,if_true]
  rw [← hc.1] at h3 ⊢
  exact ⟨rfl,h3⟩
 ·simp only [TokAt,setτ,if_true]
  exact ⟨Nat.le_refl _,fun h=>absurd h (Nat.lt_irrefl _)⟩
 ·simp [tokBlk,setτ] at hb
theorem zi8 {esc:List Nat}{ops:Array Oper}{l:List Oper}{K:St→Prop}{d:Tmp}{t len:Nat}{parts:Array (Nat × Operand)}{ty:TypeId}{pos:String}{af:Array Edge}{q:Option (Prop × St)}{E B:Nat}{els:List (List DV)}
  (he:elemZ X.P t=some (E,B)) (h:litEls X (get s) E 0 parts.toList=some els) (hc:els.length=len∧len * E≤16777216∧len≤BIG) (hn:d<X.n) (hd0:d ≠ 0) (hf:freshT d s=true) (hq:q=none)
  (k:vc X esc ops l (upd (upd (del s (.tok 0)) (.slot d) (.one (.own d els))) (.tok d) (.tk E len)) K) :
  vcK X esc ops l K ⟨some d,.buildSlice t len parts,ty,pos,af,none⟩ s q:=by
 subst hq
 exact z4o rfl (zi7 (o:=⟨some d,.buildSlice t len parts,ty,pos,af,none⟩) rfl rfl hn hd0 hf he h hc) (z1c k)
theorem z174 {ops:Array Oper}{s0:St}{K:St→Prop}{l:List Oper}{k:St→List Ev→Prop}{ev:List Ev}{fp wr:List Loc}{d:Tmp}{t len:Nat}{parts:Array (Nat × Operand)}{ty:TypeId}{pos:String}{af:Array Edge}{q:Option (Prop × St)}{E B:Nat}{els:List (List DV)}
  (hk:∀ s ev,k s ev→VD X ops s0 l s ev K) (he:elemZ X.P t=some (E,B)) (h:litEls X (get (restr s fp)) E 0 parts.toList=some els) (hc:els.length=len∧len * E≤16777216∧len≤BIG) (hn:d<X.n) (hd0:d ≠ 0) (hq:q=none)
  (g:vcdD k ev s fp [d] [(.tok 0,none),(.slot d,some (.one (.own d els))),(.tok d,some (.tk E len))]) :
  vcdC X ops s0 l K k ⟨some d,.buildSlice t len parts,ty,pos,af,none⟩ ev s fp wr q:=by
 subst hq
 show VD X ops s0 _ s ev K
 refine z5e ⟨fp,_,[d]⟩ (fun s' hs hfr=>z4q (.inl rfl) ?_) (hk _ _ g)
 have hf:=z7s (hfr d (by simp))
 exact zi7 (o:=⟨some d,.buildSlice t len parts,ty,pos,af,none⟩) rfl rfl hn hd0 hf.2 he (zc6 hs h) hc
end
end
section
variable {gl:Globs}
def szC (t:Ty):List DV:=[dint t.kind,.sl (t.args.map Ty.cells),dint (t.count:Int)]
theorem z0q (t:Ty):szC t=[dint t.kind,.sl (t.args.map Ty.cells),dint (t.count:Int)]:=rfl
theorem zdd (a b:Ty):Con1 Tryz.prog gl 137 [a.dv,b.dv] [] (dbool (a.same b)) []:=by
 induction a using Ty.ind generalizing b with
 | h a ih=>
 refine t_in Tryz.func137 ?_
 intro X hP hgl hf hfn hn hR hids hfit
 have hla:=Ty.fit_len (hfit a.dv (by simp))
 have hlb:=Ty.fit_len (hfit b.dv (by simp))
 by_cases hk:a.kind=b.kind
 ·by_cases hl:a.args.length=b.args.length
  ·refine t_g (j2 @hk @hl) ?_
   refine t_a ?_
   refine z0e [] (j2 @hk @hl) (z2h (a.args.length) (fun i=>∀ (j:Nat) (x y:Ty),j<i→a.args[j]? = some x→b.args[j]? = some y→x.same y=true) (fun i=>[(.slot 24,.one (.v (dint i))),(.slot 23,.one (.v (dint a.args.length))),(.slot 22,.one (.v (.sl (a.args.map Ty.cells)))),(.slot 3,.one (.loc 3 0)),(.loc 3,.row ([.v (dint b.kind),.v (.sl (b.args.map Ty.cells))]))]) (by intro j x y h;omega) ?_ ?_)
   ·intro i hlt hI hnext
    obtain ⟨x,hx⟩:∃ x,a.args[i]? = some x:=⟨_,List.getElem?_eq_getElem hlt⟩
    obtain ⟨y,hy⟩:∃ y,b.args[i]? = some y:=⟨_,List.getElem?_eq_getElem (by omega)⟩
    refine z00 ?_
    refine z07 ?_
    refine t_g (j2 @hx @hy) ?_
    refine t_c1 (j2 @hx @hy) (ih x (List.mem_of_getElem? hx) y) ?_
    by_cases hs:x.same y=true
    ·refine t_gt (wr []) trivial @hs (hnext ?_)
     intro j x' y' hj hx' hy'
     by_cases hji:j=i
     ·subst hji;rw [hx] at hx';rw [hy] at hy';cases hx';cases hy';exact hs
     ·exact hI j x' y' (by omega) hx' hy'
    ·refine t_g @hs ?_
     refine t_r ?_
     simp [go_sem,hP,hgl,hn] <;> (try omega)
     refine Bool.eq_false_iff.2 ?_
     intro h
     rw [Ty.same_eq,Bool.and_eq_true,Ty.sames_iff] at h
     exact hs (h.2.2 i x y hx hy)
   ·intro hI
    refine z00 ?_
    refine t_no ?_
    refine t_g0 ?_
    refine t_r ?_
    simp [go_sem,hP,hgl,hn] <;> (try omega)
    rw [Ty.same_eq,Bool.and_eq_true,Ty.sames_iff]
    exact ⟨by simp [hk],hl,fun i x y hx hy=>hI i x y (List.getElem?_eq_some_iff.1 hx).1 hx hy⟩
  ·refine t_g (j2 @hk @hl) ?_
   refine t_r ?_
   simp [go_sem,hP,hgl,hn] <;> (try omega)
   refine Bool.eq_false_iff.2 ?_
   intro h
   rw [Ty.same_eq,Bool.and_eq_true,Ty.sames_iff] at h
   exact hl h.2.1
 ·refine t_g @hk ?_
  refine t_r ?_
  simp [go_sem,hP,hgl,hn] <;> (try omega)
  simp [Ty.same_eq,hk]
theorem zi9 (t:Ty):Con1 Tryz.prog gl 74 [t.dv] [] t.dv []:=by
 induction t using Ty.ind with
 | h t ih=>
 refine t_in Tryz.func74 ?_
 intro X hP hgl hf hfn hn hR hids hfit
 have hlen:=Ty.fit_len (hfit t.dv (by simp))
 refine t_g0 ?_
 refine t_a ?_
 refine z0e [(1003,0)] trivial (z1z (t.args) (fun done rest=>[(.slot 12,.one (.v (dint done.length))),(.slot 11,.one (.v (dint t.args.length))),(.slot 10,.one (.v (.sl (t.args.map Ty.cells)))),(.slot 3,.one (.loc 3 0)),(.loc 3,.row ([.v (dint t.kind),.own 1003 (done.map Ty.cells)])),(.tok 1003,.tk 2 done.length),(.slot 2,.one (.loc 2 0)),(.loc 2,.row ([.v (dint 0),.own 0 []]))]) ?_ ?_)
 ·intro done x rest hL hg hnext
  have hlt:done.length<t.args.length:=by rw [hL];simp
  have hfo:=Ty.fold x
  refine z00 ?_
  refine z07 ?_
  refine t_rg @hg ?_
  refine t_a ?_
  first|refine z05 [] fun K hK=>?_|refine z09 (by rw [hP];exact z08) [] fun K hK=>?_
  refine t_s0 ?_
  refine t_c trivial (ih x (List.mem_of_getElem? hg)) ?_
  refine t_e ?_
  clear hK K
  refine z00 ?_
  refine t_b ?_
  refine z0e [(1003,21)] trivial hnext
 ·refine z00 ?_
  refine t_no ?_
  refine t_g0 ?_
  refine t_r ?_
  simp [go_sem,hP,hgl,hn] <;> (try omega)
  all_goals exact t_f
theorem z40 (t:Ty)(ht:t.ok):Con1 Tryz.prog gl 120 [t.dv] [] (.agg (szC t)) []:=by
 refine t_in Tryz.func120 ?_
 intro X hP hgl hf hfn hn hR hids hfit
 have hc:=ht.2
 have h0:=(Ty.checkN_iff t).2 ht
 have hfo:=Ty.fold t
 refine t_g0 ?_
 refine t_c1 (j2 @hfo @h0) (z7z t (by omega)) ?_
 refine t_g @h0 ?_
 refine t_r ?_
 simp [go_sem,hP,hgl,hn,z0q t] <;> (try omega)
theorem zb0 (t x:Ty)(i:Nat)(hx:t.args[i]? = some x)(ho:x.ok):Con1 Tryz.prog gl 150 [.agg (szC t),dint (i:Int)] [] (.agg (szC x)) []:=by
 refine t_in Tryz.func150 ?_
 intro X hP hgl hf hfn hn hR hids hfit
 have hsz:=z0q t
 have hfo:=Ty.fold x
 refine t_rg @hsz ?_
 refine t_c1 (j2 @hx (j2 @hfo (z0q x))) (z40 x ho) ?_
 refine t_r ?_
 simp [go_sem,hP,hgl,hn,z0q x] <;> (try omega)
theorem z51 (t:Ty)(k:Int):Con1 Tryz.prog gl 149 [.agg (szC t),dint k] [] (dbool (decide (t.kind=k))) []:=by
 refine t_in Tryz.func149 ?_
 intro X hP hgl hf hfn hn hR hids hfit
 have hsz:=z0q t
 refine t_g @hsz ?_
 refine t_r ?_
 simp [go_sem,hP,hgl,hn] <;> (try omega)
theorem zia (a b:Ty):Con1 Tryz.prog gl 151 [.agg (szC a),.agg (szC b)] [] (dbool (a.same b)) []:=by
 refine t_in Tryz.func151 ?_
 intro X hP hgl hf hfn hn hR hids hfit
 have ha:=z0q a
 have hb:=z0q b
 have fa:=Ty.fold a
 have fb:=Ty.fold b
 by_cases h:a.count=b.count
 ·refine t_rg (j2 @ha @hb) ?_
  refine t_c1 (j2 @ha (j2 @hb (j2 @h (j2 @fa @fb)))) (zdd a b) ?_
  refine t_r ?_
  simp [go_sem,hP,hgl,hn] <;> (try omega)
 ·have hs:a.same b=false:=by
   refine Bool.eq_false_iff.2 fun e=>h ?_
   rw [(Ty.same_iff a b).1 e]
  have hi:¬ (a.count:Int)=(b.count:Int):=by omega
  refine t_g (j2 @ha (j2 @hb @hi)) ?_
  refine t_r ?_
  simp [go_sem,hP,hgl,hn,hs] <;> (try omega)
theorem zib (k:Int)(a b:Ty)(hc:1+a.count+b.count≤64):Con1 Tryz.prog gl 121 [dint k,.agg (szC a),.agg (szC b)] [] (.tup [.agg (szC (Ty.mk k [a,b])),dint 0]) []:=by
 refine t_in Tryz.func121 ?_
 intro X hP hgl hf hfn hn hR hids hfit
 have ha:=z0q a
 have hb:=z0q b
 have hc1:(1:Int)+a.count+b.count≤64:=by omega
 have hr:szC (Ty.mk k [a,b])=[dint k,.sl [a.cells,b.cells],dint (1+(a.count:Int)+(b.count:Int))]:=by
  rw [z0q,z80]
  simp [Ty.kind,Ty.args]
  omega
 refine t_g (j2 @ha (j2 @hb @hc1)) ?_
 refine t_r ?_
 simp [go_sem,hP,hgl,hn,hr,Ty.cells_eq a,Ty.cells_eq b] <;> (try omega)
theorem z3c (k:Int):Con1 Tryz.prog gl 148 [dint k] [] (.sl (ints (if k=4 then [1] else if k=5 then [1,1] else if k=7 then [2] else if k=8 then [2,1,2] else if k=13 then [5] else []))) []:=by
 refine t_in Tryz.func148 ?_
 intro X hP hgl hf hfn hn hR hids hfit
 by_cases hs0:k=4
 ·refine t_g @hs0 ?_
  refine t_r ?_
  simp [go_sem,hP,hgl,hn,ints,hs0] <;> (try omega)
 by_cases hs1:k=5
 ·refine t_g @hs1 ?_
  refine t_r ?_
  simp [go_sem,hP,hgl,hn,ints,hs1] <;> (try omega)
 by_cases hs2:k=7
 ·refine t_g @hs2 ?_
  refine t_r ?_
  simp [go_sem,hP,hgl,hn,ints,hs2] <;> (try omega)
 by_cases hs3:k=8
 ·refine t_g @hs3 ?_
  refine t_r ?_
  simp [go_sem,hP,hgl,hn,ints,hs3] <;> (try omega)
 by_cases hs4:k=13
 ·refine t_g @hs4 ?_
  refine t_r ?_
  simp [go_sem,hP,hgl,hn,ints,hs4] <;> (try omega)
 refine t_g (j2 @hs0 (j2 @hs1 (j2 @hs2 (j2 @hs3 @hs4)))) ?_
 refine t_r ?_
 simp [go_sem,hP,hgl,hn,ints,hs0,hs1,hs2,hs3,hs4] <;> (try omega)
theorem zic:Con1 Tryz.prog gl 170 [] [] (Ty.mk 1 []).dv []:=by
 refine t_in Tryz.func170 ?_
 intro X hP hgl hf hfn hn hR hids hfit
 refine t_g0 ?_
 refine t_r ?_
 simp [go_sem,hP,hgl,hn] <;> (try omega)
 all_goals exact t_f
theorem z175:Con1 Tryz.prog gl 171 [] [] (Ty.mk 2 []).dv []:=by
 refine t_in Tryz.func171 ?_
 intro X hP hgl hf hfn hn hR hids hfit
 refine t_g0 ?_
 refine t_r ?_
 simp [go_sem,hP,hgl,hn] <;> (try omega)
 all_goals exact t_f
def funT (r:Ty)(l:List Ty):Ty:=l.foldr (fun a r=>Ty.mk 4 [a,r]) r
theorem zid (r:Ty)(l:List Ty):Con1 Tryz.prog gl 169 [r.dv,.sl (l.map Ty.cells)] [] (funT r l).dv []:=by
 refine t_in Tryz.func169 ?_
 intro X hP hgl hf hfn hn hR hids hfit
 have hll:=z4d (hfit (.sl (l.map Ty.cells)) (by simp))
 simp at hll
 have h0:l.drop l.length=[]:=List.drop_length
 refine t_g0 ?_
 refine t_a ?_
 refine z0c [] (by simp [go_sem]) (by simp [go_sem,h0,funT,List.foldr_nil] <;> omega) (by simp [go_sem]) (z1k (fun k:Nat=>k≤l.length) (fun k:Nat=>[(.slot 1,.one (.v (.sl (l.map Ty.cells)))),(.slot 2,.one (.loc 2 0)),(.loc 2,.row ([.v (dint (funT r (l.drop k)).kind),.v (.sl ((funT r (l.drop k)).args.map Ty.cells))])),(.slot 4,.one (.loc 4 0)),(.loc 4,.row ([.v (dint 0),.own 0 []])),(.slot 5,.one (.v (dint ((k:Int) - 1))))]) (fun k:Nat=>k) l.length (Nat.le_refl _) ?_)
 intro k hk ih
 cases k with
 | zero=>
  refine z00 ?_
  refine t_no ?_
  refine t_g0 ?_
  refine t_r ?_
  simp [go_sem,hP,hgl,hn,Ty.cells_eq] <;> (try omega)
 | succ k=>
  have hlt:k<l.length:=by omega
  obtain ⟨a,ha⟩:∃ a,l[k]? = some a:=⟨_,List.getElem?_eq_getElem hlt⟩
  have hd:l.drop k=a::l.drop (k+1):=by
   rw [List.drop_eq_getElem_cons hlt]
   rw [List.getElem?_eq_getElem hlt,Option.some.injEq] at ha
   rw [ha]
  have hfd:funT r (l.drop k)=Ty.mk 4 [a,funT r (l.drop (k+1))]:=by rw [hd];rfl
  have hk1:((k+1:Nat):Int) - 1=(k:Int):=by omega
  have hle:(k:Int)≤2147483648:=by omega
  have hcl:=Ty.cells_eq (funT r (l.drop (k+1)))
  have hih:=ih k (by omega) (by omega)
  rw [hfd] at hih
  simp only [Ty.kind,Ty.args] at hih
  rw [hk1]
  refine z00 ?_
  refine z07 ?_
  refine t_rg @ha ?_
  refine z00 ?_
  refine t_b ?_
  refine z0e [] (Ty.cells_eq (funT r (l.drop (k+1)))) hih
end
section
variable {gl:Globs}
def szZ:List DV:=[dint 0,.sl [],dint 0]
def szO:Option Ty→List DV
 | some t=>szC t
 | none=>szZ
def sz3 (l:List Ty):List DV:=szO l[0]?++(szO l[1]?++szO l[2]?)
theorem zb1:sz3 []=[dint 0,.sl [],dint 0,dint 0,.sl [],dint 0,dint 0,.sl [],dint 0]:=rfl
theorem zb2 (a:Ty):sz3 [a]=[dint a.kind,.sl (a.args.map Ty.cells),dint (a.count:Int),dint 0,.sl [],dint 0,dint 0,.sl [],dint 0]:=rfl
theorem z75 (a b:Ty):sz3 [a,b]=[dint a.kind,.sl (a.args.map Ty.cells),dint (a.count:Int),dint b.kind,.sl (b.args.map Ty.cells),dint (b.count:Int),dint 0,.sl [],dint 0]:=rfl
theorem zie (a b c:Ty):sz3 [a,b,c]=[dint a.kind,.sl (a.args.map Ty.cells),dint (a.count:Int),dint b.kind,.sl (b.args.map Ty.cells),dint (b.count:Int),dint c.kind,.sl (c.args.map Ty.cells),dint (c.count:Int)]:=rfl
theorem z176 (t:Tm):Con1 Tryz.prog gl 152 [t.dv] [] (funT t.type (if t.kind=9 then [Ty.mk 1 [],Ty.mk 2 [],t.type] else [Ty.mk 1 [],t.type])).dv []:=by
 refine t_in Tryz.func152 ?_
 intro X hP hgl hf hfn hn hR hids hfit
 have hfo:=Ty.fold t.type
 have hc:=Ty.cells_eq t.type
 by_cases h:t.kind=9
 ·have w:=zid (gl:=gl) t.type [Ty.mk 1 [],Ty.mk 2 [],t.type]
  refine t_g @h ?_
  refine t_c3 (j2 @h (j2 @hfo (j2 @hc (j2 @z2i @z3y)))) zic z175 w ?_
  refine t_r ?_
  simp [go_sem,hP,hgl,hn,h] <;> (try omega)
  all_goals exact t_f
 ·have w:=zid (gl:=gl) t.type [Ty.mk 1 [],t.type]
  refine t_g @h ?_
  refine t_c2 (j2 @h (j2 @hfo (j2 @hc @z2i))) zic w ?_
  refine t_r ?_
  simp [go_sem,hP,hgl,hn,h] <;> (try omega)
  all_goals exact t_f
theorem z8s (k:Int):(Ty.mk k []).dv = .agg [dint k,.sl []]:=rfl
theorem z41 (k:Int):szC (Ty.mk k [])=[dint k,.sl [],dint 1]:=rfl
theorem z177 (t:Tm)(h:t.kind=4):Con1 Tryz.prog gl 122 [t.dv,.agg (sz3 [])] [] (.tup [.agg (szC (Ty.mk 1 [])),dint 0]) []:=by
 rw [zb1]
 have wp:=z3c (gl:=gl) 4
 rw [if_pos rfl] at wp
 have wo:=z40 (gl:=gl) (Ty.mk 1 []) zag
 rw [z8s,z41] at wo
 rw [z41]
 refine t_in Tryz.func122 ?_
 intro X hP hgl hf hfn hn hR hids hfit
 have hi:ints [1]=[[dint 1]]:=rfl
 rw [hi] at wp
 refine t_g @h ?_
 refine t_c1 @h wp ?_
 refine t_g0 ?_
 refine z0n ?_
 refine t_g0 ?_
 refine t_c1 trivial wo ?_
 refine t_r ?_
 simp [go_sem,hP,hgl,hn] <;> (try omega)
theorem z178 (t:Tm)(h:t.kind=7):Con1 Tryz.prog gl 122 [t.dv,.agg (sz3 [])] [] (.tup [.agg (szC (Ty.mk 2 [])),dint 0]) []:=by
 rw [zb1]
 have wp:=z3c (gl:=gl) 7
 rw [if_neg (by decide),if_neg (by decide),if_pos rfl] at wp
 have wo:=z40 (gl:=gl) (Ty.mk 2 []) zah
 rw [z8s,z41] at wo
 rw [z41]
 refine t_in Tryz.func122 ?_
 intro X hP hgl hf hfn hn hR hids hfit
 have hi:ints [2]=[[dint 2]]:=rfl
 rw [hi] at wp
 refine t_g @h ?_
 refine t_c1 @h wp ?_
 refine t_g0 ?_
 refine z0n ?_
 refine t_g0 ?_
 refine t_c1 trivial wo ?_
 refine t_r ?_
 simp [go_sem,hP,hgl,hn] <;> (try omega)
theorem z179 (t:Tm)(h:t.kind=13):Con1 Tryz.prog gl 122 [t.dv,.agg (sz3 [])] [] (.tup [.agg (szC (Ty.mk 5 [])),dint 0]) []:=by
 rw [zb1]
 have wp:=z3c (gl:=gl) 13
 rw [if_neg (by decide),if_neg (by decide),if_neg (by decide),if_neg (by decide),if_pos rfl] at wp
 have wo:=z40 (gl:=gl) (Ty.mk 5 []) zgv
 rw [z8s,z41] at wo
 rw [z41]
 refine t_in Tryz.func122 ?_
 intro X hP hgl hf hfn hn hR hids hfit
 have hi:ints [5]=[[dint 5]]:=rfl
 rw [hi] at wp
 refine t_g @h ?_
 refine t_c1 @h wp ?_
 refine t_g0 ?_
 refine z0n ?_
 refine t_g0 ?_
 refine t_c1 trivial wo ?_
 refine t_r ?_
 simp [go_sem,hP,hgl,hn] <;> (try omega)
theorem z17a (t:Tm)(h:t.kind=5):Con1 Tryz.prog gl 122 [t.dv,.agg (sz3 [Ty.mk 1 []])] [] (.tup [.agg (szC (Ty.mk 1 [])),dint 0]) []:=by
 rw [zb2]
 have wp:=z3c (gl:=gl) 5
 rw [if_neg (by decide),if_pos rfl] at wp
 have wo:=z40 (gl:=gl) (Ty.mk 1 []) zag
 have wi:=z51 (gl:=gl) (Ty.mk 1 []) 1
 rw [z8s,z41] at wo
 rw [z41] at wi ⊢
 have hi:ints [1,1]=[[dint 1],[dint 1]]:=rfl
 have hd:decide ((Ty.mk 1 []).kind=1)=true:=rfl
 have hk:(Ty.mk 1 []).kind=1:=rfl
 have ha:(Ty.mk 1 []).args=[]:=rfl
 have hc:(Ty.mk 1 []).count=1:=rfl
 rw [hi] at wp
 rw [hd] at wi
 rw [hk,ha,hc]
 refine t_in Tryz.func122 ?_
 intro X hP hgl hf hfn hn hR hids hfit
 refine t_g @h ?_
 refine t_c1 @h wp ?_
 refine t_g0 ?_
 refine z0n ?_
 refine t_g0 ?_
 refine t_c1 trivial wi ?_
 refine t_g0 ?_
 refine z0j ?_
 refine t_g0 ?_
 refine t_c1 trivial wo ?_
 refine t_r ?_
 simp [go_sem,hP,hgl,hn] <;> (try omega)
theorem z17b (t:Tm)(h:t.kind=8):Con1 Tryz.prog gl 122 [t.dv,.agg (sz3 [Ty.mk 1 [],Ty.mk 2 []])] [] (.tup [.agg (szC (Ty.mk 2 [])),dint 0]) []:=by
 rw [z75]
 have wp:=z3c (gl:=gl) 8
 rw [if_neg (by decide),if_neg (by decide),if_neg (by decide),if_pos rfl] at wp
 have wo:=z40 (gl:=gl) (Ty.mk 2 []) zah
 have wi:=z51 (gl:=gl) (Ty.mk 1 []) 1
 have wj:=z51 (gl:=gl) (Ty.mk 2 []) 2
 rw [z8s,z41] at wo
 rw [z41] at wi wj ⊢
 have hi:ints [2,1,2]=[[dint 2],[dint 1],[dint 2]]:=rfl
 have hd:decide ((Ty.mk 1 []).kind=1)=true:=rfl
 have hk:(Ty.mk 1 []).kind=1:=rfl
 have ha:(Ty.mk 1 []).args=[]:=rfl
 have hc:(Ty.mk 1 []).count=1:=rfl
 have hd2:decide ((Ty.mk 2 []).kind=2)=true:=rfl
 have hk2:(Ty.mk 2 []).kind=2:=rfl
 have ha2:(Ty.mk 2 []).args=[]:=rfl
 have hc2:(Ty.mk 2 []).count=1:=rfl
 rw [hi] at wp
 rw [hd] at wi
 rw [hd2] at wj
 rw [hk,ha,hc,hk2,ha2,hc2]
 refine t_in Tryz.func122 ?_
 intro X hP hgl hf hfn hn hR hids hfit
 refine t_g @h ?_
 refine t_c1 @h wp ?_
 refine t_g0 ?_
 refine z0n ?_
 refine t_g0 ?_
 refine t_c1 trivial wi ?_
 refine t_g0 ?_
 refine z0j ?_
 refine t_g0 ?_
 refine t_c1 trivial wj ?_
 refine t_g0 ?_
 refine z0j ?_
 refine t_g0 ?_
 refine t_c1 trivial wo ?_
 refine t_r ?_
 simp [go_sem,hP,hgl,hn] <;> (try omega)
theorem z17c (t:Tm)(h:t.kind=3)(x y a r:Ty)(hk:x.kind=4)(hx:x.args=[a,r])(ha:a.ok)(hr:r.ok)(hs:a.same y=true) :
  Con1 Tryz.prog gl 122 [t.dv,.agg (sz3 [x,y])] [] (.tup [.agg (szC r),dint 0]) []:=by
 rw [z75]
 have wp:=z3c (gl:=gl) 3
 rw [if_neg (by decide),if_neg (by decide),if_neg (by decide),if_neg (by decide),if_neg (by decide)] at wp
 have wi:=z51 (gl:=gl) x 4
 have w0:=zb0 (gl:=gl) x a 0 (by rw [hx];rfl) ha
 have w1:=zb0 (gl:=gl) x r 1 (by rw [hx];rfl) hr
 have ws:=zia (gl:=gl) a y
 have hi:ints []=[]:=rfl
 have hd:decide (x.kind=4)=true:=decide_eq_true hk
 rw [hi] at wp
 rw [hd] at wi
 rw [hs] at ws
 simp only [z0q] at wi w0 w1 ws ⊢
 refine t_in Tryz.func122 ?_
 intro X hP hgl hf hfn hn hR hids hfit
 refine t_g @h ?_
 refine t_c1 @h wp ?_
 refine t_g @h ?_
 refine t_c3 trivial wi w0 ws ?_
 refine t_g0 ?_
 refine t_c1 trivial w1 ?_
 refine t_r ?_
 simp [go_sem,hP,hgl,hn] <;> (try omega)
theorem zif (t:Tm)(h:t.kind=6∨t.kind=9)(ht:t.type.ok)(x y z:Ty)(hx:x.same t.type=true)(hy:y.same (funT t.type (if t.kind=9 then [Ty.mk 1 [],Ty.mk 2 [],t.type] else [Ty.mk 1 [],t.type]))=true)(hz:z.kind=if t.kind=9 then 2 else 1) :
  Con1 Tryz.prog gl 122 [t.dv,.agg (sz3 [x,y,z])] [] (.tup [.agg (szC t.type),dint 0]) []:=by
 rw [zie]
 have wo:=z40 (gl:=gl) t.type ht
 have ws:=zia (gl:=gl) x t.type
 have wt:=z176 (gl:=gl) t
 have wy:=zdd (gl:=gl) y (funT t.type (if t.kind=9 then [Ty.mk 1 [],Ty.mk 2 [],t.type] else [Ty.mk 1 [],t.type]))
 have fty:=Ty.fold t.type
 have fy:=Ty.fold y
 have ftt:=Tm.fold t
 rw [hx] at ws
 rw [hy] at wy
 generalize funT t.type (if t.kind=9 then [Ty.mk 1 [],Ty.mk 2 [],t.type] else [Ty.mk 1 [],t.type])=st at *
 have fst:=Ty.fold st
 have cst:=Ty.cells_eq st
 simp only [z0q] at wo ws ⊢
 rcases h with h|h
 ·have wp:=z3c (gl:=gl) 6
  rw [if_neg (by decide),if_neg (by decide),if_neg (by decide),if_neg (by decide),if_neg (by decide)] at wp
  have hi:ints []=[]:=rfl
  rw [hi] at wp
  rw [if_neg (by omega)] at hz
  have wi:=z51 (gl:=gl) z 1
  rw [decide_eq_true hz] at wi
  simp only [z0q] at wi
  rw [h] at ftt
  refine t_in Tryz.func122 ?_
  intro X hP hgl hf hfn hn hR hids hfit
  refine t_g @h ?_
  refine t_c1 @h wp ?_
  refine t_g @h ?_
  refine t_c1 (j2 @h @fty) wo ?_
  refine t_g @h ?_
  refine t_c4 (j2 @h (j2 @fy (j2 @ftt @fst))) ws wt wy wi ?_
  refine t_g0 ?_
  refine t_r ?_
  simp [go_sem,hP,hgl,hn] <;> (try omega)
 ·have wp:=z3c (gl:=gl) 9
  rw [if_neg (by decide),if_neg (by decide),if_neg (by decide),if_neg (by decide),if_neg (by decide)] at wp
  have hi:ints []=[]:=rfl
  rw [hi] at wp
  rw [if_pos h] at hz
  have wi:=z51 (gl:=gl) z 2
  rw [decide_eq_true hz] at wi
  simp only [z0q] at wi
  rw [h] at ftt
  refine t_in Tryz.func122 ?_
  intro X hP hgl hf hfn hn hR hids hfit
  refine t_g @h ?_
  refine t_c1 @h wp ?_
  refine t_g @h ?_
  refine t_c1 (j2 @h @fty) wo ?_
  refine t_g @h ?_
  refine t_c4 (j2 @h (j2 @fy (j2 @ftt @fst))) ws wt wy wi ?_
  refine t_g0 ?_
  refine t_r ?_
  simp [go_sem,hP,hgl,hn] <;> (try omega)
theorem z17d (t:Tm)(h:t.kind=10)(x y:Ty)(hc:1+x.count+y.count≤64) :
  Con1 Tryz.prog gl 122 [t.dv,.agg (sz3 [x,y])] [] (.tup [.agg (szC (Ty.mk 3 [x,y])),dint 0]) []:=by
 rw [z75]
 have wp:=z3c (gl:=gl) 10
 rw [if_neg (by decide),if_neg (by decide),if_neg (by decide),if_neg (by decide),if_neg (by decide)] at wp
 have hi:ints []=[]:=rfl
 rw [hi] at wp
 have wj:=zib (gl:=gl) 3 x y hc
 generalize Ty.mk 3 [x,y]=r at *
 simp only [z0q] at wj ⊢
 refine t_in Tryz.func122 ?_
 intro X hP hgl hf hfn hn hR hids hfit
 refine t_g @h ?_
 refine t_c1 @h wp ?_
 refine t_g @h ?_
 refine t_c1 trivial wj ?_
 refine t_r ?_
 simp [go_sem,hP,hgl,hn] <;> (try omega)
theorem z17e (t:Tm)(h:t.kind=11)(x a b:Ty)(hk:x.kind=3)(hx:x.args=[a,b])(ha:a.ok) :
  Con1 Tryz.prog gl 122 [t.dv,.agg (sz3 [x])] [] (.tup [.agg (szC a),dint 0]) []:=by
 rw [zb2]
 have wp:=z3c (gl:=gl) 11
 rw [if_neg (by decide),if_neg (by decide),if_neg (by decide),if_neg (by decide),if_neg (by decide)] at wp
 have hi:ints []=[]:=rfl
 rw [hi] at wp
 have wi:=z51 (gl:=gl) x 3
 have w0:=zb0 (gl:=gl) x a 0 (by rw [hx];rfl) ha
 rw [decide_eq_true hk] at wi
 simp only [z0q] at wi w0 ⊢
 refine t_in Tryz.func122 ?_
 intro X hP hgl hf hfn hn hR hids hfit
 refine t_g @h ?_
 refine t_c1 @h wp ?_
 refine t_g @h ?_
 refine t_c1 trivial wi ?_
 refine t_g @h ?_
 refine t_c1 trivial w0 ?_
 refine t_r ?_
 simp [go_sem,hP,hgl,hn] <;> (try omega)
theorem z17f (t:Tm)(h:t.kind=12)(x a b:Ty)(hk:x.kind=3)(hx:x.args=[a,b])(hb:b.ok) :
  Con1 Tryz.prog gl 122 [t.dv,.agg (sz3 [x])] [] (.tup [.agg (szC b),dint 0]) []:=by
 rw [zb2]
 have wp:=z3c (gl:=gl) 12
 rw [if_neg (by decide),if_neg (by decide),if_neg (by decide),if_neg (by decide),if_neg (by decide)] at wp
 have hi:ints []=[]:=rfl
 rw [hi] at wp
 have wi:=z51 (gl:=gl) x 3
 have w0:=zb0 (gl:=gl) x b 1 (by rw [hx];rfl) hb
 rw [decide_eq_true hk] at wi
 simp only [z0q] at wi w0 ⊢
 refine t_in Tryz.func122 ?_
 intro X hP hgl hf hfn hn hR hids hfit
 refine t_g @h ?_
 refine t_c1 @h wp ?_
 refine t_g @h ?_
 refine t_c1 trivial wi ?_
 refine t_g @h ?_
 refine t_c1 trivial w0 ?_
 refine t_r ?_
 simp [go_sem,hP,hgl,hn] <;> (try omega)
end
section
variable {gl:Globs}
theorem z2b (t:Tm)(h:t.shape=true):t.tys:=by
 induction t using Tm.ind with
 | h t ih=>
 obtain ⟨-,-,-,h4,h5⟩:=Tm.shape_node h
 rw [Tm.tys_eq]
 refine ⟨?_,fun a ha=>ih a ha (h5 a ha)⟩
 split at h4
 ·have:=h4.2;omega
 ·unfold Ty.zero at h4
  simp at h4
  rw [Ty.count_eq,h4.2]
  decide
theorem zde {l:List Int}{t:Ty}{g:List Ty}{p q:Nat}{x:Tm}(h:pickD l t g p=(some x,q)):x.count=1:=by
 obtain ⟨i,rfl,-⟩:=zcr h
 rfl
theorem zb3 (l:List Int)(p:Nat):(numD l p).1.count≤3:=by
 have:=z0y (l:=l) (p:=p) (n:=3) (by decide)
 show (numTm _).count≤3
 rw [z4u]
 omega
theorem zig (l:List Int)(t:Ty):t.small→∀ (g:List Ty) (p:Nat),(leafD l t g p).1.count≤3 * t.count:=by
 generalize hn:t.count=n
 induction n using Nat.strongRecOn generalizing t with
 | _ n ih=>
 intro ht g p
 have h1:1≤t.count:=by rw [Ty.count_eq];omega
 rw [zcp l t g p ht.ok]
 split
 ·rename_i x q hx
  have:=zde hx
  simp only;omega
 ·rename_i q hx
  have hN:=zb3 l q
  rcases z6u ht with ⟨h,e⟩|⟨h,e⟩|⟨h,e⟩|⟨h,e⟩|⟨h,e⟩
  ·rw [if_pos h];omega
  ·rw [if_neg (by omega),if_pos h];show 1+0≤_;omega
  ·rw [if_neg (by omega),if_neg (by omega),if_neg (by omega),if_neg (by omega)];show 1+0≤_;omega
  ·rw [if_neg (by omega),if_neg (by omega),if_pos h]
   obtain ⟨s0,s1,hc⟩:=ht.arg (.inl h)
   have a:=ih _ (by omega) (t.arg 0) rfl s0 g q
   have b:=ih _ (by omega) (t.arg 1) rfl s1 g (leafD l (t.arg 0) g q).2
   show 1+(_+(_+0))≤_
   omega
  ·rw [if_neg (by omega),if_neg (by omega),if_neg (by omega),if_pos h]
   obtain ⟨s0,s1,hc⟩:=ht.arg (.inr h)
   have b:=ih _ (by omega) (t.arg 1) rfl s1 (g++[t.arg 0]) q
   show 1+(_+0)≤_
   omega
def Small (l:List Int)(F:Ty→List Ty→Nat→Tm × Nat)(B:Nat):Prop:=∀ t g p,t.small→(∀ x ∈ g,x.small)→p≤l.length→(F t g p).1.count≤B
theorem z17g:plusT.count=9:=by decide
theorem z17h:subT.count≤16:=by decide
theorem zih (f x y:Tm):(appsT f [x,y]).count=2+f.count+x.count+y.count:=by
 show 1+((1+(f.count+(x.count+0)))+(y.count+0))=_
 omega
theorem zii {l:List Int}{F:Ty→List Ty→Nat→Tm × Nat}{B:Nat}(hD:Draws l F (fun _ _ x=>x.shape=true))(hF:Small l F B):Small l (endD l F) (2 * B+20):=by
 intro t g q ht hg hq
 have h5:=z0s (n:=5) hq
 have h2:=z0s (n:=2) hq
 have c1:=hF t g (nextD l q 5).2 ht hg h5
 have d1:=(hD t g (nextD l q 5).2 ht hg h5).1
 have c2:=hF t g _ ht hg d1
 have e1:=hF (Ty.mk 1 []) g (nextD l q 2).2 z1e hg h2
 have f1:=(hD (Ty.mk 1 []) g (nextD l q 2).2 z1e hg h2).1
 have e2:=hF t g _ ht hg f1
 have hN:=zb3 l (nextD l q 5).2
 have hp:=z17g
 have hs:=z17h
 unfold endD
 split
 ·split
  ·show 1+(_+0)≤_;omega
  split
  ·simp only [zih];omega
  split
  ·simp only [zih];omega
  ·omega
 split
 ·split
  ·show 1+(_+(_+0))≤_;omega
  ·show 1+0≤_;omega
 split
 ·rename_i h
  obtain ⟨s0,s1,-⟩:=ht.arg (.inl h)
  have a1:=hF (t.arg 0) g q s0 hg hq
  have a2:=hF (t.arg 1) g _ s1 hg (hD (t.arg 0) g q s0 hg hq).1
  show 1+(_+(_+0))≤_;omega
 split
 ·rename_i h
  obtain ⟨s0,s1,-⟩:=ht.arg (.inr h)
  have a2:=hF (t.arg 1) (g++[t.arg 0]) q s1 (by intro x hx;rcases List.mem_append.1 hx with hx|hx;exact hg x hx;rw [List.mem_singleton.1 hx];exact s0) hq
  show 1+(_+0)≤_;omega
 ·show 1+0≤_;omega
theorem z17i {l:List Int}{F:Ty→List Ty→Nat→Tm × Nat}{B:Nat}(hD:Draws l F (fun _ _ x=>x.shape=true))(hF:Small l F B)(k:Int):Small l (fun t g p=>stepD l F t g k p) (3 * B+20):=by
 intro t g p ht hg hp
 have hg1:∀ a:List Ty,(∀ x ∈ a,x.small)→∀ x ∈ g++a,x.small:=by
  intro a ha x hx
  rcases List.mem_append.1 hx with hx|hx
  ·exact hg x hx
  ·exact ha x hx
 have hE:=zii hD hF t g p ht hg hp
 obtain ⟨s1,s2⟩:=z5m l (n:=0) hp (by decide)
 show (stepD l F t g k p).1.count≤_
 unfold stepD
 split
 ·have gs:=hg1 [(typeD l 0 p).1] (by simpa using s2)
  have a:=hF t _ _ ht gs s1
  have b:=hF _ g _ s2 hg (hD t _ _ ht gs s1).1
  show 1+((1+(_+0))+(_+0))≤_;omega
 split
 ·have a:=hF t g _ ht hg s1
  have b:=hF _ g _ s2 hg (hD t g _ ht hg s1).1
  show 1+((1+(_+(_+0)))+0)≤_;omega
 split
 ·have gs:=hg1 [Ty.mk 1 [],t] (by intro x hx;simp at hx;rcases hx with rfl|rfl;exact z1e;exact ht)
  have d:=(hD t _ _ ht gs hp).1
  have a:=hF t _ _ ht gs hp
  have b:=hF t g _ ht hg d
  have c:=zb3 l (F t g (F t (g++[Ty.mk 1 [],t]) p).2).2
  show 1+(_+((1+((1+(_+0))+0))+(_+0)))≤_;omega
 split
 ·have gs:=hg1 [Ty.mk 1 [],Ty.mk 2 [],t] (by intro x hx;simp at hx;rcases hx with rfl|rfl|rfl;exact z1e;exact z3q;exact ht)
  have d:=(hD t _ _ ht gs hp).1
  have a:=hF t _ _ ht gs hp
  have b:=hF t g _ ht hg d
  have c:=hF (Ty.mk 2 []) g _ z3q hg (hD t g _ ht hg d).1
  show 1+(_+((1+((1+((1+(_+0))+0))+0))+(_+0)))≤_;omega
 split
 ·have a:=hF _ g _ s2 hg s1
  have b:=hF t g _ ht hg (hD _ g _ s2 hg s1).1
  show 1+((1+(_+(_+0)))+0)≤_;omega
 split
 ·split
  ·rename_i i hi
   obtain ⟨f1,f2,f3⟩:=zcq hi
   obtain ⟨c0,c1,-⟩:=(hg _ (z6s f1).1).arg (.inr f2)
   have a:=hF _ g _ c0 hg hp
   show 1+((1+0)+(_+0))≤_;omega
  ·omega
 ·omega
def drawB:Nat→Nat
 | 0=>45
 | n+1=>3 * drawB n+20
theorem zdf (l:List Int):∀ n,Small l (termD l n) (drawB n)
 | 0=>by intro t g p ht hg hp;have:=zig l t ht g p;have:=ht.2;show _≤45;simp only [termD];omega
 | n+1=>by
  intro t g p ht hg hp
  have hq:=z6t (t:=t) (g:=g) hp
  have ih:=z17i (z4x zar n) (zdf l n)
  unfold termD
  split
  ·rename_i x q hx
   have:=zde hx
   simp only [drawB];omega
  ·rename_i q hx
   rw [hx] at hq
   exact ih _ t g _ ht hg (z0s hq)
end
section
variable {gl:Globs}
theorem zij (t:Ty):(szC t).length=3:=rfl
theorem z17j {t:Tm}(ht:t.shape=true)(hk1:¬ t.kind=1)(hk2:¬ t.kind=2){ds:List Ty}(hl:ds.length=t.args.length)(hd:∀ d ∈ ds,d.ok){r:Ty}(hr:ruleN t.kind t.type ds=(r,0)) :
  Con1 Tryz.prog gl 122 [t.dv,.agg (sz3 ds)] [] (.tup [.agg (szC r),dint 0]) []:=by
 obtain ⟨ha,hi,hv,hty,hs⟩:=Tm.shape_node ht
 rw [← hl] at ha
 unfold ruleN at hr
 rw [if_neg hk2] at hr
 by_cases h3:t.kind=3
 ·rw [if_pos h3] at hr
  rw [h3] at ha
  match ds,ha with
  | [x,y],_=>
   split at hr
   ·rename_i hx
    obtain ⟨hx1,hx2⟩:=hx
    have hx1:x.kind=4:=hx1
    obtain ⟨p,q,hp,op,oq,e0,e1⟩:=Ty.ok_args (hd x (by simp)) (.inr hx1)
    have hx2:(x.arg 0).same y=true:=hx2
    rw [e0] at hx2
    have e2:([x,y].getD 0 zeroTy).arg 1=q:=e1
    rw [e2] at hr
    cases hr
    exact z17c t h3 x y p _ hx1 hp op oq hx2
   ·cases hr
 rw [if_neg h3] at hr
 by_cases h4:t.kind=4
 ·rw [if_pos h4] at hr
  rw [h4] at ha
  match ds,ha with
  | [],_=>cases hr;exact z177 t h4
 rw [if_neg h4] at hr
 by_cases h5:t.kind=5
 ·rw [if_pos h5] at hr
  rw [h5] at ha
  match ds,ha with
  | [x],_=>
   split at hr
   ·rename_i hx
    have hx:x.same (Ty.mk 1 [])=true:=hx
    obtain rfl:=(Ty.same_iff _ _).1 hx
    cases hr
    exact z17a t h5
   ·cases hr
 rw [if_neg h5] at hr
 by_cases h6:t.kind=6
 ·rw [if_pos h6] at hr
  rw [h6] at ha
  rw [if_pos (.inr (.inl h6))] at hty
  match ds,ha with
  | [x,y,z],_=>
   split at hr
   ·rename_i hx
    obtain ⟨hx,hy,hz⟩:=hx
    have hz:z.same (Ty.mk 1 [])=true:=hz
    obtain rfl:=(Ty.same_iff _ _).1 hz
    cases hr
    refine zif t (.inl h6) hty x y _ hx ?_ ?_
    ·rw [if_neg (by omega)];exact hy
    ·rw [if_neg (by omega)];rfl
   ·cases hr
 rw [if_neg h6] at hr
 by_cases h7:t.kind=7
 ·rw [if_pos h7] at hr
  rw [h7] at ha
  match ds,ha with
  | [],_=>cases hr;exact z178 t h7
 rw [if_neg h7] at hr
 by_cases h8:t.kind=8
 ·rw [if_pos h8] at hr
  rw [h8] at ha
  match ds,ha with
  | [x,y],_=>
   split at hr
   ·rename_i hx
    obtain ⟨hx,hy⟩:=hx
    have hx:x.same (Ty.mk 1 [])=true:=hx
    have hy:y.same (Ty.mk 2 [])=true:=hy
    obtain rfl:=(Ty.same_iff _ _).1 hx
    obtain rfl:=(Ty.same_iff _ _).1 hy
    cases hr
    exact z17b t h8
   ·cases hr
 rw [if_neg h8] at hr
 by_cases h9:t.kind=9
 ·rw [if_pos h9] at hr
  rw [h9] at ha
  rw [if_pos (.inr (.inr h9))] at hty
  match ds,ha with
  | [x,y,z],_=>
   split at hr
   ·rename_i hx
    obtain ⟨hx,hy,hz⟩:=hx
    have hz:z.same (Ty.mk 2 [])=true:=hz
    obtain rfl:=(Ty.same_iff _ _).1 hz
    cases hr
    refine zif t (.inr h9) hty x y _ hx ?_ ?_
    ·rw [if_pos h9];exact hy
    ·rw [if_pos h9];rfl
   ·cases hr
 rw [if_neg h9] at hr
 by_cases h10:t.kind=10
 ·rw [if_pos h10] at hr
  rw [h10] at ha
  match ds,ha with
  | [x,y],_=>
   have hr:okN (Ty.mk 3 [x,y])=(r,0):=hr
   obtain ⟨o1,o2⟩:=z6p (Ty.mk 3 [x,y]) (by rw [hr])
   rw [o2] at hr
   rw [o2] at o1
   cases hr
   have:=o1.2
   rw [z80] at this
   exact z17d t h10 x y (by omega)
 rw [if_neg h10] at hr
 by_cases h11:t.kind=11
 ·rw [if_pos h11] at hr
  rw [h11] at ha
  match ds,ha with
  | [x],_=>
   split at hr
   ·rename_i hx
    have hx:x.kind=3:=hx
    obtain ⟨p,q,hp,op,oq,e0,e1⟩:=Ty.ok_args (hd x (by simp)) (.inl hx)
    have e2:([x].getD 0 zeroTy).arg 0=p:=e0
    rw [e2] at hr
    cases hr
    exact z17e t h11 x _ q hx hp op
   ·cases hr
 rw [if_neg h11] at hr
 by_cases h12:t.kind=12
 ·rw [if_pos h12] at hr
  rw [h12] at ha
  match ds,ha with
  | [x],_=>
   split at hr
   ·rename_i hx
    have hx:x.kind=3:=hx
    obtain ⟨p,q,hp,op,oq,e0,e1⟩:=Ty.ok_args (hd x (by simp)) (.inl hx)
    have e2:([x].getD 0 zeroTy).arg 1=q:=e1
    rw [e2] at hr
    cases hr
    exact z17f t h12 x p _ hx hp oq
   ·cases hr
 rw [if_neg h12] at hr
 have hkn:known t.kind=true:=by rw [zgu];simp;omega
 have h13:t.kind=13:=by
  simp [known] at hkn
  omega
 rw [h13] at ha
 match ds,ha with
 | [],_=>cases hr;exact z179 t h13
set_option maxHeartbeats 1000000 in
theorem zb4 (t:Tm)(g:List Ty)(hgt:g.length+t.count≤2147483648)(ht:t.shape=true)(hg:∀ x ∈ g,x.ok)(h:(t.inferN g).2=0) :
  Con1 Tryz.prog gl 73 [.sl (g.map szC),t.dv] [] (.tup [.agg (szC (t.inferN g).1),dint 0]) []:=by
 induction t using Tm.ind generalizing g with
 | h t ih=>
 obtain ⟨ha,hi,hv,hty,hs⟩:=Tm.shape_node ht
 refine t_in Tryz.func73 ?_
 intro X hP hgl hf hfn hn hR hids hfit
 have hlg:=z4d (hfit (.sl (g.map szC)) (by simp))
 simp at hlg
 rw [Tm.inferN_eq t] at h hR
 by_cases h1:t.kind=1
 ·rw [if_pos h1] at h hR
  by_cases h2:(g.length:Int)≤t.index
  ·rw [if_pos h2] at h;cases h
  rw [if_neg h2] at hR
  have hlt:g.length - 1 - t.index.toNat<g.length:=by omega
  have hx:=List.getElem?_eq_getElem hlt
  rw [List.getD_eq_getElem?_getD] at hR
  generalize hge:g[g.length - 1 - t.index.toNat]=x at hx
  have hx':g[(g.length - 1 - t.index:Int).toNat]? = some x:=by rw [← hx];congr 1;omega
  rw [hx,Option.getD_some] at hR
  refine t_g (j2 @h1 (j2 @h2 (j2 @hx' (z0q x)))) ?_
  refine t_r ?_
  simp [go_sem,hP,hgl,hn,z0q x] <;> (try omega)
 rw [if_neg h1] at h hR
 by_cases hk2:t.kind=2
 ·rw [if_pos hk2] at h hR
  rw [hk2] at ha
  obtain ⟨b,hb⟩:∃ b,t.args=[b]:=by
   match hh:t.args,ha with
   | [b],_=>exact ⟨b,rfl⟩
  have hbm:b ∈ t.args:=by rw [hb];simp
  rw [if_pos (.inl hk2)] at hty
  have hg':∀ x ∈ g++[t.type],x.ok:=by
   intro x hx
   rcases List.mem_append.1 hx with hx|hx
   ·exact hg x hx
   ·rw [List.mem_singleton.1 hx];exact hty
  have hcb1:t.count=1+(b.count+0):=by rw [Tm.count_eq,hb];rfl
  have hcb2:=Tm.count_pos b
  have hgl1:g.length≤2147483647:=by omega
  rw [hb] at h hR
  simp only [Tm.inferN.infers] at h hR
  have hb0:(b.inferN (g++[t.type])).2=0:=by
   by_cases e:(b.inferN (g++[t.type])).2=0
   ·exact e
   ·rw [if_neg e] at h
    simp only at h
    rw [if_neg e] at h
    exact absurd h e
  rw [if_pos hb0] at h hR
  simp only [if_true] at h hR
  have hbo:=Tm.inferN_ok b (g++[t.type]) (hs b hbm) hg' hb0
  have w1:=ih b hbm (g++[t.type]) (by simp;omega) (hs b hbm) hg' hb0
  generalize (b.inferN (g++[t.type])).1=rb at *
  have hrule:ruleN t.kind t.type [rb]=okN (Ty.mk 4 [t.type,rb]):=by rw [hk2];rfl
  rw [hrule] at h hR
  obtain ⟨o1,o2⟩:=z6p (Ty.mk 4 [t.type,rb]) h
  rw [o2] at o1 hR
  have hcc:=o1.2
  rw [z80] at hcc
  have wo:=z40 (gl:=gl) t.type hty
  have wj:=zib (gl:=gl) 4 t.type rb (by omega)
  have fty:=Ty.fold t.type
  have fb:=Tm.fold b
  have hszm:List.map szC (g++[t.type])=List.map szC g++[szC t.type]:=by simp
  have hlm:(List.map szC g).length=g.length:=by simp
  generalize Ty.mk 4 [t.type,rb]=r4 at *
  rw [hszm] at w1
  simp only [z0q t.type,z0q rb,z0q r4] at w1 wo wj hR
  have hwid:∀ e:List DV,e ∈ List.map szC g→e.length=3:=by intro e he;simp only [List.mem_map] at he;obtain ⟨x,-,rfl⟩:=he;rfl
  generalize List.map szC g=G at *
  have htake:List.take g.length G=G:=by rw [List.take_of_length_le];omega
  refine t_g @hk2 ?_
  refine t_c1 (j2 @hk2 @fty) wo ?_
  refine t_c1 (j2 @hk2 (j2 @hb (j2 @htake (j2 @hlm (j2 @hwid @hgl1))))) w1 ?_
  refine t_g0 ?_
  refine t_c1 trivial wj ?_
  refine t_r ?_
  simp [go_sem,hP,hgl,hn] <;> (try omega)
 rw [if_neg hk2] at h hR
 have hlen:=Tm.fit_len (hfit t.dv (by simp))
 have hI:(Tm.inferN.infers t.args g).2=0:=by
  by_cases e:(Tm.inferN.infers t.args g).2=0
  ·exact e
  ·rw [if_neg e] at h;exact absurd h e
 rw [if_pos hI] at h hR
 obtain ⟨hdl,hall⟩:=Tm.infers_all t.args g hI
 have hdo:∀ a ∈ (Tm.inferN.infers t.args g).1,a.ok:=by
  intro a ha
  obtain ⟨i,hi,rfl⟩:=List.mem_iff_getElem.1 ha
  obtain ⟨x1,x2⟩:=hall i t.args[i] (List.getElem?_eq_getElem (by omega))
  rw [List.getElem?_eq_getElem hi] at x2
  rw [Option.some.inj x2]
  exact Tm.inferN_ok _ g (hs _ (List.getElem_mem _)) hg x1
 have wn:=z17j (gl:=gl) (t:=t) ht h1 hk2 hdl hdo (r:=(ruleN t.kind t.type (Tm.inferN.infers t.args g).1).1) (by rw [← h])
 generalize (ruleN t.kind t.type (Tm.inferN.infers t.args g).1).1=r at *
 generalize (Tm.inferN.infers t.args g).1=ds at *
 have h3:t.args.length≤3:=by
  have:arityI t.kind≤3:=by unfold arityI;(repeat' split) <;> omega
  omega
 have ftt:=Tm.fold t
 simp only [z0q r] at wn hR
 have step:∀ (i:Nat) (x:Tm),t.args[i]? = some x→∃ d,ds[i]? = some d∧Con1 Tryz.prog gl 73 [.sl (g.map szC),x.dv] [] (.tup [.agg (szC d),dint 0]) []:=by
  intro i x hx
  obtain ⟨x1,x2⟩:=hall i x hx
  have hm:=List.mem_of_getElem? hx
  have hcx:=Tm.count_mem hm
  have hct:=Tm.count_eq t
  exact ⟨_,x2,ih x hm g (by omega) (hs x hm) hg x1⟩
 clear ih
 have hgm:List.map szC g=List.map szC g:=rfl
 generalize List.map szC g=G at *
 have done0:∀ (p:List Ty),t.args.length=p.length→ds=p→sz3 ds=sz3 p:=by intro p _ e;rw [e]
 match hargs:t.args,h3 with
 | [],_=>
  rw [hargs] at hdl
  obtain rfl:ds=[]:=List.length_eq_zero_iff.1 hdl
  rw [zb1] at wn
  rw [hargs] at ftt
  simp only [List.map_nil] at ftt
  refine t_g (j2 @h1 (j2 @hk2 @hargs)) ?_
  refine z0n ?_
  refine t_g @hargs ?_
  refine t_c1 (j2 @hargs @ftt) wn ?_
  refine t_r ?_
  simp [go_sem,hP,hgl,hn] <;> (try omega)
 | [x],_=>
  obtain ⟨d,hd,w⟩:=step 0 x (by rw [hargs];rfl)
  rw [hargs] at hdl
  obtain rfl:ds=[d]:=by
   match ds,hdl,hd with
   | [_],_,hd=>simp at hd;rw [hd]
  rw [zb2] at wn
  simp only [z0q] at w
  rw [hargs] at ftt
  simp only [List.map_cons,List.map_nil] at ftt
  rw [Tm.cells_eq x] at ftt
  refine t_g (j2 @h1 (j2 @hk2 @hargs)) ?_
  refine z0n ?_
  refine t_g @hargs ?_
  refine t_c1 trivial w ?_
  refine t_g0 ?_
  refine z0c [] (s':=[(.slot 0,.one (.v (.sl G))),(.slot 67,.one (.v (dint 1))),(.slot 66,.one (.v (dint 1))),(.slot 65,.one (.v (.sl [x.cells]))),(.slot 3,.one (.loc 3 0)),(.loc 3,.row ([.v (dint t.kind),.v (dint t.index),.v (dint t.type.kind),.v (.sl (t.type.args.map Ty.cells)),.v (.sl [x.cells])])),(.slot 4,.one (.loc 4 0)),(.loc 4,.row ([.v (dint 0),.own 0 [],.v (dint 0)])),(.slot 9,.one (.loc 9 0)),(.loc 9,.row ([.v (dint d.kind),.v (.sl (d.args.map Ty.cells)),.v (dint (d.count:Int)),.v (dint 0),.own 0 [],.v (dint 0),.v (dint 0),.own 0 [],.v (dint 0)]))]) (by simp [go_sem]) (by simp [go_sem,hargs]) (by simp [go_sem]) ?_
  refine z0j ?_
  refine t_g0 ?_
  refine t_c1 @ftt wn ?_
  refine t_r ?_
  simp [go_sem,hP,hgl,hn] <;> (try omega)
 | [x,y],_=>
  obtain ⟨d,hd,w⟩:=step 0 x (by rw [hargs];rfl)
  obtain ⟨e,he,v⟩:=step 1 y (by rw [hargs];rfl)
  rw [hargs] at hdl
  obtain rfl:ds=[d,e]:=by
   match ds,hdl,hd,he with
   | [_,_],_,hd,he=>simp at hd he;rw [hd,he]
  rw [z75] at wn
  simp only [z0q] at w v
  rw [hargs] at ftt
  simp only [List.map_cons,List.map_nil] at ftt
  rw [Tm.cells_eq x,Tm.cells_eq y] at ftt
  refine t_g (j2 @h1 (j2 @hk2 @hargs)) ?_
  refine z0n ?_
  refine t_g @hargs ?_
  refine t_c1 trivial w ?_
  refine t_g0 ?_
  refine z0c [] (s':=[(.slot 0,.one (.v (.sl G))),(.slot 67,.one (.v (dint 1))),(.slot 66,.one (.v (dint 2))),(.slot 65,.one (.v (.sl [x.cells,y.cells]))),(.slot 3,.one (.loc 3 0)),(.loc 3,.row ([.v (dint t.kind),.v (dint t.index),.v (dint t.type.kind),.v (.sl (t.type.args.map Ty.cells)),.v (.sl [x.cells,y.cells])])),(.slot 4,.one (.loc 4 0)),(.loc 4,.row ([.v (dint 0),.own 0 [],.v (dint 0)])),(.slot 9,.one (.loc 9 0)),(.loc 9,.row ([.v (dint d.kind),.v (.sl (d.args.map Ty.cells)),.v (dint (d.count:Int)),.v (dint 0),.own 0 [],.v (dint 0),.v (dint 0),.own 0 [],.v (dint 0)]))]) (by simp [go_sem]) (by simp [go_sem,hargs]) (by simp [go_sem]) ?_
  refine z0j ?_
  refine t_g @hargs ?_
  refine t_c1 trivial v ?_
  refine t_g0 ?_
  refine z0c [] (s':=[(.slot 0,.one (.v (.sl G))),(.slot 67,.one (.v (dint 2))),(.slot 66,.one (.v (dint 2))),(.slot 65,.one (.v (.sl [x.cells,y.cells]))),(.slot 3,.one (.loc 3 0)),(.loc 3,.row ([.v (dint t.kind),.v (dint t.index),.v (dint t.type.kind),.v (.sl (t.type.args.map Ty.cells)),.v (.sl [x.cells,y.cells])])),(.slot 4,.one (.loc 4 0)),(.loc 4,.row ([.v (dint 0),.own 0 [],.v (dint 0)])),(.slot 9,.one (.loc 9 0)),(.loc 9,.row ([.v (dint d.kind),.v (.sl (d.args.map Ty.cells)),.v (dint (d.count:Int)),.v (dint e.kind),.v (.sl (e.args.map Ty.cells)),.v (dint (e.count:Int)),.v (dint 0),.own 0 [],.v (dint 0)]))]) (by simp [go_sem]) (by simp [go_sem,hargs]) (by simp [go_sem]) ?_
  refine z0j ?_
  refine t_g0 ?_
  refine t_c1 @ftt wn ?_
  refine t_r ?_
  simp [go_sem,hP,hgl,hn] <;> (try omega)
 | [x,y,z],_=>
  obtain ⟨d,hd,w⟩:=step 0 x (by rw [hargs];rfl)
  obtain ⟨e,he,v⟩:=step 1 y (by rw [hargs];rfl)
  obtain ⟨k,hf3,u⟩:=step 2 z (by rw [hargs];rfl)
  rw [hargs] at hdl
  obtain rfl:ds=[d,e,k]:=by
   match ds,hdl,hd,he,hf3 with
   | [_,_,_],_,hd,he,hf3=>simp at hd he hf3;rw [hd,he,hf3]
  rw [zie] at wn
  simp only [z0q] at w v u
  rw [hargs] at ftt
  simp only [List.map_cons,List.map_nil] at ftt
  rw [Tm.cells_eq x,Tm.cells_eq y,Tm.cells_eq z] at ftt
  refine t_g (j2 @h1 (j2 @hk2 @hargs)) ?_
  refine z0n ?_
  refine t_g @hargs ?_
  refine t_c1 trivial w ?_
  refine t_g0 ?_
  refine z0c [] (s':=[(.slot 0,.one (.v (.sl G))),(.slot 67,.one (.v (dint 1))),(.slot 66,.one (.v (dint 3))),(.slot 65,.one (.v (.sl [x.cells,y.cells,z.cells]))),(.slot 3,.one (.loc 3 0)),(.loc 3,.row ([.v (dint t.kind),.v (dint t.index),.v (dint t.type.kind),.v (.sl (t.type.args.map Ty.cells)),.v (.sl [x.cells,y.cells,z.cells])])),(.slot 4,.one (.loc 4 0)),(.loc 4,.row ([.v (dint 0),.own 0 [],.v (dint 0)])),(.slot 9,.one (.loc 9 0)),(.loc 9,.row ([.v (dint d.kind),.v (.sl (d.args.map Ty.cells)),.v (dint (d.count:Int)),.v (dint 0),.own 0 [],.v (dint 0),.v (dint 0),.own 0 [],.v (dint 0)]))]) (by simp [go_sem]) (by simp [go_sem,hargs]) (by simp [go_sem]) ?_
  refine z0j ?_
  refine t_g @hargs ?_
  refine t_c1 trivial v ?_
  refine t_g0 ?_
  refine z0c [] (s':=[(.slot 0,.one (.v (.sl G))),(.slot 67,.one (.v (dint 2))),(.slot 66,.one (.v (dint 3))),(.slot 65,.one (.v (.sl [x.cells,y.cells,z.cells]))),(.slot 3,.one (.loc 3 0)),(.loc 3,.row ([.v (dint t.kind),.v (dint t.index),.v (dint t.type.kind),.v (.sl (t.type.args.map Ty.cells)),.v (.sl [x.cells,y.cells,z.cells])])),(.slot 4,.one (.loc 4 0)),(.loc 4,.row ([.v (dint 0),.own 0 [],.v (dint 0)])),(.slot 9,.one (.loc 9 0)),(.loc 9,.row ([.v (dint d.kind),.v (.sl (d.args.map Ty.cells)),.v (dint (d.count:Int)),.v (dint e.kind),.v (.sl (e.args.map Ty.cells)),.v (dint (e.count:Int)),.v (dint 0),.own 0 [],.v (dint 0)]))]) (by simp [go_sem]) (by simp [go_sem,hargs]) (by simp [go_sem]) ?_
  refine z0j ?_
  refine t_g @hargs ?_
  refine t_c1 trivial u ?_
  refine t_g0 ?_
  refine z0c [] (s':=[(.slot 0,.one (.v (.sl G))),(.slot 67,.one (.v (dint 3))),(.slot 66,.one (.v (dint 3))),(.slot 65,.one (.v (.sl [x.cells,y.cells,z.cells]))),(.slot 3,.one (.loc 3 0)),(.loc 3,.row ([.v (dint t.kind),.v (dint t.index),.v (dint t.type.kind),.v (.sl (t.type.args.map Ty.cells)),.v (.sl [x.cells,y.cells,z.cells])])),(.slot 4,.one (.loc 4 0)),(.loc 4,.row ([.v (dint 0),.own 0 [],.v (dint 0)])),(.slot 9,.one (.loc 9 0)),(.loc 9,.row ([.v (dint d.kind),.v (.sl (d.args.map Ty.cells)),.v (dint (d.count:Int)),.v (dint e.kind),.v (.sl (e.args.map Ty.cells)),.v (dint (e.count:Int)),.v (dint k.kind),.v (.sl (k.args.map Ty.cells)),.v (dint (k.count:Int))]))]) (by simp [go_sem]) (by simp [go_sem,hargs]) (by simp [go_sem]) ?_
  refine z0j ?_
  refine t_g0 ?_
  refine t_c1 @ftt wn ?_
  refine t_r ?_
  simp [go_sem,hP,hgl,hn] <;> (try omega)
theorem zdg:Con1 Tryz.prog gl 70 [.sl []] [] (dint 0) []:=by
 refine t_in Tryz.func70 ?_
 intro X hP hgl hf hfn hn hR hids hfit
 refine t_g0 ?_
 refine z0n ?_
 refine t_g0 ?_
 refine t_r ?_
 simp [go_sem,hP,hgl,hn] <;> (try omega)
theorem zik:Con1 Tryz.prog gl 72 [.sl []] [] (.sl []) []:=by
 refine t_in Tryz.func72 ?_
 intro X hP hgl hf hfn hn hR hids hfit
 refine t_g0 ?_
 refine z0n ?_
 refine t_g0 ?_
 refine t_r ?_
 simp [go_sem,hP,hgl,hn] <;> (try omega)
theorem zb5 (har:globOf gl 0=some arEls)(t:Tm)(r:Ty)(hc:t.checkN=0)(h:t.inferN []=(r,0)) :
  Con1 Tryz.prog gl 40 [.sl [],t.dv] [] (.tup [r.dv,dint 0]) []:=by
 obtain ⟨hs,hcc⟩:=(Tm.checkN_iff t).1 hc
 have w2:=zaf har t (z2b t hs) (by omega)
 rw [hc] at w2
 have w3:=zb4 (gl:=gl) t [] (by simp;omega) hs (by simp) (by rw [h])
 rw [h] at w3
 have w4:=zi9 (gl:=gl) r
 have ftt:=Tm.fold t
 have fr:=Ty.fold r
 simp only [z0q,List.map_nil] at w3
 refine t_in Tryz.func40 ?_
 intro X hP hgl hf hfn hn hR hids hfit
 refine t_g0 ?_
 refine t_c1 trivial zdg ?_
 refine t_g0 ?_
 refine t_c1 @ftt w2 ?_
 refine t_g0 ?_
 refine t_c2 @ftt zik w3 ?_
 refine t_g0 ?_
 refine t_c1 @fr w4 ?_
 refine t_r ?_
 simp [go_sem,hP,hgl,hn] <;> (try omega)
 all_goals exact t_f
end
section
variable {gl:Globs}
theorem z17k (g:List Ty)(hg:∀ x ∈ g,x.ok)(hl:g.length≤16):Con1 Tryz.prog gl 70 [.sl (g.map Ty.cells)] [] (dint 0) []:=by
 refine t_in Tryz.func70 ?_
 intro X hP hgl hf hfn hn hR hids hfit
 have hl2:¬ (16<(g.length:Int)):=by omega
 refine t_g @hl2 ?_
 refine t_a ?_
 refine z0e [] trivial (z1z (g) (fun done rest=>[(.slot 11,.one (.v (dint done.length))),(.slot 10,.one (.v (dint g.length))),(.slot 9,.one (.v (.sl (g.map Ty.cells)))),(.slot 2,.one (.v (dint 0)))]) ?_ ?_)
 ·intro done x rest hL hg0 hnext
  have hlt:done.length<g.length:=by rw [hL];simp
  have hxo:=hg x (List.mem_of_getElem? hg0)
  have w:=z74 (gl:=gl) x (by have:=hxo.2;omega)
  rw [(Ty.checkN_iff x).2 hxo] at w
  have hfx:=Ty.fold x
  refine z00 ?_
  refine z07 ?_
  refine t_g @hg0 ?_
  refine t_c1 (j2 @hg0 @hfx) w ?_
  refine t_gt (wr []) trivial trivial hnext
 ·refine z00 ?_
  refine t_no ?_
  refine t_g0 ?_
  refine t_r ?_
  simp [go_sem,hP,hgl,hn] <;> (try omega)
theorem z17l (g:List Ty)(hg:∀ x ∈ g,x.ok)(hl:g.length≤16):Con1 Tryz.prog gl 72 [.sl (g.map Ty.cells)] [] (.sl (g.map szC)) []:=by
 refine t_in Tryz.func72 ?_
 intro X hP hgl hf hfn hn hR hids hfit
 refine t_g0 ?_
 refine t_a ?_
 refine z0e [(1003,0)] trivial (z1z (g) (fun done rest=>[(.slot 8,.one (.v (dint done.length))),(.slot 7,.one (.v (dint g.length))),(.slot 6,.one (.v (.sl (g.map Ty.cells)))),(.slot 2,.one (.own 0 [])),(.slot 3,.one (.own 1003 (done.map szC))),(.tok 1003,.tk 3 done.length)]) ?_ ?_)
 ·intro done x rest hL hg0 hnext
  have hlt:done.length<g.length:=by rw [hL];simp
  have hxo:=hg x (List.mem_of_getElem? hg0)
  have w:=z40 (gl:=gl) x hxo
  have hfx:=Ty.fold x
  have hsz:=z0q x
  refine z00 ?_
  refine z07 ?_
  refine t_g @hg0 ?_
  refine t_c1 (j2 @hg0 (j2 @hfx (j2 @hsz @zij))) w ?_
  refine t_gt (wr [(1003,16)]) (j2 @hsz @zij) trivial hnext
 ·refine z00 ?_
  refine t_no ?_
  refine t_g0 ?_
  refine t_r ?_
  simp [go_sem,hP,hgl,hn] <;> (try omega)
theorem z17m (har:globOf gl 0=some arEls)(g:List Ty)(hg:∀ x ∈ g,x.ok)(hl:g.length≤16)(t:Tm)(r:Ty)(hc:t.checkN=0)(h:t.inferN g=(r,0)) :
  Con1 Tryz.prog gl 40 [.sl (g.map Ty.cells),t.dv] [] (.tup [r.dv,dint 0]) []:=by
 obtain ⟨hs,hcc⟩:=(Tm.checkN_iff t).1 hc
 have w2:=zaf har t (z2b t hs) (by omega)
 rw [hc] at w2
 have w3:=zb4 (gl:=gl) t g (by omega) hs hg (by rw [h])
 rw [h] at w3
 have w4:=zi9 (gl:=gl) r
 have w5:=z17l (gl:=gl) g hg hl
 have w6:=z17k (gl:=gl) g hg hl
 have ftt:=Tm.fold t
 have fr:=Ty.fold r
 simp only [z0q] at w3 w5
 refine t_in Tryz.func40 ?_
 intro X hP hgl hf hfn hn hR hids hfit
 refine t_g0 ?_
 refine t_c1 trivial w6 ?_
 refine t_g0 ?_
 refine t_c1 @ftt w2 ?_
 refine t_g0 ?_
 refine t_c2 @ftt w5 w3 ?_
 refine t_g0 ?_
 refine t_c1 @fr w4 ?_
 refine t_r ?_
 simp [go_sem,hP,hgl,hn] <;> (try omega)
 all_goals exact t_f
end
section
section
variable {X:Ctx}{s:St}
theorem zil {o:Oper}{t:TypeId}{x:Operand}(ho:o.op = .box t x){d:Nat}(hd:o.dst=some d)(hn:d<X.n){y:SV}(hy:evl X (get s) x=some y){cs:List DV}(hc:toDs (cellsS y)=some cs)(hb:cellB cs=true) :
  StepOK X s o (upd s (.slot d) (.one (.v (.ref cs)))):=by
 intro G a w R next Q hK
 have hrow:RowOf G w (cellsS y) (a.eval x).cells:=z68 R.nil (z0d R hy)
 obtain ⟨t1,t2⟩:=z67 hc
 have hsz:(a.eval x).cells.size=cs.length:=by rw [hrow.1,t1]
 refine opIn (by intro c e;rw [ho] at e;cases e) ?_
 simp only [execOp,ho,Instr.box,newVar,newRow,run_newObj,Sem.run_bind,Sem.run_pure,Result.andThen_ok,z1y,hd]
 have T:Trans X G a w { G with D:=withData G.D w.heap.size 0 cs.length } a (w.alloc (.cells (a.eval x).cells t)) (fun _=>False):=zby R (hi:=cs.length) (by omega) rfl R.nil
 refine hK { G with D:=withData G.D w.heap.size 0 cs.length } _ _ (R.setSlot T rfl rfl (fun _ h=>h) hn ?_)
 show RV (withData G.D w.heap.size 0 cs.length) _ _ _
 refine .ref cs w.heap.size 0 (fun j=>((a.eval x).cells[j]?).getD undef) ((z6a _).1 hb) (fun j hj=>?_) (fun j hj=>.inr ⟨rfl,Nat.zero_le _,by omega⟩) (fun j c hjc=>?_)
 ·have hlt:j<(a.eval x).cells.size:=by omega
  simp [World.cell?_alloc_new,hlt]
 ·obtain ⟨z,hz,hzd⟩:=t2 j c hjc
  have hlt:j<(a.eval x).cells.size:=by rw [hsz];exact (List.getElem?_eq_some_iff.1 hjc).1
  have hr:=z4l hzd (hrow.2 j z _ hz (Array.getElem?_eq_getElem hlt))
  simp only [Array.getElem?_eq_getElem hlt,Option.getD_some]
  exact hr.mono (fun b o hd=>⟨.inl hd,World.cell?_alloc_lt _ _ _ (R.wf.lt hd)⟩)
theorem z4g {esc:List Nat}{ops:Array Oper}{l:List Oper}{K:St→Prop}{d:Tmp}{t:TypeId}{x:Operand}{ty:TypeId}{pos:String}{af:Array Edge}{q:Option (Prop × St)}{y:SV}{cs:List DV}
  (hy:evl X (get s) x=some y) (hc:toDs (cellsS y)=some cs) (hb:cellB cs=true) (hn:d<X.n) (hq:q=none)
  (k:vc X esc ops l (upd s (.slot d) (.one (.v (.ref cs)))) K) :
  vcK X esc ops l K ⟨some d,.box t x,ty,pos,af,none⟩ s q:=by
 subst hq
 exact z4o rfl (zil (o:=⟨some d,.box t x,ty,pos,af,none⟩) rfl rfl hn hy hc hb) (z1c k)
theorem z4h {ops:Array Oper}{s0:St}{K:St→Prop}{l:List Oper}{k:St→List Ev→Prop}{ev:List Ev}{fp wr:List Loc}{d:Tmp}{t:TypeId}{x:Operand}{ty:TypeId}{pos:String}{af:Array Edge}{q:Option (Prop × St)}{y:SV}{cs:List DV}
  (hk:∀ s ev,k s ev→VD X ops s0 l s ev K) (hy:evl X (get (restr s fp)) x=some y) (hc:toDs (cellsS y)=some cs) (hb:cellB cs=true) (hn:d<X.n) (hq:q=none)
  (g:vcdD k ev s fp [d] [(.slot d,some (.one (.v (.ref cs))))]) :
  vcdC X ops s0 l K k ⟨some d,.box t x,ty,pos,af,none⟩ ev s fp wr q:=by
 subst hq
 show VD X ops s0 _ s ev K
 refine z5e ⟨fp,_,[d]⟩ (fun s' hs hfr=>z4q (.inl rfl) ?_) (hk _ _ g)
 exact zil (o:=⟨some d,.box t x,ty,pos,af,none⟩) rfl rfl hn (z3m hs hy) hc hb
end
end
section
inductive MV where
 | num (n:Nat)
 | list (l:List Nat)
 | both (a b:MV)
 | unit
 | clo (b:Tm) (e:List MV)
abbrev Evl:=Tm→List MV→Option (MV × Nat)
def allC (ev:Evl):List Tm→List MV→Option (List MV × Nat)
 | [],_=>some ([],0)
 | t::r,e=>match ev t e with
  | none=>none
  | some (v,c)=>match allC ev r e with
   | none=>none
   | some (l,c')=>some (v::l,c+c')
def callC (ev:Evl):MV→List MV→Option (MV × Nat)
 | f,[]=>some (f,0)
 | .clo b e,a::r=>match ev b (a::e) with
  | none=>none
  | some (v,c)=>match callC ev v r with
   | none=>none
   | some (w,c')=>some (w,c+c')
 | _,_=>none
def recC (ev:Evl)(f:MV):Nat→Nat→MV→Option (MV × Nat)
 | 0,_,r=>some (r,0)
 | n+1,k,r=>match callC ev f [.num k,r] with
  | none=>none
  | some (r',c)=>match recC ev f n (k+1) r' with
   | none=>none
   | some (w,c')=>some (w,c+c')
def foldC (ev:Evl)(f:MV)(r:MV):List Nat→Option (MV × Nat)
 | []=>some (r,0)
 | x::l=>match foldC ev f r l with
  | none=>none
  | some (r',c)=>match callC ev f [.num x,.list l,r'] with
   | none=>none
   | some (w,c')=>some (w,c+c')
def nodeC (ev:Evl)(k:Int)(l:List MV):Option (MV × Nat):=
 if k=3 then match l with
  | [f,x]=>callC ev f [x]
  | _=>none
 else if k=4 then some (.num 0,0)
 else if k=5 then match l with
  | [.num n]=>some (.num (n+1),0)
  | _=>none
 else if k=6 then match l with
  | [b,f,.num n]=>recC ev f n 0 b
  | _=>none
 else if k=7 then some (.list [],0)
 else if k=8 then match l with
  | [.num n,.list m]=>some (.list (n::m),0)
  | _=>none
 else if k=9 then match l with
  | [b,f,.list m]=>foldC ev f b m
  | _=>none
 else if k=10 then match l with
  | [x,y]=>some (.both x y,0)
  | _=>none
 else if k=11 then match l with
  | [.both x _]=>some (x,0)
  | _=>none
 else if k=12 then match l with
  | [.both _ y]=>some (y,0)
  | _=>none
 else some (.unit,0)
def evC:Nat→Tm→List MV→Option (MV × Nat)
 | 0,_,_=>none
 | d+1,t,e=>
  if t.kind=1 then some (e.getD t.index.toNat .unit,1)
  else if t.kind=2 then some (.clo (t.argN 0) e,1)
  else match allC (evC d) t.args e with
   | none=>none
   | some (l,c)=>match nodeC (evC d) t.kind l with
    | none=>none
    | some (v,c')=>some (v,1+c+c')
def Rl:(a:T)→MV→a.V→Prop
 | .nat,v,n=>v = .num n
 | .list,v,l=>v = .list l
 | .unit,v,_=>v = .unit
 | .pair a b,v,p=>∃ x y,v = .both x y∧Rl a x p.1∧Rl b y p.2
 | .fn a b,v,f=>∃ body e,v = .clo body e∧∀ (x:MV) (y:a.V),Rl a x y→∀ (d:Nat) (r:MV) (c:Nat),evC d body (x::e)=some (r,c)→Rl b r (f y)
def RlE:(Γ:List T)→List MV→Env Γ→Prop
 | [],e,_=>e=[]
 | a::Γ,e,ρ=>∃ x r,e=x::r∧Rl a x ρ.1∧RlE Γ r ρ.2
theorem RlE.get {Γ:List T}{i:Nat}{a:T}{p:Env Γ→a.V}(h:At Γ i a p):∀ {e:List MV} {ρ:Env Γ},RlE Γ e ρ→Rl a (e.getD i .unit) (p ρ):=by
 induction h with
 | zero=>rintro e ρ ⟨x,r,rfl,h1,h2⟩;exact h1
 | succ h ih=>rintro e ρ ⟨x,r,rfl,h1,h2⟩;simpa using ih h2
theorem zb6 {α:Type}(b:α)(f:Nat→α→α):∀ n:Nat,natRec b f n=(List.range' 0 n).foldl (fun r i=>f i r) b
 | 0=>rfl
 | n+1=>by
  rw [List.range'_1_concat,List.foldl_append,← zb6 b f n]
  simp [natRec]
end
section
variable {gl:Globs}
abbrev nilP:DV:=.prim (.pointer none)
abbrev nilI:DV:=.prim .nilIface
def cellM:List Nat→DV
 | []=>nilP
 | n::l=>.ref [dint (n:Int),cellM l]
mutual
def MV.thing:MV→DV
 | .num n=>.iface 3 (dint (n:Int))
 | .list l=>.iface 173 (cellM l)
 | .both a b=>.iface 179 (.ref [MV.thing a,MV.thing b])
 | .unit=>.iface 183 (.agg [])
 | .clo b e=>.iface 186 (.ref (b.cells++[MV.envM e]))
def MV.envM:List MV→DV
 | []=>nilP
 | v::e=>.ref [MV.thing v,MV.envM e]
end
theorem zim:∀ l,(cellM l).isCell=true
 | []=>rfl
 | _::_=>rfl
theorem zb7 (v:MV):v.thing.isCell=true:=by cases v <;> (simp only [MV.thing];rfl)
theorem z17n (e:List MV):(MV.envM e).isCell=true:=by cases e <;> (simp only [MV.envM];rfl)
theorem zb8 (v:MV):cellsD v.thing=[v.thing]:=by cases v <;> (simp only [MV.thing];rfl)
theorem z17o (e:List MV):cellsD (MV.envM e)=[MV.envM e]:=by cases e <;> (simp only [MV.envM];rfl)
theorem zin (l:List Nat):cellsD (cellM l)=[cellM l]:=by cases l <;> rfl
attribute [go_sem] zim zb7 z17n zb8 z17o zin
theorem z17p (e:List MV)(i:Nat)(hi:i<e.length):Con1 Tryz.prog gl 162 [MV.envM e,dint (i:Int)] [] (e.getD i .unit).thing []:=by
 refine t_in Tryz.func162 ?_
 intro X hP hgl hf hfn hn hR hids hfit
 have h0:e.drop (i - i)=e:=by simp
 have hi1:intOK .i64 i:=hfit (dint i) (by simp)
 rw [z57] at hi1
 refine t_g0 ?_
 refine t_a ?_
 refine z0e [] @h0 (z1k (fun k:Nat=>k≤i) (fun k:Nat=>[(.slot 0,.one (.v (MV.envM (e.drop (i - k))))),(.slot 1,.one (.v (dint (k:Int)))),(.slot 4,.one (.v nilI))]) (fun k:Nat=>k) i (Nat.le_refl i) ?_)
 intro k hk ih
 obtain ⟨v,r,hr⟩:∃ v r,e.drop (i - k)=v::r:=by
  cases hq:e.drop (i - k) with
  | nil=>have:=List.drop_eq_nil_iff.1 hq;omega
  | cons v r=>exact ⟨v,r,rfl⟩
 have hE:MV.envM (e.drop (i - k)) = .ref [v.thing,MV.envM r]:=by rw [hr,MV.envM]
 cases k with
 | zero=>
  have hv:(e[i]?.getD MV.unit)=v:=by
   have:=congrArg (fun l=>l.head?) hr
   simp only [Nat.sub_zero,List.head?_drop,List.head?_cons] at this
   simp [this]
  rw [Nat.sub_zero] at hE
  refine z00 ?_
  refine t_no ?_
  refine t_g @hE ?_
  refine t_r ?_
  simp [go_sem,hP,hgl,hn,hv] <;> (try omega)
 | succ k=>
  have hd:e.drop (i - k)=r:=by
   have h1:i - k=(i - (k+1))+1:=by omega
   rw [h1,← List.drop_drop,hr,List.drop_one,List.tail_cons]
  have hk0:(0:Int)<(k:Int)+1:=by omega
  refine z00 ?_
  refine z07 ?_
  refine t_rg @hE ?_
  refine z00 ?_
  refine t_b ?_
  refine z0e [] @hd (ih k (by omega) (by omega))
end
section
variable {gl:Globs}
def nodeS (ev:Evl)(k:Int)(l:List MV):Option (MV × Nat):=if 3≤k∧k≤13 then nodeC ev k l else none
def evS:Nat→Evl
 | 0,_,_=>none
 | d+1,t,e=>
  if t.kind=1 then if 0≤t.index∧t.index.toNat<e.length then some (e.getD t.index.toNat .unit,1) else none
  else if t.kind=2 then if t.args.length=0 then none else some (.clo (t.argN 0) e,1)
  else if 3<t.args.length then none
  else match allC (evS d) t.args e with
   | none=>none
   | some (l,c)=>match nodeS (evS d) t.kind l with
    | none=>none
    | some (v,c')=>some (v,1+c+c')
mutual
def MV.nle (M:Nat):MV→Prop
 | .num n=>n≤M
 | .list l=>l.length≤M∧∀ n ∈ l,n≤M
 | .both a b=>MV.nle M a∧MV.nle M b
 | .unit=>True
 | .clo _ e=>MV.nles M e
def MV.nles (M:Nat):List MV→Prop
 | []=>True
 | v::e=>MV.nle M v∧MV.nles M e
end
def outM (most n:Nat)(v:DV):DV:=if n≤most then .tup [v,dbool true] else .tup [nilI,dbool false]
def useM (most n:Nat):List DV:=[dint (if n≤most then (n:Int) else (most:Int)),dint (most:Int)]
def WalkM (P:Program)(gl:Globs)(fe:FuncId)(most:Nat)(ev:Evl):Prop:=
 ∀ ⦃t:Tm⦄ ⦃e:List MV⦄ ⦃u:Nat⦄ ⦃v:MV⦄ ⦃c:Nat⦄ (b:Nat) (M:Nat),ev t e=some (v,c)→u≤most→M+(most - u)≤1073741824→MV.nles M e →
  Con1 P gl fe [ptr b,t.dv,MV.envM e] [(b,useM most u)] (outM most (u+c) v.thing) [(b,useM most (u+c))]
def NleM (most:Nat)(ev:Evl):Prop:=
 ∀ ⦃t:Tm⦄ ⦃e:List MV⦄ ⦃v:MV⦄ ⦃c:Nat⦄ (M:Nat),ev t e=some (v,c)→MV.nles M e→v.nle (M+c)
theorem zio (b:Tm)(e:List MV):(MV.clo b e).thing = .iface 186 (.ref [dint b.kind,dint b.index,dint b.type.kind,.sl (b.type.args.map Ty.cells),.sl (b.args.map Tm.cells),MV.envM e]):=by
 rw [MV.thing,Tm.cells_eq];rfl
theorem z17q (v:MV)(e:List MV):MV.envM (v::e) = .ref [v.thing,MV.envM e]:=by rw [MV.envM]
mutual
theorem MV.nle_mono {M N:Nat}(h:M≤N):∀ v:MV,v.nle M→v.nle N
 | .num n,k=>by simp only [MV.nle] at k ⊢;omega
 | .list l,k=>by simp only [MV.nle] at k ⊢;exact ⟨Nat.le_trans k.1 h,fun n hn=>Nat.le_trans (k.2 n hn) h⟩
 | .both a b,k=>by simp only [MV.nle] at k ⊢;exact ⟨MV.nle_mono h a k.1,MV.nle_mono h b k.2⟩
 | .unit,_=>by simp only [MV.nle]
 | .clo b e,k=>by simp only [MV.nle] at k ⊢;exact MV.nles_mono h e k
theorem MV.nles_mono {M N:Nat}(h:M≤N):∀ e:List MV,MV.nles M e→MV.nles N e
 | [],_=>by simp only [MV.nles]
 | v::e,k=>by simp only [MV.nles] at k ⊢;exact ⟨MV.nle_mono h v k.1,MV.nles_mono h e k.2⟩
end
theorem zdh {M:Nat}:∀ {l:List MV} {i:Nat} {a:MV},MV.nles M l→l[i]? = some a→a.nle M
 | x::l,0,a,h,k=>by simp only [MV.nles] at h;simp at k;rw [← k];exact h.1
 | x::l,i+1,a,h,k=>by simp only [MV.nles] at h;exact zdh h.2 (by simpa using k)
theorem zb9 {most:Nat}(hm:most≤1073741824){ev:Evl}(H:WalkM Tryz.prog gl 139 most ev)(hN:NleM most ev){f v:MV}{l:List MV}{u c:Nat}(b M:Nat)
  (h:callC ev f l=some (v,c)) (hu:u≤most) (hM:M+(most - u)≤1073741824) (hF:f.nle M) (hL:MV.nles M l) :
  Con1 Tryz.prog gl 140 [ptr b,f.thing,.sl (l.map fun x=>[x.thing])] [(b,useM most u)] (outM most (u+c) v.thing) [(b,useM most (u+c))]:=by
 refine t_in Tryz.func140 ?_
 intro X hP hgl hf hfn hn hR hids hfit
 have hl1:(l.length:Int)≤2147483648:=by have:=hfit (.sl (l.map fun x=>[x.thing])) (by simp);simp [DV.fit] at this;have:=this.1;simp [BIG] at this;omega
 have hu0:useM most u=[dint (u:Int),dint (most:Int)]:=by unfold useM;rw [if_pos hu]
 rw [hu0]
 refine t_g0 ?_
 refine t_a ?_
 refine z0e [] trivial (z1k (fun x:MV × Nat × Nat=>x.2.1≤l.length∧x.2.2≤most∧u≤x.2.2∧x.1.nle (M+(x.2.2 - u))∧∃ c',callC ev x.1 (l.drop x.2.1)=some (v,c')∧x.2.2+c' = u+c) (fun x:MV × Nat × Nat=>[(.slot 15,.one (.v (dint (x.2.1:Int)))),(.slot 14,.one (.v (dint (l.length:Int)))),(.slot 13,.one (.v (.sl (l.map fun x=>[x.thing])))),(.slot 0,.one (.v (ptr b))),(.slot 1,.one (.v x.1.thing)),(.slot 6,.one (.v nilI)),(.slot 7,.one (.v (dbool false))),(.heap  b,.row ([.v (dint (x.2.2:Int)),.v (dint (most:Int))]))]) (fun x:MV × Nat × Nat=>l.length - x.2.1) (f,0,u) (⟨Nat.zero_le _,hu,Nat.le_refl u,by simpa using hF,c,by simpa using h,rfl⟩) ?_)
 rintro ⟨g,i,u'⟩ ⟨hi,hu',huu,hg,c',hc,hcc⟩ ih
 simp only at hi hu' huu hg hc hcc
 by_cases hil:i<l.length
 ·obtain ⟨a,ha⟩:∃ a,l[i]? = some a:=⟨l[i],List.getElem?_eq_getElem hil⟩
  have hd:l.drop i=a::l.drop (i+1):=by
   rw [List.drop_eq_getElem_cons hil]
   rw [List.getElem?_eq_getElem hil,Option.some.injEq] at ha
   rw [ha]
  rw [hd] at hc
  have hmem:a.nle M:=zdh hL ha
  cases g with
  | num n=>cases hc
  | list q=>cases hc
  | both p q=>cases hc
  | unit=>cases hc
  | clo body e=>
   simp only [callC] at hc
   split at hc
   ·cases hc
   ·rename_i v1 c1 hv1
    split at hc
    ·cases hc
    ·rename_i w c2 hw
     simp only [Option.some.injEq,Prod.mk.injEq] at hc
     obtain ⟨rfl,rfl⟩:=hc
     simp only [MV.nle] at hg
     have hes:MV.nles (M+(u' - u)) (a::e):=by simp only [MV.nles];exact ⟨MV.nle_mono (by omega) _ hmem,hg⟩
     have W1:=H b (M+(u' - u)) hv1 hu' (by omega) hes
     have hN1:=hN (M+(u' - u)) hv1 hes
     have hth:=zio body e
     have hT:=Tm.fold body
     have hu1:useM most u' = [dint (u':Int),dint (most:Int)]:=by unfold useM;rw [if_pos hu']
     rw [hu1,z17q] at W1
     have hgi:(l.map fun x=>[x.thing])[i]? = some [a.thing]:=by rw [List.getElem?_map,ha];rfl
     rw [hth]
     generalize l.map (fun x=>[x.thing])=L at *
     refine z00 ?_
     refine z07 ?_
     refine t_rg @hgi ?_
     refine z00 ?_
     refine t_a ?_
     refine z09 (by rw [hP];exact z08) [33] fun K hK=>?_
     simp [go_sem,hP,hgl,hn,hT]
     refine z4h (cs:=[a.thing,MV.envM e]) (y:=.ag [a.thing,MV.envM e] []) (fun _ _=>z0l) (by simp [go_sem,hP,hgl,hn]) (by simp [go_sem]) (by simp [go_sem]) (by rw [hn];exact Nat.le_of_ble_eq_true rfl) (by rfl) ?_
     simp [go_sem,hP,hgl,hn]
     by_cases hfit1:u'+c1≤most
     ·have o1:outM most (u'+c1) v1.thing = .tup [v1.thing,dbool true]:=by unfold outM;rw [if_pos hfit1]
      have o2:useM most (u'+c1)=[dint ((u'+c1:Nat):Int),dint (most:Int)]:=by unfold useM;rw [if_pos hfit1]
      rw [o1,o2] at W1
      refine t_c trivial (W1) ?_
      refine t_e ?_
      clear hK K
      refine z00 ?_
      refine t_no ?_
      refine z00 ?_
      refine z00 ?_
      have a1:i+1≤l.length:=by omega
      have a2:u≤u'+c1:=by omega
      have a3:M+(u' - u)+c1≤M+(u'+c1 - u):=by omega
      have a4:u'+c1+c2=u+c:=by omega
      have a5:l.length - (i+1)<l.length - i:=by omega
      refine t_b ?_
      refine z0e [] trivial (ih (v1,i+1,u'+c1) ⟨a1,hfit1,a2,MV.nle_mono a3 _ hN1,c2,hw,a4⟩ a5)
     ·have o1:outM most (u'+c1) v1.thing = .tup [nilI,dbool false]:=by unfold outM;rw [if_neg hfit1]
      have o2:useM most (u'+c1)=[dint (most:Int),dint (most:Int)]:=by unfold useM;rw [if_neg hfit1]
      have hbig:¬ u+c≤most:=by omega
      have o3:outM most (u+c) w.thing = .tup [nilI,dbool false]:=by unfold outM;rw [if_neg hbig]
      have o4:useM most (u+c)=[dint (most:Int),dint (most:Int)]:=by unfold useM;rw [if_neg hbig]
      rw [o3,o4] at hR
      rw [o1,o2] at W1
      refine t_c trivial (W1) ?_
      refine t_e ?_
      clear hK K
      refine z00 ?_
      refine z07 ?_
      refine z00 ?_
      refine t_ro [(b,[dint (most:Int),dint (most:Int)])] trivial ?_
      try simp
      try all_goals exact t_f
 ·have hd:l.drop i=[]:=List.drop_eq_nil_iff.2 (by omega)
  have hii:i=l.length:=by omega
  subst hii
  rw [hd] at hc
  have hc0:callC ev g []=some (g,0):=by cases g <;> rfl
  rw [hc0] at hc
  simp only [Option.some.injEq,Prod.mk.injEq] at hc
  obtain ⟨rfl,rfl⟩:=hc
  have hsm:u+c≤most:=by omega
  have o3:outM most (u+c) g.thing = .tup [g.thing,dbool true]:=by unfold outM;rw [if_pos hsm]
  have o4:useM most (u+c)=[dint (u':Int),dint (most:Int)]:=by unfold useM;rw [if_pos hsm];rw [← hcc];simp
  rw [o3,o4] at hR
  refine z00 ?_
  refine t_no ?_
  refine z00 ?_
  refine t_ro [(b,[dint (u':Int),dint (most:Int)])] trivial ?_
  try simp
  try all_goals exact t_f
end
section
theorem z5q {most:Nat}{ev:Evl}(hN:NleM most ev):∀ {l:List MV} {f v:MV} {c M:Nat},callC ev f l=some (v,c)→f.nle M→MV.nles M l→v.nle (M+c)
 | [],f,v,c,M,h,hf,hl=>by
  have:callC ev f []=some (f,0):=by cases f <;> rfl
  rw [this] at h
  simp only [Option.some.injEq,Prod.mk.injEq] at h
  obtain ⟨rfl,rfl⟩:=h
  exact hf
 | a::l,f,v,c,M,h,hf,hl=>by
  cases f with
  | num n=>cases h
  | list q=>cases h
  | both p q=>cases h
  | unit=>cases h
  | clo body e=>
   simp only [callC] at h
   split at h
   ·cases h
   rename_i v1 c1 hv1
   split at h
   ·cases h
   rename_i w c2 hw
   simp only [Option.some.injEq,Prod.mk.injEq] at h
   obtain ⟨rfl,rfl⟩:=h
   simp only [MV.nle] at hf
   simp only [MV.nles] at hl
   have k:=hN M hv1 (by simp only [MV.nles];exact ⟨hl.1,hf⟩)
   have:=z5q hN hw k (MV.nles_mono (by omega) _ hl.2)
   rw [Nat.add_assoc] at this
   exact this
theorem ziq {most:Nat}{ev:Evl}(hN:NleM most ev){f:MV}:∀ {n k:Nat} {r v:MV} {c M:Nat},recC ev f n k r=some (v,c)→f.nle M→r.nle M→k+n≤M→v.nle (M+c)
 | 0,k,r,v,c,M,h,hf,hr,hk=>by
  simp only [recC,Option.some.injEq,Prod.mk.injEq] at h
  obtain ⟨rfl,rfl⟩:=h
  exact hr
 | n+1,k,r,v,c,M,h,hf,hr,hk=>by
  simp only [recC] at h
  split at h
  ·cases h
  rename_i v1 c1 hv1
  split at h
  ·cases h
  rename_i w c2 hw
  simp only [Option.some.injEq,Prod.mk.injEq] at h
  obtain ⟨rfl,rfl⟩:=h
  have k1:=z5q hN hv1 hf (by simp only [MV.nles,MV.nle];exact ⟨by omega,hr,trivial⟩)
  have:=ziq hN hw (MV.nle_mono (by omega) _ hf) k1 (by omega)
  rw [Nat.add_assoc] at this
  exact this
theorem zdi {most:Nat}{ev:Evl}(hN:NleM most ev){f r:MV}:∀ {l:List Nat} {v:MV} {c M:Nat},foldC ev f r l=some (v,c)→f.nle M→r.nle M→(l.length≤M∧∀ n ∈ l,n≤M)→v.nle (M+c)
 | [],v,c,M,h,hf,hr,hl=>by
  simp only [foldC,Option.some.injEq,Prod.mk.injEq] at h
  obtain ⟨rfl,rfl⟩:=h
  exact hr
 | x::l,v,c,M,h,hf,hr,hl=>by
  simp only [foldC] at h
  split at h
  ·cases h
  rename_i v1 c1 hv1
  split at h
  ·cases h
  rename_i w c2 hw
  simp only [Option.some.injEq,Prod.mk.injEq] at h
  obtain ⟨rfl,rfl⟩:=h
  have hl1:l.length+1≤M:=by simpa using hl.1
  have k1:=zdi hN hv1 hf hr ⟨by omega,fun n hn=>hl.2 n (List.mem_cons_of_mem _ hn)⟩
  have hx:x≤M:=hl.2 x (by simp)
  have k2:=z5q hN hw (MV.nle_mono (show M≤M+c1 by omega) _ hf) (by
   simp only [MV.nles,MV.nle]
   exact ⟨by omega,⟨by omega,fun n hn=>Nat.le_trans (hl.2 n (List.mem_cons_of_mem _ hn)) (by omega)⟩,k1,trivial⟩)
  rw [Nat.add_assoc] at k2
  exact k2
theorem z2s {most:Nat}{ev:Evl}(hN:NleM most ev){e:List MV}:∀ {l:List Tm} {vs:List MV} {c M:Nat},allC ev l e=some (vs,c)→MV.nles M e→MV.nles (M+c) vs
 | [],vs,c,M,h,he=>by
  simp only [allC,Option.some.injEq,Prod.mk.injEq] at h
  obtain ⟨rfl,rfl⟩:=h
  simp only [MV.nles]
 | t::l,vs,c,M,h,he=>by
  simp only [allC] at h
  split at h
  ·cases h
  rename_i v1 c1 hv1
  split at h
  ·cases h
  rename_i w c2 hw
  simp only [Option.some.injEq,Prod.mk.injEq] at h
  obtain ⟨rfl,rfl⟩:=h
  simp only [MV.nles]
  exact ⟨MV.nle_mono (by omega) _ (hN M hv1 he),MV.nles_mono (by omega) _ (z2s hN hw he)⟩
theorem z17r {most:Nat}{ev:Evl}(hN:NleM most ev){k:Int}{l:List MV}{v:MV}{c M:Nat}(h:nodeC ev k l=some (v,c))(hl:MV.nles M l):v.nle (M+1+c):=by
 unfold nodeC at h
 repeat' split at h
 all_goals first
  | (cases h;done)
  | skip
 all_goals try simp only [MV.nles,MV.nle] at hl
 ·exact z5q hN h (MV.nle_mono (by omega) _ hl.1) (by simp only [MV.nles];exact ⟨MV.nle_mono (by omega) _ hl.2.1,trivial⟩)
 ·simp only [Option.some.injEq,Prod.mk.injEq] at h
  obtain ⟨rfl,rfl⟩:=h
  simp only [MV.nle];omega
 ·simp only [Option.some.injEq,Prod.mk.injEq] at h
  obtain ⟨rfl,rfl⟩:=h
  simp only [MV.nle];omega
 ·exact ziq hN h (MV.nle_mono (by omega) _ hl.2.1) (MV.nle_mono (by omega) _ hl.1) (by omega)
 ·simp only [Option.some.injEq,Prod.mk.injEq] at h
  obtain ⟨rfl,rfl⟩:=h
  simp only [MV.nle];simp
 ·simp only [Option.some.injEq,Prod.mk.injEq] at h
  obtain ⟨rfl,rfl⟩:=h
  simp only [MV.nle,List.mem_cons,List.length_cons]
  refine ⟨by omega,?_⟩
  rintro n (rfl|hn)
  ·omega
  ·exact Nat.le_trans (hl.2.1.2 n hn) (by omega)
 ·exact zdi hN h (MV.nle_mono (by omega) _ hl.2.1) (MV.nle_mono (by omega) _ hl.1) ⟨by omega,fun n hn=>Nat.le_trans (hl.2.2.1.2 n hn) (by omega)⟩
 ·simp only [Option.some.injEq,Prod.mk.injEq] at h
  obtain ⟨rfl,rfl⟩:=h
  simp only [MV.nle]
  exact ⟨MV.nle_mono (by omega) _ hl.1,MV.nle_mono (by omega) _ hl.2.1⟩
 ·simp only [Option.some.injEq,Prod.mk.injEq] at h
  obtain ⟨rfl,rfl⟩:=h
  exact MV.nle_mono (by omega) _ hl.1.1
 ·simp only [Option.some.injEq,Prod.mk.injEq] at h
  obtain ⟨rfl,rfl⟩:=h
  exact MV.nle_mono (by omega) _ hl.1.2
 ·simp only [Option.some.injEq,Prod.mk.injEq] at h
  obtain ⟨rfl,rfl⟩:=h
  simp only [MV.nle]
theorem z76 (most:Nat):∀ d,NleM most (evS d)
 | 0,t,e,v,c,M,h,he=>by cases h
 | d+1,t,e,v,c,M,h,he=>by
  have hN:=z76 most d
  rw [evS] at h
  split at h
  ·split at h
   ·rename_i hi
    simp only [Option.some.injEq,Prod.mk.injEq] at h
    obtain ⟨rfl,rfl⟩:=h
    have hg:e[t.index.toNat]? = some (e.getD t.index.toNat .unit):=by simp [List.getD,List.getElem?_eq_getElem hi.2]
    exact MV.nle_mono (by omega) _ (zdh he hg)
   ·cases h
  split at h
  ·split at h
   ·cases h
   ·simp only [Option.some.injEq,Prod.mk.injEq] at h
    obtain ⟨rfl,rfl⟩:=h
    simp only [MV.nle]
    exact MV.nles_mono (by omega) _ he
  split at h
  ·cases h
  split at h
  ·cases h
  rename_i l c1 hl
  split at h
  ·cases h
  rename_i w c2 hw
  simp only [Option.some.injEq,Prod.mk.injEq] at h
  obtain ⟨rfl,rfl⟩:=h
  unfold nodeS at hw
  split at hw
  ·have:=z17r hN hw (z2s hN hl he)
   exact MV.nle_mono (by omega) _ this
  ·cases hw
end
section
abbrev EvB:=Tm→List MV→Option (MV × Nat × Nat)
def allB (ev:EvB):List Tm→List MV→Option (List MV × Nat × Nat)
 | [],_=>some ([],0,0)
 | x::r,e=>match ev x e with
  | none=>none
  | some (v,c,k)=>match allB ev r e with
   | none=>none
   | some (l,c',k')=>some (v::l,c+c',k+k')
def callB (ev:EvB):MV→MV→Option (MV × Nat × Nat)
 | .clo b e,x=>ev b (x::e)
 | _,_=>none
def recB (ev:EvB)(f:MV):Nat→Nat→MV→Option (MV × Nat × Nat)
 | 0,_,r=>some (r,0,0)
 | n+1,k,r=>match callB ev f (.num k) with
  | none=>none
  | some (g,c1,k1)=>match callB ev g r with
   | none=>none
   | some (r',c2,k2)=>match recB ev f n (k+1) r' with
    | none=>none
    | some (w,c3,k3)=>some (w,c1+c2+c3,1+k1+k2+k3)
def foldB (ev:EvB)(f r:MV):List Nat→Option (MV × Nat × Nat)
 | []=>some (r,0,0)
 | x::l=>match foldB ev f r l with
  | none=>none
  | some (r',c0,k0)=>match callB ev f (.num x) with
   | none=>none
   | some (g,c1,k1)=>match callB ev g (.list l) with
    | none=>none
    | some (h,c2,k2)=>match callB ev h r' with
     | none=>none
     | some (w,c3,k3)=>some (w,c0+(c1+c2+c3),k0+1+k1+k2+k3)
def nodeB (ev:EvB)(k:Int)(l:List MV):Option (MV × Nat × Nat):=
 if k=3 then match l with
  | [f,x]=>(callB ev f x).map fun r=>(r.1,r.2.1,1+r.2.2)
  | _=>none
 else if k=4 then some (.num 0,0,0)
 else if k=5 then match l with
  | [.num n]=>some (.num (n+1),0,0)
  | _=>none
 else if k=6 then match l with
  | [b,f,.num n]=>recB ev f n 0 b
  | _=>none
 else if k=7 then some (.list [],0,0)
 else if k=8 then match l with
  | [.num n,.list m]=>some (.list (n::m),0,0)
  | _=>none
 else if k=9 then match l with
  | [b,f,.list m]=>foldB ev f b m
  | _=>none
 else if k=10 then match l with
  | [x,y]=>some (.both x y,0,0)
  | _=>none
 else if k=11 then match l with
  | [.both x _]=>some (x,0,0)
  | _=>none
 else if k=12 then match l with
  | [.both _ y]=>some (y,0,0)
  | _=>none
 else if k=13 then some (.unit,0,0)
 else none
def evB:Nat→EvB
 | 0,_,_=>none
 | d+1,t,e=>
  if t.kind=1 then if 0≤t.index∧t.index.toNat<e.length then some (e.getD t.index.toNat .unit,1,0) else none
  else if t.kind=2 then if t.args.length=0 then none else some (.clo (t.argN 0) e,1,0)
  else if 3<t.args.length then none
  else match allB (evB d) t.args e with
   | none=>none
   | some (l,c,k)=>(nodeB (evB d) t.kind l).map fun r=>(r.1,1+c+r.2.1,k+r.2.2)
def vw {α:Type}(r:α × Nat × Nat):α × Nat:=(r.1,r.2.1)
def Same (b:EvB)(s:Evl):Prop:=∀ t e,(b t e).map vw=s t e
theorem zdj {b:EvB}{s:Evl}(h:Same b s):∀ (l:List Tm) (e:List MV),(allB b l e).map vw=allC s l e
 | [],_=>rfl
 | x::r,e=>by
  have ih:=zdj h r e
  have h1:=h x e
  simp only [allB,allC]
  rw [← h1,← ih]
  cases b x e with
  | none=>rfl
  | some q=>
   cases allB b r e with
   | none=>rfl
   | some q'=>rfl
theorem zba (s:Evl)(v:MV):callC s v []=some (v,0):=by cases v <;> rfl
theorem z5r {b:EvB}{s:Evl}(h:Same b s)(f x:MV):(callB b f x).map vw=callC s f [x]:=by
 cases f with
 | clo t e=>
  simp only [callB,callC]
  rw [← h t (x::e)]
  cases b t (x::e) with
  | none=>rfl
  | some q=>simp only [Option.map_some,vw,zba,Nat.add_zero]
 | _=>rfl
theorem zdk (s:Evl)(f x:MV)(l:List MV):callC s f (x::l)=(callC s f [x]).bind fun q=>(callC s q.1 l).map fun q'=>(q'.1,q.2+q'.2):=by
 cases f with
 | clo t e=>
  simp only [callC]
  cases s t (x::e) with
  | none=>rfl
  | some q=>
   obtain ⟨v,c⟩:=q
   simp only [zba,Option.bind_some,Nat.add_zero]
   cases callC s v l with
   | none=>rfl
   | some q'=>rfl
 | _=>rfl
theorem zir {b:EvB}{s:Evl}(h:Same b s)(f:MV):∀ (n k:Nat) (r:MV),(recB b f n k r).map vw=recC s f n k r
 | 0,_,_=>rfl
 | n+1,k,r=>by
  simp only [recB,recC]
  rw [zdk,← z5r h]
  cases callB b f (.num k) with
  | none=>rfl
  | some q=>
   obtain ⟨g,c1,k1⟩:=q
   simp only [Option.map_some,vw,Option.bind_some]
   rw [← z5r h]
   cases callB b g r with
   | none=>rfl
   | some q'=>
    obtain ⟨r',c2,k2⟩:=q'
    simp only [Option.map_some,vw]
    rw [← zir h f n (k+1) r']
    cases recB b f n (k+1) r' with
    | none=>rfl
    | some q''=>rfl
theorem zis {b:EvB}{s:Evl}(h:Same b s)(f r:MV):∀ (l:List Nat),(foldB b f r l).map vw=foldC s f r l
 | []=>rfl
 | x::l=>by
  simp only [foldB,foldC]
  rw [← zis h f r l]
  cases foldB b f r l with
  | none=>rfl
  | some q0=>
   obtain ⟨r',c0,k0⟩:=q0
   simp only [Option.map_some,vw]
   rw [zdk,← z5r h]
   cases callB b f (.num x) with
   | none=>rfl
   | some q=>
    obtain ⟨g,c1,k1⟩:=q
    simp only [Option.map_some,vw,Option.bind_some]
    rw [zdk,← z5r h]
    cases callB b g (.list l) with
    | none=>rfl
    | some q'=>
     obtain ⟨h',c2,k2⟩:=q'
     simp only [Option.map_some,vw,Option.bind_some]
     rw [← z5r h]
     cases callB b h' r' with
     | none=>rfl
     | some q''=>
      simp only [Option.map_some,vw,Nat.add_assoc]
theorem z17s {b:EvB}{s:Evl}(h:Same b s)(k:Int)(l:List MV):(nodeB b k l).map vw=nodeS s k l:=by
 unfold nodeS nodeC nodeB
 by_cases h3:k=3
 ·subst h3
  simp only [if_true,show (3:Int)≤3∧(3:Int)≤13 from by omega,and_self]
  split
  ·rename_i f x
   show Option.map vw (Option.map _ (callB b f x))=callC s f [x]
   rw [← z5r h]
   cases callB b f x <;> rfl
  ·rename_i hn
   first|rfl|(split <;> first|rfl|(rename_i f x;exact absurd rfl (hn f x)))
 by_cases h4:k=4
 ·subst h4;rfl
 by_cases h5:k=5
 ·subst h5
  simp only [show ¬ (5:Int)=3 from by omega,show ¬ (5:Int)=4 from by omega,if_false,if_true,show (3:Int)≤5∧(5:Int)≤13 from by omega,and_self]
  split
  ·rfl
  ·rename_i hn
   first|rfl|(split <;> first|rfl|(rename_i n;exact absurd rfl (hn n)))
 by_cases h6:k=6
 ·subst h6
  simp only [show ¬ (6:Int)=3 from by omega,show ¬ (6:Int)=4 from by omega,show ¬ (6:Int)=5 from by omega,if_false,if_true,show (3:Int)≤6∧(6:Int)≤13 from by omega,and_self]
  split
  ·exact zir h _ _ _ _
  ·rename_i hn
   first|rfl|(split <;> first|rfl|(rename_i x f n;exact absurd rfl (hn x f n)))
 by_cases h7:k=7
 ·subst h7;rfl
 by_cases h8:k=8
 ·subst h8
  simp only [show ¬ (8:Int)=3 from by omega,show ¬ (8:Int)=4 from by omega,show ¬ (8:Int)=5 from by omega,show ¬ (8:Int)=6 from by omega,show ¬ (8:Int)=7 from by omega,if_false,if_true,show (3:Int)≤8∧(8:Int)≤13 from by omega,and_self]
  split
  ·rfl
  ·rename_i hn
   first|rfl|(split <;> first|rfl|(rename_i n m;exact absurd rfl (hn n m)))
 by_cases h9:k=9
 ·subst h9
  simp only [show ¬ (9:Int)=3 from by omega,show ¬ (9:Int)=4 from by omega,show ¬ (9:Int)=5 from by omega,show ¬ (9:Int)=6 from by omega,show ¬ (9:Int)=7 from by omega,show ¬ (9:Int)=8 from by omega,if_false,if_true,show (3:Int)≤9∧(9:Int)≤13 from by omega,and_self]
  split
  ·exact zis h _ _ _
  ·rename_i hn
   first|rfl|(split <;> first|rfl|(rename_i x f n;exact absurd rfl (hn x f n)))
 by_cases h10:k=10
 ·subst h10
  simp only [show ¬ (10:Int)=3 from by omega,show ¬ (10:Int)=4 from by omega,show ¬ (10:Int)=5 from by omega,show ¬ (10:Int)=6 from by omega,show ¬ (10:Int)=7 from by omega,show ¬ (10:Int)=8 from by omega,show ¬ (10:Int)=9 from by omega,if_false,if_true,show (3:Int)≤10∧(10:Int)≤13 from by omega,and_self]
  split
  ·rfl
  ·rename_i hn
   first|rfl|(split <;> first|rfl|(rename_i x y;exact absurd rfl (hn x y)))
 by_cases h11:k=11
 ·subst h11
  simp only [show ¬ (11:Int)=3 from by omega,show ¬ (11:Int)=4 from by omega,show ¬ (11:Int)=5 from by omega,show ¬ (11:Int)=6 from by omega,show ¬ (11:Int)=7 from by omega,show ¬ (11:Int)=8 from by omega,show ¬ (11:Int)=9 from by omega,show ¬ (11:Int)=10 from by omega,if_false,if_true,show (3:Int)≤11∧(11:Int)≤13 from by omega,and_self]
  split
  ·rfl
  ·rename_i hn
   first|rfl|(split <;> first|rfl|(rename_i x y;exact absurd rfl (hn x y)))
 by_cases h12:k=12
 ·subst h12
  simp only [show ¬ (12:Int)=3 from by omega,show ¬ (12:Int)=4 from by omega,show ¬ (12:Int)=5 from by omega,show ¬ (12:Int)=6 from by omega,show ¬ (12:Int)=7 from by omega,show ¬ (12:Int)=8 from by omega,show ¬ (12:Int)=9 from by omega,show ¬ (12:Int)=10 from by omega,show ¬ (12:Int)=11 from by omega,if_false,if_true,show (3:Int)≤12∧(12:Int)≤13 from by omega,and_self]
  split
  ·rfl
  ·rename_i hn
   first|rfl|(split <;> first|rfl|(rename_i x y;exact absurd rfl (hn x y)))
 by_cases h13:k=13
 ·subst h13;rfl
 simp only [h3,h4,h5,h6,h7,h8,h9,h10,h11,h12,h13,if_false]
 rw [if_neg (by omega)]
 rfl
theorem z8t:∀ d,Same (evB d) (evS d)
 | 0=>fun t e=>rfl
 | d+1=>fun t e=>by
  have ih:=z8t d
  rw [evB,evS]
  by_cases h1:t.kind=1
  ·rw [if_pos h1,if_pos h1];split <;> rfl
  rw [if_neg h1,if_neg h1]
  by_cases h2:t.kind=2
  ·rw [if_pos h2,if_pos h2];split <;> rfl
  rw [if_neg h2,if_neg h2]
  by_cases h3:3<t.args.length
  ·rw [if_pos h3,if_pos h3];rfl
  rw [if_neg h3,if_neg h3,← zdj ih]
  cases allB (evB d) t.args e with
  | none=>rfl
  | some q=>
   obtain ⟨l,c,k⟩:=q
   simp only [Option.map_some,vw]
   rw [← z17s ih]
   cases nodeB (evB d) t.kind l with
   | none=>rfl
   | some q'=>rfl
theorem z17t {d:Nat}{t:Tm}{e:List MV}{v:MV}{c k:Nat}(h:evB d t e=some (v,c,k)):evS d t e=some (v,c):=by
 rw [← z8t d,h];rfl
def Few (b:EvB):Prop:=∀ t e v c k,b t e=some (v,c,k)→k<c
theorem zit {b:EvB}(h:Few b):∀ {l:List Tm} {e:List MV} {v:List MV} {c k:Nat},allB b l e=some (v,c,k)→k+l.length≤c
 | [],_,_,_,_,hr=>by simp only [allB] at hr;cases hr;exact Nat.le_refl _
 | x::r,e,v,c,k,hr=>by
  simp only [allB] at hr
  split at hr
  ·cases hr
  rename_i v1 c1 k1 h1
  split at hr
  ·cases hr
  rename_i l2 c2 k2 h2
  cases hr
  have:=h _ _ _ _ _ h1
  have:=zit h h2
  simp only [List.length_cons];omega
theorem z77 {b:EvB}(h:Few b){f x v:MV}{c k:Nat}(hr:callB b f x=some (v,c,k)):k<c:=by
 cases f with
 | clo t e=>exact h _ _ _ _ _ hr
 | _=>cases hr
theorem ziu {b:EvB}(h:Few b){f:MV}:∀ {n i:Nat} {r v:MV} {c k:Nat},recB b f n i r=some (v,c,k)→k≤c
 | 0,_,_,_,_,_,hr=>by simp only [recB] at hr;cases hr;exact Nat.le_refl _
 | n+1,i,r,v,c,k,hr=>by
  simp only [recB] at hr
  split at hr
  ·cases hr
  rename_i g c1 k1 h1
  split at hr
  ·cases hr
  rename_i r' c2 k2 h2
  split at hr
  ·cases hr
  rename_i w c3 k3 h3
  cases hr
  have:=z77 h h1
  have:=z77 h h2
  have:=ziu h h3
  omega
theorem ziv {b:EvB}(h:Few b){f r:MV}:∀ {l:List Nat} {v:MV} {c k:Nat},foldB b f r l=some (v,c,k)→k≤c
 | [],_,_,_,hr=>by simp only [foldB] at hr;cases hr;exact Nat.le_refl _
 | x::l,v,c,k,hr=>by
  simp only [foldB] at hr
  split at hr
  ·cases hr
  rename_i r' c0 k0 h0
  split at hr
  ·cases hr
  rename_i g c1 k1 h1
  split at hr
  ·cases hr
  rename_i h' c2 k2 h2
  split at hr
  ·cases hr
  rename_i w c3 k3 h3
  cases hr
  have:=ziv h h0
  have:=z77 h h1
  have:=z77 h h2
  have:=z77 h h3
  omega
theorem z17u {b:EvB}(h:Few b){i:Int}{l:List MV}{v:MV}{c k:Nat}(hr:nodeB b i l=some (v,c,k)):k≤c:=by
 unfold nodeB at hr
 split at hr
 ·split at hr
  ·obtain ⟨⟨v',c',k'⟩,h1,h2⟩:=Option.map_eq_some_iff.1 hr
   cases h2
   have:=z77 h h1
   simp only;omega
  ·cases hr
 repeat' split at hr
 all_goals first|(cases hr;done)|exact ziu h hr|exact ziv h hr|(cases hr;exact Nat.le_refl _)
theorem z8u:∀ d,Few (evB d)
 | 0=>fun t e v c k h=>by cases h
 | d+1=>fun t e v c k h=>by
  rw [evB] at h
  split at h
  ·split at h
   ·cases h;omega
   ·cases h
  split at h
  ·split at h
   ·cases h
   ·cases h;omega
  split at h
  ·cases h
  split at h
  ·cases h
  rename_i l c1 k1 h1
  obtain ⟨⟨v',c',k'⟩,h2,h3⟩:=Option.map_eq_some_iff.1 h
  cases h3
  have:=zit (z8u d) h1
  have:=z17u (z8u d) h2
  simp only;omega
mutual
def MV.wv:MV→WV
 | .num n=>.num n
 | .list l=>.list l
 | .both a b=>.pair a.wv b.wv
 | .unit=>.unit
 | .clo b e=>.fn b (MV.wvs e)
def MV.wvs:List MV→List WV
 | []=>[]
 | v::e=>v.wv::MV.wvs e
end
theorem z17v (e:List MV):MV.wvs e=e.map MV.wv:=by
 induction e with
 | nil=>rfl
 | cons v e ih=>simp only [MV.wvs,List.map_cons,ih]
def wk (r:MV × Nat × Nat):WV × Nat:=(r.1.wv,r.2.2)
def Agree (b:EvB)(e:EvK):Prop:=∀ t l r r',b t l=some r→e t (MV.wvs l)=some r'→r' = wk r
theorem ziw {b:EvB}{ev:EvK}(h:Agree b ev):∀ {l:List Tm} {e:List MV} {r:List MV × Nat × Nat} {r':List WV × Nat},allB b l e=some r→allK ev l (MV.wvs e)=some r'→r' = (MV.wvs r.1,r.2.2)
 | [],_,_,_,h1,h2=>by simp only [allB,allK] at h1 h2;cases h1;cases h2;rfl
 | x::l,e,r,r',h1,h2=>by
  simp only [allB,allK] at h1 h2
  split at h1
  ·cases h1
  rename_i v1 c1 k1 h3
  split at h1
  ·cases h1
  rename_i l2 c2 k2 h4
  split at h2
  ·cases h2
  rename_i v1' k1' h5
  split at h2
  ·cases h2
  rename_i l2' k2' h6
  cases h1;cases h2
  cases h _ _ _ _ h3 h5
  cases ziw h h4 h6
  rfl
theorem z78 {b:EvB}{ev:EvK}(h:Agree b ev){f x:MV}{r:MV × Nat × Nat}{r':WV × Nat}(h1:callB b f x=some r)(h2:callK ev f.wv x.wv=some r'):r' = wk r:=by
 cases f with
 | clo t e=>exact h t (x::e) r r' h1 h2
 | _=>cases h1
theorem zix {b:EvB}{ev:EvK}(h:Agree b ev){f:MV}:∀ {n i:Nat} {x:MV} {r:MV × Nat × Nat} {r':WV × Nat},recB b f n i x=some r→recK ev f.wv n i x.wv=some r'→r' = wk r
 | 0,_,_,_,_,h1,h2=>by simp only [recB,recK] at h1 h2;cases h1;cases h2;rfl
 | n+1,i,x,r,r',h1,h2=>by
  simp only [recB,recK] at h1 h2
  split at h1
  ·cases h1
  rename_i g c1 k1 e1
  split at h1
  ·cases h1
  rename_i y c2 k2 e2
  split at h1
  ·cases h1
  rename_i w c3 k3 e3
  split at h2
  ·cases h2
  rename_i g' k1' e4
  cases z78 h (x:=.num i) e1 e4
  split at h2
  ·cases h2
  rename_i y' k2' e5
  cases z78 h e2 e5
  split at h2
  ·cases h2
  rename_i w' k3' e6
  cases zix h e3 e6
  cases h1;cases h2
  rfl
theorem ziy {b:EvB}{ev:EvK}(h:Agree b ev){f x:MV}:∀ {l:List Nat} {r:MV × Nat × Nat} {r':WV × Nat},foldB b f x l=some r→foldK ev f.wv x.wv l=some r'→r' = wk r
 | [],_,_,h1,h2=>by simp only [foldB,foldK] at h1 h2;cases h1;cases h2;rfl
 | y::l,r,r',h1,h2=>by
  simp only [foldB,foldK] at h1 h2
  split at h1
  ·cases h1
  rename_i x0 c0 k0 e0
  split at h1
  ·cases h1
  rename_i g c1 k1 e1
  split at h1
  ·cases h1
  rename_i h' c2 k2 e2
  split at h1
  ·cases h1
  rename_i w c3 k3 e3
  split at h2
  ·cases h2
  rename_i x0' k0' e4
  cases ziy h e0 e4
  split at h2
  ·cases h2
  rename_i g' k1' e5
  cases z78 h (x:=.num y) e1 e5
  split at h2
  ·cases h2
  rename_i h'' k2' e6
  cases z78 h (x:=.list l) e2 e6
  split at h2
  ·cases h2
  rename_i w' k3' e7
  cases z78 h e3 e7
  cases h1;cases h2
  rfl
theorem z17w {b:EvB}{ev:EvK}(h:Agree b ev){k:Int}{l:List MV}{r:MV × Nat × Nat}{r':WV × Nat}(h1:nodeB b k l=some r)(h2:nodeK ev k (MV.wvs l)=some r'):r' = wk r:=by
 unfold nodeB at h1
 unfold nodeK at h2
 by_cases h3:k=3
 ·rw [if_pos h3] at h1 h2
  split at h1
  ·rename_i f x
   obtain ⟨q,e1,rfl⟩:=Option.map_eq_some_iff.1 h1
   obtain ⟨q',e2,rfl⟩:=Option.map_eq_some_iff.1 h2
   cases z78 h e1 e2
   rfl
  ·cases h1
 rw [if_neg h3] at h1 h2
 by_cases h4:k=4
 ·rw [if_pos h4] at h1 h2
  cases h1
  split at h2
  ·cases h2;rfl
  ·cases h2
 rw [if_neg h4] at h1 h2
 by_cases h5:k=5
 ·rw [if_pos h5] at h1 h2
  split at h1
  ·cases h1;cases h2;rfl
  ·cases h1
 rw [if_neg h5] at h1 h2
 by_cases h6:k=6
 ·rw [if_pos h6] at h1 h2
  split at h1
  ·exact zix h h1 h2
  ·cases h1
 rw [if_neg h6] at h1 h2
 by_cases h7:k=7
 ·rw [if_pos h7] at h1 h2
  cases h1
  split at h2
  ·cases h2;rfl
  ·cases h2
 rw [if_neg h7] at h1 h2
 by_cases h8:k=8
 ·rw [if_pos h8] at h1 h2
  split at h1
  ·cases h1;cases h2;rfl
  ·cases h1
 rw [if_neg h8] at h1 h2
 by_cases h9:k=9
 ·rw [if_pos h9] at h1 h2
  split at h1
  ·exact ziy h h1 h2
  ·cases h1
 rw [if_neg h9] at h1 h2
 by_cases h10:k=10
 ·rw [if_pos h10] at h1 h2
  split at h1
  ·cases h1;cases h2;rfl
  ·cases h1
 rw [if_neg h10] at h1 h2
 by_cases h11:k=11
 ·rw [if_pos h11] at h1 h2
  split at h1
  ·cases h1;cases h2;rfl
  ·cases h1
 rw [if_neg h11] at h1 h2
 by_cases h12:k=12
 ·rw [if_pos h12] at h1 h2
  split at h1
  ·cases h1;cases h2;rfl
  ·cases h1
 rw [if_neg h12] at h1 h2
 by_cases h13:k=13
 ·rw [if_pos h13] at h1 h2
  cases h1
  split at h2
  ·cases h2;rfl
  ·cases h2
 rw [if_neg h13] at h1 h2
 cases h1
theorem ziz:∀ d d',Agree (evB d) (evK d')
 | 0,_=>fun t e r r' h=>by cases h
 | d+1,0=>fun t e r r' _ h=>by cases h
 | d+1,d'+1=>fun t e r r' h1 h2=>by
  have ih:=ziz d d'
  rw [evB] at h1
  rw [evK] at h2
  by_cases k2:t.kind=2
  ·rw [if_neg (by omega),if_pos k2] at h1
   rw [if_pos k2] at h2
   split at h1
   ·cases h1
   rename_i hl
   cases h1
   split at h2
   ·rename_i b hb
    cases h2
    have:t.argN 0=b:=by simp [Tm.argN,hb]
    rw [this]
    rfl
   ·cases h2
  rw [if_neg k2] at h2
  by_cases k1:t.kind=1
  ·rw [if_pos k1] at h1 h2
   split at h1
   ·rename_i hi
    cases h1
    rw [z17v,List.getElem?_map,List.getElem?_eq_getElem hi.2] at h2
    cases h2
    simp [wk,List.getD,List.getElem?_eq_getElem hi.2]
   ·cases h1
  rw [if_neg k1] at h1 h2
  rw [if_neg k2] at h1
  split at h1
  ·cases h1
  split at h1
  ·cases h1
  rename_i l c k e1
  obtain ⟨q,e2,rfl⟩:=Option.map_eq_some_iff.1 h1
  split at h2
  ·cases h2
  rename_i l' k' e3
  obtain ⟨q',e4,rfl⟩:=Option.map_eq_some_iff.1 h2
  cases ziw ih e1 e3
  cases z17w ih e2 e4
  rfl
end
section
variable {gl:Globs}
mutual
def MV.cl:MV→DV
 | .num n=>.ref [dint (n:Int),nilP,nilP,nilP,nilP,nilP]
 | .list l=>.ref [dint 0,cellM l,nilP,nilP,nilP,nilP]
 | .both a b=>.ref [dint 0,nilP,MV.cl a,MV.cl b,nilP,nilP]
 | .unit=>.ref [dint 0,nilP,nilP,nilP,nilP,nilP]
 | .clo b e=>.ref [dint 0,nilP,nilP,nilP,.ref b.cells,MV.varsD e]
def MV.varsD:List MV→DV
 | []=>nilP
 | v::e=>.ref [MV.cl v,MV.varsD e]
end
theorem z17x (v:MV):v.cl.isCell=true:=by cases v <;> (simp only [MV.cl];rfl)
theorem z17y (e:List MV):(MV.varsD e).isCell=true:=by cases e <;> (simp only [MV.varsD];rfl)
theorem z17z (v:MV):cellsD v.cl=[v.cl]:=by cases v <;> (simp only [MV.cl];rfl)
theorem z180 (e:List MV):cellsD (MV.varsD e)=[MV.varsD e]:=by cases e <;> (simp only [MV.varsD];rfl)
attribute [go_sem] z17x z17y z17z z180
theorem zj0 (v:MV)(e:List MV):MV.varsD (v::e) = .ref [v.cl,MV.varsD e]:=by rw [MV.varsD]
theorem zj1 (b:Tm)(e:List MV):(MV.clo b e).cl = .ref [dint 0,nilP,nilP,nilP,.ref [dint b.kind,dint b.index,dint b.type.kind,.sl (b.type.args.map Ty.cells),.sl (b.args.map Tm.cells)],MV.varsD e]:=by
 rw [MV.cl,Tm.cells_eq]
theorem z5s (n:Nat):(MV.num n).cl = .ref [dint (n:Int),nilP,nilP,nilP,nilP,nilP]:=by rw [MV.cl]
theorem z8v (l:List Nat):(MV.list l).cl = .ref [dint 0,cellM l,nilP,nilP,nilP,nilP]:=by rw [MV.cl]
theorem zdl (a b:MV):(MV.both a b).cl = .ref [dint 0,nilP,MV.cl a,MV.cl b,nilP,nilP]:=by rw [MV.cl]
theorem z181:MV.unit.cl = .ref [dint 0,nilP,nilP,nilP,nilP,nilP]:=by rw [MV.cl]
def WatchB (P:Program)(gl:Globs)(fe:FuncId)(ev:EvB):Prop:=
 ∀ ⦃t:Tm⦄ ⦃e:List MV⦄ ⦃v:MV⦄ ⦃c k:Nat⦄ (u b M:Nat),ev t e=some (v,c,k)→M+c≤1073741824→u+k≤1073741824→MV.nles M e →
  Con1 P gl fe [ptr b,MV.varsD e,t.dv] [(b,[dint (u:Int)])] v.cl [(b,[dint ((u+k:Nat):Int)])]
theorem z79 {ev:EvB}(H:WatchB Tryz.prog gl 59 ev){f x v:MV}{c k:Nat}(u b M:Nat)(h:callB ev f x=some (v,c,k))(hM:M+c≤1073741824)(hu:u+k≤1073741824)(hF:f.nle M)(hx:x.nle M) :
  Con1 Tryz.prog gl 106 [ptr b,f.cl,x.cl] [(b,[dint (u:Int)])] v.cl [(b,[dint ((u+k:Nat):Int)])]:=by
 cases f with
 | num n=>cases h
 | list q=>cases h
 | both p q=>cases h
 | unit=>cases h
 | clo body e=>
  simp only [callB] at h
  simp only [MV.nle] at hF
  have W:=H u b M h hM hu (by simp only [MV.nles];exact ⟨hx,hF⟩)
  rw [zj0] at W
  have hT:=Tm.fold body
  have hcl:=zj1 body e
  rw [hcl]
  refine t_in Tryz.func106 ?_
  intro X hP hgl hf hfn hn hR hids hfit
  refine t_g0 ?_
  refine t_a ?_
  refine z09 (by rw [hP];exact z08) [14] fun K hK=>?_
  simp [go_sem,hP,hgl,hn,hT]
  refine z4h (cs:=[x.cl,MV.varsD e]) (y:=.ag [x.cl,MV.varsD e] []) (fun _ _=>z0l) (by simp [go_sem,hP,hgl,hn]) (by simp [go_sem]) (by simp [go_sem]) (by rw [hn];exact Nat.le_of_ble_eq_true rfl) (by rfl) ?_
  simp [go_sem,hP,hgl,hn,hT]
  refine t_c @hT (W) ?_
  refine t_e ?_
  clear hK K
  refine t_ro [(b,[dint ((u+k:Nat):Int)])] trivial ?_
  try simp
  try all_goals exact t_f
theorem z182 (d:Nat)(t:Tm)(e:List MV)(u b:Nat)(h2:t.kind=2)(x:Tm)(r:List Tm)(ha:t.args=x::r) :
  Con1 Tryz.prog gl 59 [ptr b,MV.varsD e,t.dv] [(b,[dint (u:Int)])] (MV.clo x e).cl [(b,[dint (u:Int)])]:=by
 have hcl:=zj1 x e
 have hcx:=Tm.cells_eq x
 rw [hcl]
 refine t_in Tryz.func59 ?_
 intro X hP hgl hf hfn hn hR hids hfit
 refine z00 ?_
 refine z00 ?_
 refine t_y @h2 ?_
 repeat (first|refine z0a ?_|refine z01 ?_|refine z0b ?_|refine z03 ?_|refine z02 ?_|refine z04 rfl ?_)
 refine z05 [24] fun K hK=>?_
 simp [go_sem,hP,hgl,hn,h2,ha,hcx]
 refine z4g (cs:=[dint 0,nilP,nilP,nilP,.ref [dint x.kind,dint x.index,dint x.type.kind,.sl (x.type.args.map Ty.cells),.sl (x.args.map Tm.cells)],MV.varsD e]) (y:=.ag [dint 0,nilP,nilP,nilP,.ref [dint x.kind,dint x.index,dint x.type.kind,.sl (x.type.args.map Ty.cells),.sl (x.args.map Tm.cells)],MV.varsD e] []) (by simp [go_sem,hP,hgl,hn]) (by simp [go_sem]) (by simp [go_sem]) (by rw [hn];exact Nat.le_of_ble_eq_true rfl) (by rfl) ?_
 simp [go_sem,hP,hgl,hn]
 refine t_e ?_
 clear hK K
 refine t_ro [(b,[dint (u:Int)])] trivial ?_
 try simp
 try all_goals exact t_f
theorem z183 (t:Tm)(e:List MV)(u b:Nat)(h1:t.kind=1)(hi0:0≤t.index)(hi:t.index.toNat<e.length) :
  Con1 Tryz.prog gl 59 [ptr b,MV.varsD e,t.dv] [(b,[dint (u:Int)])] (e.getD t.index.toNat .unit).cl [(b,[dint (u:Int)])]:=by
 obtain ⟨i,hii⟩:∃ i:Nat,t.index=(i:Int):=⟨t.index.toNat,by omega⟩
 rw [hii,Int.toNat_natCast] at hi ⊢
 refine t_in Tryz.func59 ?_
 intro X hP hgl hf hfn hn hR hids hfit
 have hi1:intOK .i64 i:=by
  have:=hfit t.dv (by simp)
  rw [Tm.dv_fit,Tm.fit_eq] at this
  have:=this.2.1
  rwa [hii] at this
 rw [z57] at hi1
 refine t_g (j2 @h1 @hii) ?_
 refine t_a ?_
 refine z0e [] trivial (z1k (fun k:Nat=>k≤i) (fun k:Nat=>[(.slot 0,.one (.v (ptr b))),(.slot 1,.one (.v (MV.varsD (e.drop k)))),(.slot 30,.one (.v (dint (k:Int)))),(.slot 29,.one (.v (dint (i:Int)))),(.slot 6,.one (.v nilP)),(.heap  b,.row ([.v (dint (u:Int))]))]) (fun k:Nat=>i - k) 0 (Nat.zero_le _) ?_)
 intro k hk ih
 obtain ⟨v,r,hr⟩:∃ v r,e.drop k=v::r:=by
  cases hq:e.drop k with
  | nil=>have:=List.drop_eq_nil_iff.1 hq;omega
  | cons v r=>exact ⟨v,r,rfl⟩
 have hE:MV.varsD (e.drop k) = .ref [v.cl,MV.varsD r]:=by rw [hr,zj0]
 by_cases hki:k=i
 ·subst hki
  have hv:e[k]?.getD MV.unit=v:=by
   have:=congrArg (fun l=>l.head?) hr
   simp only [List.head?_drop,List.head?_cons] at this
   simp [this]
  refine z00 ?_
  refine t_no ?_
  refine t_g @hE ?_
  refine t_ro [(b,[dint (u:Int)])] @hv ?_
  try simp [hv]
  try all_goals exact t_f
 ·have hd:e.drop (k+1)=r:=by rw [← List.drop_drop,hr,List.drop_one,List.tail_cons]
  have hlt:(k:Int)<(i:Int):=by omega
  refine z00 ?_
  refine z07 ?_
  refine t_rg @hE ?_
  refine z00 ?_
  refine t_b ?_
  refine z0e [] @hd (ih (k+1) (by omega) (by omega))
end
section
variable {gl:Globs}
def clL (l:List MV):List (List DV):=l.map fun v=>[v.cl]
theorem z184 (l:List MV):(clL l).length=l.length:=by simp [clL]
theorem z185 (l:List MV)(v:MV):clL (l++[v])=clL l++[[v.cl]]:=by simp [clL]
theorem z186 (l:List MV):∀ e ∈ clL l,e.length=1:=by
 intro e he
 simp only [clL,List.mem_map] at he
 obtain ⟨x,-,rfl⟩:=he
 rfl
def vsB (ev:EvB)(e:List MV)(l:List Tm):List MV:=((allB ev l e).map (·.1)).getD []
def kB (ev:EvB)(e:List MV)(l:List Tm):Nat:=((allB ev l e).map (·.2.2)).getD 0
theorem zj2 {ev:EvB}{e:List MV}{x:Tm}{rest:List Tm}:∀ {done:List Tm} {l:List MV} {c k:Nat},allB ev (done++x::rest) e=some (l,c,k)→∃ v c1 k1 l1 c0 k0,ev x e=some (v,c1,k1)∧allB ev done e=some (l1,c0,k0)∧allB ev (done++[x]) e=some (l1++[v],c0+c1,k0+k1)∧c0+c1≤c∧k0+k1≤k
 | [],l,c,k,h=>by
  simp only [List.nil_append,allB] at h
  split at h
  ·cases h
  rename_i v c1 k1 h1
  split at h
  ·cases h
  rename_i l2 c2 k2 h2
  cases h
  refine ⟨v,c1,k1,[],0,0,h1,rfl,?_,by omega,by omega⟩
  simp [allB,h1]
 | y::done,l,c,k,h=>by
  simp only [List.cons_append,allB] at h ⊢
  split at h
  ·cases h
  rename_i v0 c00 k00 h0
  split at h
  ·cases h
  rename_i l2 c2 k2 h2
  cases h
  obtain ⟨v,c1,k1,l1,c0,k0,e1,e2,e3,e4,e5⟩:=zj2 h2
  refine ⟨v,c1,k1,v0::l1,c00+c0,k00+k0,e1,?_,?_,by omega,by omega⟩
  ·simp only [h0,e2]
  ·simp only [h0,e3]
   simp [Nat.add_assoc]
theorem zj3 {ev:EvB}{e:List MV}:∀ {l:List Tm} {vs:List MV} {c k:Nat},allB ev l e=some (vs,c,k)→vs.length=l.length
 | [],vs,c,k,h=>by simp only [allB] at h;cases h;rfl
 | x::l,vs,c,k,h=>by
  simp only [allB] at h
  split at h
  ·cases h
  split at h
  ·cases h
  rename_i h2
  cases h
  simp only [List.length_cons,zj3 h2]
theorem z8w {d:Nat}{f x v:MV}{c k M:Nat}(h:callB (evB d) f x=some (v,c,k))(hf:f.nle M)(hx:x.nle M):v.nle (M+c):=by
 have h1:=z5r (z8t d) f x
 rw [h] at h1
 exact z5q (z76 0 d) h1.symm hf (by simp only [MV.nles];exact ⟨hx,trivial⟩)
theorem z187 {d:Nat}{l:List Tm}{e vs:List MV}{c k M:Nat}(h:allB (evB d) l e=some (vs,c,k))(he:MV.nles M e):MV.nles (M+c) vs:=by
 have h1:=zdj (z8t d) l e
 rw [h] at h1
 exact z2s (z76 0 d) h1.symm he
theorem z188 (ev:EvB)(f:MV)(k:Nat)(r:MV):recB ev f 0 k r=some (r,0,0):=rfl
theorem zj4 {ev:EvB}{f r:MV}{x:Nat}{l:List Nat}{v:MV}{c k:Nat}(h:foldB ev f r (x::l)=some (v,c,k)):∃ r' c0 k0 g c1 k1 h' c2 k2 c3 k3,foldB ev f r l=some (r',c0,k0)∧callB ev f (.num x)=some (g,c1,k1)∧callB ev g (.list l)=some (h',c2,k2)∧callB ev h' r' = some (v,c3,k3)∧c=c0+(c1+c2+c3)∧k=k0+1+k1+k2+k3:=by
 simp only [foldB] at h
 split at h
 ·cases h
 rename_i r' c0 k0 h0
 split at h
 ·cases h
 rename_i g c1 k1 h1
 split at h
 ·cases h
 rename_i h' c2 k2 h2
 split at h
 ·cases h
 rename_i w c3 k3 h3
 cases h
 exact ⟨r',c0,k0,g,c1,k1,h',c2,k2,c3,k3,h0,h1,h2,h3,rfl,rfl⟩
theorem zj5 {ev:EvB}{f r:MV}:∀ {l:List Nat} {v:MV} {c k:Nat},foldB ev f r l=some (v,c,k)→∀ j,∃ v' c' k',foldB ev f r (l.drop j)=some (v',c',k')∧c'≤c∧k'≤k
 | [],v,c,k,h,j=>⟨v,c,k,by simpa using h,Nat.le_refl _,Nat.le_refl _⟩
 | x::l,v,c,k,h,0=>⟨v,c,k,h,Nat.le_refl _,Nat.le_refl _⟩
 | x::l,v,c,k,h,j+1=>by
  obtain ⟨r',c0,k0,g,c1,k1,h',c2,k2,c3,k3,h0,-,-,-,rfl,rfl⟩:=zj4 h
  obtain ⟨v',c',k',e1,e2,e3⟩:=zj5 h0 j
  exact ⟨v',c',k',e1,by omega,by omega⟩
def tlsL (l:List Nat)(i:Nat):List (List DV):=(List.range i).map fun j=>[cellM (l.drop j)]
theorem z189 (l:List Nat):tlsL l 0=[]:=rfl
theorem zj6 (l:List Nat)(i:Nat):(tlsL l i).length=i:=by simp [tlsL]
theorem z18a (l:List Nat)(i:Nat):tlsL l (i+1)=tlsL l i++[[cellM (l.drop i)]]:=by simp [tlsL,List.range_succ]
theorem z18b (l:List Nat)(i:Nat):∀ e ∈ tlsL l i,e.length=1:=by
 intro e he
 simp only [tlsL,List.mem_map] at he
 obtain ⟨x,-,rfl⟩:=he
 rfl
theorem z18c (l:List Nat){i j:Nat}(h:j<i):(tlsL l i)[j]? = some [cellM (l.drop j)]:=by
 simp [tlsL,h]
set_option maxHeartbeats 8000000 in
set_option maxRecDepth 100000 in
theorem z18d {d:Nat}(H:WatchB Tryz.prog gl 59 (evB d))(t:Tm)(e l:List MV)(c1 k1:Nat)(w:MV)(c2 k2 u b M:Nat)(h1:¬ t.kind=1)(h2:¬ t.kind=2)(h3:t.args.length≤3)
  (hl:allB (evB d) t.args e=some (l,c1,k1)) (hnd:nodeB (evB d) t.kind l=some (w,c2,k2)) (hM:M+(1+c1+c2)≤1073741824) (hu:u+(k1+k2)≤1073741824) (he:MV.nles M e) :
  Con1 Tryz.prog gl 59 [ptr b,MV.varsD e,t.dv] [(b,[dint (u:Int)])] w.cl [(b,[dint ((u+(k1+k2):Nat):Int)])]:=by
 have hnl:=z187 hl he
 refine t_in Tryz.func59 ?_
 intro X hP hgl hf hfn hn hR hids hfit
 have hcl0:clL (vsB (evB d) e [])=[]:=rfl
 have hkb0:kB (evB d) e []=0:=rfl
 have hvl0:(vsB (evB d) e []).length=0:=rfl
 refine t_g (j2 @h1 @h2) ?_
 refine t_a ?_
 refine z0e [(1007,0)] (j2 @hcl0 (j2 @hkb0 @hvl0)) (z1z (t.args) (fun done rest=>[(.slot 44,.one (.v (dint done.length))),(.slot 43,.one (.v (dint t.args.length))),(.slot 42,.one (.v (.sl (t.args.map Tm.cells)))),(.slot 0,.one (.v (ptr b))),(.slot 1,.one (.v (MV.varsD e))),(.slot 5,.one (.loc 5 0)),(.loc 5,.row ([.v (dint t.kind),.v (dint t.index),.v (dint t.type.kind),.v (.sl (t.type.args.map Ty.cells)),.v (.sl (t.args.map Tm.cells))])),(.slot 6,.one (.v nilP)),(.slot 7,.one (.own 1007 (clL (vsB (evB d) e done)))),(.tok 1007,.tk 1 (vsB (evB d) e done).length),(.heap  b,.row ([.v (dint ((u+kB (evB d) e done:Nat):Int))]))]) ?_ ?_)
 ·intro done x rest hL hg0 hnext
  have hlt:done.length<t.args.length:=by rw [hL];simp
  rw [hL] at hl
  obtain ⟨v,c3,k3,l1,c0,k0,e1,e2,e3,e4,e5⟩:=zj2 hl
  have hv:vsB (evB d) e done=l1:=by unfold vsB;rw [e2];rfl
  have hk:kB (evB d) e done=k0:=by unfold kB;rw [e2];rfl
  have hv':vsB (evB d) e (done++[x])=l1++[v]:=by unfold vsB;rw [e3];rfl
  have hk':kB (evB d) e (done++[x])=k0+k3:=by unfold kB;rw [e3];rfl
  rw [hv',hk',z185] at hnext
  rw [hv,hk]
  have hlw:=z186 l1
  have hll:=z184 l1
  have hl1:l1.length≤3:=by
   have:=zj3 e2
   omega
  have hl2:l1.length≤2147483647:=by omega
  have hw:=H (u+k0) b M e1 (by omega) (by omega) he
  have hfx:=Tm.fold x
  have hs:u+k0+k3=u+(k0+k3):=by omega
  rw [hs] at hw
  generalize clL l1=L at *
  refine z00 ?_
  refine z07 ?_
  refine t_g @hg0 ?_
  refine t_c1 (j2 @hg0 (j2 @hfx (j2 @hlw (j2 @hll @hl2)))) hw ?_
  refine t_gt (wr [(1007,54)]) @hll (j2 @hlw (j2 @hll @hl2)) hnext
 ·have hv:vsB (evB d) e t.args=l:=by unfold vsB;rw [hl];rfl
  have hk:kB (evB d) e t.args=k1:=by unfold kB;rw [hl];rfl
  rw [hv,hk]
  refine z00 ?_
  refine t_no ?_
  unfold nodeB at hnd
  by_cases k3:t.kind=3
  ·rw [if_pos k3] at hnd
   split at hnd
   rotate_left
   ·cases hnd
   rename_i f x
   obtain ⟨⟨v,c9,t9⟩,q1,q2⟩:=Option.map_eq_some_iff.1 hnd
   cases q2
   simp only at hM hu
   simp only [MV.nles] at hnl
   have hw:=z79 H (u+k1+1) b (M+c1) q1 (by omega) (by omega) hnl.1 hnl.2.1
   have hs:u+k1+1+t9=u+(k1+(1+t9)):=by omega
   rw [hs] at hw
   have hcl2:clL [f,x]=[[f.cl],[x.cl]]:=rfl
   rw [hcl2]
   refine t_g @k3 ?_
   refine t_c1 @k3 hw ?_
   refine t_ro [(b,[dint ((u+(k1+(1+t9)):Nat):Int)])] trivial ?_
   try simp
   try all_goals exact t_f
  rw [if_neg k3] at hnd
  by_cases k4:t.kind=4
  ·rw [if_pos k4] at hnd
   cases hnd
   have hz0:u+(k1+0)=u+k1:=by omega
   rw [hz0] at hR
   rw [z5s] at hR
   have hkk:=k4
   clear hnl
   refine t_rg @k4 ?_
   refine t_rg @k4 ?_
   refine t_n @k4 ?_
   refine t_rg @k4 ?_
   refine t_n @k4 ?_
   refine t_rg @k4 ?_
   refine t_n @k4 ?_
   refine t_rg @k4 ?_
   refine t_n @k4 ?_
   refine t_rg @k4 ?_
   refine t_n @k4 ?_
   refine t_rg @k4 ?_
   refine t_n @k4 ?_
   refine t_rg @k4 ?_
   refine t_n @k4 ?_
   refine t_rg @k4 ?_
   refine t_n @k4 ?_
   repeat (first|refine z0a ?_|refine z01 ?_|refine z0b ?_|refine z03 ?_|refine z02 ?_|refine z04 rfl ?_)
   refine z05 [227] fun K hK=>?_
   simp [go_sem,hP,hgl,hn,k4]
   refine z4g (cs:=[dint 0,nilP,nilP,nilP,nilP,nilP]) (y:=.ag [dint 0,nilP,nilP,nilP,nilP,nilP] []) (by simp [go_sem,hP,hgl,hn]) (by simp [go_sem]) (by simp [go_sem]) (by rw [hn];exact Nat.le_of_ble_eq_true rfl) (by rfl) ?_
   simp [go_sem,hP,hgl,hn,k4]
   refine t_e ?_
   clear hK K
   refine t_ro [(b,[dint ((u+k1:Nat):Int)])] trivial ?_
   try simp
   try all_goals exact t_f
  rw [if_neg k4] at hnd
  by_cases k5:t.kind=5
  ·rw [if_pos k5] at hnd
   split at hnd
   rotate_left
   ·cases hnd
   rename_i n
   cases hnd
   have hz0:u+(k1+0)=u+k1:=by omega
   rw [hz0] at hR
   rw [z5s] at hR
   simp only [MV.nles,MV.nle] at hnl
   have hcl2:clL [MV.num n]=[[(MV.num n).cl]]:=rfl
   rw [hcl2,z5s]
   refine t_rg @k5 ?_
   refine t_rg @k5 ?_
   refine t_n @k5 ?_
   refine t_rg @k5 ?_
   refine t_y @k5 ?_
   have hn5:=hnl.1
   repeat (first|refine z0a ?_|refine z01 ?_|refine z0b ?_|refine z03 ?_|refine z02 ?_|refine z04 rfl ?_)
   refine z05 [85] fun K hK=>?_
   simp [go_sem,hP,hgl,hn,k5]
   repeat (refine ⟨by omega,?_⟩)
   refine z4g (cs:=[dint ((n:Int)+1),nilP,nilP,nilP,nilP,nilP]) (y:=.ag [dint ((n:Int)+1),nilP,nilP,nilP,nilP,nilP] []) (by simp [go_sem,hP,hgl,hn]) (by simp [go_sem]) (by simp [go_sem]) (by rw [hn];exact Nat.le_of_ble_eq_true rfl) (by rfl) ?_
   simp [go_sem,hP,hgl,hn,k5]
   refine t_e ?_
   clear hK K
   refine t_ro [(b,[dint ((u+k1:Nat):Int)])] trivial ?_
   try simp
   try all_goals exact t_f
  rw [if_neg k5] at hnd
  by_cases k6:t.kind=6
  ·rw [if_pos k6] at hnd
   split at hnd
   rotate_left
   ·cases hnd
   rename_i r0 f n
   have hcl2:clL [r0,f,MV.num n]=[[r0.cl],[f.cl],[(MV.num n).cl]]:=rfl
   rw [hcl2,z5s]
   simp only [MV.nles,MV.nle] at hnl
   refine t_g @k6 ?_
   refine t_a ?_
   refine z0e [(1007,1007)] trivial (z1k (fun x:Nat × MV × Nat × Nat=>x.1≤n∧x.2.1.nle (M+c1+x.2.2.2)∧∃ c3 t3,recB (evB d) f (n - x.1) x.1 x.2.1=some (w,c3,t3)∧x.2.2.2+c3=c2∧x.2.2.1+t3=u+(k1+k2)) (fun x:Nat × MV × Nat × Nat=>[(.slot 0,.one (.v (ptr b))),(.slot 6,.one (.v nilP)),(.slot 7,.one (.own 1007 [[r0.cl],[f.cl],[.ref [dint (n:Int),nilP,nilP,nilP,nilP,nilP]]])),(.tok 1007,.tk 1 3),(.slot 10,.one (.v x.2.1.cl)),(.slot 138,.one (.v (dint (n:Int)))),(.slot 139,.one (.v (dint (x.1:Int)))),(.heap  b,.row ([.v (dint ((x.2.2.1:Nat):Int))]))]) (fun x:Nat × MV × Nat × Nat=>n - x.1) (0,r0,u+k1,0) (⟨Nat.zero_le _,(by simpa using hnl.1),c2,k2,(by simpa using hnd),Nat.zero_add _,Nat.add_assoc _ _ _⟩) ?_)
   rintro ⟨i,q,v,m⟩ ⟨hi,hq,c3,t3,hr,hm,hv⟩ ih
   simp only at hi hq hr hm hv
   by_cases hin:i<n
   ·have e1:n - i=(n - (i+1))+1:=by omega
    rw [e1,recB] at hr
    split at hr
    ·cases hr
    rename_i g c4 t4 q1
    split at hr
    ·cases hr
    rename_i r5 c5 t5 q2
    split at hr
    ·cases hr
    rename_i w6 c6 t6 q3
    cases hr
    have g1:=z8w q1 (MV.nle_mono (by omega) _ hnl.2.1:f.nle (M+c1+m)) (by simp only [MV.nle];omega)
    have w1:=z79 H (v+1) b (M+c1+m) q1 (by omega) (by omega) (MV.nle_mono (by omega) _ hnl.2.1) (by simp only [MV.nle];omega)
    have g2:=z8w q2 g1 (MV.nle_mono (by omega) _ hq:q.nle (M+c1+m+c4))
    have w2:=z79 H (v+1+t4) b (M+c1+m+c4) q2 (by omega) (by omega) g1 (MV.nle_mono (by omega) _ hq)
    rw [z5s] at w1
    have hlt:(i:Int)<(n:Int):=by omega
    have hb1:v+1≤1073741824:=by omega
    refine z00 ?_
    refine z07 ?_
    refine z00 ?_
    refine z00 ?_
    refine t_a ?_
    refine z05 [156] fun K hK=>?_
    simp [go_sem,hP,hgl,hn]
    refine z4g (cs:=[dint (i:Int),nilP,nilP,nilP,nilP,nilP]) (y:=.ag [dint (i:Int),nilP,nilP,nilP,nilP,nilP] []) (by simp [go_sem,hP,hgl,hn]) (by simp [go_sem]) (by simp [go_sem]) (by rw [hn];exact Nat.le_of_ble_eq_true rfl) (by rfl) ?_
    simp [go_sem,hP,hgl,hn]
    refine t_c trivial (w1) ?_
    refine t_c trivial (w2) ?_
    refine t_e ?_
    clear hK K
    refine z00 ?_
    have d1:i+1≤n:=by omega
    have d2:n - (i+1)<n - i:=by omega
    have d3:m+(c4+c5)+c6=c2:=by omega
    have d4:v+1+t4+t5+t6=u+(k1+k2):=by omega
    have d5:M+c1+m+c4+c5≤M+c1+(m+(c4+c5)):=by omega
    refine t_b ?_
    refine z0e [(1007,1007)] trivial (ih (i+1,r5,v+1+t4+t5,m+(c4+c5)) ⟨d1,MV.nle_mono d5 _ g2,c6,t6,q3,d3,d4⟩ d2)
   ·have e0:n - i=0:=by omega
    rw [e0,z188] at hr
    cases hr
    have hlt:(n:Int)≤(i:Int):=by omega
    have hvv:v=u+(k1+k2):=by omega
    rw [← hvv] at hR
    refine z00 ?_
    refine t_no ?_
    refine t_g0 ?_
    refine t_ro [(b,[dint ((v:Nat):Int)])] trivial ?_
    try simp
    try all_goals exact t_f
  rw [if_neg k6] at hnd
  by_cases k7:t.kind=7
  ·rw [if_pos k7] at hnd
   cases hnd
   have hz0:u+(k1+0)=u+k1:=by omega
   rw [hz0] at hR
   rw [z8v] at hR
   have hc0:cellM []=nilP:=rfl
   rw [hc0] at hR
   have hkk:=k7
   clear hnl
   refine t_rg @k7 ?_
   refine t_rg @k7 ?_
   refine t_n @k7 ?_
   refine t_rg @k7 ?_
   refine t_n @k7 ?_
   refine t_rg @k7 ?_
   refine t_n @k7 ?_
   refine t_rg @k7 ?_
   refine t_n @k7 ?_
   refine t_rg @k7 ?_
   refine t_n @k7 ?_
   refine t_rg @k7 ?_
   refine t_n @k7 ?_
   refine t_rg @k7 ?_
   refine t_n @k7 ?_
   refine t_rg @k7 ?_
   refine t_n @k7 ?_
   repeat (first|refine z0a ?_|refine z01 ?_|refine z0b ?_|refine z03 ?_|refine z02 ?_|refine z04 rfl ?_)
   refine z05 [227] fun K hK=>?_
   simp [go_sem,hP,hgl,hn,k7]
   refine z4g (cs:=[dint 0,nilP,nilP,nilP,nilP,nilP]) (y:=.ag [dint 0,nilP,nilP,nilP,nilP,nilP] []) (by simp [go_sem,hP,hgl,hn]) (by simp [go_sem]) (by simp [go_sem]) (by rw [hn];exact Nat.le_of_ble_eq_true rfl) (by rfl) ?_
   simp [go_sem,hP,hgl,hn,k7]
   refine t_e ?_
   clear hK K
   refine t_ro [(b,[dint ((u+k1:Nat):Int)])] trivial ?_
   try simp
   try all_goals exact t_f
  rw [if_neg k7] at hnd
  by_cases k8:t.kind=8
  ·rw [if_pos k8] at hnd
   split at hnd
   rotate_left
   ·cases hnd
   rename_i n m
   cases hnd
   have hz0:u+(k1+0)=u+k1:=by omega
   rw [hz0] at hR
   rw [z8v] at hR
   have hcm:cellM (n::m) = .ref [dint (n:Int),cellM m]:=rfl
   rw [hcm] at hR
   have hcl2:clL [MV.num n,MV.list m]=[[(MV.num n).cl],[(MV.list m).cl]]:=rfl
   rw [hcl2,z5s,z8v]
   refine t_rg @k8 ?_
   refine t_rg @k8 ?_
   refine t_n @k8 ?_
   refine t_rg @k8 ?_
   refine t_n @k8 ?_
   refine t_rg @k8 ?_
   refine t_y @k8 ?_
   refine t_a ?_
   refine z09 (by rw [hP];exact z08) [101,103] fun K hK=>?_
   simp [go_sem,hP,hgl,hn]
   refine z4h (cs:=[dint (n:Int),cellM m]) (y:=.ag [dint (n:Int),cellM m] []) (fun _ _=>z0l) (by simp [go_sem,hP,hgl,hn]) (by simp [go_sem]) (by simp [go_sem]) (by rw [hn];exact Nat.le_of_ble_eq_true rfl) (by rfl) ?_
   simp [go_sem,hP,hgl,hn]
   refine z4h (cs:=[dint 0,.ref [dint (n:Int),cellM m],nilP,nilP,nilP,nilP]) (y:=.ag [dint 0,.ref [dint (n:Int),cellM m],nilP,nilP,nilP,nilP] []) (fun _ _=>z0l) (by simp [go_sem,hP,hgl,hn]) (by simp [go_sem]) (by simp [go_sem]) (by rw [hn];exact Nat.le_of_ble_eq_true rfl) (by rfl) ?_
   simp [go_sem,hP,hgl,hn]
   refine t_e ?_
   clear hK K
   refine t_ro [(b,[dint ((u+k1:Nat):Int)])] trivial ?_
   try simp
   try all_goals exact t_f
  rw [if_neg k8] at hnd
  by_cases k9:t.kind=9
  ·rw [if_pos k9] at hnd
   split at hnd
   rotate_left
   ·cases hnd
   rename_i r0 f m
   have hcl2:clL [r0,f,MV.list m]=[[r0.cl],[f.cl],[(MV.list m).cl]]:=rfl
   rw [hcl2,z8v]
   simp only [MV.nles,MV.nle] at hnl
   have hml:m.length≤1073741824:=by omega
   have hdz:m.drop 0=m:=rfl
   have htz:=z189 m
   refine t_g @k9 ?_
   refine t_a ?_
   refine z0e [(1007,1007),(1012,0)] @htz (z1k (fun i:Nat=>i≤m.length) (fun i:Nat=>[(.slot 0,.one (.v (ptr b))),(.slot 6,.one (.v nilP)),(.slot 7,.one (.own 1007 [[r0.cl],[f.cl],[.ref [dint 0,cellM m,nilP,nilP,nilP,nilP]]])),(.tok 1007,.tk 1 3),(.slot 12,.one (.own 1012 (tlsL m i))),(.tok 1012,.tk 1 i),(.slot 13,.one (.v (cellM (m.drop i)))),(.heap  b,.row ([.v (dint ((u+k1:Nat):Int))]))]) (fun i:Nat=>m.length - i) 0 (Nat.zero_le _) ?_)
   rintro i hi ih
   by_cases hil:i<m.length
   ·have hd:m.drop i=m[i]::m.drop (i+1):=List.drop_eq_getElem_cons hil
    generalize m[i]=y at hd
    have hE:cellM (m.drop i) = .ref [dint (y:Int),cellM (m.drop (i+1))]:=by rw [hd];rfl
    have hsn:=z18a m i
    rw [hE] at hsn
    have hll:=zj6 m i
    have hlw:=z18b m i
    have hi1:i≤2147483647:=by omega
    have hi2:i+1≤2147483647:=by omega
    have hnext:=ih (i+1) (by omega) (by omega)
    rw [hsn] at hnext
    rw [hE]
    generalize tlsL m i=L at *
    clear hsn
    refine z00 ?_
    refine z07 ?_
    refine t_rg (j2 @hll (j2 @hlw (j2 @hi1 @hi2))) ?_
    refine z00 ?_
    refine t_b ?_
    refine z0e [(1007,1007),(1012,179)] @hll hnext
   ·have him:i=m.length:=by omega
    subst him
    have hd:m.drop m.length=[]:=List.drop_length
    have hc0:cellM []=nilP:=rfl
    rw [hd,hc0]
    clear ih
    refine z00 ?_
    refine t_no ?_
    have hll:=zj6 m m.length
    refine t_g @hll ?_
    have hq0:((m.length:Nat):Int) - 1=((m.length:Nat):Int) - 1:=rfl
    refine t_a ?_
    refine z0e [(1007,1007),(1012,1012)] @hll (z1k (fun x:Nat × MV × Nat × Nat=>x.1≤m.length∧x.2.1.nle (M+c1+x.2.2.2)∧foldB (evB d) f r0 (m.drop x.1)=some (x.2.1,x.2.2.2,x.2.2.1)) (fun x:Nat × MV × Nat × Nat=>[(.slot 0,.one (.v (ptr b))),(.slot 6,.one (.v nilP)),(.slot 7,.one (.own 1007 [[r0.cl],[f.cl],[.ref [dint 0,cellM m,nilP,nilP,nilP,nilP]]])),(.tok 1007,.tk 1 3),(.slot 12,.one (.own 1012 (tlsL m m.length))),(.tok 1012,.tk 1 m.length),(.slot 14,.one (.v x.2.1.cl)),(.slot 15,.one (.v (dint ((x.1:Int) - 1)))),(.heap  b,.row ([.v (dint ((u+k1+x.2.2.1:Nat):Int))]))]) (fun x:Nat × MV × Nat × Nat=>x.1) (m.length,r0,0,0) (⟨Nat.le_refl _,(by simpa using hnl.1),(by rw [hd];rfl)⟩) ?_)
    rintro ⟨j,q,tk,wk⟩ ⟨hj,hq,hf9⟩ ih
    simp only at hj hq hf9
    cases j with
    | zero=>
     rw [hdz,hnd] at hf9
     cases hf9
     have hs:u+(k1+k2)=u+k1+k2:=by omega
     rw [hs] at hR
     refine z00 ?_
     refine t_no ?_
     refine t_g0 ?_
     refine t_ro [(b,[dint ((u+k1+k2:Nat):Int)])] trivial ?_
     try simp
     try all_goals exact t_f
    | succ i=>
     have hil:i<m.length:=by omega
     have hd2:m.drop i=m[i]::m.drop (i+1):=List.drop_eq_getElem_cons hil
     have hym:m[i]≤M+c1:=hnl.2.2.1.2 _ (List.getElem_mem hil)
     generalize m[i]=y at hd2 hym
     have hE:cellM (m.drop i) = .ref [dint (y:Int),cellM (m.drop (i+1))]:=by rw [hd2];rfl
     obtain ⟨v',c',k',e1,e2,e3⟩:=zj5 hnd i
     rw [hd2] at e1
     obtain ⟨r',c0,t0,g,c4,t4,h',c5,t5,c6,t6,q0,q1,q2,q3,rfl,rfl⟩:=zj4 e1
     rw [hf9] at q0
     cases q0
     have b1:MV.nle (M+c1+wk) (MV.num y):=by simp only [MV.nle];omega
     have b2:f.nle (M+c1+wk):=MV.nle_mono (by omega) _ hnl.2.1
     have g1:=z8w q1 b2 b1
     have w1:=z79 H (u+k1+tk+1) b (M+c1+wk) q1 (by omega) (by omega) b2 b1
     have b3:MV.nle (M+c1+wk+c4) (MV.list (m.drop (i+1))):=by
      simp only [MV.nle]
      refine ⟨?_,fun n hn=>?_⟩
      ·rw [List.length_drop];have:=hnl.2.2.1.1;omega
      ·have:=hnl.2.2.1.2 n (List.mem_of_mem_drop hn);omega
     have g2:=z8w q2 g1 b3
     have w2:=z79 H (u+k1+tk+1+t4) b (M+c1+wk+c4) q2 (by omega) (by omega) g1 b3
     have b4:q.nle (M+c1+wk+c4+c5):=MV.nle_mono (by omega) _ hq
     have g3:=z8w q3 g2 b4
     have w3:=z79 H (u+k1+tk+1+t4+t5) b (M+c1+wk+c4+c5) q3 (by omega) (by omega) g2 b4
     rw [z5s] at w1
     rw [z8v] at w2
     have hji:((i+1:Nat):Int) - 1=(i:Int):=by omega
     rw [hji]
     have hgi:=z18c m hil
     rw [hE] at hgi
     have hb9:u+k1+tk+1≤1073741824:=by omega
     have hi9:(i:Int)≤1073741824:=by omega
     have hs9:u+k1+tk+1+t4+t5+t6=u+k1+(tk+1+t4+t5+t6):=by omega
     rw [hs9] at w3
     have d7:M+c1+wk+c4+c5+c6≤M+c1+(wk+(c4+c5+c6)):=by omega
     have hnext:=ih (i,v',tk+1+t4+t5+t6,wk+(c4+c5+c6)) ⟨by omega,MV.nle_mono d7 _ g3,by rw [hd2];exact e1⟩ (by simp only;omega)
     have hY1:=zim (m.drop (i+1))
     have hY2:=zin (m.drop (i+1))
     generalize cellM (m.drop (i+1))=Y9 at *
     generalize tlsL m m.length=L at *
     refine z00 ?_
     refine z07 ?_
     refine z00 ?_
     refine t_a ?_
     refine z09 (by rw [hP];exact z08) [211,221] fun K hK=>?_
     simp [go_sem,hP,hgl,hn,hgi,hY1,hY2]
     refine z4h (cs:=[dint (y:Int),nilP,nilP,nilP,nilP,nilP]) (y:=.ag [dint (y:Int),nilP,nilP,nilP,nilP,nilP] []) (fun _ _=>z0l) (by simp [go_sem,hP,hgl,hn,hgi,hY1,hY2]) (by simp [go_sem,hY1,hY2]) (by simp [go_sem,hY1,hY2]) (by rw [hn];exact Nat.le_of_ble_eq_true rfl) (by rfl) ?_
     simp [go_sem,hP,hgl,hn,hgi,hY1,hY2]
     refine t_c (j2 @hgi (j2 @hY1 @hY2)) (w1) ?_
     refine z4h (cs:=[dint 0,Y9,nilP,nilP,nilP,nilP]) (y:=.ag [dint 0,Y9,nilP,nilP,nilP,nilP] []) (fun _ _=>z0l) (by simp [go_sem,hP,hgl,hn,hgi,hY1,hY2]) (by simp [go_sem,hY1,hY2]) (by simp [go_sem,hY1,hY2]) (by rw [hn];exact Nat.le_of_ble_eq_true rfl) (by rfl) ?_
     simp [go_sem,hP,hgl,hn,hgi,hY1,hY2]
     refine t_c (j2 @hgi (j2 @hY1 @hY2)) (w2) ?_
     refine t_c (j2 @hgi (j2 @hY1 @hY2)) (w3) ?_
     refine t_e ?_
     clear hK K
     refine z00 ?_
     refine t_b ?_
     refine z0e [(1007,1007),(1012,1012)] trivial hnext
  rw [if_neg k9] at hnd
  by_cases k10:t.kind=10
  ·rw [if_pos k10] at hnd
   split at hnd
   rotate_left
   ·cases hnd
   rename_i x y
   cases hnd
   have hz0:u+(k1+0)=u+k1:=by omega
   rw [hz0] at hR
   rw [zdl] at hR
   have hcl2:clL [x,y]=[[x.cl],[y.cl]]:=rfl
   rw [hcl2]
   refine t_rg @k10 ?_
   refine t_rg @k10 ?_
   refine t_n @k10 ?_
   refine t_rg @k10 ?_
   refine t_n @k10 ?_
   refine t_rg @k10 ?_
   refine t_n @k10 ?_
   refine t_rg @k10 ?_
   refine t_y @k10 ?_
   refine t_a ?_
   refine z09 (by rw [hP];exact z08) [114] fun K hK=>?_
   simp [go_sem,hP,hgl,hn]
   refine z4h (cs:=[dint 0,nilP,x.cl,y.cl,nilP,nilP]) (y:=.ag [dint 0,nilP,x.cl,y.cl,nilP,nilP] []) (fun _ _=>z0l) (by simp [go_sem,hP,hgl,hn]) (by simp [go_sem]) (by simp [go_sem]) (by rw [hn];exact Nat.le_of_ble_eq_true rfl) (by rfl) ?_
   simp [go_sem,hP,hgl,hn]
   refine t_e ?_
   clear hK K
   refine t_ro [(b,[dint ((u+k1:Nat):Int)])] trivial ?_
   try simp
   try all_goals exact t_f
  rw [if_neg k10] at hnd
  by_cases k11:t.kind=11
  ·rw [if_pos k11] at hnd
   split at hnd
   rotate_left
   ·cases hnd
   rename_i x y
   cases hnd
   have hz0:u+(k1+0)=u+k1:=by omega
   rw [hz0] at hR
   have hcl2:clL [MV.both w y]=[[(MV.both w y).cl]]:=rfl
   rw [hcl2,zdl]
   refine t_g @k11 ?_
   refine t_ro [(b,[dint ((u+k1:Nat):Int)])] trivial ?_
   try simp
   try all_goals exact t_f
  rw [if_neg k11] at hnd
  by_cases k12:t.kind=12
  ·rw [if_pos k12] at hnd
   split at hnd
   rotate_left
   ·cases hnd
   rename_i x y
   cases hnd
   have hz0:u+(k1+0)=u+k1:=by omega
   rw [hz0] at hR
   have hcl2:clL [MV.both x w]=[[(MV.both x w).cl]]:=rfl
   rw [hcl2,zdl]
   refine t_g @k12 ?_
   refine t_ro [(b,[dint ((u+k1:Nat):Int)])] trivial ?_
   try simp
   try all_goals exact t_f
  rw [if_neg k12] at hnd
  by_cases k13:t.kind=13
  ·rw [if_pos k13] at hnd
   cases hnd
   have hz0:u+(k1+0)=u+k1:=by omega
   rw [hz0] at hR
   rw [z181] at hR
   have hkk:=k13
   clear hnl
   refine t_rg @k13 ?_
   refine t_rg @k13 ?_
   refine t_n @k13 ?_
   refine t_rg @k13 ?_
   refine t_n @k13 ?_
   refine t_rg @k13 ?_
   refine t_n @k13 ?_
   refine t_rg @k13 ?_
   refine t_n @k13 ?_
   refine t_rg @k13 ?_
   refine t_n @k13 ?_
   refine t_rg @k13 ?_
   refine t_n @k13 ?_
   refine t_rg @k13 ?_
   refine t_n @k13 ?_
   refine t_rg @k13 ?_
   refine t_n @k13 ?_
   repeat (first|refine z0a ?_|refine z01 ?_|refine z0b ?_|refine z03 ?_|refine z02 ?_|refine z04 rfl ?_)
   refine z05 [227] fun K hK=>?_
   simp [go_sem,hP,hgl,hn,k13]
   refine z4g (cs:=[dint 0,nilP,nilP,nilP,nilP,nilP]) (y:=.ag [dint 0,nilP,nilP,nilP,nilP,nilP] []) (by simp [go_sem,hP,hgl,hn]) (by simp [go_sem]) (by simp [go_sem]) (by rw [hn];exact Nat.le_of_ble_eq_true rfl) (by rfl) ?_
   simp [go_sem,hP,hgl,hn,k13]
   refine t_e ?_
   clear hK K
   refine t_ro [(b,[dint ((u+k1:Nat):Int)])] trivial ?_
   try simp
   try all_goals exact t_f
  rw [if_neg k13] at hnd
  cases hnd
end
section
def Tl:(a:T)→MV→a.V→Prop
 | .nat,v,n=>v = .num n
 | .list,v,l=>v = .list l
 | .unit,v,_=>v = .unit
 | .pair a b,v,p=>∃ x y,v = .both x y∧Tl a x p.1∧Tl b y p.2
 | .fn a b,v,f=>∃ body e,v = .clo body e∧∀ (x:MV) (y:a.V),Tl a x y→∃ (r:MV) (c d0:Nat),(∀ d,d0≤d→evS d body (x::e)=some (r,c))∧Tl b r (f y)
def TlE:(Γ:List T)→List MV→Env Γ→Prop
 | [],e,_=>e=[]
 | a::Γ,e,ρ=>∃ x r,e=x::r∧Tl a x ρ.1∧TlE Γ r ρ.2
theorem TlE.get {Γ:List T}{i:Nat}{a:T}{p:Env Γ→a.V}(h:At Γ i a p):∀ {e:List MV} {ρ:Env Γ},TlE Γ e ρ→i<e.length∧Tl a (e.getD i .unit) (p ρ):=by
 induction h with
 | zero=>rintro e ρ ⟨x,r,rfl,h1,h2⟩;exact ⟨by simp,h1⟩
 | succ h ih=>
  rintro e ρ ⟨x,r,rfl,h1,h2⟩
  obtain ⟨k1,k2⟩:=ih h2
  exact ⟨by simpa using k1,by simpa using k2⟩
end
section
variable {gl:Globs}
def at3 (l:List MV)(i:Nat):DV:=match l[i]? with
 | some v=>v.thing
 | none=>nilI
theorem z18e (l:List MV)(i:Nat):(at3 l i).isCell=true:=by unfold at3;split;exact zb7 _;rfl
theorem z18f (l:List MV)(i:Nat):cellsD (at3 l i)=[at3 l i]:=by unfold at3;split;exact zb8 _;rfl
attribute [go_sem] z18e z18f
def arr3 (l:List MV):List DV:=[at3 l 0,at3 l 1,at3 l 2]
def preC (ev:Evl)(most:Nat)(e:List MV):Nat→List Tm→List MV
 | _,[]=>[]
 | u,t::r=>match ev t e with
  | none=>[]
  | some (v,c)=>if u+c≤most then v::preC ev most e (u+c) r else []
def outA (most n:Nat)(l:List MV):DV:=.tup [.agg (arr3 l),dbool (decide (n≤most))]
theorem z3d {ev:Evl}{most:Nat}{e:List MV}:∀ {l:List Tm} {u:Nat} {vs:List MV} {c:Nat},allC ev l e=some (vs,c)→u+c≤most→preC ev most e u l=vs
 | [],u,vs,c,h,k=>by simp only [allC,Option.some.injEq,Prod.mk.injEq] at h;rw [preC,h.1]
 | t::r,u,vs,c,h,k=>by
  simp only [allC] at h
  split at h
  ·cases h
  ·rename_i v c1 hv
   split at h
   ·cases h
   ·rename_i l c2 hl
    simp only [Option.some.injEq,Prod.mk.injEq] at h
    obtain ⟨rfl,rfl⟩:=h
    rw [preC,hv]
    simp only
    rw [if_pos (show u+c1≤most by omega),z3d hl (show u+c1+c2≤most by omega)]
theorem z3e {most:Nat}(hm:most≤1073741824){ev:Evl}(H:WalkM Tryz.prog gl 139 most ev)(hN:NleM most ev){l:List Tm}{e vs:List MV}{u c:Nat}(b M:Nat)
  (h:allC ev l e=some (vs,c)) (h3:l.length≤3) (hu:u≤most) (hM:M+(most - u)≤1073741824) (he:MV.nles M e) :
  Con1 Tryz.prog gl 163 [ptr b,.sl (l.map Tm.cells),MV.envM e] [(b,useM most u)] (outA most (u+c) (preC ev most e u l)) [(b,useM most (u+c))]:=by
 refine t_in Tryz.func163 ?_
 intro X hP hgl hf hfn hn hR hids hfit
 have hu0:useM most u=[dint (u:Int),dint (most:Int)]:=by unfold useM;rw [if_pos hu]
 rw [hu0]
 have z0:at3 [] 0=nilI:=rfl
 have z1:at3 [] 1=nilI:=rfl
 have z2:at3 [] 2=nilI:=rfl
 refine t_g0 ?_
 refine t_a ?_
 refine z0e [] (j2 @z0 (j2 @z1 @z2)) (z1k (fun x:List MV × Nat × Nat=>x.2.1≤l.length∧x.2.2≤most∧u≤x.2.2∧x.1.length=x.2.1∧MV.nles (M+(x.2.2 - u)) e∧∃ c' vs',allC ev (l.drop x.2.1) e=some (vs',c')∧x.2.2+c' = u+c∧x.1++preC ev most e x.2.2 (l.drop x.2.1)=preC ev most e u l) (fun x:List MV × Nat × Nat=>[(.slot 15,.one (.v (dint (x.2.1:Int)))),(.slot 14,.one (.v (dint (l.length:Int)))),(.slot 13,.one (.v (.sl (l.map Tm.cells)))),(.slot 0,.one (.v (ptr b))),(.slot 2,.one (.v (MV.envM e))),(.slot 7,.one (.v (dbool false))),(.slot 6,.one (.loc 6 0)),(.slot 8,.one (.loc 8 0)),(.loc 6,.row ([.v nilI,.v nilI,.v nilI])),(.loc 8,.row ([.v (at3 x.1 0),.v (at3 x.1 1),.v (at3 x.1 2)])),(.heap  b,.row ([.v (dint (x.2.2:Int)),.v (dint (most:Int))]))]) (fun x:List MV × Nat × Nat=>l.length - x.2.1) (([]:List MV),0,u) (⟨Nat.zero_le _,hu,Nat.le_refl u,rfl,by simpa using he,c,vs,by simpa using h,rfl,by simp⟩) ?_)
 rintro ⟨p,i,u'⟩ ⟨hi,hu',huu,hpl,hg,c',vs',hc,hcc,hpre⟩ ih
 simp only at hi hu' huu hpl hg hc hcc hpre
 by_cases hil:i<l.length
 ·obtain ⟨t,ht⟩:∃ t,l[i]? = some t:=⟨l[i],List.getElem?_eq_getElem hil⟩
  have hd:l.drop i=t::l.drop (i+1):=by
   rw [List.drop_eq_getElem_cons hil]
   rw [List.getElem?_eq_getElem hil,Option.some.injEq] at ht
   rw [ht]
  rw [hd] at hc
  rw [hd] at hpre
  simp only [allC] at hc
  split at hc
  ·cases hc
  rename_i v1 c1 hv1
  rw [preC,hv1] at hpre
  simp only at hpre
  split at hc
  ·cases hc
  rename_i vs1 c2 hw
  simp only [Option.some.injEq,Prod.mk.injEq] at hc
  obtain ⟨rfl,rfl⟩:=hc
  have hgz:MV.nles (M+(u' - u)) e:=hg
  have W1:=H b (M+(u' - u)) hv1 hu' (by omega) hg
  have hT:=Tm.fold t
  have hu1:useM most u' = [dint (u':Int),dint (most:Int)]:=by unfold useM;rw [if_pos hu']
  rw [hu1] at W1
  have hgi:(l.map Tm.cells)[i]? = some [dint t.kind,dint t.index,dint t.type.kind,.sl (t.type.args.map Ty.cells),.sl (t.args.map Tm.cells)]:=by rw [List.getElem?_map,ht];simp [Tm.cells_eq]
  have hne:l ≠ []:=by rintro rfl;simp at hil
  rcases (show i=0∨i=1∨i=2 by omega) with rfl|rfl|rfl
  ·refine z00 ?_
   refine t_y (j2 @hne @hil) ?_
   refine t_rg (j2 @hgi @hT) ?_
   by_cases hfit1:u'+c1≤most
   ·have o1:outM most (u'+c1) v1.thing = .tup [v1.thing,dbool true]:=by unfold outM;rw [if_pos hfit1]
    have o2:useM most (u'+c1)=[dint ((u'+c1:Nat):Int),dint (most:Int)]:=by unfold useM;rw [if_pos hfit1]
    rw [o1,o2] at W1
    refine t_c1 @hT W1 ?_
    refine z00 ?_
    refine t_no ?_
    refine z00 ?_
    refine z00 ?_
    have a4:u'+c1+c2=u+c:=by omega
    have a6:(p++[v1]).length=0+1:=by simp [hpl]
    have a7:at3 (p++[v1]) 0=v1.thing:=by simp [at3,hpl]
    have a8:p++[v1]++preC ev most e (u'+c1) (l.drop (0+1))=preC ev most e u l:=by rw [List.append_assoc];rw [← hpre,if_pos hfit1];rfl
    have b1:at3 (p++[v1]) 1=at3 p 1:=by simp [at3,hpl,List.getElem?_append]
    have b2:at3 (p++[v1]) 2=at3 p 2:=by simp [at3,hpl,List.getElem?_append]
    have d1:0+1≤l.length:=by omega
    have d2:u≤u'+c1:=by omega
    have d3:M+(u' - u)≤M+(u'+c1 - u):=by omega
    have d5:l.length - (0+1)<l.length - 0:=by omega
    refine t_b ?_
    refine z0e [] (j2 @a7 (j2 @b1 @b2)) (ih (p++[v1],0+1,u'+c1) ⟨d1,hfit1,d2,a6,MV.nles_mono d3 _ hgz,c2,vs1,hw,a4,a8⟩ d5)
   ·have o1:outM most (u'+c1) v1.thing = .tup [nilI,dbool false]:=by unfold outM;rw [if_neg hfit1]
    have o2:useM most (u'+c1)=[dint (most:Int),dint (most:Int)]:=by unfold useM;rw [if_neg hfit1]
    have hbig:¬ u+c≤most:=by omega
    have o4:useM most (u+c)=[dint (most:Int),dint (most:Int)]:=by unfold useM;rw [if_neg hbig]
    have o5:preC ev most e u l=p:=by rw [← hpre,if_neg hfit1];simp
    have o6:decide (u+c≤most)=false:=decide_eq_false hbig
    unfold outA at hR
    rw [o4,o5,o6] at hR
    rw [o1,o2] at W1
    refine t_c1 @hT W1 ?_
    refine z00 ?_
    refine z07 ?_
    refine z00 ?_
    repeat (first|refine z0a ?_|refine z01 ?_|refine z0b ?_|refine z03 ?_|refine z02 ?_|refine z04 rfl ?_)
    first|refine z0k hP hf hfn _ ([(b,[dint (most:Int),dint (most:Int)])]) (by first|(simp [go_sem,hP,hgl,hn,arr3];done)|(simp [go_sem,hP,hgl,hn,arr3];rfl)) (by simp [go_sem,hP,hgl,hn,arr3]) (by simp) ?_ hR.2|refine z0m hP hf hfn _ ([(b,[dint (most:Int),dint (most:Int)])]) (by first|(simp [go_sem,hP,hgl,hn,arr3];done)|(simp [go_sem,hP,hgl,hn,arr3];rfl)) (by simp [go_sem,hP,hgl,hn,arr3]) (by simp) ?_ hR.2
    rw [hR.1]
    refine ⟨?_,by simp [arr3]⟩
    try simp [arr3]
    try all_goals (simp [Ty.dv,Ty.cells_eq,Ty.kind_mk,Ty.args_mk,Tm.dv,Tm.cells_eq,Tm.kind_mk,Tm.index_mk,Tm.type_mk,Tm.args_mk,Val.dv,Val.cells_eq,Val.kind_mk,Val.num_mk,Val.list_mk,Val.args_mk,ints])
  ·refine z00 ?_
   refine t_y (j2 @hne @hil) ?_
   refine t_rg (j2 @hgi @hT) ?_
   by_cases hfit1:u'+c1≤most
   ·have o1:outM most (u'+c1) v1.thing = .tup [v1.thing,dbool true]:=by unfold outM;rw [if_pos hfit1]
    have o2:useM most (u'+c1)=[dint ((u'+c1:Nat):Int),dint (most:Int)]:=by unfold useM;rw [if_pos hfit1]
    rw [o1,o2] at W1
    refine t_c1 @hT W1 ?_
    refine z00 ?_
    refine t_no ?_
    refine z00 ?_
    refine z00 ?_
    have a4:u'+c1+c2=u+c:=by omega
    have a6:(p++[v1]).length=1+1:=by simp [hpl]
    have a7:at3 (p++[v1]) 1=v1.thing:=by simp [at3,hpl]
    have a8:p++[v1]++preC ev most e (u'+c1) (l.drop (1+1))=preC ev most e u l:=by rw [List.append_assoc];rw [← hpre,if_pos hfit1];rfl
    have b0:at3 (p++[v1]) 0=at3 p 0:=by simp [at3,hpl,List.getElem?_append]
    have b2:at3 (p++[v1]) 2=at3 p 2:=by simp [at3,hpl,List.getElem?_append]
    have d1:1+1≤l.length:=by omega
    have d2:u≤u'+c1:=by omega
    have d3:M+(u' - u)≤M+(u'+c1 - u):=by omega
    have d5:l.length - (1+1)<l.length - 1:=by omega
    refine t_b ?_
    refine z0e [] (j2 @a7 (j2 @b0 @b2)) (ih (p++[v1],1+1,u'+c1) ⟨d1,hfit1,d2,a6,MV.nles_mono d3 _ hgz,c2,vs1,hw,a4,a8⟩ d5)
   ·have o1:outM most (u'+c1) v1.thing = .tup [nilI,dbool false]:=by unfold outM;rw [if_neg hfit1]
    have o2:useM most (u'+c1)=[dint (most:Int),dint (most:Int)]:=by unfold useM;rw [if_neg hfit1]
    have hbig:¬ u+c≤most:=by omega
    have o4:useM most (u+c)=[dint (most:Int),dint (most:Int)]:=by unfold useM;rw [if_neg hbig]
    have o5:preC ev most e u l=p:=by rw [← hpre,if_neg hfit1];simp
    have o6:decide (u+c≤most)=false:=decide_eq_false hbig
    unfold outA at hR
    rw [o4,o5,o6] at hR
    rw [o1,o2] at W1
    refine t_c1 @hT W1 ?_
    refine z00 ?_
    refine z07 ?_
    refine z00 ?_
    repeat (first|refine z0a ?_|refine z01 ?_|refine z0b ?_|refine z03 ?_|refine z02 ?_|refine z04 rfl ?_)
    first|refine z0k hP hf hfn _ ([(b,[dint (most:Int),dint (most:Int)])]) (by first|(simp [go_sem,hP,hgl,hn,arr3];done)|(simp [go_sem,hP,hgl,hn,arr3];rfl)) (by simp [go_sem,hP,hgl,hn,arr3]) (by simp) ?_ hR.2|refine z0m hP hf hfn _ ([(b,[dint (most:Int),dint (most:Int)])]) (by first|(simp [go_sem,hP,hgl,hn,arr3];done)|(simp [go_sem,hP,hgl,hn,arr3];rfl)) (by simp [go_sem,hP,hgl,hn,arr3]) (by simp) ?_ hR.2
    rw [hR.1]
    refine ⟨?_,by simp [arr3]⟩
    try simp [arr3]
    try all_goals (simp [Ty.dv,Ty.cells_eq,Ty.kind_mk,Ty.args_mk,Tm.dv,Tm.cells_eq,Tm.kind_mk,Tm.index_mk,Tm.type_mk,Tm.args_mk,Val.dv,Val.cells_eq,Val.kind_mk,Val.num_mk,Val.list_mk,Val.args_mk,ints])
  ·refine z00 ?_
   refine t_y (j2 @hne @hil) ?_
   refine t_rg (j2 @hgi @hT) ?_
   by_cases hfit1:u'+c1≤most
   ·have o1:outM most (u'+c1) v1.thing = .tup [v1.thing,dbool true]:=by unfold outM;rw [if_pos hfit1]
    have o2:useM most (u'+c1)=[dint ((u'+c1:Nat):Int),dint (most:Int)]:=by unfold useM;rw [if_pos hfit1]
    rw [o1,o2] at W1
    refine t_c1 @hT W1 ?_
    refine z00 ?_
    refine t_no ?_
    refine z00 ?_
    refine z00 ?_
    have a4:u'+c1+c2=u+c:=by omega
    have a6:(p++[v1]).length=2+1:=by simp [hpl]
    have a7:at3 (p++[v1]) 2=v1.thing:=by simp [at3,hpl]
    have a8:p++[v1]++preC ev most e (u'+c1) (l.drop (2+1))=preC ev most e u l:=by rw [List.append_assoc];rw [← hpre,if_pos hfit1];rfl
    have b0:at3 (p++[v1]) 0=at3 p 0:=by simp [at3,hpl,List.getElem?_append]
    have b1:at3 (p++[v1]) 1=at3 p 1:=by simp [at3,hpl,List.getElem?_append]
    have d1:2+1≤l.length:=by omega
    have d2:u≤u'+c1:=by omega
    have d3:M+(u' - u)≤M+(u'+c1 - u):=by omega
    have d5:l.length - (2+1)<l.length - 2:=by omega
    refine t_b ?_
    refine z0e [] (j2 @a7 (j2 @b0 @b1)) (ih (p++[v1],2+1,u'+c1) ⟨d1,hfit1,d2,a6,MV.nles_mono d3 _ hgz,c2,vs1,hw,a4,a8⟩ d5)
   ·have o1:outM most (u'+c1) v1.thing = .tup [nilI,dbool false]:=by unfold outM;rw [if_neg hfit1]
    have o2:useM most (u'+c1)=[dint (most:Int),dint (most:Int)]:=by unfold useM;rw [if_neg hfit1]
    have hbig:¬ u+c≤most:=by omega
    have o4:useM most (u+c)=[dint (most:Int),dint (most:Int)]:=by unfold useM;rw [if_neg hbig]
    have o5:preC ev most e u l=p:=by rw [← hpre,if_neg hfit1];simp
    have o6:decide (u+c≤most)=false:=decide_eq_false hbig
    unfold outA at hR
    rw [o4,o5,o6] at hR
    rw [o1,o2] at W1
    refine t_c1 @hT W1 ?_
    refine z00 ?_
    refine z07 ?_
    refine z00 ?_
    repeat (first|refine z0a ?_|refine z01 ?_|refine z0b ?_|refine z03 ?_|refine z02 ?_|refine z04 rfl ?_)
    first|refine z0k hP hf hfn _ ([(b,[dint (most:Int),dint (most:Int)])]) (by first|(simp [go_sem,hP,hgl,hn,arr3];done)|(simp [go_sem,hP,hgl,hn,arr3];rfl)) (by simp [go_sem,hP,hgl,hn,arr3]) (by simp) ?_ hR.2|refine z0m hP hf hfn _ ([(b,[dint (most:Int),dint (most:Int)])]) (by first|(simp [go_sem,hP,hgl,hn,arr3];done)|(simp [go_sem,hP,hgl,hn,arr3];rfl)) (by simp [go_sem,hP,hgl,hn,arr3]) (by simp) ?_ hR.2
    rw [hR.1]
    refine ⟨?_,by simp [arr3]⟩
    try simp [arr3]
    try all_goals (simp [Ty.dv,Ty.cells_eq,Ty.kind_mk,Ty.args_mk,Tm.dv,Tm.cells_eq,Tm.kind_mk,Tm.index_mk,Tm.type_mk,Tm.args_mk,Val.dv,Val.cells_eq,Val.kind_mk,Val.num_mk,Val.list_mk,Val.args_mk,ints])
 ·have hd:l.drop i=[]:=List.drop_eq_nil_iff.2 (by omega)
  have hii:i=l.length:=by omega
  subst hii
  rw [hd] at hc hpre
  simp only [allC,Option.some.injEq,Prod.mk.injEq] at hc
  obtain ⟨rfl,rfl⟩:=hc
  simp only [preC,List.append_nil] at hpre
  have hsm:u+c≤most:=by omega
  have o4:useM most (u+c)=[dint (u':Int),dint (most:Int)]:=by unfold useM;rw [if_pos hsm];rw [← hcc];simp
  have o6:decide (u+c≤most)=true:=decide_eq_true hsm
  unfold outA at hR
  rw [← hpre,o4,o6] at hR
  refine z00 ?_
  refine t_no ?_
  refine z00 ?_
  repeat (first|refine z0a ?_|refine z01 ?_|refine z0b ?_|refine z03 ?_|refine z02 ?_|refine z04 rfl ?_)
  first|refine z0k hP hf hfn _ ([(b,[dint (u':Int),dint (most:Int)])]) (by first|(simp [go_sem,hP,hgl,hn,arr3];done)|(simp [go_sem,hP,hgl,hn,arr3];rfl)) (by simp [go_sem,hP,hgl,hn,arr3]) (by simp) ?_ hR.2|refine z0m hP hf hfn _ ([(b,[dint (u':Int),dint (most:Int)])]) (by first|(simp [go_sem,hP,hgl,hn,arr3];done)|(simp [go_sem,hP,hgl,hn,arr3];rfl)) (by simp [go_sem,hP,hgl,hn,arr3]) (by simp) ?_ hR.2
  rw [hR.1]
  refine ⟨?_,by simp [arr3]⟩
  try simp [arr3]
  try all_goals (simp [Ty.dv,Ty.cells_eq,Ty.kind_mk,Ty.args_mk,Tm.dv,Tm.cells_eq,Tm.kind_mk,Tm.index_mk,Tm.type_mk,Tm.args_mk,Val.dv,Val.cells_eq,Val.kind_mk,Val.num_mk,Val.list_mk,Val.args_mk,ints])
end
section
variable {gl:Globs}
theorem z5t (n:Nat):(MV.num n).thing = .iface 3 (dint (n:Int)):=by rw [MV.thing]
theorem z18g {most:Nat}(hm:most≤1073741824){ev:Evl}(H:WalkM Tryz.prog gl 139 most ev)(hN:NleM most ev)(hNc:∀ {f v:MV} {l:List MV} {c M:Nat},callC ev f l=some (v,c)→f.nle M→MV.nles M l→v.nle (M+c)){r f v:MV}{n u c:Nat}(b M:Nat)
  (h:recC ev f n 0 r=some (v,c)) (hu:u≤most) (hM:M+(most - u)≤1073741824) (hr0:r.nle M) (hf0:f.nle M) (hn0:n≤M) :
  Con1 Tryz.prog gl 164 [ptr b,.agg (arr3 [r,f,.num n])] [(b,useM most u)] (outM most (u+c) v.thing) [(b,useM most (u+c))]:=by
 have z0:at3 [r,f,.num n] 0=r.thing:=rfl
 have z1:at3 [r,f,.num n] 1=f.thing:=rfl
 have z2:at3 [r,f,.num n] 2 = .iface 3 (dint (n:Int)):=z5t n
 have hu0:useM most u=[dint (u:Int),dint (most:Int)]:=by unfold useM;rw [if_pos hu]
 unfold arr3
 rw [z0,z1,z2,hu0]
 refine t_in Tryz.func164 ?_
 intro X hP hgl hf hfn hn hR hids hfit
 refine t_g0 ?_
 refine t_a ?_
 refine z0e [] trivial (z1k (fun x:DV × Bool × Nat × Nat=>x.1.isCell=true∧cellsD x.1=[x.1]∧(x.2.1=true→x.2.2.1≤n∧x.2.2.2≤most∧u≤x.2.2.2∧∃ (q:MV) (c':Nat),x.1=q.thing∧q.nle (M+(x.2.2.2 - u))∧recC ev f (n - x.2.2.1) x.2.2.1 q=some (v,c')∧x.2.2.2+c' = u+c)∧(x.2.1=false→x.1=nilI∧x.2.2.2=most∧¬ u+c≤most∧x.2.2.1≤n+1)) (fun x:DV × Bool × Nat × Nat=>[(.slot 6,.one (.v x.1)),(.slot 7,.one (.v (dbool x.2.1))),(.slot 8,.one (.v (dint (x.2.2.1:Int)))),(.slot 0,.one (.v (ptr b))),(.slot 4,.one (.v nilI)),(.slot 5,.one (.v (dbool false))),(.slot 3,.one (.loc 3 0)),(.loc 3,.row ([.v r.thing,.v f.thing,.v (.iface 3 (dint (n:Int)))])),(.heap  b,.row ([.v (dint (x.2.2.2:Int)),.v (dint (most:Int))]))]) (fun x:DV × Bool × Nat × Nat=>(if x.2.1 then n - x.2.2.1+1 else 0)) (r.thing,true,0,u) (⟨zb7 r,zb8 r,fun _=>⟨Nat.zero_le _,hu,Nat.le_refl u,r,c,rfl,by simpa using hr0,by simpa using h,rfl⟩,fun e=>by cases e⟩) ?_)
 rintro ⟨y,ok,k,u'⟩ ⟨hy1,hy2,hy3,hy4⟩ ih
 simp only at hy1 hy2 hy3 hy4
 cases ok with
 | false=>
  obtain ⟨rfl,rfl,hbig,hk⟩:=hy4 rfl
  have o3:outM u' (u+c) v.thing = .tup [nilI,dbool false]:=by unfold outM;rw [if_neg hbig]
  have o4:useM u' (u+c)=[dint (u':Int),dint (u':Int)]:=by unfold useM;rw [if_neg hbig]
  rw [o3,o4] at hR
  refine z00 ?_
  refine t_no ?_
  refine z00 ?_
  refine t_ro [(b,[dint (u':Int),dint (u':Int)])] trivial ?_
  try simp
  try all_goals exact t_f
 | true=>
  obtain ⟨hk,hu',huu,q,c',rfl,hq,hc,hcc⟩:=hy3 rfl
  have hn1:(n:Int)≤1073741824:=by omega
  by_cases hkn:k<n
  ·have e1:n - k=(n - (k+1))+1:=by omega
   rw [e1,recC] at hc
   split at hc
   ·cases hc
   rename_i v1 c1 hv1
   split at hc
   ·cases hc
   rename_i w c2 hw
   simp only [Option.some.injEq,Prod.mk.injEq] at hc
   obtain ⟨rfl,rfl⟩:=hc
   have hfg:f.nle (M+(u' - u)):=MV.nle_mono (by omega) _ hf0
   have hlg:MV.nles (M+(u' - u)) [.num k,q]:=by simp only [MV.nles,MV.nle];exact ⟨by omega,hq,trivial⟩
   have W1:=zb9 hm H hN b (M+(u' - u)) hv1 hu' (by omega) hfg hlg
   have hN1:=hNc hv1 hfg hlg
   have hu1:useM most u' = [dint (u':Int),dint (most:Int)]:=by unfold useM;rw [if_pos hu']
   have hkn':(k:Int)<(n:Int):=by omega
   rw [hu1] at W1
   simp only [List.map,z5t] at W1
   refine z00 ?_
   refine z07 ?_
   by_cases hfit1:u'+c1≤most
   ·have o1:outM most (u'+c1) v1.thing = .tup [v1.thing,dbool true]:=by unfold outM;rw [if_pos hfit1]
    have o2:useM most (u'+c1)=[dint ((u'+c1:Nat):Int),dint (most:Int)]:=by unfold useM;rw [if_pos hfit1]
    rw [o1,o2] at W1
    refine t_c1 trivial W1 ?_
    refine z00 ?_
    have d1:k+1≤n:=by omega
    have d2:u≤u'+c1:=by omega
    have d3:M+(u' - u)+c1≤M+(u'+c1 - u):=by omega
    have d4:u'+c1+c2=u+c:=by omega
    have d5:n - (k+1)+1<n - k+1:=by omega
    refine t_b ?_
    refine z0e [] trivial (ih (v1.thing,true,k+1,u'+c1) ⟨zb7 v1,zb8 v1,fun _=>⟨d1,hfit1,d2,v1,c2,rfl,MV.nle_mono d3 _ hN1,hw,d4⟩,fun e=>by cases e⟩ d5)
   ·have o1:outM most (u'+c1) v1.thing = .tup [nilI,dbool false]:=by unfold outM;rw [if_neg hfit1]
    have o2:useM most (u'+c1)=[dint (most:Int),dint (most:Int)]:=by unfold useM;rw [if_neg hfit1]
    have hbig:¬ u+c≤most:=by omega
    have d1:k+1≤n+1:=by omega
    have d5:0<n - k+1:=by omega
    rw [o1,o2] at W1
    refine t_c1 trivial W1 ?_
    refine z00 ?_
    refine t_b ?_
    refine z0e [] trivial (ih (nilI,false,k+1,most) ⟨rfl,rfl,fun e=>(by cases e),fun _=>⟨rfl,rfl,hbig,d1⟩⟩ d5)
  ·have e0:n - k=0:=by omega
   rw [e0,recC] at hc
   simp only [Option.some.injEq,Prod.mk.injEq] at hc
   obtain ⟨rfl,rfl⟩:=hc
   have hkn':(n:Int)≤(k:Int):=by omega
   have hsm:u+c≤most:=by omega
   have o3:outM most (u+c) q.thing = .tup [q.thing,dbool true]:=by unfold outM;rw [if_pos hsm]
   have o4:useM most (u+c)=[dint (u':Int),dint (most:Int)]:=by unfold useM;rw [if_pos hsm];rw [← hcc];simp
   rw [o3,o4] at hR
   refine z00 ?_
   refine t_no ?_
   refine z00 ?_
   refine t_ro [(b,[dint (u':Int),dint (most:Int)])] trivial ?_
   try simp
   try all_goals exact t_f
end
section
variable {gl:Globs}
theorem z18h:∀ {d:Nat} {t:Tm} {e:List MV} {v:MV} {c:Nat},evS d t e=some (v,c)→1≤c
 | 0,t,e,v,c,h=>by cases h
 | d+1,t,e,v,c,h=>by
  rw [evS] at h
  repeat' split at h
  all_goals first
   | (cases h;done)
   | (simp only [Option.some.injEq,Prod.mk.injEq] at h;omega)
theorem z18i:blC [] (some [])=some (True,.ag [] []):=rfl
attribute [go_sem] z18i
theorem z8x (l:List Nat):(MV.list l).thing = .iface 173 (cellM l):=by rw [MV.thing]
theorem zdm (x y:MV):(MV.both x y).thing = .iface 179 (.ref [x.thing,y.thing]):=by rw [MV.thing]
theorem z18j:MV.unit.thing = .iface 183 (.agg []):=by rw [MV.thing]
theorem z8y:cellM []=nilP:=rfl
theorem z7a (n:Nat)(l:List Nat):cellM (n::l) = .ref [dint (n:Int),cellM l]:=rfl
theorem z2c {most n:Nat}(h:n≤most)(v:DV):outM most n v = .tup [v,dbool true]:=by unfold outM;rw [if_pos h]
theorem z3f {most n:Nat}(h:¬ n≤most)(v:DV):outM most n v = .tup [nilI,dbool false]:=by unfold outM;rw [if_neg h]
theorem z0i {most n:Nat}(h:n≤most):useM most n=[dint (n:Int),dint (most:Int)]:=by unfold useM;rw [if_pos h]
theorem z2d {most n:Nat}(h:¬ n≤most):useM most n=[dint (most:Int),dint (most:Int)]:=by unfold useM;rw [if_neg h]
def FoldM (P:Program)(gl:Globs)(ff:FuncId)(most:Nat)(ev:Evl):Prop:=
 ∀ ⦃r f v:MV⦄ ⦃l:List Nat⦄ ⦃u c:Nat⦄ (b M:Nat),foldC ev f r l=some (v,c)→u≤most→M+(most - u)≤1073741824→r.nle M→f.nle M→(l.length≤M∧∀ n ∈ l,n≤M) →
  Con1 P gl ff [ptr b,.agg (arr3 [r,f,.list l])] [(b,useM most u)] (outM most (u+c) v.thing) [(b,useM most (u+c))]
theorem z18k {most:Nat}(hm:most≤1073741824)(t:Tm){e:List MV}{u:Nat}(b:Nat)(hu:u≤most)(h1:t.kind=1)(hi:0≤t.index∧t.index.toNat<e.length) :
  Con1 Tryz.prog gl 139 [ptr b,t.dv,MV.envM e] [(b,useM most u)] (outM most (u+1) (e.getD t.index.toNat .unit).thing) [(b,useM most (u+1))]:=by
 rw [z0i hu]
 have hti:(t.index.toNat:Int)=t.index:=Int.toNat_of_nonneg hi.1
 have W1:=z17p (gl:=gl) e t.index.toNat hi.2
 rw [hti] at W1
 by_cases hf1:u+1≤most
 ·rw [z0i hf1,z2c hf1]
  have hum:¬ (most:Int)≤(u:Int):=by omega
  refine t_in Tryz.func139 ?_
  intro X hP hgl hf hfn hn hR hids hfit
  refine t_g (j2 @hum @h1) ?_
  refine t_c1 trivial W1 ?_
  refine t_ro [(b,[dint ((u+1:Nat):Int),dint (most:Int)])] trivial ?_
  try simp
  try all_goals exact t_f
 ·rw [z2d hf1,z3f hf1]
  have hum:(most:Int)≤(u:Int):=by omega
  have hue:(u:Int)=(most:Int):=by omega
  refine t_in Tryz.func139 ?_
  intro X hP hgl hf hfn hn hR hids hfit
  refine t_g @hum ?_
  refine t_ro [(b,[dint (most:Int),dint (most:Int)])] @hue ?_
  try simp [hue]
  try all_goals exact t_f
theorem z18l {most:Nat}(hm:most≤1073741824)(t:Tm){e:List MV}{u:Nat}(b:Nat)(hu:u≤most)(h2:t.kind=2){body:Tm}{rest:List Tm}(ha:t.args=body::rest) :
  Con1 Tryz.prog gl 139 [ptr b,t.dv,MV.envM e] [(b,useM most u)] (outM most (u+1) (MV.clo body e).thing) [(b,useM most (u+1))]:=by
 rw [z0i hu]
 by_cases hf1:u+1≤most
 ·rw [z0i hf1,z2c hf1,zio]
  have hum:¬ (most:Int)≤(u:Int):=by omega
  have hg:(t.args.map Tm.cells)[0]? = some [dint body.kind,dint body.index,dint body.type.kind,.sl (body.type.args.map Ty.cells),.sl (body.args.map Tm.cells)]:=by rw [ha];simp [Tm.cells_eq]
  have hg':t.args[0]? = some body:=by rw [ha];rfl
  have hT:=Tm.fold body
  refine t_in Tryz.func139 ?_
  intro X hP hgl hf hfn hn hR hids hfit
  refine t_g (j2 @hum @h2) ?_
  refine z05 [42] fun K hK=>?_
  simp [go_sem,hP,hgl,hn,hg,hg',hT,Tm.cells_eq]
  refine z4g (cs:=[dint body.kind,dint body.index,dint body.type.kind,.sl (body.type.args.map Ty.cells),.sl (body.args.map Tm.cells),MV.envM e]) (y:=.ag [dint body.kind,dint body.index,dint body.type.kind,.sl (body.type.args.map Ty.cells),.sl (body.args.map Tm.cells),MV.envM e] []) (by simp [go_sem,hP,hgl,hn]) (by simp [go_sem]) (by simp [go_sem]) (by rw [hn];exact Nat.le_of_ble_eq_true rfl) (by rfl) ?_
  simp [go_sem,hP,hgl,hn]
  refine t_e ?_
  clear hK K
  refine t_ro [(b,[dint ((u+1:Nat):Int),dint (most:Int)])] trivial ?_
  try simp
  try all_goals exact t_f
 ·rw [z2d hf1,z3f hf1]
  have hum:(most:Int)≤(u:Int):=by omega
  have hue:(u:Int)=(most:Int):=by omega
  refine t_in Tryz.func139 ?_
  intro X hP hgl hf hfn hn hR hids hfit
  refine t_g @hum ?_
  refine t_ro [(b,[dint (most:Int),dint (most:Int)])] @hue ?_
  try simp [hue]
  try all_goals exact t_f
end
section
variable {gl:Globs}
def ones (l:List DV):List (List DV):=l.map fun x=>[x]
theorem zj7 (l:List DV):(ones l).length=l.length:=by simp [ones]
theorem z18m {l:List DV}{i:Nat}{x:DV}(h:l[i]? = some x):(ones l)[i]? = some [x]:=by simp [ones,h]
attribute [go_sem] zj7
theorem z18n (l:List DV):Con Tryz.prog gl 176 [.sl (ones l)] [] fun r φ=>∃ b,r = .prim (.func (.func 179) #[] #[.pointer (some ⟨b,0,none⟩)])∧φ=[(b,[.sl (ones l)])]:=by
 refine t_in Tryz.func176 ?_
 intro X hP hgl hf hfn hn hR hids hfit
 refine z00 ?_
 refine z2w 1 (by simp [go_sem];rfl) ?_
 intro b hb
 simp [go_sem]
 refine z00 ?_
 refine t_a ?_
 refine z0k hP hf hfn (.prim (.func (.func 179) #[] #[.pointer (some ⟨b,0,none⟩)])) [(b,[.sl (ones l)])] (by simp [go_sem,hP,hgl,hn]) (by simp [go_sem]) (by simp) (by rw [hR.1];exact ⟨b,rfl,rfl⟩) hR.2
def BackM (P:Program)(gl:Globs)(l:List DV)(φ:Nat→Objs)(Stop:Objs→Loop→Prop)(lp:Nat)(r:Loop)(D0:Nat→Nat→Prop)(w0:World):Prop:=
 ∀ (i:Nat) (x:DV),l[i]? = some x→YC P gl D0 w0 lp r [dint i,x] (φ (i+1)) fun b φ' r'=>if b=true then φ' = φ i∧r' = r else Stop φ' r'
theorem z18o (l:List DV)(hlen:l.length≤2147483648)(b0:Nat)(φ:Nat→Objs)(hφ:∀ i,(φ i).map (·.1)=(φ 0).map (·.1))(hnd:((φ 0).map (·.1)).Nodup)(hb0:b0 ∉ (φ 0).map (·.1)){Stop:Objs→Loop→Prop}(hStop:∀ ψ r',Stop ψ r'→ψ.map (·.1)=(φ 0).map (·.1))(lp:Nat)(r:Loop)(hps:r.params.size=2) :
  ItC Tryz.prog gl 179 [.prim (.func (.yield lp) #[] #[]),ptr b0] ((b0,[.sl (ones l)])::φ l.length) lp r (BackM Tryz.prog gl l φ Stop lp r) (fun φ' r'=>(φ' = (b0,[.sl (ones l)])::φ 0∧r' = r)∨∃ ψ,φ' = (b0,[.sl (ones l)])::ψ∧Stop ψ r'):=by
 refine zcf Tryz.func179 rfl (by kernel_rfl) (Nat.le_of_ble_eq_true rfl) ?_
 intro X hP hgl hf hfn hn hmd hids hfit hlp hY
 simp only [List.map_cons,List.mem_cons,not_or,hφ] at hlp
 obtain ⟨hlb,hlφ⟩:=hlp
 have hin:∀ (i:Nat) (A:St),(∀ m v,(m,v) ∈ A→∀ b ∈ (φ 0).map (·.1),m ≠ .heap b)→objsIn (get (A++heapSt (φ i))) (φ i):=fun i A h=>zcj (by rw [hφ];exact hnd) (by rw [hφ];exact h)
 simp only [entryL,entry,argSt,heapSt,List.map_cons,List.map_nil,List.cons_append,List.nil_append]
 refine t_rg @hlb ?_
 refine t_a ?_
 refine zaa (A':=[(.slot 3,.one (.v (dint ((l.length:Int) - 1 - (0:Nat))))),(.slot 0,.one (.v (.prim (.func (.yield lp) #[] #[])))),(.slot 1,.one (.v (ptr b0))),(.heap lp,.ob r),(.heap b0,.row [.v (.sl (ones l))])]) (A:=[_,_,_,_,_,_,_,_]) ?_ ?_ ?_
 ·intro m v h
  simp only [List.mem_cons,List.not_mem_nil,or_false,Prod.mk.injEq] at h
  rcases h with ⟨rfl,rfl⟩|⟨rfl,rfl⟩|⟨rfl,rfl⟩|⟨rfl,rfl⟩|⟨rfl,rfl⟩ <;> simp [go_sem,hlb]
 ·simp only [List.cons_append,List.nil_append]
  refine z2h (X:=X) l.length (fun _=>True) (fun j=>(.slot 3,.one (.v (dint ((l.length:Int) - 1 - (j:Nat)))))::(.slot 0,.one (.v (.prim (.func (.yield lp) #[] #[]))))::(.slot 1,.one (.v (ptr b0)))::(.heap lp,.ob r)::(.heap b0,.row [.v (.sl (ones l))])::heapSt (φ (l.length - j))) trivial ?_ ?_
  ·intro j hj _ hnext
   obtain ⟨i,hi⟩:∃ i:Nat,l.length=j+1+i:=⟨l.length - (j+1),by omega⟩
   have hi1:(l.length:Int) - 1 - (j:Nat)=(i:Nat):=by omega
   have hi2:l.length - j=i+1:=by omega
   have hi3:l.length - (j+1)=i:=by omega
   have hx:l[i]? = some l[i]:=List.getElem?_eq_getElem (by omega)
   rw [hi1,hi2]
   rw [hi3] at hnext
   generalize l[i]=x at hx
   have hgi:=z18m hx
   refine z00 ?_
   refine z07 ?_
   refine t_a ?_
   first|refine z05 [] fun K hK=>?_|refine z09 (by rw [hP];exact z08) [] fun K hK=>?_
   refine t_s (j2 @hlb @hgi) ?_
   repeat (refine ⟨by omega,?_⟩)
   refine zci (by simp [go_sem]) hP hgl (hY i x hx) hps (by simp [go_sem]) rfl ?_ (by rw [hφ];exact hnd) (by simp [go_sem]) (by rw [hn];exact Nat.le_of_ble_eq_true rfl) [(.slot 3,.one (.v (dint (i:Nat)))),(.slot 0,.one (.v (.prim (.func (.yield lp) #[] #[])))),(.slot 1,.one (.v (ptr b0))),(.heap b0,.row [.v (.sl (ones l))])] ?_ ?_ ?_
   ·repeat (first|refine z6i ?_|refine z6j (by rw [hφ];assumption) ?_)
    exact z4r (by rw [hφ];exact hnd)
   ·intro m v h
    simp only [List.mem_cons,List.not_mem_nil,or_false,Prod.mk.injEq] at h
    rw [hφ]
    rcases h with ⟨rfl,rfl⟩|⟨rfl,rfl⟩|⟨rfl,rfl⟩|⟨rfl,rfl⟩
    ·simp [go_sem]
    ·simp [go_sem]
    ·simp [go_sem]
    ·refine ⟨by simp [go_sem,hlb],by simp,by simp;exact fun e=>hlb e.symm,fun b hb e=>?_⟩
     cases e;exact hb0 hb
   ·intro b φ' r' h
    have:φ'.map (·.1)=(φ 0).map (·.1):=by
     split at h
     ·rw [h.1,hφ]
     ·exact hStop _ _ h
    rw [this]
    exact ⟨hnd,hlφ⟩
   ·intro b φ' r' h _
    simp only [List.cons_append,List.nil_append]
    cases b with
    | true=>
     simp only [if_true] at h
     obtain ⟨rfl,rfl⟩:=h
     simp [go_sem,hP,hgl,hn]
     refine t_e ?_
     clear hK K
     refine t_no ?_
     refine z00 ?_
     refine t_a ?_
     refine zaa (A':=[(.slot 3,.one (.v (dint ((l.length:Int) - 1 - (j+1:Nat))))),(.slot 0,.one (.v (.prim (.func (.yield lp) #[] #[])))),(.slot 1,.one (.v (ptr b0))),(.heap lp,.ob r'),(.heap b0,.row [.v (.sl (ones l))])]) (A:=[_,_,_,_,_,_,_,_,_]) ?_ (hnext trivial) ?_
     ·intro m v h
      simp only [List.mem_cons,List.not_mem_nil,or_false,Prod.mk.injEq] at h
      rcases h with ⟨rfl,rfl⟩|⟨rfl,rfl⟩|⟨rfl,rfl⟩|⟨rfl,rfl⟩|⟨rfl,rfl⟩ <;> simp [go_sem,hlb]
      omega
     ·intro m v h
      simp only [List.mem_cons,List.not_mem_nil,or_false,Prod.mk.injEq] at h
      rw [hφ]
      intro b hb
      rcases h with ⟨rfl,rfl⟩|⟨rfl,rfl⟩|⟨rfl,rfl⟩|⟨rfl,rfl⟩|⟨rfl,rfl⟩|⟨rfl,rfl⟩|⟨rfl,rfl⟩|⟨rfl,rfl⟩|⟨rfl,rfl⟩ <;> first|(simp;done)|(intro e;cases e;first|exact hb0 hb|exact hlφ hb)
    | false=>
     simp only [Bool.false_eq_true,if_false] at h
     have hids':=hStop _ _ h
     simp [go_sem,hP,hgl,hn]
     refine t_e ?_
     clear hK K
     refine z07 ?_
     refine t_a ?_
     refine z7l hmd (φ:=(b0,[.sl (ones l)])::φ') (q:=r') (r:=.tup []) (by rw [hP,hf,hfn];exact Tryz.func179) (by rw [hfn];simp [go_sem]) (z0v ?_ ?_) ?_ ?_ (.inr ⟨φ',rfl,h⟩) zc1
     ·simp [go_sem,hlb]
     ·repeat (first|refine z6i ?_|refine z6j (by rw [hids'];assumption) ?_)
      exact z4r (by rw [hids'];exact hnd)
     ·simp only [List.map_cons,List.nodup_cons,hids'];exact ⟨hb0,hnd⟩
     ·simp [go_sem,hlb]
  ·intro _
   refine z00 ?_
   refine t_no ?_
   refine t_a ?_
   refine z7l hmd (φ:=(b0,[.sl (ones l)])::φ 0) (q:=r) (r:=.tup []) (by rw [hP,hf,hfn];exact Tryz.func179) (by rw [hfn];simp [go_sem]) (z0v ?_ ?_) ?_ ?_ (.inl ⟨rfl,rfl⟩) z9v
   ·simp [go_sem,hlb]
   ·repeat (first|refine z6i ?_|refine z6j (by assumption) ?_)
    exact z4r hnd
   ·simp only [List.map_cons,List.nodup_cons];exact ⟨hb0,hnd⟩
   ·simp [go_sem,hlb]
 ·intro m v h
  simp only [List.mem_cons,List.not_mem_nil,or_false,Prod.mk.injEq] at h
  rw [hφ]
  intro b hb
  rcases h with ⟨rfl,rfl⟩|⟨rfl,rfl⟩|⟨rfl,rfl⟩|⟨rfl,rfl⟩|⟨rfl,rfl⟩|⟨rfl,rfl⟩|⟨rfl,rfl⟩|⟨rfl,rfl⟩ <;> first|(simp;done)|(intro e;cases e;first|exact hb0 hb|exact hlφ hb)
end
section
variable {gl:Globs}
def cellsOf:List Nat→List DV
 | []=>[]
 | n::l=>cellM (n::l)::cellsOf l
theorem zj8:∀ l,(cellsOf l).length=l.length
 | []=>rfl
 | n::l=>by simp [cellsOf,zj8 l]
theorem zj9:∀ {l:List Nat} {i:Nat},i<l.length→(cellsOf l)[i]? = some (cellM (l.drop i))
 | n::l,0,_=>rfl
 | n::l,i+1,h=>by simpa [cellsOf] using zj9 (l:=l) (i:=i) (by simpa using h)
theorem zja {ev:Evl}{f r:MV}:∀ {l:List Nat} {v:MV} {c:Nat} (i:Nat),foldC ev f r l=some (v,c)→∃ v' c',foldC ev f r (l.drop i)=some (v',c')∧c'≤c
 | l,v,c,0,h=>⟨v,c,h,Nat.le_refl _⟩
 | [],v,c,i+1,h=>⟨v,c,h,Nat.le_refl _⟩
 | x::l,v,c,i+1,h=>by
  simp only [foldC] at h
  split at h
  ·cases h
  rename_i v1 c1 hv1
  split at h
  ·cases h
  rename_i w c2 hw
  simp only [Option.some.injEq,Prod.mk.injEq] at h
  obtain ⟨rfl,rfl⟩:=h
  obtain ⟨v',c',h1,h2⟩:=zja i hv1
  exact ⟨v',c',h1,by omega⟩
theorem z18p {ev:Evl}{f r:MV}{x:Nat}{l:List Nat}{v:MV}{c:Nat}(h:foldC ev f r (x::l)=some (v,c)):∃ v1 c1 c2,foldC ev f r l=some (v1,c1)∧callC ev f [.num x,.list l,v1]=some (v,c2)∧c=c1+c2:=by
 simp only [foldC] at h
 split at h
 ·cases h
 rename_i v1 c1 hv1
 split at h
 ·cases h
 rename_i w c2 hw
 simp only [Option.some.injEq,Prod.mk.injEq] at h
 obtain ⟨rfl,rfl⟩:=h
 exact ⟨v1,c1,c2,hv1,hw,rfl⟩
def foldS (ev:Evl)(f r:MV)(l:List Nat)(i:Nat):MV × Nat:=(foldC ev f r (l.drop i)).getD (.unit,0)
theorem z18q {M c1 most u:Nat}(h:M+(most - u)≤1073741824)(k:u+c1≤most):M+c1+(most - (u+c1))≤1073741824:=by omega
set_option maxHeartbeats 1000000 in
theorem z18r {most:Nat}(hm:most≤1073741824){ev:Evl}(H:WalkM Tryz.prog gl 139 most ev)(hN:NleM most ev):FoldM Tryz.prog gl 165 most ev:=by
 intro r f v l u c b M h hu hM hr0 hf0 hl0
 have z0:at3 [r,f,.list l] 0=r.thing:=rfl
 have z1:at3 [r,f,.list l] 1=f.thing:=rfl
 have z2:at3 [r,f,.list l] 2 = .iface 173 (cellM l):=z8x l
 have hll:(l.length:Int)≤1073741824:=by omega
 unfold arr3
 rw [z0,z1,z2,z0i hu]
 refine t_in Tryz.func165 ?_
 intro X hP hgl hf hfn hn hR hids hfit
 refine t_g0 ?_
 refine t_a ?_
 refine z0c [(1006,0)] (by simp [go_sem]) (by simp [go_sem,ones] <;> omega) (by simp [go_sem]) (z1k (fun x:List DV × List Nat=>x.1++cellsOf x.2=cellsOf l∧x.1.length+x.2.length=l.length) (fun x:List DV × List Nat=>[(.slot 6,.one (.own 1006 (ones x.1))),(.tok 1006,.tk 1 x.1.length),(.slot 7,.one (.v (cellM x.2))),(.slot 4,.one (.v nilI)),(.slot 5,.one (.v (dbool false))),(.slot 2,.one (.loc 2 0)),(.loc 2,.row ([.v (ptr b)])),(.slot 3,.one (.loc 3 0)),(.loc 3,.row ([.v r.thing,.v f.thing,.v (.iface 173 (cellM l))])),(.heap  b,.row ([.v (dint (u:Int)),.v (dint (most:Int))]))]) (fun x:List DV × List Nat=>x.2.length) (([]:List DV),l) (⟨rfl,by simp⟩) ?_)
 rintro ⟨cs,q⟩ ⟨hq1,hq2⟩ ih
 simp only at hq1 hq2
 cases q with
 | cons n q=>
  have hcm:=z7a n q
  have hon:=zj7 cs
  simp only [List.length_cons] at hq2
  have hle:(cs.length:Int)+1≤1073741824:=by omega
  have hcl:cs.length≤2147483647:=by omega
  have hwid:∀ e:List DV,e ∈ ones cs→e.length=1:=by intro e he;simp only [ones,List.mem_map] at he;obtain ⟨x,-,rfl⟩:=he;rfl
  have hone:ones cs++[[DV.ref [dint (n:Int),cellM q]]]=ones (cs++[DV.ref [dint (n:Int),cellM q]]):=by simp [ones]
  have e1:(cs++[DV.ref [dint (n:Int),cellM q]])++cellsOf q=cellsOf l:=by rw [← hq1,cellsOf,hcm];simp
  have e2:(cs++[DV.ref [dint (n:Int),cellM q]]).length+q.length=l.length:=by simp;omega
  have e3:q.length<(n::q).length:=by simp
  rw [hcm]
  refine z00 ?_
  refine z07 ?_
  refine t_rg (j2 @hcl (j2 @hwid @hon)) ?_
  refine z00 ?_
  have hl1:(cs++[DV.ref [dint (n:Int),cellM q]]).length=cs.length+1:=by simp
  refine t_b ?_
  refine z0e [(1006,24)] (j2 @hone (j2 @hon @hl1)) (ih (cs++[DV.ref [dint (n:Int),cellM q]],q) ⟨e1,e2⟩ e3)
 | nil=>
  simp only [cellsOf,List.append_nil] at hq1
  subst hq1
  have hcm:=z8y
  rw [hcm]
  refine z00 ?_
  refine t_no ?_
  refine z00 ?_
  refine t_a ?_
  first|refine z05 [] fun K hK=>?_|refine z09 (by rw [hP];exact z08) [] fun K hK=>?_
  refine t_s0 ?_
  repeat (refine ⟨by omega,?_⟩)
  refine z7u hP hgl (z18n (cellsOf l)) (by simp [go_sem]) rfl (by simp [go_sem]) (by simp) (by rw [hn];exact Nat.le_of_ble_eq_true rfl) ?_
  rintro rr ψ ⟨b0,rfl,rfl⟩ hdis
  simp [go_sem] at hdis ⊢
  refine t_e ?_
  clear hK K
  refine t_a ?_
  refine z2w 2 (by simp [go_sem];rfl) ?_
  intro b2 hb2
  simp [go_sem,hdis] at hb2 ⊢
  refine z2w 3 (by simp [go_sem];rfl) ?_
  intro b3 hb3
  simp [go_sem,hdis,hb2] at hb3 ⊢
  refine z2w 8 (by simp [go_sem];rfl) ?_
  intro b8 hb8
  simp [go_sem,hdis,hb2,hb3] at hb8 ⊢
  refine z2w 9 (by simp [go_sem];rfl) ?_
  intro b9 hb9
  simp [go_sem,hdis,hb2,hb3,hb8] at hb9 ⊢
  have hnds:¬ b0=b:=fun e=>hdis e.symm
  obtain ⟨q1,q2⟩:=hb2
  obtain ⟨q3,q4,q5⟩:=hb3
  obtain ⟨q6,q7,q8,q9⟩:=hb8
  obtain ⟨q10,q11,q12,q13,q14⟩:=hb9
  have q15:¬ b9=b:=fun e=>q14 e.symm
  have q16:¬ b8=b:=fun e=>q9 e.symm
  have q17:¬ b3=b:=fun e=>q5 e.symm
  have q18:¬ b2=b:=fun e=>q2 e.symm
  have p1:=Ne.symm q1
  have p3:=Ne.symm q3
  have p4:=Ne.symm q4
  have p6:=Ne.symm q6
  have p7:=Ne.symm q7
  have p8:=Ne.symm q8
  have p10:=Ne.symm q10
  have p11:=Ne.symm q11
  have p12:=Ne.symm q12
  have p13:=Ne.symm q13
  have hS:∀ i,foldC ev f r (l.drop i)=some (foldS ev f r l i)∧(foldS ev f r l i).2≤c:=by
   intro i
   obtain ⟨v',c',e1,e2⟩:=zja i h
   unfold foldS
   rw [e1]
   exact ⟨rfl,e2⟩
  have hS0:foldS ev f r l 0=(v,c):=by unfold foldS;rw [List.drop_zero,h];rfl
  have hSl:foldS ev f r l l.length=(r,0):=by unfold foldS;rw [List.drop_length];rfl
  generalize hSS:foldS ev f r l=S at hS hS0 hSl
  let Φ:Nat→Objs:=fun i=>[(b2,[ptr b]),(b3,[r.thing,f.thing,.iface 173 (cellM l)]),(b8,[if u+(S i).2≤most then (S i).1.thing else nilI]),(b9,[dbool (decide (u+(S i).2≤most))]),(b,useM most (u+(S i).2))]
  have hlenc:(cellsOf l).length=l.length:=zj8 l
  have hΦl:Φ (cellsOf l).length=[(b2,[ptr b]),(b3,[r.thing,f.thing,.iface 173 (cellM l)]),(b8,[r.thing]),(b9,[dbool true]),(b,[dint (u:Int),dint (most:Int)])]:=by
   simp only [Φ,hlenc,hSl,Nat.add_zero,if_pos hu,z0i hu,decide_eq_true hu]
  refine zch hR.2 (f:=179) (fi:=#[]) (ca:=#[.pointer (some ⟨b0,0,none⟩)]) (by simp [go_sem]) (by simp [primOK]) (φ:=(b0,[.sl (ones (cellsOf l))])::Φ (cellsOf l).length) ?_ ?_ (Y:=BackM X.P X.gl (cellsOf l) Φ (fun ψ r'=>∃ i,ψ=Φ i∧¬ u+(S i).2≤most∧r'.state = .done∧r'.pending=some (.exit 2))) (R:=fun φ' r'=>(φ' = (b0,[.sl (ones (cellsOf l))])::Φ 0∧r'.state = .ready∧r'.pending=none)∨∃ i,φ' = (b0,[.sl (ones (cellsOf l))])::Φ i∧¬ u+(S i).2≤most∧r'.state = .done∧r'.pending=some (.exit 2)) (SL:=[(2,ptr b2),(3,ptr b3),(8,ptr b8),(9,ptr b9)]) ?_ ?_ ?_ ?_ ?_
  ·rw [hΦl]
   refine z0v ?_ (z0v ?_ (z0v ?_ (z0v ?_ (z0v ?_ (z0v ?_ (by simp [objsIn]))))))
   all_goals simp [go_sem,hdis,hnds,q1,q2,q3,q4,q5,q6,q7,q8,q9,q10,q11,q12,q13,q14,q15,q16,q17,q18,p1,p3,p4,p6,p7,p8,p10,p11,p12,p13]
  ·rw [hΦl]
   simp [hdis,hnds,q1,q2,q3,q4,q5,q6,q7,q8,q9,q10,q11,q12,q13,q14,q15,q16,q17,q18,p1,p3,p4,p6,p7,p8,p10,p11,p12,p13]
   try (refine ⟨?_,?_⟩ <;> (intro e;subst e;simp_all))
  ·intro n x h
   simp only [List.mem_cons,List.not_mem_nil,or_false,Prod.mk.injEq] at h
   rcases h with ⟨rfl,rfl⟩|⟨rfl,rfl⟩|⟨rfl,rfl⟩|⟨rfl,rfl⟩ <;> simp [go_sem]
  ·intro lp rr h1 h2 h3 h4
   have:=z18o (gl:=gl) (cellsOf l) (by rw [hlenc];omega) b0 Φ (fun _=>rfl) (by simp only [Φ];simp [hdis,hnds,q1,q2,q3,q4,q5,q6,q7,q8,q9,q10,q11,q12,q13,q14,q15,q16,q17,q18,p1,p3,p4,p6,p7,p8,p10,p11,p12,p13];try (intro e;subst e;simp_all)) (by simp only [Φ];simp [hdis,hnds,q1,q2,q3,q4,q5,q6,q7,q8,q9,q10,q11,q12,q13,q14,q15,q16,q17,q18,p1,p3,p4,p6,p7,p8,p10,p11,p12,p13]) (Stop:=fun ψ r'=>∃ i,ψ=Φ i∧¬ u+(S i).2≤most∧r'.state = .done∧r'.pending=some (.exit 2)) (by rintro ψ r' ⟨i,rfl,-⟩;rfl) lp rr (by rw [h3];rfl)
   rw [hP,hgl]
   refine ⟨this.1,fun D w vs a1 a2 a3 a4 a5 a6=>(this.2 D w vs a1 a2 a3 a4 a5 a6).mono ?_⟩
   rintro e w' ⟨v1,D',φ',r',rfl,hR',rest⟩
   refine ⟨v1,D',φ',r',rfl,?_,rest⟩
   rcases hR' with ⟨rfl,rfl⟩|⟨ψ,hψ,i,rfl,k1,k2,k3⟩
   ·exact .inl ⟨rfl,h1,h2⟩
   ·exact .inr ⟨i,hψ,k1,k2,k3⟩
  ·intro lp rr D0 w0 h1 h2 h3 h4 h5 h6 h7 h8 h9 i x hx
   rw [hP,hgl]
   have hil:i<l.length:=by have:=(List.getElem?_eq_some_iff.1 hx).1;rw [hlenc] at this;exact this
   rw [zj9 hil,Option.some.injEq] at hx
   subst hx
   refine zcg X.n h5 h9 h1 (by rw [h3];rfl) (by rw [h3,hn];decide) (by rw [h3];decide) (by rw [h3];simp) ?_
   intro X' hP' hgl' hf' hn' hmd' hids' hl' hfit'
   rw [h3,h6,h7]
   rw [hn] at hn'
   clear hP hgl hn
   have hP:=hP'
   have hgl:=hgl'
   have hn:=hn'
   have hl2:¬ lp=b2∧¬ lp=b3∧¬ lp=b8∧¬ lp=b9∧¬ lp=b:=by simpa [Φ] using hl'
   obtain ⟨x2,x3,x8,x9,xb⟩:=hl2
   have i2:=Ne.symm x2
   have i3:=Ne.symm x3
   have i8:=Ne.symm x8
   have i9:=Ne.symm x9
   have ib:=Ne.symm xb
   obtain ⟨n,hdi⟩:∃ n,l.drop i=n::l.drop (i+1):=⟨l[i],List.drop_eq_getElem_cons hil⟩
   have hcm:=z7a n (l.drop (i+1))
   have hfS:=(hS i).1
   rw [hdi] at hfS ⊢
   obtain ⟨v1,c1,c2,g1,g2,g3⟩:=z18p hfS
   have hS1:=(hS (i+1)).1
   rw [g1,Option.some.injEq] at hS1
   rw [hcm]
   by_cases hfa:u+c1≤most
   ·have hΦ1:Φ (i+1)=[(b2,[ptr b]),(b3,[r.thing,f.thing,.iface 173 (cellM l)]),(b8,[v1.thing]),(b9,[dbool true]),(b,[dint ((u+c1:Nat):Int),dint (most:Int)])]:=by
     simp only [Φ,← hS1,if_pos hfa,z0i hfa,decide_eq_true hfa]
    have hbd:∀ n' ∈ l.drop (i+1),n'≤M:=fun n' hn'=>hl0.2 n' (List.mem_of_mem_drop hn')
    have hbl:(l.drop (i+1)).length≤M:=by have:=hl0.1;rw [List.length_drop];omega
    have hnM:n≤M:=hl0.2 n (List.mem_of_mem_drop (by rw [hdi];exact List.mem_cons_self))
    have hv1:=zdi hN g1 hf0 hr0 ⟨hbl,hbd⟩
    have w1:f.nle (M+c1):=MV.nle_mono (Nat.le_add_right M c1) f hf0
    have w2:M+c1+(most - (u+c1))≤1073741824:=z18q hM hfa
    have w3:MV.nles (M+c1) [.num n,.list (l.drop (i+1)),v1]:=by
     simp only [MV.nles,MV.nle]
     exact ⟨by omega,⟨by omega,fun n' hn'=>Nat.le_trans (hbd n' hn') (Nat.le_add_right M c1)⟩,hv1,trivial⟩
    have W1:=zb9 hm H hN b (M+c1) g2 hfa w2 w1 w3
    rw [z0i hfa] at W1
    simp only [List.map,z5t,z8x] at W1
    rw [hΦ1]
    simp only [entryR,h3,parSt,slotSt,heapSt,List.cons_append,List.nil_append]
    refine t_rg (j2 @hdis (j2 @hnds (j2 @q1 (j2 @q2 (j2 @q3 (j2 @q4 (j2 @q5 (j2 @q6 (j2 @q7 (j2 @q8 (j2 @q9 (j2 @q10 (j2 @q11 (j2 @q12 (j2 @q13 (j2 @q14 (j2 @q15 (j2 @q16 (j2 @q17 (j2 @q18 (j2 @p1 (j2 @p3 (j2 @p4 (j2 @p6 (j2 @p7 (j2 @p8 (j2 @p10 (j2 @p11 (j2 @p12 (j2 @p13 (j2 @x2 (j2 @x3 (j2 @x8 (j2 @x9 (j2 @xb (j2 @i2 (j2 @i3 (j2 @i8 (j2 @i9 @ib))))))))))))))))))))))))))))))))))))))) ?_
    refine za7 (r:=rr) (l:=lp) (by simp [Ctx.rd,hmd']) (by simp [go_sem]) h1 ?_
    simp [go_sem,hdis,hnds,q1,q2,q3,q4,q5,q6,q7,q8,q9,q10,q11,q12,q13,q14,q15,q16,q17,q18,p1,p3,p4,p6,p7,p8,p10,p11,p12,p13,x2,x3,x8,x9,xb,i2,i3,i8,i9,ib]
    refine t_rg (j2 @hdis (j2 @hnds (j2 @q1 (j2 @q2 (j2 @q3 (j2 @q4 (j2 @q5 (j2 @q6 (j2 @q7 (j2 @q8 (j2 @q9 (j2 @q10 (j2 @q11 (j2 @q12 (j2 @q13 (j2 @q14 (j2 @q15 (j2 @q16 (j2 @q17 (j2 @q18 (j2 @p1 (j2 @p3 (j2 @p4 (j2 @p6 (j2 @p7 (j2 @p8 (j2 @p10 (j2 @p11 (j2 @p12 (j2 @p13 (j2 @x2 (j2 @x3 (j2 @x8 (j2 @x9 (j2 @xb (j2 @i2 (j2 @i3 (j2 @i8 (j2 @i9 @ib))))))))))))))))))))))))))))))))))))))) ?_
    refine t_no ?_
    by_cases hfb:u+c1+c2≤most
    ·have o1:outM most (u+c1+c2) (S i).1.thing = .tup [(S i).1.thing,dbool true]:=z2c hfb _
     have hΦ0:Φ i=[(b2,[ptr b]),(b3,[r.thing,f.thing,.iface 173 (cellM l)]),(b8,[(S i).1.thing]),(b9,[dbool true]),(b,[dint ((u+c1+c2:Nat):Int),dint (most:Int)])]:=by
      have e9:u+(S i).2=u+c1+c2:=by omega
      simp only [Φ,e9,if_pos hfb,z0i hfb,decide_eq_true hfb]
     rw [o1,z0i hfb] at W1
     refine t_a ?_
     first|refine z05 [] fun K hK=>?_|refine z09 (by rw [hP];exact z08) [] fun K hK=>?_
     refine t_s (j2 @hdis (j2 @hnds (j2 @q1 (j2 @q2 (j2 @q3 (j2 @q4 (j2 @q5 (j2 @q6 (j2 @q7 (j2 @q8 (j2 @q9 (j2 @q10 (j2 @q11 (j2 @q12 (j2 @q13 (j2 @q14 (j2 @q15 (j2 @q16 (j2 @q17 (j2 @q18 (j2 @p1 (j2 @p3 (j2 @p4 (j2 @p6 (j2 @p7 (j2 @p8 (j2 @p10 (j2 @p11 (j2 @p12 (j2 @p13 (j2 @x2 (j2 @x3 (j2 @x8 (j2 @x9 (j2 @xb (j2 @i2 (j2 @i3 (j2 @i8 (j2 @i9 @ib))))))))))))))))))))))))))))))))))))))) ?_
     refine t_cb (j2 @hdis (j2 @hnds (j2 @q1 (j2 @q2 (j2 @q3 (j2 @q4 (j2 @q5 (j2 @q6 (j2 @q7 (j2 @q8 (j2 @q9 (j2 @q10 (j2 @q11 (j2 @q12 (j2 @q13 (j2 @q14 (j2 @q15 (j2 @q16 (j2 @q17 (j2 @q18 (j2 @p1 (j2 @p3 (j2 @p4 (j2 @p6 (j2 @p7 (j2 @p8 (j2 @p10 (j2 @p11 (j2 @p12 (j2 @p13 (j2 @x2 (j2 @x3 (j2 @x8 (j2 @x9 (j2 @xb (j2 @i2 (j2 @i3 (j2 @i8 (j2 @i9 @ib))))))))))))))))))))))))))))))))))))))) (W1) ?_
     refine t_e ?_
     clear hK K
     refine t_a ?_
     refine z7m hmd' (φ:=Φ i) ?_ (by simp only [Φ];simp [hdis,hnds,q1,q2,q3,q4,q5,q6,q7,q8,q9,q10,q11,q12,q13,q14,q15,q16,q17,q18,p1,p3,p4,p6,p7,p8,p10,p11,p12,p13]) (by simp [go_sem,hdis,hnds,q1,q2,q3,q4,q5,q6,q7,q8,q9,q10,q11,q12,q13,q14,q15,q16,q17,q18,p1,p3,p4,p6,p7,p8,p10,p11,p12,p13,x2,x3,x8,x9,xb,i2,i3,i8,i9,ib]) none rfl ?_
     ·rw [hΦ0]
      refine z0v ?_ (z0v ?_ (z0v ?_ (z0v ?_ (z0v ?_ (by simp [objsIn])))))
      all_goals simp [go_sem,hdis,hnds,q1,q2,q3,q4,q5,q6,q7,q8,q9,q10,q11,q12,q13,q14,q15,q16,q17,q18,p1,p3,p4,p6,p7,p8,p10,p11,p12,p13,x2,x3,x8,x9,xb,i2,i3,i8,i9,ib]
     ·simp only [Option.isNone_none,if_true,true_and]
      cases rr;simp only [pastL] at h1 h2 ⊢;subst h1 h2;rfl
    ·have o1:outM most (u+c1+c2) (S i).1.thing = .tup [nilI,dbool false]:=z3f hfb _
     have hΦ0:Φ i=[(b2,[ptr b]),(b3,[r.thing,f.thing,.iface 173 (cellM l)]),(b8,[nilI]),(b9,[dbool false]),(b,[dint (most:Int),dint (most:Int)])]:=by
      have e9:u+(S i).2=u+c1+c2:=by omega
      simp only [Φ,e9,if_neg hfb,z2d hfb,decide_eq_false hfb]
     rw [o1,z2d hfb] at W1
     refine t_a ?_
     first|refine z05 [] fun K hK=>?_|refine z09 (by rw [hP];exact z08) [] fun K hK=>?_
     refine t_s (j2 @hdis (j2 @hnds (j2 @q1 (j2 @q2 (j2 @q3 (j2 @q4 (j2 @q5 (j2 @q6 (j2 @q7 (j2 @q8 (j2 @q9 (j2 @q10 (j2 @q11 (j2 @q12 (j2 @q13 (j2 @q14 (j2 @q15 (j2 @q16 (j2 @q17 (j2 @q18 (j2 @p1 (j2 @p3 (j2 @p4 (j2 @p6 (j2 @p7 (j2 @p8 (j2 @p10 (j2 @p11 (j2 @p12 (j2 @p13 (j2 @x2 (j2 @x3 (j2 @x8 (j2 @x9 (j2 @xb (j2 @i2 (j2 @i3 (j2 @i8 (j2 @i9 @ib))))))))))))))))))))))))))))))))))))))) ?_
     refine t_cb (j2 @hdis (j2 @hnds (j2 @q1 (j2 @q2 (j2 @q3 (j2 @q4 (j2 @q5 (j2 @q6 (j2 @q7 (j2 @q8 (j2 @q9 (j2 @q10 (j2 @q11 (j2 @q12 (j2 @q13 (j2 @q14 (j2 @q15 (j2 @q16 (j2 @q17 (j2 @q18 (j2 @p1 (j2 @p3 (j2 @p4 (j2 @p6 (j2 @p7 (j2 @p8 (j2 @p10 (j2 @p11 (j2 @p12 (j2 @p13 (j2 @x2 (j2 @x3 (j2 @x8 (j2 @x9 (j2 @xb (j2 @i2 (j2 @i3 (j2 @i8 (j2 @i9 @ib))))))))))))))))))))))))))))))))))))))) (W1) ?_
     refine t_e ?_
     clear hK K
     refine t_a ?_
     refine z7m hmd' (φ:=Φ i) ?_ (by simp only [Φ];simp [hdis,hnds,q1,q2,q3,q4,q5,q6,q7,q8,q9,q10,q11,q12,q13,q14,q15,q16,q17,q18,p1,p3,p4,p6,p7,p8,p10,p11,p12,p13]) (by simp [go_sem,hdis,hnds,q1,q2,q3,q4,q5,q6,q7,q8,q9,q10,q11,q12,q13,q14,q15,q16,q17,q18,p1,p3,p4,p6,p7,p8,p10,p11,p12,p13,x2,x3,x8,x9,xb,i2,i3,i8,i9,ib]) none rfl ?_
     ·rw [hΦ0]
      refine z0v ?_ (z0v ?_ (z0v ?_ (z0v ?_ (z0v ?_ (by simp [objsIn])))))
      all_goals simp [go_sem,hdis,hnds,q1,q2,q3,q4,q5,q6,q7,q8,q9,q10,q11,q12,q13,q14,q15,q16,q17,q18,p1,p3,p4,p6,p7,p8,p10,p11,p12,p13,x2,x3,x8,x9,xb,i2,i3,i8,i9,ib]
     ·simp only [Option.isNone_none,if_true,true_and]
      cases rr;simp only [pastL] at h1 h2 ⊢;subst h1 h2;rfl
   ·have hΦ1:Φ (i+1)=[(b2,[ptr b]),(b3,[r.thing,f.thing,.iface 173 (cellM l)]),(b8,[nilI]),(b9,[dbool false]),(b,[dint (most:Int),dint (most:Int)])]:=by
     simp only [Φ,← hS1,if_neg hfa,z2d hfa,decide_eq_false hfa]
    rw [hΦ1]
    simp only [entryR,h3,parSt,slotSt,heapSt,List.cons_append,List.nil_append]
    refine t_rg (j2 @hdis (j2 @hnds (j2 @q1 (j2 @q2 (j2 @q3 (j2 @q4 (j2 @q5 (j2 @q6 (j2 @q7 (j2 @q8 (j2 @q9 (j2 @q10 (j2 @q11 (j2 @q12 (j2 @q13 (j2 @q14 (j2 @q15 (j2 @q16 (j2 @q17 (j2 @q18 (j2 @p1 (j2 @p3 (j2 @p4 (j2 @p6 (j2 @p7 (j2 @p8 (j2 @p10 (j2 @p11 (j2 @p12 (j2 @p13 (j2 @x2 (j2 @x3 (j2 @x8 (j2 @x9 (j2 @xb (j2 @i2 (j2 @i3 (j2 @i8 (j2 @i9 @ib))))))))))))))))))))))))))))))))))))))) ?_
    refine za7 (r:=rr) (l:=lp) (by simp [Ctx.rd,hmd']) (by simp [go_sem]) h1 ?_
    simp [go_sem,hdis,hnds,q1,q2,q3,q4,q5,q6,q7,q8,q9,q10,q11,q12,q13,q14,q15,q16,q17,q18,p1,p3,p4,p6,p7,p8,p10,p11,p12,p13,x2,x3,x8,x9,xb,i2,i3,i8,i9,ib]
    refine t_rg (j2 @hdis (j2 @hnds (j2 @q1 (j2 @q2 (j2 @q3 (j2 @q4 (j2 @q5 (j2 @q6 (j2 @q7 (j2 @q8 (j2 @q9 (j2 @q10 (j2 @q11 (j2 @q12 (j2 @q13 (j2 @q14 (j2 @q15 (j2 @q16 (j2 @q17 (j2 @q18 (j2 @p1 (j2 @p3 (j2 @p4 (j2 @p6 (j2 @p7 (j2 @p8 (j2 @p10 (j2 @p11 (j2 @p12 (j2 @p13 (j2 @x2 (j2 @x3 (j2 @x8 (j2 @x9 (j2 @xb (j2 @i2 (j2 @i3 (j2 @i8 (j2 @i9 @ib))))))))))))))))))))))))))))))))))))))) ?_
    refine z07 ?_
    refine z7m hmd' (φ:=Φ (i+1)) ?_ (by simp only [Φ];simp [hdis,hnds,q1,q2,q3,q4,q5,q6,q7,q8,q9,q10,q11,q12,q13,q14,q15,q16,q17,q18,p1,p3,p4,p6,p7,p8,p10,p11,p12,p13]) (by simp [go_sem,hdis,hnds,q1,q2,q3,q4,q5,q6,q7,q8,q9,q10,q11,q12,q13,q14,q15,q16,q17,q18,p1,p3,p4,p6,p7,p8,p10,p11,p12,p13,x2,x3,x8,x9,xb,i2,i3,i8,i9,ib]) (some (.exit 2)) ⟨_,rfl,rfl⟩ ?_
    ·rw [hΦ1]
     refine z0v ?_ (z0v ?_ (z0v ?_ (z0v ?_ (z0v ?_ (by simp [objsIn])))))
     all_goals simp [go_sem,hdis,hnds,q1,q2,q3,q4,q5,q6,q7,q8,q9,q10,q11,q12,q13,q14,q15,q16,q17,q18,p1,p3,p4,p6,p7,p8,p10,p11,p12,p13,x2,x3,x8,x9,xb,i2,i3,i8,i9,ib]
    ·rw [if_neg (by simp)]
     exact ⟨i+1,rfl,by rw [← hS1];exact hfa,rfl,rfl⟩
  ·rintro φ' r' (⟨-,h,-⟩|⟨_,-,-,h,-⟩) <;> (rw [h];simp)
  ·rintro φ' r' (⟨rfl,-,h⟩|⟨i,rfl,hi,-,h⟩) -
   ·rw [h]
    by_cases hfc:u+c≤most
    ·rw [z2c hfc,z0i hfc] at hR
     have hΦ0:Φ 0=[(b2,[ptr b]),(b3,[r.thing,f.thing,.iface 173 (cellM l)]),(b8,[v.thing]),(b9,[dbool true]),(b,[dint ((u+c:Nat):Int),dint (most:Int)])]:=by
      simp only [Φ,hS0,if_pos hfc,z0i hfc,decide_eq_true hfc]
     rw [hΦ0,hΦl]
     simp [go_sem,hdis,hnds,q1,q2,q3,q4,q5,q6,q7,q8,q9,q10,q11,q12,q13,q14,q15,q16,q17,q18,p1,p3,p4,p6,p7,p8,p10,p11,p12,p13]
     refine t_rg (j2 @hdis (j2 @hnds (j2 @q1 (j2 @q2 (j2 @q3 (j2 @q4 (j2 @q5 (j2 @q6 (j2 @q7 (j2 @q8 (j2 @q9 (j2 @q10 (j2 @q11 (j2 @q12 (j2 @q13 (j2 @q14 (j2 @q15 (j2 @q16 (j2 @q17 (j2 @q18 (j2 @p1 (j2 @p3 (j2 @p4 (j2 @p6 (j2 @p7 (j2 @p8 (j2 @p10 (j2 @p11 (j2 @p12 @p13))))))))))))))))))))))))))))) ?_
     refine t_ro [(b,[dint ((u+c:Nat):Int),dint (most:Int)])] (j2 @hdis (j2 @hnds (j2 @q1 (j2 @q2 (j2 @q3 (j2 @q4 (j2 @q5 (j2 @q6 (j2 @q7 (j2 @q8 (j2 @q9 (j2 @q10 (j2 @q11 (j2 @q12 (j2 @q13 (j2 @q14 (j2 @q15 (j2 @q16 (j2 @q17 (j2 @q18 (j2 @p1 (j2 @p3 (j2 @p4 (j2 @p6 (j2 @p7 (j2 @p8 (j2 @p10 (j2 @p11 (j2 @p12 @p13))))))))))))))))))))))))))))) ?_
     try simp [hdis,hnds,q1,q2,q3,q4,q5,q6,q7,q8,q9,q10,q11,q12,q13,q14,q15,q16,q17,q18,p1,p3,p4,p6,p7,p8,p10,p11,p12,p13]
     try all_goals exact t_f
    ·rw [z3f hfc,z2d hfc] at hR
     have hΦ0:Φ 0=[(b2,[ptr b]),(b3,[r.thing,f.thing,.iface 173 (cellM l)]),(b8,[nilI]),(b9,[dbool false]),(b,[dint (most:Int),dint (most:Int)])]:=by
      simp only [Φ,hS0,if_neg hfc,z2d hfc,decide_eq_false hfc]
     rw [hΦ0,hΦl]
     simp [go_sem,hdis,hnds,q1,q2,q3,q4,q5,q6,q7,q8,q9,q10,q11,q12,q13,q14,q15,q16,q17,q18,p1,p3,p4,p6,p7,p8,p10,p11,p12,p13]
     refine t_rg (j2 @hdis (j2 @hnds (j2 @q1 (j2 @q2 (j2 @q3 (j2 @q4 (j2 @q5 (j2 @q6 (j2 @q7 (j2 @q8 (j2 @q9 (j2 @q10 (j2 @q11 (j2 @q12 (j2 @q13 (j2 @q14 (j2 @q15 (j2 @q16 (j2 @q17 (j2 @q18 (j2 @p1 (j2 @p3 (j2 @p4 (j2 @p6 (j2 @p7 (j2 @p8 (j2 @p10 (j2 @p11 (j2 @p12 @p13))))))))))))))))))))))))))))) ?_
     refine t_ro [(b,[dint (most:Int),dint (most:Int)])] (j2 @hdis (j2 @hnds (j2 @q1 (j2 @q2 (j2 @q3 (j2 @q4 (j2 @q5 (j2 @q6 (j2 @q7 (j2 @q8 (j2 @q9 (j2 @q10 (j2 @q11 (j2 @q12 (j2 @q13 (j2 @q14 (j2 @q15 (j2 @q16 (j2 @q17 (j2 @q18 (j2 @p1 (j2 @p3 (j2 @p4 (j2 @p6 (j2 @p7 (j2 @p8 (j2 @p10 (j2 @p11 (j2 @p12 @p13))))))))))))))))))))))))))))) ?_
     try simp [hdis,hnds,q1,q2,q3,q4,q5,q6,q7,q8,q9,q10,q11,q12,q13,q14,q15,q16,q17,q18,p1,p3,p4,p6,p7,p8,p10,p11,p12,p13]
     try all_goals exact t_f
   ·rw [h]
    have hfc:¬ u+c≤most:=by have:=(hS i).2;omega
    rw [z3f hfc,z2d hfc] at hR
    have hΦ0:Φ i=[(b2,[ptr b]),(b3,[r.thing,f.thing,.iface 173 (cellM l)]),(b8,[nilI]),(b9,[dbool false]),(b,[dint (most:Int),dint (most:Int)])]:=by
     simp only [Φ,if_neg hi,z2d hi,decide_eq_false hi]
    rw [hΦ0,hΦl]
    simp [go_sem,hdis,hnds,q1,q2,q3,q4,q5,q6,q7,q8,q9,q10,q11,q12,q13,q14,q15,q16,q17,q18,p1,p3,p4,p6,p7,p8,p10,p11,p12,p13]
    refine t_rg (j2 @hdis (j2 @hnds (j2 @q1 (j2 @q2 (j2 @q3 (j2 @q4 (j2 @q5 (j2 @q6 (j2 @q7 (j2 @q8 (j2 @q9 (j2 @q10 (j2 @q11 (j2 @q12 (j2 @q13 (j2 @q14 (j2 @q15 (j2 @q16 (j2 @q17 (j2 @q18 (j2 @p1 (j2 @p3 (j2 @p4 (j2 @p6 (j2 @p7 (j2 @p8 (j2 @p10 (j2 @p11 (j2 @p12 @p13))))))))))))))))))))))))))))) ?_
    refine t_ro [(b,[dint (most:Int),dint (most:Int)])] (j2 @hdis (j2 @hnds (j2 @q1 (j2 @q2 (j2 @q3 (j2 @q4 (j2 @q5 (j2 @q6 (j2 @q7 (j2 @q8 (j2 @q9 (j2 @q10 (j2 @q11 (j2 @q12 (j2 @q13 (j2 @q14 (j2 @q15 (j2 @q16 (j2 @q17 (j2 @q18 (j2 @p1 (j2 @p3 (j2 @p4 (j2 @p6 (j2 @p7 (j2 @p8 (j2 @p10 (j2 @p11 (j2 @p12 @p13))))))))))))))))))))))))))))) ?_
    try simp [hdis,hnds,q1,q2,q3,q4,q5,q6,q7,q8,q9,q10,q11,q12,q13,q14,q15,q16,q17,q18,p1,p3,p4,p6,p7,p8,p10,p11,p12,p13]
    try all_goals exact t_f
end
end Go.Proofs.YtoamlfmdkbmmpaaGreatDoor.Lift
