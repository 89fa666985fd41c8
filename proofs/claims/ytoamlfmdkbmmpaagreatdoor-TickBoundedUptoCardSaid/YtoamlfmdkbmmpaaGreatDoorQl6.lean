import Derived.Test.YtoamlfmdkbmmpaaGreatDoorQl5
namespace Go.Proofs.YtoamlfmdkbmmpaaGreatDoor.Lift
set_option linter.unusedSimpArgs false
set_option linter.unusedVariables false
set_option linter.unnecessarySimpa false
open Go
section
variable {gl:Globs}
theorem z18s {most:Nat}(hm:most≤1073741824)(t:Tm){e:List MV}{u:Nat}(b:Nat)(hu:u≤most)(hf1:¬ u+1≤most) :
  Con1 Tryz.prog gl 139 [ptr b,t.dv,MV.envM e] [(b,useM most u)] (.tup [nilI,dbool false]) [(b,[dint (most:Int),dint (most:Int)])]:=by
 rw [z0i hu]
 have hum:(most:Int)≤(u:Int):=by omega
 have hue:(u:Int)=(most:Int):=by omega
 refine t_in Tryz.func139 ?_
 intro X hP hgl hf hfn hn hR hids hfit
 refine t_g @hum ?_
 refine t_ro [(b,[dint (most:Int),dint (most:Int)])] @hue ?_
 try simp [hue]
 try all_goals exact t_f
theorem z18t {most:Nat}(hm:most≤1073741824){ev:Evl}(H:WalkM Tryz.prog gl 139 most ev)(hN:NleM most ev)(t:Tm){e:List MV}{u:Nat}(b M:Nat)(hu:u≤most)(hM:M+(most - u)≤1073741824)(he:MV.nles M e)
  (h3:t.args.length≤3) (hk1:¬ t.kind=1) (hk2:¬ t.kind=2) {vs:List MV} {c1:Nat} (hall:allC ev t.args e=some (vs,c1)) (hf1:u+1≤most) (hf2:¬ u+1+c1≤most) :
  Con1 Tryz.prog gl 139 [ptr b,t.dv,MV.envM e] [(b,useM most u)] (.tup [nilI,dbool false]) [(b,[dint (most:Int),dint (most:Int)])]:=by
 rw [z0i hu]
 have hum:¬ (most:Int)≤(u:Int):=by omega
 have A1:=z3e hm H hN b (M+1) hall h3 hf1 (by omega) (MV.nles_mono (by omega) _ he)
 have o6:decide (u+1+c1≤most)=false:=decide_eq_false hf2
 unfold outA arr3 at A1
 rw [z0i hf1,z2d hf2,o6] at A1
 generalize preC ev most e (u+1) t.args=pp at A1
 refine t_in Tryz.func139 ?_
 intro X hP hgl hf hfn hn hR hids hfit
 refine t_g (j2 @hum (j2 @hk1 @hk2)) ?_
 refine t_c1 trivial A1 ?_
 refine t_g0 ?_
 refine t_ro [(b,[dint (most:Int),dint (most:Int)])] trivial ?_
 try simp
 try all_goals exact t_f
theorem z18u {most:Nat}(hm:most≤1073741824){ev:Evl}(H:WalkM Tryz.prog gl 139 most ev)(hN:NleM most ev)(t:Tm){e:List MV}{u:Nat}(b M:Nat)(hu:u≤most)(hM:M+(most - u)≤1073741824)(he:MV.nles M e)
  (h3:t.args.length≤3) (hk:t.kind=3) {f x:MV} {v:MV} {c2:Nat} {c1:Nat} (hall:allC ev t.args e=some ([f,x],c1)) (hf1:u+1≤most) (hf2:u+1+c1≤most) (hnode:callC ev f [x]=some (v,c2)) :
  Con1 Tryz.prog gl 139 [ptr b,t.dv,MV.envM e] [(b,useM most u)] (outM most (u+1+c1+c2) v.thing) [(b,useM most (u+1+c1+c2))]:=by
 rw [z0i hu]
 have hum:¬ (most:Int)≤(u:Int):=by omega
 have A1:=z3e hm H hN b (M+1) hall h3 hf1 (by omega) (MV.nles_mono (by omega) _ he)
 have B1:=z2s hN hall he
 have o6:decide (u+1+c1≤most)=true:=decide_eq_true hf2
 unfold outA arr3 at A1
 rw [z0i hf1,z0i hf2,o6,z3d hall hf2] at A1
 have z0:at3 [f,x] 0=f.thing:=by first|rfl|(simp only [at3];rw [MV.thing];done)|exact rfl
 have z1:at3 [f,x] 1=x.thing:=by first|rfl|(simp only [at3];rw [MV.thing];done)|exact rfl
 have z2:at3 [f,x] 2=nilI:=by first|rfl|(simp only [at3];rw [MV.thing];done)|exact rfl
 rw [z0,z1,z2] at A1
 simp only [MV.nles] at B1
 have W1:=zb9 hm H hN b (M+c1) hnode hf2 (by omega) B1.1 (by simp only [MV.nles];exact ⟨B1.2.1,trivial⟩)
 rw [z0i hf2] at W1
 simp only [List.map] at W1
 by_cases hf3:u+1+c1+c2≤most
 ·rw [z0i hf3,z2c hf3] at W1 ⊢
  refine t_in Tryz.func139 ?_
  intro X hP hgl hf hfn hn hR hids hfit
  refine t_g (j2 @hum @hk) ?_
  refine t_c1 trivial A1 ?_
  refine t_g @hk ?_
  refine t_c1 trivial W1 ?_
  refine t_ro [(b,[dint ((u+1+c1+c2:Nat):Int),dint (most:Int)])] trivial ?_
  try simp
  try all_goals exact t_f
 ·rw [z2d hf3,z3f hf3] at W1 ⊢
  refine t_in Tryz.func139 ?_
  intro X hP hgl hf hfn hn hR hids hfit
  refine t_g (j2 @hum @hk) ?_
  refine t_c1 trivial A1 ?_
  refine t_g @hk ?_
  refine t_c1 trivial W1 ?_
  refine t_ro [(b,[dint (most:Int),dint (most:Int)])] trivial ?_
  try simp
  try all_goals exact t_f
theorem z18v {most:Nat}(hm:most≤1073741824){ev:Evl}(H:WalkM Tryz.prog gl 139 most ev)(hN:NleM most ev)(t:Tm){e:List MV}{u:Nat}(b M:Nat)(hu:u≤most)(hM:M+(most - u)≤1073741824)(he:MV.nles M e)
  (h3:t.args.length≤3) (hk:t.kind=4) {vs:List MV} {c1:Nat} (hall:allC ev t.args e=some (vs,c1)) (hf1:u+1≤most) (hf2:u+1+c1≤most) :
  Con1 Tryz.prog gl 139 [ptr b,t.dv,MV.envM e] [(b,useM most u)] (.tup [(.iface 3 (dint (0:Int))),dbool true]) [(b,[dint ((u+1+c1:Nat):Int),dint (most:Int)])]:=by
 rw [z0i hu]
 have hum:¬ (most:Int)≤(u:Int):=by omega
 have A1:=z3e hm H hN b (M+1) hall h3 hf1 (by omega) (MV.nles_mono (by omega) _ he)
 have B1:=z2s hN hall he
 have o6:decide (u+1+c1≤most)=true:=decide_eq_true hf2
 unfold outA arr3 at A1
 rw [z0i hf1,z0i hf2,o6,z3d hall hf2] at A1
 refine t_in Tryz.func139 ?_
 intro X hP hgl hf hfn hn hR hids hfit
 refine t_g (j2 @hum @hk) ?_
 refine t_c1 trivial A1 ?_
 refine t_g @hk ?_
 refine t_ro [(b,[dint ((u+1+c1:Nat):Int),dint (most:Int)])] trivial ?_
 try simp
 try all_goals exact t_f
theorem z18w {most:Nat}(hm:most≤1073741824){ev:Evl}(H:WalkM Tryz.prog gl 139 most ev)(hN:NleM most ev)(t:Tm){e:List MV}{u:Nat}(b M:Nat)(hu:u≤most)(hM:M+(most - u)≤1073741824)(he:MV.nles M e)
  (h3:t.args.length≤3) (hk:t.kind=5) {n:Nat} {c1:Nat} (hall:allC ev t.args e=some ([.num n],c1)) (hf1:u+1≤most) (hf2:u+1+c1≤most) :
  Con1 Tryz.prog gl 139 [ptr b,t.dv,MV.envM e] [(b,useM most u)] (.tup [(.iface 3 (dint (((n+1:Nat)):Int))),dbool true]) [(b,[dint ((u+1+c1:Nat):Int),dint (most:Int)])]:=by
 rw [z0i hu]
 have hum:¬ (most:Int)≤(u:Int):=by omega
 have A1:=z3e hm H hN b (M+1) hall h3 hf1 (by omega) (MV.nles_mono (by omega) _ he)
 have B1:=z2s hN hall he
 have o6:decide (u+1+c1≤most)=true:=decide_eq_true hf2
 unfold outA arr3 at A1
 rw [z0i hf1,z0i hf2,o6,z3d hall hf2] at A1
 have z0:at3 [.num n] 0=(.iface 3 (dint (n:Int))):=by first|rfl|(simp only [at3];rw [MV.thing];done)|exact z5t _
 have z1:at3 [.num n] 1=nilI:=by first|rfl|(simp only [at3];rw [MV.thing];done)|exact rfl
 have z2:at3 [.num n] 2=nilI:=by first|rfl|(simp only [at3];rw [MV.thing];done)|exact rfl
 rw [z0,z1,z2] at A1
 refine t_in Tryz.func139 ?_
 intro X hP hgl hf hfn hn hR hids hfit
 refine t_g (j2 @hum @hk) ?_
 refine t_c1 trivial A1 ?_
 simp only [MV.nles,MV.nle] at B1
 have hn1:(n:Int)≤1073741824:=by omega
 have hn2:((n+1:Nat):Int)=(n:Int)+1:=by omega
 refine t_g (j2 @hk @hn1) ?_
 refine t_ro [(b,[dint ((u+1+c1:Nat):Int),dint (most:Int)])] @hn2 ?_
 try simp [hn2]
 try all_goals exact t_f
theorem z18x {most:Nat}(hm:most≤1073741824){ev:Evl}(H:WalkM Tryz.prog gl 139 most ev)(hN:NleM most ev)(t:Tm){e:List MV}{u:Nat}(b M:Nat)(hu:u≤most)(hM:M+(most - u)≤1073741824)(he:MV.nles M e)
  (h3:t.args.length≤3) (hk:t.kind=6) {r f:MV} {n:Nat} {v:MV} {c2:Nat} {c1:Nat} (hall:allC ev t.args e=some ([r,f,.num n],c1)) (hf1:u+1≤most) (hf2:u+1+c1≤most) (hnode:recC ev f n 0 r=some (v,c2)) :
  Con1 Tryz.prog gl 139 [ptr b,t.dv,MV.envM e] [(b,useM most u)] (outM most (u+1+c1+c2) v.thing) [(b,useM most (u+1+c1+c2))]:=by
 rw [z0i hu]
 have hum:¬ (most:Int)≤(u:Int):=by omega
 have A1:=z3e hm H hN b (M+1) hall h3 hf1 (by omega) (MV.nles_mono (by omega) _ he)
 have B1:=z2s hN hall he
 have o6:decide (u+1+c1≤most)=true:=decide_eq_true hf2
 unfold outA arr3 at A1
 rw [z0i hf1,z0i hf2,o6,z3d hall hf2] at A1
 simp only [MV.nles,MV.nle] at B1
 have W1:=z18g hm H hN (fun h=>z5q hN h) b (M+c1) hnode hf2 (by omega) B1.1 B1.2.1 B1.2.2.1
 unfold arr3 at W1
 rw [z0i hf2] at W1
 by_cases hf3:u+1+c1+c2≤most
 ·rw [z0i hf3,z2c hf3] at W1 ⊢
  refine t_in Tryz.func139 ?_
  intro X hP hgl hf hfn hn hR hids hfit
  refine t_g (j2 @hum @hk) ?_
  refine t_c1 trivial A1 ?_
  refine t_g @hk ?_
  refine t_c1 trivial W1 ?_
  refine t_ro [(b,[dint ((u+1+c1+c2:Nat):Int),dint (most:Int)])] trivial ?_
  try simp
  try all_goals exact t_f
 ·rw [z2d hf3,z3f hf3] at W1 ⊢
  refine t_in Tryz.func139 ?_
  intro X hP hgl hf hfn hn hR hids hfit
  refine t_g (j2 @hum @hk) ?_
  refine t_c1 trivial A1 ?_
  refine t_g @hk ?_
  refine t_c1 trivial W1 ?_
  refine t_ro [(b,[dint (most:Int),dint (most:Int)])] trivial ?_
  try simp
  try all_goals exact t_f
theorem z18y {most:Nat}(hm:most≤1073741824){ev:Evl}(H:WalkM Tryz.prog gl 139 most ev)(hN:NleM most ev)(t:Tm){e:List MV}{u:Nat}(b M:Nat)(hu:u≤most)(hM:M+(most - u)≤1073741824)(he:MV.nles M e)
  (h3:t.args.length≤3) (hk:t.kind=7) {vs:List MV} {c1:Nat} (hall:allC ev t.args e=some (vs,c1)) (hf1:u+1≤most) (hf2:u+1+c1≤most) :
  Con1 Tryz.prog gl 139 [ptr b,t.dv,MV.envM e] [(b,useM most u)] (.tup [(.iface 173 (cellM [])),dbool true]) [(b,[dint ((u+1+c1:Nat):Int),dint (most:Int)])]:=by
 rw [z0i hu]
 have hum:¬ (most:Int)≤(u:Int):=by omega
 have A1:=z3e hm H hN b (M+1) hall h3 hf1 (by omega) (MV.nles_mono (by omega) _ he)
 have B1:=z2s hN hall he
 have o6:decide (u+1+c1≤most)=true:=decide_eq_true hf2
 unfold outA arr3 at A1
 rw [z0i hf1,z0i hf2,o6,z3d hall hf2] at A1
 refine t_in Tryz.func139 ?_
 intro X hP hgl hf hfn hn hR hids hfit
 refine t_g (j2 @hum @hk) ?_
 refine t_c1 trivial A1 ?_
 have hnil:=z8y
 refine t_g @hk ?_
 refine t_ro [(b,[dint ((u+1+c1:Nat):Int),dint (most:Int)])] @z8y ?_
 try simp [z8y]
 try all_goals exact t_f
theorem z18z {most:Nat}(hm:most≤1073741824){ev:Evl}(H:WalkM Tryz.prog gl 139 most ev)(hN:NleM most ev)(hFold:FoldM Tryz.prog gl 165 most ev)(t:Tm){e:List MV}{u:Nat}(b M:Nat)(hu:u≤most)(hM:M+(most - u)≤1073741824)(he:MV.nles M e)
  (h3:t.args.length≤3) (hk:t.kind=9) {r f:MV} {l:List Nat} {v:MV} {c2:Nat} {c1:Nat} (hall:allC ev t.args e=some ([r,f,.list l],c1)) (hf1:u+1≤most) (hf2:u+1+c1≤most) (hnode:foldC ev f r l=some (v,c2)) :
  Con1 Tryz.prog gl 139 [ptr b,t.dv,MV.envM e] [(b,useM most u)] (outM most (u+1+c1+c2) v.thing) [(b,useM most (u+1+c1+c2))]:=by
 rw [z0i hu]
 have hum:¬ (most:Int)≤(u:Int):=by omega
 have A1:=z3e hm H hN b (M+1) hall h3 hf1 (by omega) (MV.nles_mono (by omega) _ he)
 have B1:=z2s hN hall he
 have o6:decide (u+1+c1≤most)=true:=decide_eq_true hf2
 unfold outA arr3 at A1
 rw [z0i hf1,z0i hf2,o6,z3d hall hf2] at A1
 simp only [MV.nles,MV.nle] at B1
 have W1:=hFold b (M+c1) hnode hf2 (by omega) B1.1 B1.2.1 B1.2.2.1
 unfold arr3 at W1
 rw [z0i hf2] at W1
 by_cases hf3:u+1+c1+c2≤most
 ·rw [z0i hf3,z2c hf3] at W1 ⊢
  refine t_in Tryz.func139 ?_
  intro X hP hgl hf hfn hn hR hids hfit
  refine t_g (j2 @hum @hk) ?_
  refine t_c1 trivial A1 ?_
  refine t_g @hk ?_
  refine t_c1 trivial W1 ?_
  refine t_ro [(b,[dint ((u+1+c1+c2:Nat):Int),dint (most:Int)])] trivial ?_
  try simp
  try all_goals exact t_f
 ·rw [z2d hf3,z3f hf3] at W1 ⊢
  refine t_in Tryz.func139 ?_
  intro X hP hgl hf hfn hn hR hids hfit
  refine t_g (j2 @hum @hk) ?_
  refine t_c1 trivial A1 ?_
  refine t_g @hk ?_
  refine t_c1 trivial W1 ?_
  refine t_ro [(b,[dint (most:Int),dint (most:Int)])] trivial ?_
  try simp
  try all_goals exact t_f
theorem z190 {most:Nat}(hm:most≤1073741824){ev:Evl}(H:WalkM Tryz.prog gl 139 most ev)(hN:NleM most ev)(t:Tm){e:List MV}{u:Nat}(b M:Nat)(hu:u≤most)(hM:M+(most - u)≤1073741824)(he:MV.nles M e)
  (h3:t.args.length≤3) (hk:t.kind=11) {x y:MV} {c1:Nat} (hall:allC ev t.args e=some ([.both x y],c1)) (hf1:u+1≤most) (hf2:u+1+c1≤most) :
  Con1 Tryz.prog gl 139 [ptr b,t.dv,MV.envM e] [(b,useM most u)] (.tup [x.thing,dbool true]) [(b,[dint ((u+1+c1:Nat):Int),dint (most:Int)])]:=by
 rw [z0i hu]
 have hum:¬ (most:Int)≤(u:Int):=by omega
 have A1:=z3e hm H hN b (M+1) hall h3 hf1 (by omega) (MV.nles_mono (by omega) _ he)
 have B1:=z2s hN hall he
 have o6:decide (u+1+c1≤most)=true:=decide_eq_true hf2
 unfold outA arr3 at A1
 rw [z0i hf1,z0i hf2,o6,z3d hall hf2] at A1
 have z0:at3 [.both x y] 0=(.iface 179 (.ref [x.thing,y.thing])):=by first|rfl|(simp only [at3];rw [MV.thing];done)|exact zdm _ _
 have z1:at3 [.both x y] 1=nilI:=by first|rfl|(simp only [at3];rw [MV.thing];done)|exact rfl
 have z2:at3 [.both x y] 2=nilI:=by first|rfl|(simp only [at3];rw [MV.thing];done)|exact rfl
 rw [z0,z1,z2] at A1
 refine t_in Tryz.func139 ?_
 intro X hP hgl hf hfn hn hR hids hfit
 refine t_g (j2 @hum @hk) ?_
 refine t_c1 trivial A1 ?_
 refine t_g @hk ?_
 refine t_ro [(b,[dint ((u+1+c1:Nat):Int),dint (most:Int)])] trivial ?_
 try simp
 try all_goals exact t_f
theorem z191 {most:Nat}(hm:most≤1073741824){ev:Evl}(H:WalkM Tryz.prog gl 139 most ev)(hN:NleM most ev)(t:Tm){e:List MV}{u:Nat}(b M:Nat)(hu:u≤most)(hM:M+(most - u)≤1073741824)(he:MV.nles M e)
  (h3:t.args.length≤3) (hk:t.kind=12) {x y:MV} {c1:Nat} (hall:allC ev t.args e=some ([.both x y],c1)) (hf1:u+1≤most) (hf2:u+1+c1≤most) :
  Con1 Tryz.prog gl 139 [ptr b,t.dv,MV.envM e] [(b,useM most u)] (.tup [y.thing,dbool true]) [(b,[dint ((u+1+c1:Nat):Int),dint (most:Int)])]:=by
 rw [z0i hu]
 have hum:¬ (most:Int)≤(u:Int):=by omega
 have A1:=z3e hm H hN b (M+1) hall h3 hf1 (by omega) (MV.nles_mono (by omega) _ he)
 have B1:=z2s hN hall he
 have o6:decide (u+1+c1≤most)=true:=decide_eq_true hf2
 unfold outA arr3 at A1
 rw [z0i hf1,z0i hf2,o6,z3d hall hf2] at A1
 have z0:at3 [.both x y] 0=(.iface 179 (.ref [x.thing,y.thing])):=by first|rfl|(simp only [at3];rw [MV.thing];done)|exact zdm _ _
 have z1:at3 [.both x y] 1=nilI:=by first|rfl|(simp only [at3];rw [MV.thing];done)|exact rfl
 have z2:at3 [.both x y] 2=nilI:=by first|rfl|(simp only [at3];rw [MV.thing];done)|exact rfl
 rw [z0,z1,z2] at A1
 refine t_in Tryz.func139 ?_
 intro X hP hgl hf hfn hn hR hids hfit
 refine t_g (j2 @hum @hk) ?_
 refine t_c1 trivial A1 ?_
 refine t_g @hk ?_
 refine t_ro [(b,[dint ((u+1+c1:Nat):Int),dint (most:Int)])] trivial ?_
 try simp
 try all_goals exact t_f
theorem z192 {most:Nat}(hm:most≤1073741824){ev:Evl}(H:WalkM Tryz.prog gl 139 most ev)(hN:NleM most ev)(t:Tm){e:List MV}{u:Nat}(b M:Nat)(hu:u≤most)(hM:M+(most - u)≤1073741824)(he:MV.nles M e)
  (h3:t.args.length≤3) (hk:t.kind=13) {vs:List MV} {c1:Nat} (hall:allC ev t.args e=some (vs,c1)) (hf1:u+1≤most) (hf2:u+1+c1≤most) :
  Con1 Tryz.prog gl 139 [ptr b,t.dv,MV.envM e] [(b,useM most u)] (.tup [(.iface 183 (.agg [])),dbool true]) [(b,[dint ((u+1+c1:Nat):Int),dint (most:Int)])]:=by
 rw [z0i hu]
 have hum:¬ (most:Int)≤(u:Int):=by omega
 have A1:=z3e hm H hN b (M+1) hall h3 hf1 (by omega) (MV.nles_mono (by omega) _ he)
 have B1:=z2s hN hall he
 have o6:decide (u+1+c1≤most)=true:=decide_eq_true hf2
 unfold outA arr3 at A1
 rw [z0i hf1,z0i hf2,o6,z3d hall hf2] at A1
 refine t_in Tryz.func139 ?_
 intro X hP hgl hf hfn hn hR hids hfit
 refine t_g (j2 @hum @hk) ?_
 refine t_c1 trivial A1 ?_
 refine t_g @hk ?_
 refine t_ro [(b,[dint ((u+1+c1:Nat):Int),dint (most:Int)])] trivial ?_
 try simp
 try all_goals exact t_f
theorem z193 {most:Nat}(hm:most≤1073741824){ev:Evl}(H:WalkM Tryz.prog gl 139 most ev)(hN:NleM most ev)(t:Tm){e:List MV}{u:Nat}(b M:Nat)(hu:u≤most)(hM:M+(most - u)≤1073741824)(he:MV.nles M e)
  (h3:t.args.length≤3) (hk:t.kind=10) {x y:MV} {c1:Nat} (hall:allC ev t.args e=some ([x,y],c1)) (hf1:u+1≤most) (hf2:u+1+c1≤most) :
  Con1 Tryz.prog gl 139 [ptr b,t.dv,MV.envM e] [(b,useM most u)] (.tup [(.iface 179 (.ref [x.thing,y.thing])),dbool true]) [(b,[dint ((u+1+c1:Nat):Int),dint (most:Int)])]:=by
 rw [z0i hu]
 have hum:¬ (most:Int)≤(u:Int):=by omega
 have A1:=z3e hm H hN b (M+1) hall h3 hf1 (by omega) (MV.nles_mono (by omega) _ he)
 have B1:=z2s hN hall he
 have o6:decide (u+1+c1≤most)=true:=decide_eq_true hf2
 unfold outA arr3 at A1
 rw [z0i hf1,z0i hf2,o6,z3d hall hf2] at A1
 have z0:at3 [x,y] 0=x.thing:=by first|rfl|(simp only [at3];rw [MV.thing];done)|exact rfl
 have z1:at3 [x,y] 1=y.thing:=by first|rfl|(simp only [at3];rw [MV.thing];done)|exact rfl
 have z2:at3 [x,y] 2=nilI:=by first|rfl|(simp only [at3];rw [MV.thing];done)|exact rfl
 rw [z0,z1,z2] at A1
 refine t_in Tryz.func139 ?_
 intro X hP hgl hf hfn hn hR hids hfit
 refine t_g (j2 @hum @hk) ?_
 refine t_c1 trivial A1 ?_
 refine t_g @hk ?_
 refine z05 [109] fun K hK=>?_
 simp [go_sem,hP,hgl,hn]
 refine z4g (cs:=[x.thing,y.thing]) (y:=.ag [x.thing,y.thing] []) (by simp [go_sem,hP,hgl,hn]) (by simp [go_sem]) (by simp [go_sem]) (by rw [hn];exact Nat.le_of_ble_eq_true rfl) (by rfl) ?_
 simp [go_sem,hP,hgl,hn]
 refine t_e ?_
 clear hK K
 refine t_ro [(b,[dint ((u+1+c1:Nat):Int),dint (most:Int)])] trivial ?_
 try simp
 try all_goals exact t_f
theorem z194 {most:Nat}(hm:most≤1073741824){ev:Evl}(H:WalkM Tryz.prog gl 139 most ev)(hN:NleM most ev)(t:Tm){e:List MV}{u:Nat}(b M:Nat)(hu:u≤most)(hM:M+(most - u)≤1073741824)(he:MV.nles M e)
  (h3:t.args.length≤3) (hk:t.kind=8) {n:Nat} {l:List Nat} {c1:Nat} (hall:allC ev t.args e=some ([.num n,.list l],c1)) (hf1:u+1≤most) (hf2:u+1+c1≤most) :
  Con1 Tryz.prog gl 139 [ptr b,t.dv,MV.envM e] [(b,useM most u)] (.tup [(.iface 173 (cellM (n::l))),dbool true]) [(b,[dint ((u+1+c1:Nat):Int),dint (most:Int)])]:=by
 rw [z0i hu]
 have hum:¬ (most:Int)≤(u:Int):=by omega
 have A1:=z3e hm H hN b (M+1) hall h3 hf1 (by omega) (MV.nles_mono (by omega) _ he)
 have B1:=z2s hN hall he
 have o6:decide (u+1+c1≤most)=true:=decide_eq_true hf2
 unfold outA arr3 at A1
 rw [z0i hf1,z0i hf2,o6,z3d hall hf2] at A1
 have z0:at3 [.num n,.list l] 0=(.iface 3 (dint (n:Int))):=by first|rfl|(simp only [at3];rw [MV.thing];done)|exact z5t _
 have z1:at3 [.num n,.list l] 1=(.iface 173 (cellM l)):=by first|rfl|(simp only [at3];rw [MV.thing];done)|exact z8x _
 have z2:at3 [.num n,.list l] 2=nilI:=by first|rfl|(simp only [at3];rw [MV.thing];done)|exact rfl
 rw [z0,z1,z2] at A1
 refine t_in Tryz.func139 ?_
 intro X hP hgl hf hfn hn hR hids hfit
 refine t_g (j2 @hum @hk) ?_
 refine t_c1 trivial A1 ?_
 refine t_g @hk ?_
 refine z09 (by rw [hP];exact z08) [93] fun K hK=>?_
 simp [go_sem,hP,hgl,hn]
 refine z4h (cs:=[dint (n:Int),cellM l]) (y:=.ag [dint (n:Int),cellM l] []) (fun _ _=>z0l) (by simp [go_sem,hP,hgl,hn]) (by simp [go_sem]) (by simp [go_sem]) (by rw [hn];exact Nat.le_of_ble_eq_true rfl) (by rfl) ?_
 simp [go_sem,hP,hgl,hn]
 refine t_e ?_
 clear hK K
 refine t_ro [(b,[dint ((u+1+c1:Nat):Int),dint (most:Int)])] @z7a ?_
 try simp [z7a]
 try all_goals exact t_f
end
section
variable {gl:Globs}
theorem z195 {most:Nat}(hm:most≤1073741824){d:Nat}(H:WalkM Tryz.prog gl 139 most (evS d))(hFold:FoldM Tryz.prog gl 165 most (evS d)) :
  WalkM Tryz.prog gl 139 most (evS (d+1)):=by
 intro t e u v c b M h hu hM he
 have hN:=z76 most d
 have hpos:=z18h h
 by_cases hf1:u+1≤most
 rotate_left
 ·have hbig:¬ u+c≤most:=by omega
  rw [z3f hbig,z2d hbig]
  exact z18s hm t b hu hf1
 rw [evS] at h
 by_cases h1:t.kind=1
 ·rw [if_pos h1] at h
  split at h
  ·rename_i hi
   simp only [Option.some.injEq,Prod.mk.injEq] at h
   obtain ⟨rfl,rfl⟩:=h
   exact z18k hm t b hu h1 hi
  ·cases h
 rw [if_neg h1] at h
 by_cases h2:t.kind=2
 ·rw [if_pos h2] at h
  split at h
  ·cases h
  ·rename_i ha
   simp only [Option.some.injEq,Prod.mk.injEq] at h
   obtain ⟨rfl,rfl⟩:=h
   cases hargs:t.args with
   | nil=>rw [hargs] at ha;exact absurd rfl ha
   | cons body rest=>
    have:t.argN 0=body:=by simp [Tm.argN,hargs]
    rw [this]
    exact z18l hm t b hu h2 hargs
 rw [if_neg h2] at h
 split at h
 ·cases h
 rename_i h3
 have h3:t.args.length≤3:=by omega
 split at h
 ·cases h
 rename_i vs c1 hall
 split at h
 ·cases h
 rename_i w c2 hnode
 simp only [Option.some.injEq,Prod.mk.injEq] at h
 obtain ⟨rfl,rfl⟩:=h
 have e0:u+(1+c1+c2)=u+1+c1+c2:=by omega
 rw [e0]
 by_cases hf2:u+1+c1≤most
 rotate_left
 ·have hbig:¬ u+1+c1+c2≤most:=by omega
  rw [z3f hbig,z2d hbig]
  exact z18t hm H hN t b M hu hM he h3 h1 h2 hall hf1 hf2
 unfold nodeS at hnode
 split at hnode
 rotate_left
 ·cases hnode
 rename_i hk
 unfold nodeC at hnode
 by_cases k3:t.kind=3
 ·rw [if_pos k3] at hnode
  split at hnode
  ·exact z18u hm H hN t b M hu hM he h3 k3 hall hf1 hf2 hnode
  ·cases hnode
 rw [if_neg k3] at hnode
 by_cases k4:t.kind=4
 ·rw [if_pos k4] at hnode
  simp only [Option.some.injEq,Prod.mk.injEq] at hnode
  obtain ⟨rfl,rfl⟩:=hnode
  rw [Nat.add_zero,z2c hf2,z0i hf2,z5t]
  exact z18v hm H hN t b M hu hM he h3 k4 hall hf1 hf2
 rw [if_neg k4] at hnode
 by_cases k5:t.kind=5
 ·rw [if_pos k5] at hnode
  split at hnode
  ·simp only [Option.some.injEq,Prod.mk.injEq] at hnode
   obtain ⟨rfl,rfl⟩:=hnode
   rw [Nat.add_zero,z2c hf2,z0i hf2,z5t]
   exact z18w hm H hN t b M hu hM he h3 k5 hall hf1 hf2
  ·cases hnode
 rw [if_neg k5] at hnode
 by_cases k6:t.kind=6
 ·rw [if_pos k6] at hnode
  split at hnode
  ·exact z18x hm H hN t b M hu hM he h3 k6 hall hf1 hf2 hnode
  ·cases hnode
 rw [if_neg k6] at hnode
 by_cases k7:t.kind=7
 ·rw [if_pos k7] at hnode
  simp only [Option.some.injEq,Prod.mk.injEq] at hnode
  obtain ⟨rfl,rfl⟩:=hnode
  rw [Nat.add_zero,z2c hf2,z0i hf2,z8x]
  exact z18y hm H hN t b M hu hM he h3 k7 hall hf1 hf2
 rw [if_neg k7] at hnode
 by_cases k8:t.kind=8
 ·rw [if_pos k8] at hnode
  split at hnode
  ·simp only [Option.some.injEq,Prod.mk.injEq] at hnode
   obtain ⟨rfl,rfl⟩:=hnode
   rw [Nat.add_zero,z2c hf2,z0i hf2,z8x]
   exact z194 hm H hN t b M hu hM he h3 k8 hall hf1 hf2
  ·cases hnode
 rw [if_neg k8] at hnode
 by_cases k9:t.kind=9
 ·rw [if_pos k9] at hnode
  split at hnode
  ·exact z18z hm H hN hFold t b M hu hM he h3 k9 hall hf1 hf2 hnode
  ·cases hnode
 rw [if_neg k9] at hnode
 by_cases k10:t.kind=10
 ·rw [if_pos k10] at hnode
  split at hnode
  ·simp only [Option.some.injEq,Prod.mk.injEq] at hnode
   obtain ⟨rfl,rfl⟩:=hnode
   rw [Nat.add_zero,z2c hf2,z0i hf2,zdm]
   exact z193 hm H hN t b M hu hM he h3 k10 hall hf1 hf2
  ·cases hnode
 rw [if_neg k10] at hnode
 by_cases k11:t.kind=11
 ·rw [if_pos k11] at hnode
  split at hnode
  ·simp only [Option.some.injEq,Prod.mk.injEq] at hnode
   obtain ⟨rfl,rfl⟩:=hnode
   rw [Nat.add_zero,z2c hf2,z0i hf2]
   exact z190 hm H hN t b M hu hM he h3 k11 hall hf1 hf2
  ·cases hnode
 rw [if_neg k11] at hnode
 by_cases k12:t.kind=12
 ·rw [if_pos k12] at hnode
  split at hnode
  ·simp only [Option.some.injEq,Prod.mk.injEq] at hnode
   obtain ⟨rfl,rfl⟩:=hnode
   rw [Nat.add_zero,z2c hf2,z0i hf2]
   exact z191 hm H hN t b M hu hM he h3 k12 hall hf1 hf2
  ·cases hnode
 rw [if_neg k12] at hnode
 have k13:t.kind=13:=by omega
 simp only [Option.some.injEq,Prod.mk.injEq] at hnode
 obtain ⟨rfl,rfl⟩:=hnode
 rw [Nat.add_zero,z2c hf2,z0i hf2,z18j]
 exact z192 hm H hN t b M hu hM he h3 k13 hall hf1 hf2
theorem zdn {most:Nat}(hm:most≤1073741824)(hFold:∀ ev,WalkM Tryz.prog gl 139 most ev→NleM most ev→FoldM Tryz.prog gl 165 most ev) :
  ∀ d,WalkM Tryz.prog gl 139 most (evS d)
 | 0=>by intro t e u v c b M h;cases h
 | d+1=>z195 hm (zdn hm hFold d) (hFold _ (zdn hm hFold d) (z76 most d))
end
section
variable {gl:Globs}
theorem z196 {E:Nat}{full:List (List DV)}(hE:∀ e ∈ full,e.length=E){i:Nat}{e:List DV}(h:full[i]? = some e):toDs (((arrRow full).drop (i * E)).take E)=some e:=by
 have he:=hE e (List.mem_of_getElem? h)
 have h1:((arrRow full).drop (i * E)).take E=e.map SV.v:=by
  apply List.ext_getElem?
  intro j
  by_cases hj:j<E
  ·rw [List.getElem?_take_of_lt hj,List.getElem?_drop]
   have hje:e[j]? = some (e[j]'(by omega)):=List.getElem?_eq_getElem (by omega)
   simp only [arrRow,List.getElem?_map,z5k hE h hje,hje]
  ·rw [List.getElem?_eq_none (by simp;omega),List.getElem?_eq_none (by simp;omega)]
 rw [h1]
 exact zev e
theorem z197 (d:Nat)(ys:List (List DV)):anyLoc d (arrRow ys)=false:=za8 d _
theorem z198 (d:Nat)(ys:List (List DV)):anyTok d (arrRow ys)=false:=za9 d _
attribute [go_sem] z197 z198
theorem z199 (σ:Nat→Nat)(l:List DV):rowLe σ (l.map SV.v) (l.map SV.v):=by
 induction l with
 | nil=>simp [rowLe]
 | cons x r ih=>simp [rowLe,svLe,ih]
theorem z8z (σ:Nat→Nat)(ys:List (List DV)):rowLe σ (arrRow ys) (arrRow ys):=z199 σ _
def sizes:List T→Nat
 | []=>0
 | a::r=>a.size+sizes r
theorem zjb (l r:List T):sizes (l++r)=sizes l+sizes r:=by
 induction l with
 | nil=>simp [sizes]
 | cons a l ih=>simp [sizes,ih];omega
theorem z19a (a:T):1≤a.size:=by cases a <;> simp only [T.size] <;> omega
theorem zjc (l:List T):l.length≤sizes l:=by
 induction l with
 | nil=>simp [sizes]
 | cons a l ih=>have:=z19a a;simp only [sizes,List.length_cons];omega
def T.parts:T→List T
 | .pair a b=>[a,b]
 | _=>[]
theorem z19b (a:T)(h:a.plain):sizes a.parts+1=a.size:=by
 cases a with
 | pair a b=>simp only [T.parts,sizes,T.size];omega
 | fn a b=>exact h.elim
 | _=>rfl
theorem z19c (a:T)(h:a.plain):∀ x ∈ a.parts,x.plain:=by
 cases a with
 | pair a b=>intro x hx;simp [T.parts] at hx;rcases hx with rfl|rfl;exact h.1;exact h.2
 | fn a b=>exact h.elim
 | _=>intro x hx;simp [T.parts] at hx
theorem z19d (a:T)(h:a.plain):a.ty.args.map Ty.cells=a.parts.map fun x=>x.ty.cells:=by
 cases a with
 | fn a b=>exact h.elim
 | _=>rfl
theorem z19e (a:T):a.parts.length≤2:=by cases a <;> simp [T.parts]
theorem z19f (a:T)(h:a.plain):¬ a.ty.kind=4:=by
 cases a with
 | fn a b=>exact h.elim
 | _=>simp [T.ty,Ty.kind]
def tyRows (l:List T):List (List DV):=l.map fun x=>x.ty.cells
theorem z19g (l:List T):(tyRows l).length=l.length:=by simp [tyRows]
theorem zjd (l:List T):∀ e ∈ tyRows l,e.length=2:=by
 intro e he
 simp only [tyRows,List.mem_map] at he
 obtain ⟨x,-,rfl⟩:=he
 exact Ty.length_cells _
theorem zje {full:List (List DV)}{init parts:List T}(h:full.take init.length=tyRows init)(rest:List (List DV)):(full.take init.length++tyRows parts++rest).take (init++parts).length=tyRows (init++parts):=by
 rw [h]
 have e:tyRows init++tyRows parts=tyRows (init++parts):=by simp [tyRows]
 rw [e]
 exact List.take_left' (z19g _)
theorem zjf {full:List (List DV)}{n:Nat}{zs rest:List (List DV)}(h:∀ e ∈ full,e.length=2)(h1:∀ e ∈ zs,e.length=2)(h2:∀ e ∈ rest,e.length=2):∀ e ∈ full.take n++zs++rest,e.length=2:=by
 intro e he
 rcases List.mem_append.1 he with he|he
 ·rcases List.mem_append.1 he with he|he
  ·exact h e (List.mem_of_mem_take he)
  ·exact h1 e he
 ·exact h2 e he
theorem z19h {α:Type}{X:Ctx}{k kk:List Item}{s:St}(E:α→Prop)(S:α→St)(h1:(∀ x,E x→W X kk (S x))→W X k s)(h2:∀ x,E x→W X kk (S x)):W X k s:=h1 h2
set_option maxHeartbeats 1000000 in
set_option maxRecDepth 10000 in
theorem z19i (a0:T)(hp0:a0.plain)(hs0:a0.size≤1000000)(b0 lp:Nat)(r:Loop)(hps:r.params.size=1) :
  ItC Tryz.prog gl 135 [.prim (.func (.yield lp) #[] #[]),ptr b0] [(b0,a0.ty.cells)] lp r (fun D0 w0=>∀ a:T,a.plain→YC Tryz.prog gl D0 w0 lp r [a.ty.dv] [] fun b φ' r'=>b=true∧φ' = []∧r' = r) (fun φ' r'=>φ' = [(b0,a0.ty.cells)]∧r' = r):=by
 refine zcf Tryz.func135 rfl (by kernel_rfl) (Nat.le_of_ble_eq_true rfl) ?_
 intro X hP hgl hf hfn hn hmd hids hfit hlp hY
 have hlb:¬ lp=b0:=by simpa using hlp
 have hlb':¬ b0=lp:=fun e=>hlb e.symm
 simp only [entryL,entry,argSt,heapSt,List.map_cons,List.map_nil,List.cons_append,List.nil_append]
 have hc0:=Ty.cells_eq a0.ty
 refine t_a ?_
 refine z05 [6] fun K hK=>?_
 simp [go_sem,hP,hgl,hn,hlb,hlb',hc0]
 refine z150 (E:=2) (els:=[[dint a0.ty.kind,.sl (a0.ty.args.map Ty.cells)]]) (by simp [go_sem,hP];rfl) (by simp [go_sem,hP,hgl,hn]) ⟨rfl,by decide⟩ (by rw [hn];exact Nat.le_of_ble_eq_true rfl) (by rfl) ?_
 intro b hb hw
 simp [go_sem] at hb
 simp [go_sem,hP,hgl,hn,hlb,hlb',hb]
 repeat (refine ⟨by omega,?_⟩)
 refine hK _ ?_
 clear hK K
 have hb1:¬ b=lp:=fun e=>hb.1 e.symm
 have hb2:¬ b=b0:=fun e=>hb.2 e.symm
 refine t_a ?_
 refine z0c [] (by simp [go_sem]) (by simp [go_sem,hb1,hb2,hb,hlb,hlb',tyRows,hc0,z8z]) (by simp [go_sem]) (z1k
  (fun x:Nat × Nat × List (List DV) × List T=>x.2.2.1.length=x.2.1∧(∀ e ∈ x.2.2.1,e.length=2)∧x.2.2.1.take x.2.2.2.length=tyRows x.2.2.2∧x.2.2.2.length≤x.2.1∧(∀ a ∈ x.2.2.2,a.plain)∧sizes x.2.2.2≤1000000∧¬ x.1=lp∧¬ x.1=b0)
  (fun x=>[(.slot 0,.one (.v (.prim (.func (.yield lp) #[] #[])))),(.slot 1,.one (.v (ptr b0))),(.slot 3,.one (.v (rawS x.1 x.2.2.2.length x.2.1))),(.heap lp,.ob r),(.heap b0,.row [.v (dint a0.ty.kind),.v (.sl (a0.ty.args.map Ty.cells))]),(.heap x.1,.row (arrRow x.2.2.1))])
  (fun x=>sizes x.2.2.2) (b,1,tyRows [a0],[a0]) ⟨rfl,zjd _,rfl,Nat.le_refl _,by simpa using hp0,by simpa [sizes] using hs0,hb1,hb2⟩ ?_)
 clear hb hb1 hb2 b hw
 rintro ⟨b,cap,full,rest⟩ ⟨i1,i2,i3,i4,i5,i6,i7,i8⟩ ih
 simp only at i1 i2 i3 i4 i5 i6 i7 i8
 have i7':¬ lp=b:=fun e=>i7 e.symm
 have i8':¬ b0=b:=fun e=>i8 e.symm
 rcases List.eq_nil_or_concat rest with rfl|⟨init,a,hrest⟩
 ·refine t_rg (j2 @hlb (j2 @hlb' (j2 @i7 (j2 @i8 (j2 @i7' @i8'))))) ?_
  refine t_no ?_
  refine t_a ?_
  refine z7l hmd (φ:=[(b0,a0.ty.cells)]) (q:=r) (r:=.tup []) (by rw [hP,hf,hfn];exact Tryz.func135) (by rw [hfn];simp [go_sem]) (z0v ?_ (by simp [objsIn])) (by simp) ?_ ⟨rfl,rfl⟩ z9v
  ·simp [go_sem,hlb,hlb',i7,i8,i7',i8',hc0]
  ·simp [go_sem,hlb,hlb',i7,i8,i7',i8']
 ·rw [List.concat_eq_append] at hrest
  subst hrest
  have ha:=i5 a (by simp)
  have hln:(init++[a]).length=init.length+1:=by simp
  have hls:=zjc (init++[a])
  rw [hln] at hls i3 i4
  rw [hln]
  have hbig:init.length+1≤BIG:=by unfold BIG;omega
  have hfa:full[init.length]? = some a.ty.cells:=by
   have h1:(full.take (init.length+1))[init.length]? = some a.ty.cells:=by rw [i3];simp [tyRows]
   rw [List.getElem?_take_of_lt (by omega)] at h1
   exact h1
  have hrd:=z196 i2 hfa
  rw [Ty.cells_eq a.ty] at hrd
  have hps':=z19b a ha
  have hpl:=z19e a
  have hargs:=z19d a ha
  have hsz:=zjb init [a]
  have hsz2:=zjb init a.parts
  simp only [sizes] at hsz
  have hls2:=zjc (init++a.parts)
  rw [List.length_append] at hls2
  have hfo:=Ty.fold a.ty
  have htr:tyRows a.parts=a.ty.args.map Ty.cells:=hargs.symm
  have hal:(arrRow full).length=cap * 2:=by rw [z3p i2,i1]
  refine t_rg (j2 @hbig (j2 @hlb (j2 @hlb' (j2 @i7 (j2 @i8 (j2 @i7' @i8')))))) ?_
  refine z07 ?_
  have hlt:((init.length:Nat):Int)<(init.length:Nat)+1:=by omega
  refine t_rg (j2 @hbig (j2 @hlb (j2 @hlb' (j2 @i7 (j2 @i8 (j2 @i7' (j2 @i8' @hrd))))))) ?_
  have hnb:init.length+(a.ty.args.map Ty.cells).length≤BIG:=by
   rw [hargs,List.length_map];unfold BIG;omega
  have hzw:∀ e ∈ a.ty.args.map Ty.cells,e.length=2:=by rw [hargs];exact zjd a.parts
  have hzl:(a.ty.args.map Ty.cells).length=a.parts.length:=by rw [hargs,List.length_map]
  have hil:(init++a.parts).length=init.length+a.parts.length:=List.length_append
  have hfl1:full.take init.length=tyRows init:=by
   have h1:(full.take (init.length+1)).take init.length=(tyRows (init++[a])).take init.length:=by rw [i3]
   rw [List.take_take,Nat.min_eq_left (by omega)] at h1
   rw [h1];simp [tyRows]
  generalize a.ty.args.map Ty.cells=zs at *
  apply z19h (fun x:Nat × Nat × List (List DV)=>x.2.2.length=x.2.1∧(∀ e ∈ x.2.2,e.length=2)∧x.2.2.take (init++a.parts).length=tyRows (init++a.parts)∧(init++a.parts).length≤x.2.1∧¬ x.1=lp∧¬ x.1=b0)
   (fun x=>[(.slot 0,.one (.v (.prim (.func (.yield lp) #[] #[])))),(.slot 1,.one (.v (ptr b0))),(.slot 3,.one (.v (rawS x.1 (init++a.parts).length x.2.1))),(.slot 4,.one (.loc 4 0)),(.loc 4,.row [.v (dint a.ty.kind),.v (.sl zs)]),(.heap lp,.ob r),(.heap b0,.row [.v (dint a0.ty.kind),.v (.sl (a0.ty.args.map Ty.cells))]),(.heap x.1,.row (arrRow x.2.2))])
  ·intro hrest
   refine t_a ?_
   refine z14s (by rw [hP];exact z08) 7 ?_ ?_ [] [23] fun K hK=>?_
   ·decide
   ·rfl
   simp [go_sem,hP,hgl,hn,hbig,hlb,hlb',i7,i8,i7',i8',hrd]
   repeat (refine ⟨by omega,?_⟩)
   refine ⟨by rfl,?_⟩
   refine z14y (E:=2) (B:=32) (b:=b) (n:=init.length) (cap:=cap) (full:=full) (zs:=zs) (zd:=[dint 0,.sl []]) (by simp [go_sem,hP,hgl,hn]) (by simp [go_sem,hP,hgl,hn]) (by simp [go_sem,hlb,hlb',i7,i8,i7',i8']) (by simp [go_sem,hP]) (by rw [hP];kernel_rfl) rfl ⟨by decide,by decide⟩ (by rw [hP];rfl) (by rw [hn];exact Nat.le_of_ble_eq_true rfl) i1 (by omega) hnb i2 hzw rfl ?_ ?_
   ·intro hle
    simp [go_sem,hP,hgl,hn,hlb,hlb',i7,i8,i7',i8']
    refine hK _ ?_
    clear hK K
    rw [hzl] at hle
    have q1:(full.take init.length++zs++full.drop (init.length+zs.length)).length=cap:=by
     simp only [List.length_append,List.length_take,List.length_drop,i1,hzl];omega
    have q2:=zjf (n:=init.length) i2 hzw (rest:=full.drop (init.length+zs.length)) fun e he=>i2 e (List.mem_of_mem_drop he)
    have q3:=zje (parts:=a.parts) hfl1 (full.drop (init.length+zs.length))
    rw [htr] at q3
    have q4:(init++a.parts).length≤cap:=by rw [hil];exact hle
    have q5:init.length+zs.length=(init++a.parts).length:=by rw [hil,hzl]
    have hres:=hrest (b,cap,_) ⟨q1,q2,q3,q4,i7,i8⟩
    simp only at hres
    rw [← q5] at hres
    rw [List.append_assoc] at hres
    generalize full.take init.length++(zs++full.drop (init.length+zs.length))=fl at *
    refine t_b ?_
    refine z0e [] (j2 @hlb (j2 @hlb' (j2 @i7 (j2 @i8 (j2 @i7' (j2 @i8' @z8z)))))) hres
   ·intro hlt b' cap' hc hb' hw'
    simp [go_sem] at hb'
    simp [go_sem,hP,hgl,hn,hlb,hlb',i7,i8,i7',i8',hb']
    refine hK _ ?_
    clear hK K
    have k1:¬ b' = lp:=fun e=>hb'.1 e.symm
    have k2:¬ b' = b0:=fun e=>hb'.2.1 e.symm
    have k3:¬ b=b':=fun e=>hb'.2.2 e
    have q1:(full.take init.length++zs++List.replicate (cap' - (init.length+zs.length)) [dint 0,DV.sl []]).length=cap':=by
     simp only [List.length_append,List.length_take,List.length_replicate,i1];omega
    have q2:=zjf (n:=init.length) i2 hzw (rest:=List.replicate (cap' - (init.length+zs.length)) [dint 0,DV.sl []]) fun e he=>by rw [(List.mem_replicate.1 he).2];rfl
    have q3:=zje (parts:=a.parts) hfl1 (List.replicate (cap' - (init.length+zs.length)) [dint 0,DV.sl []])
    rw [htr] at q3
    have q5:init.length+zs.length=(init++a.parts).length:=by rw [hil,hzl]
    have q4:(init++a.parts).length≤cap':=by rw [← q5];exact hc
    have hres:=hrest (b',cap',_) ⟨q1,q2,q3,q4,k1,k2⟩
    simp only at hres
    rw [← q5] at hres
    rw [List.append_assoc] at hres
    generalize full.take init.length++(zs++List.replicate (cap' - (init.length+zs.length)) [dint 0,DV.sl []])=fl at *
    refine t_b ?_
    refine z0e [] (j2 @hlb (j2 @hlb' (j2 @i7 (j2 @i8 (j2 @i7' (j2 @i8' (j2 @hb' (j2 @k1 (j2 @k2 (j2 @k3 @z8z)))))))))) hres
  ·rintro ⟨b',cap',full'⟩ ⟨w1,w2,w3,w4,w5,w6⟩
   simp only at w1 w2 w3 w4 w5 w6 ⊢
   have w5':¬ lp=b':=fun e=>w5 e.symm
   have w6':¬ b0=b':=fun e=>w6 e.symm
   have w7:∀ x ∈ init++a.parts,x.plain:=by
    intro x hx
    rcases List.mem_append.1 hx with hx|hx
    ·exact i5 x (by simp [hx])
    ·exact z19c a ha x hx
   have w8:sizes (init++a.parts)≤1000000:=by omega
   have w9:sizes (init++a.parts)<sizes (init++[a]):=by omega
   have hres:=ih (b',cap',full',init++a.parts) ⟨w1,w2,w3,w4,w7,w8,w5,w6⟩ w9
   simp only at hres
   generalize hnn:(init++a.parts).length=nn at *
   refine t_a ?_
   first|refine z05 [] fun K hK=>?_|refine z09 (by rw [hP];exact z08) [] fun K hK=>?_
   refine t_s (j2 @hlb (j2 @hlb' (j2 @w5 (j2 @w6 (j2 @w5' (j2 @w6' @hfo)))))) ?_
   repeat (refine ⟨by omega,?_⟩)
   refine zci (by simp [go_sem]) hP hgl (hY a ha) hps (by simp [go_sem,hlb,hlb',w5,w6,w5',w6',hfo]) rfl (by simp [objsIn]) (by simp) (by simp [go_sem,hlb,hlb',w5,w6,w5',w6']) (by rw [hn];exact Nat.le_of_ble_eq_true rfl) [(.slot 0,.one (.v (.prim (.func (.yield lp) #[] #[])))),(.slot 1,.one (.v (ptr b0))),(.slot 3,.one (.v (rawS b' nn cap'))),(.heap b0,.row [.v (dint a0.ty.kind),.v (.sl (a0.ty.args.map Ty.cells))]),(.heap b',.row (arrRow full'))] ?_ ?_ ?_
   ·intro m v h
    simp only [List.mem_cons,List.not_mem_nil,or_false,Prod.mk.injEq] at h
    rcases h with ⟨rfl,rfl⟩|⟨rfl,rfl⟩|⟨rfl,rfl⟩|⟨rfl,rfl⟩|⟨rfl,rfl⟩ <;> simp [go_sem,hlb,hlb',w5,w6,w5',w6']
   ·rintro _ _ _ ⟨rfl,rfl,rfl⟩
    simp
   ·rintro _ _ _ ⟨rfl,rfl,rfl⟩ -
    simp only [List.cons_append,List.nil_append]
    simp [go_sem,hP,hgl,hn]
    refine t_e ?_
    clear hK K
    refine t_no ?_
    refine t_b ?_
    refine z0e [] (j2 @hlb (j2 @hlb' (j2 @w5 (j2 @w6 (j2 @w5' (j2 @w6' @z8z)))))) hres
theorem z19j (a:T):Con Tryz.prog gl 104 [a.ty.dv] [] fun r φ=>∃ b,r = .prim (.func (.func 135) #[] #[.pointer (some ⟨b,0,none⟩)])∧φ=[(b,a.ty.cells)]:=by
 have hc0:=Ty.cells_eq a.ty
 refine t_in Tryz.func104 ?_
 intro X hP hgl hf hfn hn hR hids hfit
 refine z00 ?_
 refine z2w 1 (by simp [go_sem];rfl) ?_
 intro b hb
 simp [go_sem]
 refine z00 ?_
 refine t_a ?_
 refine z0k hP hf hfn (.prim (.func (.func 135) #[] #[.pointer (some ⟨b,0,none⟩)])) [(b,a.ty.cells)] (by simp [go_sem,hP,hgl,hn]) (by simp [go_sem,hc0]) (by simp) (by rw [hR.1];exact ⟨b,rfl,rfl⟩) hR.2
set_option maxHeartbeats 1000000 in
theorem zdo (a:T)(hp:a.plain)(ho:a.ok):Con1 Tryz.prog gl 57 [a.ty.dv] [] (.tup [dbool true,dint 0]) []:=by
 have hs:a.size≤64:=ho
 have hc:=T.ty_count a
 have h0:a.ty.checkN=0:=(Ty.checkN_iff _).2 (T.ok_ty ho)
 have wc:=z74 (gl:=gl) a.ty (by omega)
 rw [h0] at wc
 have fa:=Ty.fold a.ty
 have hc0:=Ty.cells_eq a.ty
 refine t_in Tryz.func57 ?_
 intro X hP hgl hf hfn hn hR hids hfit
 refine t_g0 ?_
 refine t_c1 @fa wc ?_
 refine t_g0 ?_
 refine t_a ?_
 first|refine z05 [] fun K hK=>?_|refine z09 (by rw [hP];exact z08) [] fun K hK=>?_
 refine t_s0 ?_
 repeat (refine ⟨by omega,?_⟩)
 refine z7u hP hgl (z19j a) (by simp [go_sem]) rfl (by simp [go_sem]) (by simp) (by rw [hn];exact Nat.le_of_ble_eq_true rfl) ?_
 rintro r ψ ⟨b0,rfl,rfl⟩ -
 simp [go_sem]
 refine t_e ?_
 clear hK K
 refine t_a ?_
 refine zch hR.2 (f:=135) (fi:=#[]) (ca:=#[.pointer (some ⟨b0,0,none⟩)]) (by simp [go_sem]) (by simp [primOK]) (φ:=[(b0,a.ty.cells)]) ?_ ?_ (Y:=fun lp r D0 w0=>∀ x:T,x.plain→YC X.P X.gl D0 w0 lp r [x.ty.dv] [] fun b φ' r'=>b=true∧φ' = []∧r' = r) (R:=fun φ' r'=>φ' = [(b0,a.ty.cells)]∧r'.state = .ready∧r'.pending=none) (SL:=[]) ?_ ?_ ?_ ?_ ?_
 ·exact z0v (by simp [go_sem,hc0]) (by simp [objsIn])
 ·simp
 ·intro n x h
  cases h
 ·intro lp r h1 h2 h3 h4
  have:=z19i (gl:=gl) a hp (by omega) b0 lp r (by rw [h3];rfl)
  rw [hP,hgl]
  refine ⟨this.1,fun D w vs a1 a2 a3 a4 a5 a6=>(this.2 D w vs a1 a2 a3 a4 a5 a6).mono ?_⟩
  rintro e w' ⟨v1,D',φ',r',rfl,hR',rest⟩
  refine ⟨v1,D',φ',r',rfl,?_,rest⟩
  obtain ⟨rfl,rfl⟩:=hR'
  exact ⟨rfl,h1,h2⟩
 ·intro lp r D0 w0 h1 h2 h3 h4 h5 h6 h7 h8 h9 x hx
  rw [hP,hgl]
  refine zcg X.n h5 h9 h1 (by rw [h3];rfl) (by rw [h3,hn];decide) (by rw [h3];decide) (by rw [h3];simp) ?_
  intro X' hP' hgl' hf' hn' hmd' hids' hl' hfit'
  rw [h3,h6,h7]
  rw [hn] at hn'
  clear hP hgl hn
  have hP:=hP'
  have hgl:=hgl'
  have hn:=hn'
  have hk:=z19f x hx
  have fx:=Ty.fold x.ty
  simp only [entryR,h3,parSt,slotSt,heapSt,List.cons_append,List.nil_append,List.map_nil]
  refine z00 ?_
  refine za7 (r:=r) (l:=lp) (by simp [Ctx.rd,hmd']) (by simp [go_sem]) h1 ?_
  simp [go_sem]
  refine z00 ?_
  refine t_a ?_
  refine z0f rfl ?_ ?_
  ·intro h;exact absurd (by simpa using h) hk
  intro _
  refine t_a ?_
  refine z7m hmd' (φ:=[]) (by simp [objsIn]) (by simp) (by simp [go_sem]) none rfl ?_
  simp only [Option.isNone_none,true_and]
  cases r
  simp only [pastL] at h1 h2 ⊢
  subst h1 h2
  rfl
 ·rintro φ' r' ⟨-,h,-⟩
  rw [h];simp
 ·rintro φ' r' ⟨rfl,-,h⟩ -
  rw [h]
  simp [go_sem]
  refine z00 ?_
  refine t_r ?_
  simp [go_sem,hP,hgl,hn] <;> (try omega)
end
section
abbrev Rn:=Option (MV × Int × Bool)
abbrev Ev6:=Tm→List MV→Int→Rn
def zeroM:MV:=.num 0
def callRun (ev:Ev6)(f x:MV)(u:Int):Rn:=
 match f with
 | .clo b e=>ev b (x::e) u
 | _=>none
def recRun (ev:Ev6)(f:MV):Nat→Nat→MV→Int→Rn
 | 0,_,r,u=>some (r,u,false)
 | n+1,k,r,u=>match callRun ev f (.num k) u with
  | none=>none
  | some (_,u1,true)=>some (r,u1,true)
  | some (g,u1,false)=>match callRun ev g r u1 with
   | none=>none
   | some (r',u2,true)=>some (r',u2,true)
   | some (r',u2,false)=>recRun ev f n (k+1) r' u2
def foldRun (ev:Ev6)(f:MV):List Nat→List Nat→MV→Int→Rn
 | [],_,r,u=>some (r,u,false)
 | x::l,rest,r,u=>match callRun ev f (.num x) u with
  | none=>none
  | some (_,u1,true)=>some (r,u1,true)
  | some (g,u1,false)=>match callRun ev g (.list rest) u1 with
   | none=>none
   | some (_,u2,true)=>some (r,u2,true)
   | some (g2,u2,false)=>match callRun ev g2 r u2 with
    | none=>none
    | some (r',u3,true)=>some (r',u3,true)
    | some (r',u3,false)=>foldRun ev f l (x::rest) r' u3
def allRun (ev:Ev6):List Tm→List MV→Int→Option (List MV × Int × Bool)
 | [],_,u=>some ([],u,false)
 | t::r,e,u=>match ev t e u with
  | none=>none
  | some (_,u1,true)=>some ([],u1,true)
  | some (v,u1,false)=>match allRun ev r e u1 with
   | none=>none
   | some (l,u2,o)=>some (v::l,u2,o)
def nodeRun (ev:Ev6)(k:Int)(l:List MV)(u:Int):Rn:=
 if k=3 then match l with
  | [f,x]=>callRun ev f x u
  | _=>none
 else if k=4 then some (.num 0,u,false)
 else if k=5 then match l with
  | [.num n]=>some (.num (n+1),u,false)
  | _=>none
 else if k=6 then match l with
  | [b,f,.num n]=>recRun ev f n 0 b u
  | _=>none
 else if k=7 then some (.list [],u,false)
 else if k=8 then match l with
  | [.num n,.list r]=>some (.list (n::r),u,false)
  | _=>none
 else if k=9 then match l with
  | [b,f,.list r]=>foldRun ev f r.reverse [] b u
  | _=>none
 else if k=10 then match l with
  | [a,b]=>some (.both a b,u,false)
  | _=>none
 else if k=11 then match l with
  | [.both a _]=>some (a,u,false)
  | _=>none
 else if k=12 then match l with
  | [.both _ b]=>some (b,u,false)
  | _=>none
 else some (.unit,u,false)
def ev6 (most:Int):Nat→Ev6
 | 0,_,_,_=>none
 | d+1,t,e,u=>
  if u=most then some (zeroM,u,true)
  else if t.kind=1 then if 0≤t.index then match e[t.index.toNat]? with
   | some v=>some (v,u+1,false)
   | none=>none
   else none
  else if t.kind=2 then match t.args with
   | b::_=>some (.clo b e,u+1,false)
   | []=>none
  else match allRun (ev6 most d) t.args e (u+1) with
   | none=>none
   | some (_,u1,true)=>some (zeroM,u1,true)
   | some (l,u1,false)=>nodeRun (ev6 most d) t.kind l u1
end
section
mutual
inductive MVT:(a:T)→MV→a.V→Prop
 | num (n:Nat):MVT .nat (.num n) n
 | list (l:List Nat):MVT .list (.list l) l
 | unit:MVT .unit .unit ()
 | both {a b:T} {x y:MV} {X:a.V} {Y:b.V} (hx:MVT a x X) (hy:MVT b y Y):MVT (.pair a b) (.both x y) (X,Y)
 | clo {Γ:List T} {a r:T} {b:Tm} {f:Env (a::Γ)→r.V} {e:List MV} {ρ:Env Γ} (he:MVE Γ e ρ) (hb:Dn (a::Γ) b r f):MVT (.fn a r) (.clo b e) (fun x=>f (x,ρ))
inductive MVE:(Γ:List T)→List MV→Env Γ→Prop
 | nil:MVE [] [] ()
 | cons {Γ:List T} {a:T} {x:MV} {X:a.V} {e:List MV} {ρ:Env Γ} (h:MVT a x X) (k:MVE Γ e ρ):MVE (a::Γ) (x::e) (X,ρ)
end
theorem MVE.get {Γ:List T}{i:Nat}{a:T}{p:Env Γ→a.V}(h:At Γ i a p):∀ {e:List MV} {ρ:Env Γ},MVE Γ e ρ→∃ x,e[i]? = some x∧MVT a x (p ρ):=by
 induction h with
 | zero=>intro e ρ he;cases he with|cons h k=>exact ⟨_,rfl,h⟩
 | succ h ih=>intro e ρ he;cases he with|cons h k=>obtain ⟨x,e1,e2⟩:=ih k;exact ⟨x,by simpa using e1,e2⟩
theorem zbb {v:MV}{n:Nat}(h:MVT .nat v n):v = .num n:=by cases h;rfl
theorem zdp {v:MV}{l:List Nat}(h:MVT .list v l):v = .list l:=by cases h;rfl
theorem zdq {a b:T}{v:MV}{p:(T.pair a b).V}(h:MVT (.pair a b) v p):∃ x y,v = .both x y∧MVT a x p.1∧MVT b y p.2:=by
 cases h with|both hx hy=>exact ⟨_,_,rfl,hx,hy⟩
theorem z19k {a b:T}{v:MV}{f:(T.fn a b).V}(h:MVT (.fn a b) v f):∃ (Γ:List T) (t:Tm) (e:List MV) (ρ:Env Γ) (g:Env (a::Γ)→b.V),v = .clo t e∧MVE Γ e ρ∧Dn (a::Γ) t b g∧f=fun x=>g (x,ρ):=by
 cases h with|clo he hb=>exact ⟨_,_,_,_,_,rfl,he,hb,rfl⟩
def Out (most:Int)(P:MV→Prop)(u:Int)(r:Rn):Prop:=∃ v u' o,r=some (v,u',o)∧u≤u'∧u'≤most∧(o=false→P v)
theorem Out.mono {most u u0:Int}{P Q:MV→Prop}{r:Rn}(h:Out most P u r)(hu:u0≤u)(hq:∀ v,P v→Q v):Out most Q u0 r:=by
 obtain ⟨v,u',o,h1,h2,h3,h4⟩:=h
 exact ⟨v,u',o,h1,by omega,h3,fun h=>hq v (h4 h)⟩
def Evs (most:Int)(d:Nat)(ev:Ev6):Prop:=∀ ⦃Γ:List T⦄ ⦃t:Tm⦄ ⦃a:T⦄ ⦃F:Env Γ→a.V⦄ ⦃e:List MV⦄ ⦃ρ:Env Γ⦄ ⦃u:Int⦄,Dn Γ t a F→MVE Γ e ρ→u≤most→most - u<d→Out most (fun v=>MVT a v (F ρ)) u (ev t e u)
theorem z5u {most:Int}{d:Nat}{ev:Ev6}(H:Evs most d ev){a b:T}{f x:MV}{F:(T.fn a b).V}{X:a.V}(hf:MVT (.fn a b) f F)(hx:MVT a x X){u:Int}(hu:u≤most)(hd:most - u<d) :
  Out most (fun v=>MVT b v (F X)) u (callRun ev f x u):=by
 obtain ⟨Γ,t,e,ρ,g,rfl,he,hb,rfl⟩:=z19k hf
 exact H hb (.cons hx he) hu hd
theorem zjg {most:Int}{d:Nat}{ev:Ev6}(H:Evs most d ev){a:T}{f:MV}{F:(T.fn .nat (.fn a a)).V}(hf:MVT (.fn .nat (.fn a a)) f F):∀ (n k:Nat) {r:MV} {R:a.V} {u:Int},MVT a r R→u≤most→most - u<d →
  Out most (fun v=>MVT a v ((List.range' k n).foldl (fun r i=>F i r) R)) u (recRun ev f n k r u)
 | 0,k,r,R,u,hr,hu,hd=>⟨r,u,false,rfl,by omega,hu,fun _=>hr⟩
 | n+1,k,r,R,u,hr,hu,hd=>by
  obtain ⟨g,u1,o1,h1,l1,m1,q1⟩:=z5u H hf (.num k) hu hd
  cases o1 with
  | true=>exact ⟨r,u1,true,by rw [recRun,h1],l1,m1,fun h=>by cases h⟩
  | false=>
   obtain ⟨r',u2,o2,h2,l2,m2,q2⟩:=z5u H (q1 rfl) hr m1 (by omega)
   cases o2 with
   | true=>exact ⟨r',u2,true,by rw [recRun,h1];simp only [h2],by omega,m2,fun h=>by cases h⟩
   | false=>
    have:=zjg H hf n (k+1) (q2 rfl) m2 (by omega)
    have e:recRun ev f (n+1) k r u=recRun ev f n (k+1) r' u2:=by rw [recRun,h1];simp only [h2]
    rw [e]
    exact this.mono (by omega) fun v h=>h
theorem zjh {most:Int}{d:Nat}{ev:Ev6}(H:Evs most d ev){a:T}{f:MV}{F:(T.fn .nat (.fn .list (.fn a a))).V}(hf:MVT (.fn .nat (.fn .list (.fn a a))) f F)(B:a.V):∀ (l rest:List Nat) {r:MV} {u:Int},MVT a r (listRec B F rest)→u≤most→most - u<d →
  Out most (fun v=>MVT a v (listRec B F (l.reverse++rest))) u (foldRun ev f l rest r u)
 | [],rest,r,u,hr,hu,hd=>⟨r,u,false,rfl,by omega,hu,fun _=>hr⟩
 | x::l,rest,r,u,hr,hu,hd=>by
  obtain ⟨g,u1,o1,h1,l1,m1,q1⟩:=z5u H hf (.num x) hu hd
  cases o1 with
  | true=>exact ⟨r,u1,true,by rw [foldRun,h1],l1,m1,fun h=>by cases h⟩
  | false=>
   obtain ⟨g2,u2,o2,h2,l2,m2,q2⟩:=z5u H (q1 rfl) (.list rest) m1 (by omega)
   cases o2 with
   | true=>exact ⟨r,u2,true,by rw [foldRun,h1];simp only [h2],by omega,m2,fun h=>by cases h⟩
   | false=>
    obtain ⟨r',u3,o3,h3,l3,m3,q3⟩:=z5u H (q2 rfl) hr m2 (by omega)
    cases o3 with
    | true=>exact ⟨r',u3,true,by rw [foldRun,h1];simp only [h2,h3],by omega,m3,fun h=>by cases h⟩
    | false=>
     have:=zjh H hf B l (x::rest) (r:=r') (q3 rfl) m3 (by omega)
     have e:foldRun ev f (x::l) rest r u=foldRun ev f l (x::rest) r' u3:=by rw [foldRun,h1];simp only [h2,h3]
     rw [e]
     refine this.mono (by omega) fun v h=>?_
     simpa using h
def Fits2:List MV→List (MV→Prop)→Prop
 | [],[]=>True
 | v::l,P::r=>P v∧Fits2 l r
 | _,_=>False
theorem zji {most:Int}{ev:Ev6}{d:Nat}{e:List MV}:∀ (l:List Tm) (Ps:List (MV→Prop)),l.length=Ps.length→(∀ (i:Nat) (t:Tm) (P:MV→Prop),l[i]? = some t→Ps[i]? = some P→∀ u:Int,u≤most→most - u<d→Out most P u (ev t e u))→∀ {u:Int},u≤most→most - u<d →
  ∃ vs u' o,allRun ev l e u=some (vs,u',o)∧u≤u'∧u'≤most∧(o=false→Fits2 vs Ps)
 | [],[],_,_,u,hu,hd=>⟨[],u,false,rfl,by omega,hu,fun _=>trivial⟩
 | [],_::_,hl,_,_,_,_=>by cases hl
 | _::_,[],hl,_,_,_,_=>by cases hl
 | t::l,P::Ps,hl,h,u,hu,hd=>by
  obtain ⟨v,u1,o1,h1,l1,m1,q1⟩:=h 0 t P rfl rfl u hu hd
  cases o1 with
  | true=>exact ⟨[],u1,true,by rw [allRun,h1],l1,m1,fun h=>by cases h⟩
  | false=>
   obtain ⟨vs,u2,o2,h2,l2,m2,q2⟩:=zji l Ps (by simpa using hl) (fun i t P ht hP=>h (i+1) t P (by simpa using ht) (by simpa using hP)) m1 (by omega)
   exact ⟨v::vs,u2,o2,by rw [allRun,h1];simp only [h2],by omega,m2,fun h=>⟨q1 rfl,q2 h⟩⟩
theorem z3t {most:Int}{d:Nat}{t:Tm}{e:List MV}{u:Int}(h1:t.kind ≠ 1)(h2:t.kind ≠ 2)(hu:u≤most)(Ps:List (MV→Prop))(hl:t.args.length=Ps.length){Q:MV→Prop}(hd:most - u<(d+1:Nat))
  (h:∀ (i:Nat) (x:Tm) (P:MV→Prop),t.args[i]? = some x→Ps[i]? = some P→∀ u:Int,u≤most→most - u<d→Out most P u (ev6 most d x e u))
  (hn:∀ l u,Fits2 l Ps→u≤most→most - u<d→Out most Q u (nodeRun (ev6 most d) t.kind l u)):Out most Q u (ev6 most (d+1) t e u):=by
 rw [ev6]
 by_cases hum:u=most
 ·rw [if_pos hum];exact ⟨_,_,_,rfl,by omega,hu,fun h=>by cases h⟩
 rw [if_neg hum,if_neg h1,if_neg h2]
 obtain ⟨vs,u1,o,e1,l1,m1,q1⟩:=zji (ev:=ev6 most d) (e:=e) (d:=d) t.args Ps hl h (u:=u+1) (by omega) (by omega)
 rw [e1]
 cases o with
 | true=>exact ⟨_,_,_,rfl,by omega,m1,fun h=>by cases h⟩
 | false=>exact (hn vs u1 (q1 rfl) m1 (by omega)).mono (by omega) fun _ h=>h
theorem zdr {l:List MV}{P:MV→Prop}(h:Fits2 l [P]):∃ x,l=[x]∧P x:=by
 match l,h with
 | [x],h=>exact ⟨x,rfl,h.1⟩
theorem zds {l:List MV}{P Q:MV→Prop}(h:Fits2 l [P,Q]):∃ x y,l=[x,y]∧P x∧Q y:=by
 match l,h with
 | [x,y],h=>exact ⟨x,y,rfl,h.1,h.2.1⟩
theorem zjj {l:List MV}{P Q R:MV→Prop}(h:Fits2 l [P,Q,R]):∃ x y z,l=[x,y,z]∧P x∧Q y∧R z:=by
 match l,h with
 | [x,y,z],h=>exact ⟨x,y,z,rfl,h.1,h.2.1,h.2.2.1⟩
theorem zdt {l:List MV}(h:Fits2 l []):l=[]:=by
 match l,h with
 | [],_=>rfl
theorem at1 {x:Tm}{P:MV→Prop}{S:Tm→(MV→Prop)→Prop}(h:S x P):∀ (i:Nat) (y:Tm) (Q:MV→Prop),([x]:List Tm)[i]? = some y→([P]:List (MV→Prop))[i]? = some Q→S y Q:=by
 intro i y Q h1 h2
 match i with
 | 0=>simp at h1 h2;subst h1;subst h2;exact h
 | i+1=>simp at h1
theorem at2 {x y:Tm}{P Q:MV→Prop}{S:Tm→(MV→Prop)→Prop}(h:S x P)(k:S y Q):∀ (i:Nat) (z:Tm) (R:MV→Prop),([x,y]:List Tm)[i]? = some z→([P,Q]:List (MV→Prop))[i]? = some R→S z R:=by
 intro i z R h1 h2
 match i with
 | 0=>simp at h1 h2;subst h1;subst h2;exact h
 | 1=>simp at h1 h2;subst h1;subst h2;exact k
 | i+2=>simp at h1
theorem atM3 {x y w:Tm}{P Q P':MV→Prop}{S:Tm→(MV→Prop)→Prop}(h:S x P)(k:S y Q)(j:S w P'):∀ (i:Nat) (z:Tm) (R:MV→Prop),([x,y,w]:List Tm)[i]? = some z→([P,Q,P']:List (MV→Prop))[i]? = some R→S z R:=by
 intro i z R h1 h2
 match i with
 | 0=>simp at h1 h2;subst h1;subst h2;exact h
 | 1=>simp at h1 h2;subst h1;subst h2;exact k
 | 2=>simp at h1 h2;subst h1;subst h2;exact j
 | i+3=>simp at h1
theorem z52 {most u:Int}{P:MV→Prop}{v:MV}(hu:u≤most)(h:P v):Out most P u (some (v,u,false)):=⟨v,u,false,rfl,by omega,hu,fun _=>h⟩
theorem zdu (most:Int):∀ d:Nat,Evs most d (ev6 most d)
 | 0=>fun Γ t a F e ρ u h he hu hd=>absurd hd (by omega)
 | d+1=>fun Γ t a F e ρ u h he hu hd=>by
  have H:=@zdu most d
  cases h with
  | var h=>
   obtain ⟨x,e1,e2⟩:=MVE.get h he
   rw [ev6]
   by_cases hum:u=most
   ·rw [if_pos hum];exact ⟨_,_,_,rfl,by omega,hu,fun h=>by cases h⟩
   rw [if_neg hum,if_pos (show (vT _).kind=1 from rfl),if_pos (show 0≤(vT (↑(_:Nat))).index from Int.natCast_nonneg _)]
   have:e[(vT (↑(_:Nat))).index.toNat]? = some x:=e1
   rw [this]
   exact ⟨x,u+1,false,rfl,by omega,by omega,fun _=>e2⟩
  | lam ha hb=>
   rw [ev6]
   by_cases hum:u=most
   ·rw [if_pos hum];exact ⟨_,_,_,rfl,by omega,hu,fun h=>by cases h⟩
   rw [if_neg hum,if_neg (by simp [lamT,Tm.kind]),if_pos (show (lamT _ _).kind=2 from rfl)]
   exact ⟨_,u+1,false,rfl,by omega,by omega,fun _=>.clo he hb⟩
  | app hf hx=>
   refine z3t (by simp [nT,Tm.kind]) (by simp [nT,Tm.kind]) hu [_,_] rfl hd (at2 (S:=fun x P=>∀ u:Int,u≤most→most - u<d→Out most P u (ev6 most d x e u)) (fun u hu hd=>H hf he hu hd) (fun u hu hd=>H hx he hu hd)) fun l u hl hu hd=>?_
   obtain ⟨f,x,rfl,h1,h2⟩:=zds hl
   exact z5u H h1 h2 hu hd
  | zero=>
   refine z3t (by simp [nT,Tm.kind]) (by simp [nT,Tm.kind]) hu [] rfl hd (by intro i x P h;simp [nT,Tm.args] at h) fun l u hl hu hd=>?_
   obtain rfl:=zdt hl
   exact z52 hu (.num 0)
  | succ hx=>
   refine z3t (by simp [nT,Tm.kind]) (by simp [nT,Tm.kind]) hu [_] rfl hd (at1 (S:=fun x P=>∀ u:Int,u≤most→most - u<d→Out most P u (ev6 most d x e u)) (fun u hu hd=>H hx he hu hd)) fun l u hl hu hd=>?_
   obtain ⟨x,rfl,h1⟩:=zdr hl
   obtain rfl:=zbb h1
   exact z52 hu (.num _)
  | rc ha hb hf hn=>
   refine z3t (by simp [Tm.kind]) (by simp [Tm.kind]) hu [_,_,_] rfl hd (atM3 (S:=fun x P=>∀ u:Int,u≤most→most - u<d→Out most P u (ev6 most d x e u)) (fun u hu hd=>H hb he hu hd) (fun u hu hd=>H hf he hu hd) (fun u hu hd=>H hn he hu hd)) fun l u hl hu hd=>?_
   obtain ⟨b,f,n,rfl,h1,h2,h3⟩:=zjj hl
   obtain rfl:=zbb h3
   refine (zjg H h2 _ 0 h1 hu hd).mono (by omega) fun v hv=>?_
   exact Eq.mpr (congrArg (MVT _ v) (zb6 _ _ _)) hv
  | nil=>
   refine z3t (by simp [nT,Tm.kind]) (by simp [nT,Tm.kind]) hu [] rfl hd (by intro i x P h;simp [nT,Tm.args] at h) fun l u hl hu hd=>?_
   obtain rfl:=zdt hl
   exact z52 hu (.list [])
  | cons hx hl=>
   refine z3t (by simp [nT,Tm.kind]) (by simp [nT,Tm.kind]) hu [_,_] rfl hd (at2 (S:=fun x P=>∀ u:Int,u≤most→most - u<d→Out most P u (ev6 most d x e u)) (fun u hu hd=>H hx he hu hd) (fun u hu hd=>H hl he hu hd)) fun l u hl hu hd=>?_
   obtain ⟨f,x,rfl,h1,h2⟩:=zds hl
   obtain rfl:=zbb h1
   obtain rfl:=zdp h2
   exact z52 hu (.list _)
  | fold ha hb hf hn=>
   refine z3t (by simp [Tm.kind]) (by simp [Tm.kind]) hu [_,_,_] rfl hd (atM3 (S:=fun x P=>∀ u:Int,u≤most→most - u<d→Out most P u (ev6 most d x e u)) (fun u hu hd=>H hb he hu hd) (fun u hu hd=>H hf he hu hd) (fun u hu hd=>H hn he hu hd)) fun l u hl hu hd=>?_
   obtain ⟨b,f,n,rfl,h1,h2,h3⟩:=zjj hl
   obtain rfl:=zdp h3
   have key:=fun L:List Nat=>zjh H h2 _ L.reverse [] h1 hu hd
   simp only [List.reverse_reverse,List.append_nil] at key
   exact key _
  | pair hx hy=>
   refine z3t (by simp [nT,Tm.kind]) (by simp [nT,Tm.kind]) hu [_,_] rfl hd (at2 (S:=fun x P=>∀ u:Int,u≤most→most - u<d→Out most P u (ev6 most d x e u)) (fun u hu hd=>H hx he hu hd) (fun u hu hd=>H hy he hu hd)) fun l u hl hu hd=>?_
   obtain ⟨f,x,rfl,h1,h2⟩:=zds hl
   exact z52 hu (.both h1 h2)
  | fst hx=>
   refine z3t (by simp [nT,Tm.kind]) (by simp [nT,Tm.kind]) hu [_] rfl hd (at1 (S:=fun x P=>∀ u:Int,u≤most→most - u<d→Out most P u (ev6 most d x e u)) (fun u hu hd=>H hx he hu hd)) fun l u hl hu hd=>?_
   obtain ⟨x,rfl,h1⟩:=zdr hl
   obtain ⟨p,q,rfl,h2,h3⟩:=zdq h1
   exact z52 hu h2
  | snd hx=>
   refine z3t (by simp [nT,Tm.kind]) (by simp [nT,Tm.kind]) hu [_] rfl hd (at1 (S:=fun x P=>∀ u:Int,u≤most→most - u<d→Out most P u (ev6 most d x e u)) (fun u hu hd=>H hx he hu hd)) fun l u hl hu hd=>?_
   obtain ⟨x,rfl,h1⟩:=zdr hl
   obtain ⟨p,q,rfl,h2,h3⟩:=zdq h1
   exact z52 hu h3
  | unit=>
   refine z3t (by simp [nT,Tm.kind]) (by simp [nT,Tm.kind]) hu [] rfl hd (by intro i x P h;simp [nT,Tm.args] at h) fun l u hl hu hd=>?_
   obtain rfl:=zdt hl
   exact z52 hu .unit
end
section
mutual
def MV.le (n:Int):MV→Prop
 | .num k=>(k:Int)≤n
 | .list l=>(l.length:Int)≤n∧∀ x ∈ l,(x:Int)≤n
 | .both a b=>MV.le n a∧MV.le n b
 | .unit=>True
 | .clo _ e=>(e.length:Int)≤n∧MV.les n e
def MV.les (n:Int):List MV→Prop
 | []=>True
 | x::r=>MV.le n x∧MV.les n r
end
theorem MV.les_iff {n:Int}:∀ {l:List MV},MV.les n l↔∀ x ∈ l,x.le n
 | []=>by simp [MV.les]
 | x::r=>by simp [MV.les,MV.les_iff (l:=r)]
mutual
theorem MV.le_mono {n m:Int}(h:n≤m):∀ {v:MV},v.le n→v.le m
 | .num k,hv=>by simp only [MV.le] at hv ⊢;omega
 | .list l,hv=>by
  simp only [MV.le] at hv ⊢
  exact ⟨by omega,fun x hx=>by have:=hv.2 x hx;omega⟩
 | .both a b,hv=>by
  simp only [MV.le] at hv ⊢
  exact ⟨MV.le_mono h hv.1,MV.le_mono h hv.2⟩
 | .unit,_=>by simp only [MV.le]
 | .clo b e,hv=>by
  simp only [MV.le] at hv ⊢
  exact ⟨by omega,MV.les_mono h hv.2⟩
theorem MV.les_mono {n m:Int}(h:n≤m):∀ {l:List MV},MV.les n l→MV.les m l
 | [],_=>by simp only [MV.les]
 | x::r,hv=>by
  simp only [MV.les] at hv ⊢
  exact ⟨MV.le_mono h hv.1,MV.les_mono h hv.2⟩
end
def Bds (most:Int)(ev:Ev6):Prop:=∀ ⦃t:Tm⦄ ⦃e:List MV⦄ ⦃u M:Int⦄ ⦃v:MV⦄ ⦃u':Int⦄ ⦃o:Bool⦄,ev t e u=some (v,u',o)→u≤most→0≤M→MV.les M e→(e.length:Int)≤M+1→u≤u'∧u'≤most∧v.le (M+(u' - u))
theorem z1h {most:Int}{ev:Ev6}(H:Bds most ev){f x:MV}{u M:Int}{v:MV}{u':Int}{o:Bool}(h:callRun ev f x u=some (v,u',o))(hu:u≤most)(hM:0≤M)(hf:f.le M)(hx:x.le M):u≤u'∧u'≤most∧v.le (M+(u' - u)):=by
 cases f with
 | clo b e=>
  simp only [MV.le] at hf
  exact H h hu hM (by simp only [MV.les];exact ⟨hx,hf.2⟩) (by simp only [List.length_cons];omega)
 | num n=>cases h
 | list l=>cases h
 | both a b=>cases h
 | unit=>cases h
theorem zjk {most:Int}{ev:Ev6}(H:Bds most ev){f:MV}:∀ (n k:Nat) {r:MV} {u M:Int} {v:MV} {u':Int} {o:Bool},recRun ev f n k r u=some (v,u',o)→u≤most→0≤M→f.le M→r.le M→((n:Int)+k≤M)→u≤u'∧u'≤most∧v.le (M+(u' - u))
 | 0,k,r,u,M,v,u',o,h,hu,hM,hf,hr,hk=>by
  simp only [recRun,Option.some.injEq,Prod.mk.injEq] at h
  obtain ⟨rfl,rfl,rfl⟩:=h
  exact ⟨by omega,by omega,MV.le_mono (by omega) hr⟩
 | n+1,k,r,u,M,v,u',o,h,hu,hM,hf,hr,hk=>by
  simp only [recRun] at h
  split at h
  ·cases h
  ·rename_i u1 h1
   obtain ⟨l1,m1,b1⟩:=z1h H h1 hu hM hf (by simp only [MV.le];omega)
   simp only [Option.some.injEq,Prod.mk.injEq] at h
   obtain ⟨rfl,rfl,rfl⟩:=h
   exact ⟨l1,m1,MV.le_mono (by omega) hr⟩
  ·rename_i g u1 h1
   obtain ⟨l1,m1,b1⟩:=z1h H h1 hu hM hf (by simp only [MV.le];omega)
   split at h
   ·cases h
   ·rename_i r' u2 h2
    obtain ⟨l2,m2,b2⟩:=z1h H h2 m1 (by omega) b1 (MV.le_mono (by omega) hr)
    simp only [Option.some.injEq,Prod.mk.injEq] at h
    obtain ⟨rfl,rfl,rfl⟩:=h
    exact ⟨by omega,by omega,MV.le_mono (by omega) b2⟩
   ·rename_i r' u2 h2
    obtain ⟨l2,m2,b2⟩:=z1h H h2 m1 (by omega) b1 (MV.le_mono (by omega) hr)
    obtain ⟨l3,m3,b3⟩:=zjk H n (k+1) h m2 (M:=M+(u2 - u)) (by omega) (MV.le_mono (by omega) hf) (MV.le_mono (by omega) b2) (by omega)
    exact ⟨by omega,by omega,MV.le_mono (by omega) b3⟩
theorem zjl {most:Int}{ev:Ev6}(H:Bds most ev){f:MV}:∀ (l rest:List Nat) {r:MV} {u M:Int} {v:MV} {u':Int} {o:Bool},foldRun ev f l rest r u=some (v,u',o)→u≤most→0≤M→f.le M→r.le M→((l.length:Int)+rest.length≤M)→(∀ x ∈ l,(x:Int)≤M)→(∀ x ∈ rest,(x:Int)≤M)→u≤u'∧u'≤most∧v.le (M+(u' - u))
 | [],rest,r,u,M,v,u',o,h,hu,hM,hf,hr,hk,_,_=>by
  simp only [foldRun,Option.some.injEq,Prod.mk.injEq] at h
  obtain ⟨rfl,rfl,rfl⟩:=h
  exact ⟨by omega,by omega,MV.le_mono (by omega) hr⟩
 | x::l,rest,r,u,M,v,u',o,h,hu,hM,hf,hr,hk,hl,hrest=>by
  have hx:=hl x (by simp)
  have hlen:((x::l).length:Int)=l.length+1:=by simp
  simp only [foldRun] at h
  split at h
  ·cases h
  ·rename_i u1 h1
   obtain ⟨l1,m1,b1⟩:=z1h H h1 hu hM hf (by simp only [MV.le];omega)
   simp only [Option.some.injEq,Prod.mk.injEq] at h
   obtain ⟨rfl,rfl,rfl⟩:=h
   exact ⟨l1,m1,MV.le_mono (by omega) hr⟩
  ·rename_i g u1 h1
   obtain ⟨l1,m1,b1⟩:=z1h H h1 hu hM hf (by simp only [MV.le];omega)
   split at h
   ·cases h
   ·rename_i u2 h2
    obtain ⟨l2,m2,b2⟩:=z1h H h2 m1 (by omega) b1 (by simp only [MV.le];exact ⟨by omega,fun y hy=>by have:=hrest y hy;omega⟩)
    simp only [Option.some.injEq,Prod.mk.injEq] at h
    obtain ⟨rfl,rfl,rfl⟩:=h
    exact ⟨by omega,by omega,MV.le_mono (by omega) hr⟩
   ·rename_i g2 u2 h2
    obtain ⟨l2,m2,b2⟩:=z1h H h2 m1 (by omega) b1 (by simp only [MV.le];exact ⟨by omega,fun y hy=>by have:=hrest y hy;omega⟩)
    split at h
    ·cases h
    ·rename_i r' u3 h3
     obtain ⟨l3,m3,b3⟩:=z1h H h3 m2 (by omega) b2 (MV.le_mono (by omega) hr)
     simp only [Option.some.injEq,Prod.mk.injEq] at h
     obtain ⟨rfl,rfl,rfl⟩:=h
     exact ⟨by omega,by omega,MV.le_mono (by omega) b3⟩
    ·rename_i r' u3 h3
     obtain ⟨l3,m3,b3⟩:=z1h H h3 m2 (by omega) b2 (MV.le_mono (by omega) hr)
     obtain ⟨l4,m4,b4⟩:=zjl H l (x::rest) h m3 (M:=M+(u3 - u)) (by omega) (MV.le_mono (by omega) hf) (MV.le_mono (by omega) b3) (by simp only [List.length_cons];omega)
      (fun y hy=>by have:=hl y (by simp [hy]);omega) (fun y hy=>by rcases List.mem_cons.1 hy with rfl|hy;omega;have:=hrest y hy;omega)
     exact ⟨by omega,by omega,MV.le_mono (by omega) b4⟩
theorem z90 {most:Int}{ev:Ev6}(H:Bds most ev){e:List MV}:∀ (l:List Tm) {u M:Int} {vs:List MV} {u':Int} {o:Bool},allRun ev l e u=some (vs,u',o)→u≤most→0≤M→MV.les M e→(e.length:Int)≤M+1→u≤u'∧u'≤most∧MV.les (M+(u' - u)) vs
 | [],u,M,vs,u',o,h,hu,hM,he,hl=>by
  simp only [allRun,Option.some.injEq,Prod.mk.injEq] at h
  obtain ⟨rfl,rfl,rfl⟩:=h
  exact ⟨by omega,by omega,by simp only [MV.les]⟩
 | t::r,u,M,vs,u',o,h,hu,hM,he,hl=>by
  simp only [allRun] at h
  split at h
  ·cases h
  ·rename_i u1 h1
   obtain ⟨l1,m1,b1⟩:=H h1 hu hM he hl
   simp only [Option.some.injEq,Prod.mk.injEq] at h
   obtain ⟨rfl,rfl,rfl⟩:=h
   exact ⟨by omega,by omega,by simp only [MV.les]⟩
  ·rename_i v1 u1 h1
   obtain ⟨l1,m1,b1⟩:=H h1 hu hM he hl
   split at h
   ·cases h
   ·rename_i vs2 u2 o2 h2
    obtain ⟨l2,m2,b2⟩:=z90 H r h2 m1 (M:=M+(u1 - u)) (by omega) (MV.les_mono (by omega) he) (by omega)
    simp only [Option.some.injEq,Prod.mk.injEq] at h
    obtain ⟨rfl,rfl,rfl⟩:=h
    exact ⟨by omega,by omega,by simp only [MV.les];exact ⟨MV.le_mono (by omega) b1,MV.les_mono (by omega) b2⟩⟩
theorem z19l {most:Int}{ev:Ev6}(H:Bds most ev){k:Int}{l:List MV}{u M:Int}{v:MV}{u':Int}{o:Bool}(h:nodeRun ev k l u=some (v,u',o))(hu:u≤most)(hM:0≤M)(hl:MV.les M l):u≤u'∧u'≤most∧v.le (M+1+(u' - u)):=by
 unfold nodeRun at h
 split at h
 ·split at h
  ·simp only [MV.les] at hl
   obtain ⟨l1,m1,b1⟩:=z1h H h hu hM hl.1 hl.2.1
   exact ⟨l1,m1,MV.le_mono (by omega) b1⟩
  ·cases h
 split at h
 ·simp only [Option.some.injEq,Prod.mk.injEq] at h
  obtain ⟨rfl,rfl,rfl⟩:=h
  exact ⟨by omega,by omega,by simp only [MV.le];omega⟩
 split at h
 ·split at h
  ·simp only [MV.les,MV.le] at hl
   simp only [Option.some.injEq,Prod.mk.injEq] at h
   obtain ⟨rfl,rfl,rfl⟩:=h
   exact ⟨by omega,by omega,by simp only [MV.le];omega⟩
  ·cases h
 split at h
 ·split at h
  ·simp only [MV.les] at hl
   obtain ⟨a1,a2,a3,-⟩:=hl
   simp only [MV.le] at a3
   obtain ⟨l1,m1,b1⟩:=zjk H _ 0 h hu hM a2 a1 (by omega)
   exact ⟨l1,m1,MV.le_mono (by omega) b1⟩
  ·cases h
 split at h
 ·simp only [Option.some.injEq,Prod.mk.injEq] at h
  obtain ⟨rfl,rfl,rfl⟩:=h
  exact ⟨by omega,by omega,by simp only [MV.le];exact ⟨by simp only [List.length_nil];omega,fun x hx=>by cases hx⟩⟩
 split at h
 ·split at h
  ·simp only [MV.les,MV.le] at hl
   obtain ⟨a1,⟨a2,a3⟩,-⟩:=hl
   simp only [Option.some.injEq,Prod.mk.injEq] at h
   obtain ⟨rfl,rfl,rfl⟩:=h
   exact ⟨by omega,by omega,by simp only [MV.le];exact ⟨by simp only [List.length_cons];omega,fun x hx=>by rcases List.mem_cons.1 hx with rfl|hx;omega;have:=a3 x hx;omega⟩⟩
  ·cases h
 split at h
 ·split at h
  ·simp only [MV.les] at hl
   obtain ⟨a1,a2,a3,-⟩:=hl
   simp only [MV.le] at a3
   obtain ⟨l1,m1,b1⟩:=zjl H _ [] h hu hM a2 a1 (by simp only [List.length_reverse,List.length_nil];omega) (fun x hx=>a3.2 x (by simpa using hx)) (fun x hx=>by cases hx)
   exact ⟨l1,m1,MV.le_mono (by omega) b1⟩
  ·cases h
 split at h
 ·split at h
  ·simp only [MV.les] at hl
   simp only [Option.some.injEq,Prod.mk.injEq] at h
   obtain ⟨rfl,rfl,rfl⟩:=h
   exact ⟨by omega,by omega,by simp only [MV.le];exact ⟨MV.le_mono (by omega) hl.1,MV.le_mono (by omega) hl.2.1⟩⟩
  ·cases h
 split at h
 ·split at h
  ·simp only [MV.les,MV.le] at hl
   simp only [Option.some.injEq,Prod.mk.injEq] at h
   obtain ⟨rfl,rfl,rfl⟩:=h
   exact ⟨by omega,by omega,MV.le_mono (by omega) hl.1.1⟩
  ·cases h
 split at h
 ·split at h
  ·simp only [MV.les,MV.le] at hl
   simp only [Option.some.injEq,Prod.mk.injEq] at h
   obtain ⟨rfl,rfl,rfl⟩:=h
   exact ⟨by omega,by omega,MV.le_mono (by omega) hl.1.2⟩
  ·cases h
 ·simp only [Option.some.injEq,Prod.mk.injEq] at h
  obtain ⟨rfl,rfl,rfl⟩:=h
  exact ⟨by omega,by omega,by simp only [MV.le]⟩
theorem zdv (most:Int):∀ d:Nat,Bds most (ev6 most d)
 | 0=>fun t e u M v u' o h=>by cases h
 | d+1=>fun t e u M v u' o h hu hM he hl=>by
  have H:=@zdv most d
  rw [ev6] at h
  split at h
  ·simp only [Option.some.injEq,Prod.mk.injEq] at h
   obtain ⟨rfl,rfl,rfl⟩:=h
   exact ⟨by omega,by omega,by simp only [zeroM,MV.le];omega⟩
  split at h
  ·split at h
   ·split at h
    ·rename_i v1 hv
     simp only [Option.some.injEq,Prod.mk.injEq] at h
     obtain ⟨rfl,rfl,rfl⟩:=h
     exact ⟨by omega,by omega,MV.le_mono (by omega) (MV.les_iff.1 he _ (List.mem_of_getElem? hv))⟩
    ·cases h
   ·cases h
  split at h
  ·split at h
   ·simp only [Option.some.injEq,Prod.mk.injEq] at h
    obtain ⟨rfl,rfl,rfl⟩:=h
    exact ⟨by omega,by omega,by simp only [MV.le];exact ⟨by omega,MV.les_mono (by omega) he⟩⟩
   ·cases h
  split at h
  ·cases h
  ·rename_i u1 h1
   obtain ⟨l1,m1,b1⟩:=z90 H _ h1 (by omega) hM he hl
   simp only [Option.some.injEq,Prod.mk.injEq] at h
   obtain ⟨rfl,rfl,rfl⟩:=h
   exact ⟨by omega,by omega,by simp only [zeroM,MV.le];omega⟩
  ·rename_i vs u1 h1
   obtain ⟨l1,m1,b1⟩:=z90 H _ h1 (by omega) hM he hl
   obtain ⟨l2,m2,b2⟩:=z19l H h m1 (by omega) b1
   exact ⟨by omega,by omega,MV.le_mono (by omega) b2⟩
end
section
variable {gl:Globs}
mutual
def MV.cells:MV→List DV
 | .num n=>[dint (n:Int),.sl [],.sl [],dint 0,dint 0,dint 0,.sl [],.sl [],.sl []]
 | .list l=>[dint 0,.sl (ints (l.map Int.ofNat)),.sl [],dint 0,dint 0,dint 0,.sl [],.sl [],.sl []]
 | .both a b=>[dint 0,.sl [],.sl [MV.cells a,MV.cells b],dint 0,dint 0,dint 0,.sl [],.sl [],.sl []]
 | .unit=>[dint 0,.sl [],.sl [],dint 0,dint 0,dint 0,.sl [],.sl [],.sl []]
 | .clo b e=>[dint 0,.sl [],.sl [],dint b.kind,dint b.index,dint b.type.kind,.sl (List.map Ty.cells b.type.args),.sl (List.map Tm.cells b.args),.sl (MV.cellss e).reverse]
def MV.cellss:List MV→List (List DV)
 | []=>[]
 | x::r=>MV.cells x::MV.cellss r
end
namespace MV
set_option linter.unusedSimpArgs false
set_option linter.unusedVariables false
set_option linter.unnecessarySimpa false
theorem cellss_map:∀ l:List MV,cellss l=l.map cells
 | []=>rfl
 | x::r=>by simp only [cellss,List.map_cons,cellss_map r]
def numF:MV→Int | .num n=>n|_=>0
def listF:MV→List Int | .list l=>l.map Int.ofNat|_=>[]
def pairF:MV→List MV | .both a b=>[a,b]|_=>[]
def bodyF:MV→Tm | .clo b _=>b|_=>zeroTm
def envF:MV→List MV | .clo _ e=>e.reverse|_=>[]
theorem cells_eq (v:MV):v.cells=[dint v.numF,.sl (ints v.listF),.sl (v.pairF.map cells),dint v.bodyF.kind,dint v.bodyF.index,dint v.bodyF.type.kind,.sl (v.bodyF.type.args.map Ty.cells),.sl (v.bodyF.args.map Tm.cells),.sl (v.envF.map cells)]:=by
 cases v with
 | num n=>rfl
 | list l=>rfl
 | both a b=>simp only [cells,numF,listF,pairF,bodyF,envF];rfl
 | unit=>rfl
 | clo b e=>simp only [cells,numF,listF,pairF,bodyF,envF,cellss_map,List.map_reverse];rfl
def dv (v:MV):DV:=.agg v.cells
theorem fold (v:MV):DV.agg [dint v.numF,.sl (ints v.listF),.sl (v.pairF.map cells),dint v.bodyF.kind,dint v.bodyF.index,dint v.bodyF.type.kind,.sl (v.bodyF.type.args.map Ty.cells),.sl (v.bodyF.args.map Tm.cells),.sl (v.envF.map cells)]=v.dv:=by rw [dv,cells_eq]
theorem cellsD_dv (v:MV):cellsD v.dv=[dint v.numF,.sl (ints v.listF),.sl (v.pairF.map cells),dint v.bodyF.kind,dint v.bodyF.index,dint v.bodyF.type.kind,.sl (v.bodyF.type.args.map Ty.cells),.sl (v.bodyF.args.map Tm.cells),.sl (v.envF.map cells)]:=by rw [dv,cellsD,cells_eq]
theorem isCell_dv (v:MV):v.dv.isCell=false:=rfl
theorem isAgg_dv (v:MV):v.dv.isAgg=true:=rfl
theorem length_cells (v:MV):v.cells.length=9:=by rw [cells_eq];rfl
theorem wide (l:List MV):(∀ e ∈ List.map cells l,e.length=9)=True:=by simp [length_cells]
theorem numF_num (n:Nat):(MV.num n).numF=n:=rfl
theorem listF_list (l:List Nat):(MV.list l).listF=l.map Int.ofNat:=rfl
theorem pairF_both (a b:MV):(MV.both a b).pairF=[a,b]:=rfl
theorem bodyF_clo (b:Tm)(e:List MV):(MV.clo b e).bodyF=b:=rfl
theorem envF_clo (b:Tm)(e:List MV):(MV.clo b e).envF=e.reverse:=rfl
end MV
attribute [go_sem] MV.cells_eq MV.fold MV.cellsD_dv MV.isCell_dv MV.isAgg_dv MV.wide MV.numF_num MV.listF_list MV.pairF_both MV.bodyF_clo MV.envF_clo
def mach6 (u most:Int)(o:Bool):List DV:=[dint u,dint most,dbool o]
def Walk6 (P:Program)(gl:Globs)(fe:FuncId)(most:Int)(ev:Ev6):Prop:=
 ∀ ⦃t:Tm⦄ ⦃e:List MV⦄ ⦃u:Int⦄ ⦃v:MV⦄ ⦃u':Int⦄ ⦃o:Bool⦄ (b:Nat) (M:Int),ev t e u=some (v,u',o)→0≤u→u≤most→0≤M→M+(most - u)≤1073741824→MV.les M e→(e.length:Int)≤M+1 →
  Con1 P gl fe [ptr b,t.dv,.sl (e.reverse.map MV.cells)] [(b,mach6 u most false)] v.dv [(b,mach6 u' most o)]
theorem z2y {most:Int}(hm:most≤1073741824){ev:Ev6}(H:Walk6 Tryz.prog gl 100 most ev){f x v:MV}{u u':Int}{o:Bool}(b:Nat)(M:Int)
  (h:callRun ev f x u=some (v,u',o)) (hu0:0≤u) (hu:u≤most) (hM:0≤M) (hMb:M+(most - u)≤1073741824) (hf:f.le M) (hx:x.le M) :
  Con1 Tryz.prog gl 101 [ptr b,f.dv,x.dv] [(b,mach6 u most false)] v.dv [(b,mach6 u' most o)]:=by
 cases f with
 | num n=>cases h
 | list l=>cases h
 | both a b=>cases h
 | unit=>cases h
 | clo body e=>
  simp only [MV.le] at hf
  have w:=H (e:=x::e) b M h hu0 hu hM hMb (by simp only [MV.les];exact ⟨hx,hf.2⟩) (by simp only [List.length_cons];omega)
  have hfx:=MV.cells_eq x
  have hft:=Tm.fold body
  have hbF:(MV.clo body e).bodyF=body:=rfl
  have heF:(MV.clo body e).envF=e.reverse:=rfl
  have hl:(e.reverse.length:Int)≤M:=by rw [List.length_reverse];exact hf.1
  have htk:List.take e.reverse.length (e.reverse.map MV.cells)=e.reverse.map MV.cells:=List.take_of_length_le (by simp)
  rw [List.reverse_cons,List.map_append] at w
  generalize e.reverse=r at *
  generalize MV.clo body e=f at *
  unfold mach6 at *
  refine t_in Tryz.func101 ?_
  intro X hP hgl hf hfn hn hR hids hfit
  refine t_g0 ?_
  refine t_c1 (j2 @hft (j2 @hbF (j2 @heF (j2 @htk @hfx)))) w ?_
  refine t_ro [(b,[dint u',dint most,dbool o])] trivial ?_
  try simp
  try all_goals exact t_f
end
section
variable {gl:Globs}
def T.level:T→Nat
 | .pair a b=>Nat.max a.level b.level
 | .fn a b=>Nat.max (a.level+1) b.level
 | _=>0
theorem T.level_le (a:T):a.level<a.size:=by
 induction a with
 | nat=>decide
 | list=>decide
 | unit=>decide
 | pair a b iha ihb=>
  simp only [T.level,T.size,Nat.max_def]
  split <;> omega
 | fn a b iha ihb=>
  simp only [T.level,T.size,Nat.max_def]
  split <;> omega
theorem T.level_plain (a:T):a.level=0↔a.plain:=by
 induction a with
 | nat=>simp [T.level,T.plain]
 | list=>simp [T.level,T.plain]
 | unit=>simp [T.level,T.plain]
 | pair a b iha ihb=>
  simp only [T.level,T.plain,← iha,← ihb,Nat.max_def]
  split <;> omega
 | fn a b iha ihb=>
  simp only [T.level,T.plain,Nat.max_def,iff_false]
  split <;> omega
theorem zjm (x y:Nat):(if (y:Int) > (x:Int) then (y:Int) else (x:Int))=((Nat.max x y:Nat):Int):=by
 simp only [Nat.max_def]
 split <;> split <;> omega
theorem T.ty_nat:T.nat.ty=Ty.mk 1 []:=rfl
theorem T.ty_list:T.list.ty=Ty.mk 2 []:=rfl
theorem T.ty_unit:T.unit.ty=Ty.mk 5 []:=rfl
theorem T.ty_pair (a b:T):(T.pair a b).ty=Ty.mk 3 [a.ty,b.ty]:=rfl
theorem T.ty_fn (a b:T):(T.fn a b).ty=Ty.mk 4 [a.ty,b.ty]:=rfl
theorem z19m (a:T)(hs:a.size≤1000000):Con1 Tryz.prog gl 134 [a.ty.dv] [] (dint (a.level:Nat)) []:=by
 induction a with
 | nat=>
  refine t_in Tryz.func134 ?_
  intro X hP hgl hf hfn hn hR hids hfit
  rw [T.ty_nat]
  refine t_g0 ?_
  refine t_r ?_
  simp [go_sem,hP,hgl,hn,T.level] <;> (try omega)
 | list=>
  refine t_in Tryz.func134 ?_
  intro X hP hgl hf hfn hn hR hids hfit
  rw [T.ty_list]
  refine t_g0 ?_
  refine t_r ?_
  simp [go_sem,hP,hgl,hn,T.level] <;> (try omega)
 | unit=>
  refine t_in Tryz.func134 ?_
  intro X hP hgl hf hfn hn hR hids hfit
  rw [T.ty_unit]
  refine t_g0 ?_
  refine t_r ?_
  simp [go_sem,hP,hgl,hn,T.level] <;> (try omega)
 | pair a b iha ihb=>
  simp only [T.size] at hs
  have la:=T.level_le a
  have lb:=T.level_le b
  have wa:=iha (by omega)
  have wb:=ihb (by omega)
  have hm:=zjm a.level b.level
  have fa:=Ty.fold a.ty
  have fb:=Ty.fold b.ty
  have hL:(T.pair a b).level=Nat.max a.level b.level:=rfl
  rw [hL]
  refine t_in Tryz.func134 ?_
  intro X hP hgl hf hfn hn hR hids hfit
  rw [T.ty_pair]
  generalize a.ty=ta at *
  generalize b.ty=tb at *
  refine t_g0 ?_
  refine t_c2 (j2 @fa @fb) wa wb ?_
  refine t_r ?_
  simp [go_sem,hP,hgl,hn,hm] <;> (try omega)
 | fn a b iha ihb=>
  simp only [T.size] at hs
  have la:=T.level_le a
  have lb:=T.level_le b
  have wa:=iha (by omega)
  have wb:=ihb (by omega)
  have hm:=zjm (a.level+1) b.level
  have fa:=Ty.fold a.ty
  have fb:=Ty.fold b.ty
  have hL:(T.fn a b).level=Nat.max (a.level+1) b.level:=rfl
  rw [hL]
  have h1:((a.level+1:Nat):Int)=(a.level:Int)+1:=by omega
  rw [h1] at hm
  refine t_in Tryz.func134 ?_
  intro X hP hgl hf hfn hn hR hids hfit
  rw [T.ty_fn]
  generalize a.ty=ta at *
  generalize b.ty=tb at *
  refine t_g0 ?_
  refine t_c2 (j2 @fa @fb) wa wb ?_
  refine t_r ?_
  simp [go_sem,hP,hgl,hn,hm] <;> (try omega)
theorem z19n (a:T)(ha:a.ok):Con1 Tryz.prog gl 99 [a.ty.dv] [] (.tup [dbool (decide (a.level=0)),dint 0]) []:=by
 have hs:a.size≤64:=ha
 have hc:=T.ty_count a
 have h0:a.ty.checkN=0:=(Ty.checkN_iff _).2 (T.ok_ty ha)
 have w1:=z6n (gl:=gl) a.ty (by omega)
 have w2:=z19m (gl:=gl) a (by omega)
 have ll:=T.level_le a
 have fa:=Ty.fold a.ty
 rw [h0] at w1
 generalize a.ty=ta at *
 refine t_in Tryz.func99 ?_
 intro X hP hgl hf hfn hn hR hids hfit
 refine t_g0 ?_
 refine t_c1 @fa w1 ?_
 refine t_g0 ?_
 refine t_c1 @fa w2 ?_
 refine t_r ?_
 simp [go_sem,hP,hgl,hn] <;> (try omega)
def ofM:(a:T)→a.V→MV
 | .nat,n=>.num n
 | .list,l=>.list l
 | .unit,_=>.unit
 | .pair a b,p=>.both (ofM a p.1) (ofM b p.2)
 | .fn _ _,_=>.unit
theorem zdw:∀ (a:T) (x:a.V),a.plain→MVT a (ofM a x) x
 | .nat,n,_=>.num n
 | .list,l,_=>.list l
 | .unit,_,_=>.unit
 | .pair a b,p,h=>.both (zdw a p.1 h.1) (zdw b p.2 h.2)
 | .fn _ _,_,h=>h.elim
theorem zjn (n:T.nat.V):valOf .nat n=Val.mk 1 (Int.ofNat n) [] []:=rfl
theorem zjo (l:T.list.V):valOf .list l=Val.mk 2 0 (List.map Int.ofNat l) []:=rfl
theorem zjp (u:T.unit.V):valOf .unit u=Val.mk 4 0 [] []:=rfl
theorem zdx {a b:T}(p:(T.pair a b).V):valOf (.pair a b) p=Val.mk 3 0 [] [valOf a p.1,valOf b p.2]:=rfl
end
section
variable {gl:Globs}
theorem zjq (n:Nat):(MV.num n).thing = .iface 3 (dint (n:Int)):=by rw [MV.thing]
theorem zjr (l:List Nat):(MV.list l).thing = .iface 173 (cellM l):=by rw [MV.thing]
theorem zjs (a b:MV):(MV.both a b).thing = .iface 179 (.ref [a.thing,b.thing]):=by rw [MV.thing]
theorem zjt:MV.unit.thing = .iface 183 (.agg []):=by rw [MV.thing]
theorem z19o (n:Nat):Con1 Tryz.prog gl 141 [(MV.num n).thing] [] (Val.mk 1 (n:Nat) [] []).dv []:=by
 rw [zjq]
 refine t_in Tryz.func141 ?_
 intro X hP hgl hf hfn hn hR hids hfit
 refine t_g0 ?_
 refine t_r ?_
 simp [go_sem,hP,hgl,hn] <;> (try omega)
 all_goals exact t_f
theorem z19p:Con1 Tryz.prog gl 141 [MV.unit.thing] [] (Val.mk 4 0 [] []).dv []:=by
 rw [zjt]
 refine t_in Tryz.func141 ?_
 intro X hP hgl hf hfn hn hR hids hfit
 refine t_g0 ?_
 refine t_r ?_
 simp [go_sem,hP,hgl,hn] <;> (try omega)
 all_goals exact t_f
theorem z19q (l:List Nat)(n:Nat):ints (List.map Int.ofNat l)++[[dint (n:Int)]]=ints (List.map Int.ofNat (l++[n])):=by simp [ints]
theorem z19r (l:List Nat)(hl:l.length≤1073741824):Con1 Tryz.prog gl 141 [(MV.list l).thing] [] (Val.mk 2 0 (List.map Int.ofNat l) []).dv []:=by
 rw [zjr]
 refine t_in Tryz.func141 ?_
 intro X hP hgl hf hfn hn hR hids hfit
 refine t_g0 ?_
 refine t_a ?_
 refine z0c [(1005,0)] (by simp [go_sem]) (by simp [go_sem,ints] <;> omega) (by simp [go_sem]) (z1k (fun x:List Nat × List Nat=>x.1++x.2=l) (fun x:List Nat × List Nat=>[(.slot 4,.one (.v (cellM x.2))),(.slot 5,.one (.loc 5 0)),(.loc 5,.row ([.v (dint 2),.v (dint 0),.own 1005 (ints (x.1.map Int.ofNat)),.own 0 []])),(.tok 1005,.tk 1 x.1.length),(.slot 2,.one (.loc 2 0)),(.loc 2,.row ([.v (dint 0),.v (dint 0),.own 0 [],.own 0 []]))]) (fun x:List Nat × List Nat=>x.2.length) (([]:List Nat),l) (rfl) ?_)
 rintro ⟨ds,q⟩ hq ih
 simp only at hq
 have hql:ds.length+q.length=l.length:=by rw [← hq];simp
 cases q with
 | nil=>
  have hcm:=z8y
  rw [hcm]
  have hds:ds=l:=by rw [← hq];simp
  subst hds
  refine z00 ?_
  refine t_no ?_
  refine t_g0 ?_
  refine t_r ?_
  simp [go_sem,hP,hgl,hn] <;> (try omega)
  all_goals exact t_f
 | cons n q=>
  have hcm:=z7a n q
  have hon:=z19q ds n
  have hw1:∀ e:List DV,e ∈ ints (List.map Int.ofNat ds)→e.length=1:=by intro e he;simp only [ints,List.mem_map] at he;obtain ⟨x,-,rfl⟩:=he;rfl
  have hl1:(ints (List.map Int.ofNat ds)).length=ds.length:=by simp [ints]
  have hcl:ds.length≤2147483647:=by simp at hql;omega
  have e2:(ds++[n])++q=l:=by rw [← hq];simp
  have e3:q.length<(n::q).length:=by simp
  have hl2:(ds++[n]).length=ds.length+1:=by simp
  have hl3:(ints (List.map Int.ofNat (ds++[n]))).length=ds.length+1:=by simp [ints]
  have hih:=ih (ds++[n],q) e2 e3
  rw [← hon] at hih
  simp only [hl2] at hih
  rw [hcm]
  generalize ints (List.map Int.ofNat ds)=L at *
  refine z00 ?_
  refine z07 ?_
  refine t_rg (j2 @hcl (j2 @hw1 @hl1)) ?_
  refine z00 ?_
  refine t_b ?_
  refine z0e [(1005,30)] @hl1 hih
theorem z19s (a b:T)(x y:MV)(v w:Val)(h1:Con1 Tryz.prog gl 141 [x.thing] [] v.dv [])(h2:Con1 Tryz.prog gl 141 [y.thing] [] w.dv []) :
  Con1 Tryz.prog gl 141 [(MV.both x y).thing] [] (Val.mk 3 0 [] [v,w]).dv []:=by
 rw [zjs]
 have fv:=Val.fold v
 have fw:=Val.fold w
 refine t_in Tryz.func141 ?_
 intro X hP hgl hf hfn hn hR hids hfit
 refine t_g0 ?_
 refine t_c2 trivial h1 h2 ?_
 refine t_r ?_
 simp [go_sem,hP,hgl,hn] <;> (try omega)
 all_goals exact t_f
theorem zdy:∀ (a:T) (x:a.V),a.plain→(ofM a x).nle 1073741824→Con1 Tryz.prog gl 141 [(ofM a x).thing] [] (valOf a x).dv []
 | .nat,n,_,_=>z19o n
 | .list,l,_,h=>z19r l (by simp only [ofM,MV.nle] at h;exact h.1)
 | .unit,_,_,_=>z19p
 | .pair a b,p,hp,h=>by
  simp only [ofM,MV.nle] at h
  exact z19s a b _ _ _ _ (zdy a p.1 hp.1 h.1) (zdy b p.2 hp.2 h.2)
 | .fn _ _,_,hp,_=>hp.elim
theorem z19t (n:Nat):Con1 Tryz.prog gl 138 [(Val.mk 1 (n:Nat) [] []).dv] [] (MV.num n).thing []:=by
 rw [zjq]
 refine t_in Tryz.func138 ?_
 intro X hP hgl hf hfn hn hR hids hfit
 refine t_g0 ?_
 refine t_r ?_
 simp [go_sem,hP,hgl,hn] <;> (try omega)
theorem z19u:Con1 Tryz.prog gl 138 [(Val.mk 4 0 [] []).dv] [] MV.unit.thing []:=by
 rw [zjt]
 refine t_in Tryz.func138 ?_
 intro X hP hgl hf hfn hn hR hids hfit
 refine t_g0 ?_
 refine t_r ?_
 simp [go_sem,hP,hgl,hn] <;> (try omega)
theorem z19v (x y:MV)(v w:Val)(h1:Con1 Tryz.prog gl 138 [v.dv] [] x.thing [])(h2:Con1 Tryz.prog gl 138 [w.dv] [] y.thing []) :
  Con1 Tryz.prog gl 138 [(Val.mk 3 0 [] [v,w]).dv] [] (MV.both x y).thing []:=by
 rw [zjs]
 have fv:=Val.fold v
 have fw:=Val.fold w
 have lv:=Val.length_cells v
 have lw:=Val.length_cells w
 refine t_in Tryz.func138 ?_
 intro X hP hgl hf hfn hn hR hids hfit
 refine t_g0 ?_
 refine t_a ?_
 refine z09 (by rw [hP];exact z08) [34] fun K hK=>?_
 simp [go_sem,hP,hgl,hn,fv,fw,lv,lw]
 refine t_c (j2 @fv @fw) (h1) ?_
 refine t_c (j2 @fv @fw) (h2) ?_
 refine z4h (cs:=[x.thing,y.thing]) (y:=.ag [x.thing,y.thing] []) (fun _ _=>z0l) (by simp [go_sem,hP,hgl,hn]) (by simp [go_sem]) (by simp [go_sem]) (by rw [hn];exact Nat.le_of_ble_eq_true rfl) (by rfl) ?_
 simp [go_sem,hP,hgl,hn]
 refine t_e ?_
 clear hK K
 refine t_r ?_
 simp [go_sem,hP,hgl,hn] <;> (try omega)
set_option maxHeartbeats 1000000 in
theorem z19w (l:List Nat):Con1 Tryz.prog gl 138 [(Val.mk 2 0 (List.map Int.ofNat l) []).dv] [] (MV.list l).thing []:=by
 rw [zjr]
 have hll:(List.map Int.ofNat l).length=l.length:=by simp
 refine t_in Tryz.func138 ?_
 intro X hP hgl hf hfn hn hR hids hfit
 have hl2:=Val.fit_list (hfit (Val.mk 2 0 (List.map Int.ofNat l) []).dv (by simp))
 rw [show (Val.mk 2 0 (List.map Int.ofNat l) []).list=List.map Int.ofNat l from rfl] at hl2
 refine t_g0 ?_
 refine t_a ?_
 first|refine z05 [] fun K hK=>?_|refine z09 (by rw [hP];exact z08) [] fun K hK=>?_
 refine t_s0 ?_
 repeat (refine ⟨by omega,?_⟩)
 refine z7u hP hgl (z13m (List.map Int.ofNat l)) (by simp [go_sem]) rfl (by simp [go_sem]) (by simp) (by rw [hn];exact Nat.le_of_ble_eq_true rfl) ?_
 rintro r ψ ⟨b0,rfl,rfl⟩ -
 simp [go_sem]
 refine t_e ?_
 clear hK K
 refine t_a ?_
 refine z2w 3 (by simp [go_sem];rfl) ?_
 intro b3 hb
 simp [go_sem] at hb ⊢
 have hb':b0 ≠ b3:=hb
 let Φ:Nat→Objs:=fun i=>[(b3,[cellM (l.drop i)])]
 have hlast:cellM (l.drop l.length)=nilP:=by rw [List.drop_length];rfl
 refine zch hR.2 (f:=175) (fi:=#[]) (ca:=#[.pointer (some ⟨b0,0,none⟩)]) (by simp [go_sem]) (by simp [primOK]) (φ:=(b0,[.sl (ints (List.map Int.ofNat l))])::Φ l.length) ?_ ?_ (Y:=BackY X.P X.gl (List.map Int.ofNat l) Φ (fun _ _=>False)) (R:=fun φ' r'=>φ' = (b0,[.sl (ints (List.map Int.ofNat l))])::Φ 0∧r'.state = .ready∧r'.pending=none) (SL:=[(3,ptr b3)]) ?_ ?_ ?_ ?_ ?_
 ·refine z0v (by simp [go_sem]) (z0v ?_ (by simp [objsIn]))
  simp only [hlast]
  simp [go_sem,hb']
 ·simp [Φ,hb']
 ·intro n x h
  simp only [List.mem_singleton,Prod.mk.injEq] at h
  obtain ⟨rfl,rfl⟩:=h
  simp [go_sem]
 ·intro lp r h1 h2 h3 h4
  have:=z13n (gl:=gl) (List.map Int.ofNat l) (by omega) b0 Φ (fun _=>rfl) (by simp [Φ]) (by simp [Φ];exact hb') (Stop:=fun _ _=>False) (fun _ _ h=>h.elim) lp r (by rw [h3];rfl)
  rw [hll] at this
  rw [hP,hgl]
  refine ⟨this.1,fun D w vs a1 a2 a3 a4 a5 a6=>(this.2 D w vs a1 a2 a3 a4 a5 a6).mono ?_⟩
  rintro e w' ⟨v1,D',φ',r',rfl,hR',rest⟩
  refine ⟨v1,D',φ',r',rfl,?_,rest⟩
  rcases hR' with ⟨rfl,rfl⟩|⟨ψ,-,h⟩
  ·exact ⟨rfl,h1,h2⟩
  ·exact h.elim
 ·intro lp r D0 w0 h1 h2 h3 h4 h5 h6 h7 h8 h9 i x hx
  rw [hP,hgl]
  refine zcg X.n h5 h9 h1 (by rw [h3];rfl) (by rw [h3,hn];decide) (by rw [h3];decide) (by rw [h3];simp) ?_
  intro X' hP' hgl' hf' hn' hmd' hids' hl' hfit'
  rw [h3,h6,h7]
  obtain ⟨n,rfl,hdrop⟩:∃ n:Nat,x=Int.ofNat n∧l.drop i=n::l.drop (i+1):=by
   obtain ⟨hi,hxx⟩:=List.getElem?_eq_some_iff.1 hx
   have hi':i<l.length:=by simpa using hi
   refine ⟨l[i],?_,List.drop_eq_getElem_cons hi'⟩
   rw [← hxx];simp
  rw [hn] at hn'
  clear hP hgl hn
  have hP:=hP'
  have hgl:=hgl'
  have hn:=hn'
  have hlb3:lp ≠ b3:=by simpa [Φ] using hl'
  have hcm:=z7a n (l.drop (i+1))
  simp only [entryR,Φ,h3,parSt,slotSt,heapSt,List.cons_append,List.nil_append]
  refine t_rg @hlb3 ?_
  refine za7 (r:=r) (l:=lp) (by simp [Ctx.rd,hmd']) (by simp [go_sem]) h1 ?_
  simp [go_sem,hlb3,hlb3.symm]
  refine t_a ?_
  refine z05 [18] fun K hK=>?_
  simp [go_sem,hP,hgl,hn,hlb3,hlb3.symm]
  refine z4g (cs:=[dint (n:Int),cellM (l.drop (i+1))]) (y:=.ag [dint (n:Int),cellM (l.drop (i+1))] []) (by simp [go_sem,hP,hgl,hn]) (by simp [go_sem]) (by simp [go_sem]) (by rw [hn];exact Nat.le_of_ble_eq_true rfl) (by rfl) ?_
  simp [go_sem,hP,hgl,hn,hlb3,hlb3.symm]
  refine t_e ?_
  clear hK K
  refine t_a ?_
  refine z7m hmd' (φ:=Φ i) ?_ (by simp [Φ]) (by simp [go_sem,hlb3.symm]) none rfl ?_
  ·refine z0v ?_ (by simp [objsIn])
   rw [hdrop,hcm]
   simp [go_sem,hlb3,hlb3.symm]
  ·simp only [Option.isNone_none,if_true,true_and]
   cases r;simp only [pastL] at h1 h2 ⊢;subst h1 h2;rfl
 ·rintro φ' r' ⟨-,h,-⟩
  rw [h];simp
 ·rintro φ' r' ⟨rfl,-,h⟩ -
  rw [h]
  simp [go_sem,Φ,hb',hb'.symm]
  refine t_rg @hb' ?_
  refine t_r ?_
  simp [go_sem,hP,hgl,hn] <;> (try omega)
theorem zdz:∀ (a:T) (x:a.V),a.plain→Con1 Tryz.prog gl 138 [(valOf a x).dv] [] (ofM a x).thing []
 | .nat,n,_=>z19t n
 | .list,l,_=>z19w l
 | .unit,_,_=>z19u
 | .pair a b,p,hp=>z19v _ _ _ _ (zdz a p.1 hp.1) (zdz b p.2 hp.2)
 | .fn _ _,_,hp=>hp.elim
end
section
variable {gl:Globs}
theorem z19x (n:Nat):(MV.num n).cells=[dint (n:Int),.sl [],.sl [],dint 0,dint 0,dint 0,.sl [],.sl [],.sl []]:=by rw [MV.cells]
theorem z19y (l:List Nat):(MV.list l).cells=[dint 0,.sl (ints (l.map Int.ofNat)),.sl [],dint 0,dint 0,dint 0,.sl [],.sl [],.sl []]:=by rw [MV.cells]
theorem z19z (a b:MV):(MV.both a b).cells=[dint 0,.sl [],.sl [a.cells,b.cells],dint 0,dint 0,dint 0,.sl [],.sl [],.sl []]:=by rw [MV.cells]
theorem z1a0:MV.unit.cells=[dint 0,.sl [],.sl [],dint 0,dint 0,dint 0,.sl [],.sl [],.sl []]:=by rw [MV.cells]
theorem z1a1 (a:T)(x:a.V)(hp:a.plain):Con1 Tryz.prog gl 102 [(valOf a x).dv] [] (ofM a x).dv []:=by
 induction a with
 | nat=>
  have hc:=z19x x
  have hd:(ofM .nat x).dv = .agg (MV.num x).cells:=rfl
  rw [zjn,hd,hc]
  refine t_in Tryz.func102 ?_
  intro X hP hgl hf hfn hn hR hids hfit
  refine t_g0 ?_
  refine t_a ?_
  refine z0e [] @z6m (z2h (0) (fun i=>True) (fun i=>[(.slot 14,.one (.v (dint i))),(.slot 13,.one (.v (dint 0))),(.slot 12,.one (.v (.sl []))),(.slot 2,.one (.loc 2 0)),(.loc 2,.row ([.v (dint 0),.own 0 [],.own 0 [],.v (dint 0),.v (dint 0),.v (dint 0),.own 0 [],.own 0 [],.own 0 []])),(.slot 3,.one (.loc 3 0)),(.loc 3,.row ([.v (dint (Int.ofNat x)),.v (.sl []),.v (.sl []),.v (dint 0),.v (dint 0),.v (dint 0),.v (.sl []),.v (.sl []),.v (.sl [])]))]) (trivial) ?_ ?_)
  ·intro i hi;exact absurd hi (by omega)
  ·intro _
   refine z00 ?_
   refine t_no ?_
   refine t_g0 ?_
   refine t_r ?_
   simp [go_sem,hP,hgl,hn] <;> (try omega)
   rfl
 | list=>
  have hc:=z19y x
  have hd:(ofM .list x).dv = .agg (MV.list x).cells:=rfl
  rw [zjo,hd,hc]
  refine t_in Tryz.func102 ?_
  intro X hP hgl hf hfn hn hR hids hfit
  refine t_g0 ?_
  refine t_a ?_
  refine z0e [] @z6m (z2h (0) (fun i=>True) (fun i=>[(.slot 14,.one (.v (dint i))),(.slot 13,.one (.v (dint 0))),(.slot 12,.one (.v (.sl []))),(.slot 2,.one (.loc 2 0)),(.loc 2,.row ([.v (dint 0),.own 0 [],.own 0 [],.v (dint 0),.v (dint 0),.v (dint 0),.own 0 [],.own 0 [],.own 0 []])),(.slot 3,.one (.loc 3 0)),(.loc 3,.row ([.v (dint 0),.v (.sl (ints (List.map Int.ofNat x))),.v (.sl []),.v (dint 0),.v (dint 0),.v (dint 0),.v (.sl []),.v (.sl []),.v (.sl [])]))]) (trivial) ?_ ?_)
  ·intro i hi;exact absurd hi (by omega)
  ·intro _
   refine z00 ?_
   refine t_no ?_
   refine t_g0 ?_
   refine t_r ?_
   simp [go_sem,hP,hgl,hn] <;> (try omega)
 | unit=>
  have hc:=z1a0
  have hd:(ofM .unit x).dv = .agg MV.unit.cells:=rfl
  rw [zjp,hd,hc]
  refine t_in Tryz.func102 ?_
  intro X hP hgl hf hfn hn hR hids hfit
  refine t_g0 ?_
  refine t_a ?_
  refine z0e [] @z6m (z2h (0) (fun i=>True) (fun i=>[(.slot 14,.one (.v (dint i))),(.slot 13,.one (.v (dint 0))),(.slot 12,.one (.v (.sl []))),(.slot 2,.one (.loc 2 0)),(.loc 2,.row ([.v (dint 0),.own 0 [],.own 0 [],.v (dint 0),.v (dint 0),.v (dint 0),.own 0 [],.own 0 [],.own 0 []])),(.slot 3,.one (.loc 3 0)),(.loc 3,.row ([.v (dint 0),.v (.sl []),.v (.sl []),.v (dint 0),.v (dint 0),.v (dint 0),.v (.sl []),.v (.sl []),.v (.sl [])]))]) (trivial) ?_ ?_)
  ·intro i hi;exact absurd hi (by omega)
  ·intro _
   refine z00 ?_
   refine t_no ?_
   refine t_g0 ?_
   refine t_r ?_
   simp [go_sem,hP,hgl,hn] <;> (try omega)
 | pair a b iha ihb=>
  have w1:=iha x.1 hp.1
  have w2:=ihb x.2 hp.2
  have hc:=z19z (ofM a x.1) (ofM b x.2)
  have hd:(ofM (.pair a b) x).dv = .agg (MV.both (ofM a x.1) (ofM b x.2)).cells:=rfl
  have l1:=MV.length_cells (ofM a x.1)
  have l2:=MV.length_cells (ofM b x.2)
  rw [zdx,hd,hc]
  generalize valOf a x.1=v1 at *
  generalize valOf b x.2=v2 at *
  generalize ofM a x.1=m1 at *
  generalize ofM b x.2=m2 at *
  have f1:=Val.fold v1
  have f2:=Val.fold v2
  have g1:=MV.cells_eq m1
  have g2:=MV.cells_eq m2
  refine t_in Tryz.func102 ?_
  intro X hP hgl hf hfn hn hR hids hfit
  refine t_g0 ?_
  refine t_a ?_
  refine z0e [(1003,0)] @z6m (z2h (2) (fun i=>True) (fun i=>[(.slot 14,.one (.v (dint i))),(.slot 13,.one (.v (dint 2))),(.slot 12,.one (.v (.sl [v1.cells,v2.cells]))),(.slot 2,.one (.loc 2 0)),(.loc 2,.row ([.v (dint 0),.own 0 [],.own 0 [],.v (dint 0),.v (dint 0),.v (dint 0),.own 0 [],.own 0 [],.own 0 []])),(.slot 3,.one (.loc 3 0)),(.loc 3,.row ([.v (dint 0),.v (.sl []),.own 1003 ([m1.cells,m2.cells].take i),.v (dint 0),.v (dint 0),.v (dint 0),.v (.sl []),.v (.sl []),.v (.sl [])])),(.tok 1003,.tk 9 i)]) (trivial) ?_ ?_)
  ·intro i hi _ hnext
   match i,hi with
   | 0,_=>
    refine z00 ?_
    refine z07 ?_
    refine t_g0 ?_
    refine t_c1 (j2 @f1 @l1) w1 ?_
    refine t_gt (wr [(1003,23)]) @g1 @l1 (hnext trivial)
   | 1,_=>
    refine z00 ?_
    refine z07 ?_
    refine t_g0 ?_
    refine t_c1 (j2 @f2 (j2 @l1 @l2)) w2 ?_
    refine t_gt (wr [(1003,23)]) (j2 @g1 @g2) (j2 @l1 @l2) (hnext trivial)
  ·intro _
   refine z00 ?_
   refine t_no ?_
   refine t_g0 ?_
   refine t_r ?_
   simp [go_sem,hP,hgl,hn] <;> (try omega)
 | fn a b iha ihb=>exact hp.elim
theorem MV.fit_list {v:MV}(h:v.dv.fit):v.listF.length≤2147483648:=by
 rw [MV.dv,MV.cells_eq] at h
 simp only [DV.fit,DV.fit.fits,zgp,BIG] at h
 exact h.2.1.1
theorem z1a2 {a:T}{v:MV}{x:a.V}(h:MVT a v x)(hp:a.plain):Con1 Tryz.prog gl 103 [v.dv,a.ty.dv] [] (valOf a x).dv []:=by
 induction a generalizing v with
 | nat=>
  obtain rfl:=zbb h
  rw [zjn,T.ty_nat]
  have hq:(MV.num x).numF=Int.ofNat x:=rfl
  generalize MV.num x=m at *
  refine t_in Tryz.func103 ?_
  intro X hP hgl hf hfn hn hR hids hfit
  refine t_g0 ?_
  refine t_r ?_
  simp [go_sem,hP,hgl,hn,hq] <;> (try omega)
  all_goals exact t_f
 | list=>
  obtain rfl:=zdp h
  rw [zjo,T.ty_list]
  have hq:(MV.list x).listF=List.map Int.ofNat x:=rfl
  generalize MV.list x=m at *
  refine t_in Tryz.func103 ?_
  intro X hP hgl hf hfn hn hR hids hfit
  have hl:=MV.fit_list (hfit m.dv (by simp))
  refine t_g0 ?_
  refine t_r ?_
  simp [go_sem,hP,hgl,hn,hq] <;> (try omega)
  all_goals exact t_f
 | unit=>
  rw [zjp,T.ty_unit]
  refine t_in Tryz.func103 ?_
  intro X hP hgl hf hfn hn hR hids hfit
  refine t_g0 ?_
  refine t_r ?_
  simp [go_sem,hP,hgl,hn] <;> (try omega)
  all_goals exact t_f
 | pair a b iha ihb=>
  obtain ⟨y,z,rfl,hy,hz⟩:=zdq h
  have w1:=iha hy hp.1
  have w2:=ihb hz hp.2
  rw [zdx,T.ty_pair]
  have fa:=Ty.fold a.ty
  have fb:=Ty.fold b.ty
  have fy:=MV.fold y
  have fz:=MV.fold z
  generalize a.ty=ta at *
  generalize b.ty=tb at *
  refine t_in Tryz.func103 ?_
  intro X hP hgl hf hfn hn hR hids hfit
  refine t_g0 ?_
  refine t_c2 (j2 @fa (j2 @fb (j2 @fy @fz))) w1 w2 ?_
  refine t_r ?_
  simp [go_sem,hP,hgl,hn] <;> (try omega)
  all_goals exact t_f
 | fn a b iha ihb=>exact hp.elim
end
section
def FnT:List T→T→T
 | [],r=>r
 | a::l,r=>.fn a (FnT l r)
def appl:(l:List T)→{r:T}→(FnT l r).V→Env l→r.V
 | [],_,f,_=>f
 | _::l,_,f,e=>appl l (f e.1) e.2
def valsOf:(l:List T)→Env l→List Val
 | [],_=>[]
 | a::l,e=>valOf a e.1::valsOf l e.2
def mvsOf:(l:List T)→Env l→List MV
 | [],_=>[]
 | a::l,e=>ofM a e.1::mvsOf l e.2
def Plains:List T→Prop
 | []=>True
 | a::l=>a.plain∧a.ok∧Plains l
theorem ze0:∀ (l:List T) (X:Env l),(valsOf l X).length=l.length
 | [],_=>rfl
 | a::l,X=>by simp only [valsOf,List.length_cons,ze0 l X.2]
theorem ze1:∀ (l:List T) (X:Env l),(mvsOf l X).length=l.length
 | [],_=>rfl
 | a::l,X=>by simp only [mvsOf,List.length_cons,ze1 l X.2]
theorem zbc {r:T}:∀ (l:List T) (X:Env l) (i:Nat),i<l.length→Plains l→∃ (a:T) (x:a.V),(valsOf l X)[i]? = some (valOf a x)∧(mvsOf l X)[i]? = some (ofM a x)∧FnT (l.drop i) r = .fn a (FnT (l.drop (i+1)) r)∧a.plain∧a.ok
 | [],X,i,h,_=>absurd h (Nat.not_lt_zero _)
 | a::l,X,0,h,hp=>⟨a,X.1,rfl,rfl,rfl,hp.1,hp.2.1⟩
 | a::l,X,i+1,h,hp=>by
  obtain ⟨b,x,h1,h2,h3,h4⟩:=zbc (r:=r) l X.2 i (by simpa using h) hp.2.2
  exact ⟨b,x,by simpa [valsOf] using h1,by simpa [mvsOf] using h2,by simpa using h3,h4⟩
theorem zbd {a:T}(x:a.V)(hp:a.plain)(hs:a.ok):(valOf a x).checkN=0:=by
 obtain ⟨v1,v2⟩:=z5n a x hp
 have hs:a.size≤64:=hs
 unfold Val.checkN
 rw [if_pos v1,if_neg (by rw [Val.nodes_count _ v1];omega)]
theorem ze2:∀ (a:T) (x:a.V),a.plain→(valOf a x).tyN=a.ty
 | .nat,n,_=>by rw [Val.tyN_eq];rfl
 | .list,l,_=>by rw [Val.tyN_eq];rfl
 | .unit,_,_=>by rw [Val.tyN_eq];rfl
 | .pair a b,p,h=>by
  rw [Val.tyN_eq,zdx]
  simp only [Val.kind,Val.args,List.map_cons,List.map_nil,ze2 a p.1 h.1,ze2 b p.2 h.2]
  rfl
 | .fn _ _,_,h=>h.elim
theorem zju {a:T}(x:a.V)(hp:a.plain)(hs:a.ok):(valOf a x).typeE=(a.ty,0):=by
 unfold Val.typeE
 rw [zbd x hp hs,ze2 a x hp]
 rfl
theorem zjv {t:Tm}{a:T}{F:Env []→a.V}(h:Dn [] t a F):t.typeE []=(a.ty,0)∨(t.typeE []).2=4:=by
 have hc:ctxN []=0:=rfl
 unfold Tm.typeE Tm.typedE
 rw [if_pos hc]
 by_cases h0:t.checkN=0
 ·rw [if_pos h0]
  exact z6x h
 ·rw [if_neg h0]
  right
  have hs:=z1g h
  unfold Tm.checkN at h0 ⊢
  rw [if_pos hs] at h0 ⊢
  split at h0
  ·rename_i hq;rw [if_pos hq]
  ·exact absurd rfl h0
def callsRun (ev:Ev6):MV→List MV→Int→Rn
 | r,[],u=>some (r,u,false)
 | r,x::l,u=>match callRun ev r x u with
  | none=>none
  | some (v,u1,true)=>some (v,u1,true)
  | some (v,u1,false)=>callsRun ev v l u1
def call6N (most:Int)(t:Tm)(xs:List MV):Rn:=
 match ev6 most (most.toNat+1) t [] 0 with
 | none=>none
 | some (v,u,true)=>some (v,u,true)
 | some (v,u,false)=>callsRun (ev6 most (most.toNat+1)) v xs u
theorem zjw {most:Int}{d:Nat}{ev:Ev6}(H:Evs most d ev):∀ (l:List T) {r:T} {f:MV} {F:(FnT l r).V} (X:Env l) {u:Int},MVT (FnT l r) f F→Plains l→u≤most→most - u<d →
  Out most (fun v=>MVT r v (appl l F X)) u (callsRun ev f (mvsOf l X) u)
 | [],r,f,F,X,u,hf,hp,hu,hd=>⟨f,u,false,rfl,by omega,hu,fun _=>hf⟩
 | a::l,r,f,F,X,u,hf,hp,hu,hd=>by
  obtain ⟨g,u1,o1,h1,l1,m1,q1⟩:=z5u H hf (zdw a X.1 hp.1) hu hd
  simp only [mvsOf,callsRun,h1]
  cases o1 with
  | true=>exact ⟨g,u1,true,rfl,l1,m1,fun h=>by cases h⟩
  | false=>exact (zjw H l X.2 (q1 rfl) hp.2.2 m1 (by omega)).mono l1 fun _ h=>h
theorem z1a3 {most:Int}(hm:0≤most){t:Tm}{l:List T}{r:T}{F:Env []→(FnT l r).V}(h:Dn [] t (FnT l r) F)(X:Env l)(hp:Plains l) :
  Out most (fun v=>MVT r v (appl l (F ()) X)) 0 (call6N most t (mvsOf l X)):=by
 have H:=zdu most (most.toNat+1)
 obtain ⟨v,u,o,h1,l1,m1,q1⟩:=H h .nil hm (by omega)
 unfold call6N
 rw [h1]
 cases o with
 | true=>exact ⟨v,u,true,rfl,l1,m1,fun h=>by cases h⟩
 | false=>exact (zjw H l X (q1 rfl) hp m1 (by omega)).mono l1 fun _ h=>h
def callOut (t:Tm)(l:List T){r:T}(F:(FnT l r).V)(X:Env l)(work:Int):Val × Int × Int:=
 if (t.typeE []).2=0 then match call6N work t (mvsOf l X) with
  | some (_,u,false)=>(valOf r (appl l F X),u,0)
  | _=>(zeroV,0,5)
 else (zeroV,0,(t.typeE []).2)
theorem ze3 {t:Tm}{l:List T}{r:T}{F:Env []→(FnT l r).V}(h:Dn [] t (FnT l r) F)(X:Env l)(work:Int) :
  (callOut t l (F ()) X work).2.2=4∨(callOut t l (F ()) X work).2.2=5∨((callOut t l (F ()) X work).2.2=0∧(callOut t l (F ()) X work).1=valOf r (appl l (F ()) X)):=by
 unfold callOut
 by_cases h0:(t.typeE []).2=0
 ·rw [if_pos h0]
  split
  ·exact .inr (.inr ⟨rfl,rfl⟩)
  ·exact .inr (.inl rfl)
 ·rw [if_neg h0]
  rcases zjv h with h1|h1
  ·rw [h1] at h0;exact absurd rfl h0
  ·exact .inl h1
end
section
def callS (d:Nat)(t:Tm)(xs:List MV):Option (MV × Nat):=
 match evS d t [] with
 | none=>none
 | some (g,c1)=>match callC (evS d) g xs with
  | none=>none
  | some (w,c2)=>some (w,c1+c2)
theorem z1a4 {d:Nat}{t:Tm}{xs:List MV}{w:MV}{c:Nat}(h:callS d t xs=some (w,c)):∃ g c1 c2,evS d t []=some (g,c1)∧callC (evS d) g xs=some (w,c2)∧c=c1+c2:=by
 unfold callS at h
 split at h
 ·cases h
 ·rename_i g c1 h1
  split at h
  ·cases h
  ·rename_i w' c2 h2
   cases h
   exact ⟨g,c1,c2,h1,h2,rfl⟩
def outC (v:Val)(c:Nat)(work:Int):DV:=if (c:Int)≤work then .tup [v.dv,dint (c:Int),dint 0] else .tup [zeroV.dv,dint 0,dint 5]
theorem z1a5 {v:Val}{c:Nat}{work:Int}(h:(c:Int)≤work):outC v c work = .tup [v.dv,dint (c:Int),dint 0]:=if_pos h
theorem zjx {v:Val}{c:Nat}{work:Int}(h:¬ (c:Int)≤work):outC v c work = .tup [zeroV.dv,dint 0,dint 5]:=if_neg h
end
section
variable {gl:Globs}
def things (l:List MV):List (List DV):=l.map fun x=>[x.thing]
theorem z1a6:things []=[]:=rfl
theorem z1a7 (l:List MV):(things l).length=l.length:=by simp [things]
theorem z1a8 (l:List MV):∀ e ∈ things l,e.length=1:=by
 intro e he
 simp only [things,List.mem_map] at he
 obtain ⟨x,-,rfl⟩:=he
 rfl
theorem z1a9 {l:List MV}{i:Nat}{v:MV}(h:l[i]? = some v):things (l.take (i+1))=things (l.take i)++[[v.thing]]:=by
 rw [List.take_add_one,h]
 simp [things]
set_option maxHeartbeats 4000000 in
set_option maxRecDepth 100000 in
theorem zjy (har:globOf gl 0=some arEls)(t:Tm)(l:List T)(r:T)(Z:Env l)(y:r.V)(c d:Nat)(hcs:callS d t (mvsOf l Z)=some (ofM r y,c))(ht:t.checkN=0)(hi:t.inferN []=((FnT l r).ty,0))(hl:Plains l)(hll:l.length≤1000000)(hr:r.plain)(hro:r.ok)(wk:Nat)(hwk:wk≤65536)(M:Nat)(hM:M≤1073000000)(hX:MV.nles M (mvsOf l Z)) :
  Con1 Tryz.prog gl 105 [t.dv,.sl ((valsOf l Z).map Val.cells),dint (wk:Int)] [] (outC (valOf r y) c wk) []:=by
 obtain ⟨g,c1,c2,e1,e2,rfl⟩:=z1a4 hcs
 have hte:=zb5 (gl:=gl) har t _ ht hi
 have hvl:=ze0 l Z
 have hml:=ze1 l Z
 have hft:=Tm.fold t
 have hfz:(Ty.mk 0 []).cells=[dint 0,.sl []]:=rfl
 have hfr:=Ty.fold (FnT l r).ty
 refine t_in Tryz.func105 ?_
 intro X hP hgl hf hfn hn hR hids hfit
 refine t_g0 ?_
 refine t_c1 @hft hte ?_
 refine t_g0 ?_
 refine t_a ?_
 refine z0e [(1011,0)] (j2 @hvl @z1a6) (z2h (l.length) (fun i=>True) (fun i=>[(.slot 2,.one (.v (dint (wk:Int)))),(.slot 3,.one (.loc 3 0)),(.loc 3,.row ([.v (dint t.kind),.v (dint t.index),.v (dint t.type.kind),.v (.sl (t.type.args.map Ty.cells)),.v (.sl (t.args.map Tm.cells))])),(.slot 6,.one (.loc 6 0)),(.loc 6,.row ([.v (dint 0),.v (dint 0),.own 0 [],.own 0 []])),(.slot 9,.one (.loc 9 0)),(.loc 9,.row ([.v (dint (FnT (l.drop i) r).ty.kind),.v (.sl ((FnT (l.drop i) r).ty.args.map Ty.cells))])),(.slot 11,.one (.own 1011 (things ((mvsOf l Z).take i)))),(.tok 1011,.tk 1 i),(.slot 30,.one (.v (.sl ((valsOf l Z).map Val.cells)))),(.slot 31,.one (.v (dint l.length))),(.slot 32,.one (.v (dint i)))]) (trivial) ?_ ?_)
 ·intro i hi _ hnext
  obtain ⟨a,x,g1,g2,g3,g4,g5⟩:=zbc (r:=r) l Z i hi hl
  have hvg:(List.map Val.cells (valsOf l Z))[i]? = some (valOf a x).cells:=by rw [List.getElem?_map,g1];rfl
  have hfv:=Val.fold (valOf a x)
  have hcv:=Val.cells_eq (valOf a x)
  have hvc:=(z5n a x g4).2
  have hsz:a.size≤64:=g5
  have w1:=z13p (gl:=gl) (valOf a x) (by omega)
  rw [zju x g4 g5] at w1
  have w2:=zdd (gl:=gl) a.ty a.ty
  rw [show a.ty.same a.ty=true from (Ty.same_iff _ _).2 rfl] at w2
  have w3:=zdz (gl:=gl) a x g4
  have hti:(FnT (l.drop i) r).ty=Ty.mk 4 [a.ty,(FnT (l.drop (i+1)) r).ty]:=by rw [g3,T.ty_fn]
  have hfa:=Ty.fold a.ty
  have hsn:=z1a9 g2
  have hln:(things ((mvsOf l Z).take i)).length=i:=by rw [z1a7,List.length_take];omega
  have hwid:=z1a8 ((mvsOf l Z).take i)
  have hil:i≤2147483647:=by omega
  have hil2:i+1≤2147483647:=by omega
  generalize (FnT (l.drop (i+1)) r).ty=ty' at *
  generalize (FnT (l.drop i) r).ty=ty0 at *
  generalize a.ty=ta at *
  generalize things ((mvsOf l Z).take i)=L at *
  generalize things ((mvsOf l Z).take (i+1))=L' at *
  subst hti
  subst hsn
  have hct:=Ty.cells_eq ty'
  refine z00 ?_
  refine z07 ?_
  refine t_g (j2 @hvg @hcv) ?_
  refine t_c1 @hfv w1 ?_
  refine t_g0 ?_
  refine t_c1 @hfa w2 ?_
  refine t_g0 ?_
  refine t_c1 (j2 @hfv (j2 @hwid (j2 @hln (j2 @hil @hil2)))) w3 ?_
  refine t_gt (wr [(1011,62)]) @hct @hln (hnext trivial)
 ·intro _
  have hdl:FnT (l.drop l.length) r=r:=by rw [List.drop_length];rfl
  have htk:(mvsOf l Z).take l.length=mvsOf l Z:=by rw [← hml];exact List.take_length
  rw [hdl,htk]
  have wd:=zdo (gl:=gl) r hr hro
  have hfr:=Ty.fold r.ty
  have hwn:¬ ((wk:Int)<0):=by omega
  have hwm:¬ (65536<(wk:Int)):=by omega
  have HW:=zdn (gl:=gl) (most:=wk) (by omega) (fun ev h1 h2=>z18r (by omega) h1 h2) d
  have HN:=z76 wk d
  have ng:=HN M e1 (by simp only [MV.nles])
  refine z00 ?_
  refine t_no ?_
  refine t_g0 ?_
  refine t_c1 @hfr wd ?_
  refine t_g (j2 @hwn @hwm) ?_
  refine z2w 85 (by simp [go_sem];rfl) ?_
  intro b hb
  simp [go_sem] at hb ⊢
  have we:=HW b M e1 (Nat.zero_le _) (by omega) (by simp only [MV.nles])
  have henv:MV.envM []=nilP:=by rw [MV.envM]
  rw [henv,Nat.zero_add,z0i (Nat.zero_le _)] at we
  by_cases hf1:c1≤wk
  ·rw [z2c hf1,z0i hf1] at we
   have wc:=zb9 (gl:=gl) (most:=wk) (by omega) HW HN b (M+c1) e2 hf1 (by omega) ng (MV.nles_mono (by omega) _ hX)
   rw [z0i hf1] at wc
   have hmt:(mvsOf l Z).map (fun x=>[x.thing])=things (mvsOf l Z):=rfl
   rw [hmt] at wc
   by_cases hf2:c1+c2≤wk
   ·rw [z2c hf2,z0i hf2] at wc
    have hnl:=z5q HN e2 ng (MV.nles_mono (by omega) _ hX)
    have wp:=zdy (gl:=gl) r y hr (MV.nle_mono (by omega) _ hnl)
    have hfy:=Val.fold (valOf r y)
    rw [z1a5 (by omega)] at hR
    refine t_c1 @hft we ?_
    refine t_g0 ?_
    refine t_c1 trivial wc ?_
    refine t_g0 ?_
    refine t_c1 trivial wp ?_
    refine t_r ?_
    simp [go_sem,hP,hgl,hn] <;> (try omega)
    all_goals exact t_f
   ·rw [z3f hf2,z2d hf2] at wc
    rw [zjx (by omega)] at hR
    refine t_c1 @hft we ?_
    refine t_g0 ?_
    refine t_c1 trivial wc ?_
    refine t_g0 ?_
    refine t_r ?_
    simp [go_sem,hP,hgl,hn,zeroV] <;> (try omega)
    all_goals exact t_f
  ·rw [z3f hf1,z2d hf1] at we
   rw [zjx (by omega)] at hR
   refine t_c1 @hft we ?_
   refine t_g0 ?_
   refine t_r ?_
   simp [go_sem,hP,hgl,hn,zeroV] <;> (try omega)
   all_goals exact t_f
end
section
variable {gl:Globs}
theorem zjz:∀ d,WatchB Tryz.prog gl 59 (evB d)
 | 0=>by intro t e v c k u b M h;cases h
 | d+1=>by
  have H:=zjz d
  intro t e v c k u b M h hM hu he
  rw [evB] at h
  by_cases h1:t.kind=1
  ·rw [if_pos h1] at h
   split at h
   ·rename_i hi
    cases h
    exact z183 t e u b h1 hi.1 hi.2
   ·cases h
  rw [if_neg h1] at h
  by_cases h2:t.kind=2
  ·rw [if_pos h2] at h
   split at h
   ·cases h
   ·rename_i hl
    cases h
    cases ha:t.args with
    | nil=>rw [ha] at hl;exact absurd rfl hl
    | cons x r=>
     have:t.argN 0=x:=by simp [Tm.argN,ha]
     rw [this]
     exact z182 d t e u b h2 x r ha
  rw [if_neg h2] at h
  split at h
  ·cases h
  rename_i h3
  split at h
  ·cases h
  rename_i l c1 k1 hl
  obtain ⟨⟨w,c2,k2⟩,hn,hq⟩:=Option.map_eq_some_iff.1 h
  cases hq
  exact z18d H t e l c1 k1 w c2 k2 u b M h1 h2 (by omega) hl hn (by omega) (by omega) he
end
section
def drawC:Nat→Nat
 | 0=>45
 | n+1=>3 * drawC n+4
theorem zk0:∀ n,16≤drawC n
 | 0=>by decide
 | n+1=>by have:=zk0 n;simp only [drawC];omega
def Tm.closedN:Tm→Nat→Bool
 | .mk k i _ a,n=>if k=1 then decide (0≤i) && decide (i.toNat<n) else closeds a (if k=2 then n+1 else n)
where
 closeds:List Tm→Nat→Bool
  | [],_=>true
  | a::r,n=>a.closedN n && closeds r n
theorem Tm.closedN_eq (t:Tm)(n:Nat):t.closedN n=if t.kind=1 then decide (0≤t.index) && decide (t.index.toNat<n) else closedN.closeds t.args (if t.kind=2 then n+1 else n):=by cases t;rw [closedN];rfl
theorem Tm.closeds_iff (l:List Tm)(n:Nat):closedN.closeds l n=true↔∀ a ∈ l,a.closedN n=true:=by
 induction l with
 | nil=>simp [closedN.closeds]
 | cons a r ih=>simp [closedN.closeds,ih]
theorem zk1 {l:List Tm}{g h:List Ty}(e:∀ a ∈ l,a.inferN g=a.inferN h):Tm.inferN.infers l g=Tm.inferN.infers l h:=by
 induction l with
 | nil=>rfl
 | cons a r ih=>simp only [Tm.inferN.infers,e a (by simp),ih fun x hx=>e x (by simp [hx])]
theorem z1aa (t:Tm):∀ (l g:List Ty),t.closedN l.length=true→t.inferN (g++l)=t.inferN l:=by
 induction t using Tm.ind with
 | h t ih=>
 intro l g hc
 rw [Tm.closedN_eq] at hc
 rw [Tm.inferN_eq t (g++l),Tm.inferN_eq t l]
 by_cases h1:t.kind=1
 ·rw [if_pos h1] at hc ⊢
  rw [if_pos h1]
  simp only [Bool.and_eq_true,decide_eq_true_eq] at hc
  have h2:¬ ((g++l).length:Int)≤t.index:=by simp;omega
  have h3:¬ (l.length:Int)≤t.index:=by omega
  rw [if_neg h2,if_neg h3]
  have e:(g++l).length - 1 - t.index.toNat=g.length+(l.length - 1 - t.index.toNat):=by simp;omega
  rw [e,List.getD_eq_getElem?_getD,List.getElem?_append_right (by omega),Nat.add_sub_cancel_left,List.getD_eq_getElem?_getD]
 ·rw [if_neg h1] at hc ⊢
  rw [if_neg h1]
  rw [Tm.closeds_iff] at hc
  have e:Tm.inferN.infers t.args (if t.kind=2 then g++l++[t.type] else g++l)=Tm.inferN.infers t.args (if t.kind=2 then l++[t.type] else l):=by
   by_cases h2:t.kind=2
   ·rw [if_pos h2,if_pos h2]
    rw [if_pos h2] at hc
    refine zk1 fun a ha=>?_
    rw [List.append_assoc]
    exact ih a ha (l++[t.type]) g (by simpa using hc a ha)
   ·rw [if_neg h2,if_neg h2]
    rw [if_neg h2] at hc
    exact zk1 fun a ha=>ih a ha l g (hc a ha)
  rw [e]
theorem ze4 {t:Tm}(h:t.closedN 0=true)(g:List Ty):t.inferN g=t.inferN []:=by
 have:=z1aa t [] g (by simpa using h)
 simpa using this
theorem z3g {k:Int}{y:Ty}{l:List Tm}{g:List Ty}{ts:List Ty}(hk:¬ k=1)(h:Tm.inferN.infers l (if k=2 then g++[y] else g)=(ts,0)):(Tm.mk k 0 y l).inferN g=ruleN k y ts:=by
 rw [Tm.inferN_eq]
 show (if k=1 then _ else if (Tm.inferN.infers l (if k=2 then g++[y] else g)).2=0 then ruleN k y (Tm.inferN.infers l (if k=2 then g++[y] else g)).1 else _)=_
 rw [if_neg hk,h,if_pos rfl]
theorem zbe {a:Tm}{g:List Ty}{s:Ty}(h:a.inferN g=(s,0)):Tm.inferN.infers [a] g=([s],0):=by simp [Tm.inferN.infers,h]
theorem ze5 {a b:Tm}{g:List Ty}{s t:Ty}(h:a.inferN g=(s,0))(h':b.inferN g=(t,0)):Tm.inferN.infers [a,b] g=([s,t],0):=by simp [Tm.inferN.infers,h,h']
theorem zk2 {a b c:Tm}{g:List Ty}{s t u:Ty}(h:a.inferN g=(s,0))(h':b.inferN g=(t,0))(h'':c.inferN g=(u,0)):Tm.inferN.infers [a,b,c] g=([s,t,u],0):=by simp [Tm.inferN.infers,h,h',h'']
theorem ze6 {y:Ty}(h:y.ok):okN y=(y,0):=by unfold okN;rw [if_pos ((Ty.checkN_iff y).2 h)]
theorem z91 (a:Ty):a.same a=true:=(Ty.same_iff a a).2 rfl
theorem z53 {k:Int}{s t:Ty}(hk:k=3∨k=4)(hs:s.shape=true)(ht:t.shape=true)(hc:1+s.count+t.count≤64):(Ty.mk k [s,t]).ok:=⟨z5l hk hs ht,by rw [show (Ty.mk k [s,t]).count=1+(s.count+(t.count+0)) from rfl];omega⟩
theorem z54 {g:List Ty}{s t:Ty}{f x:Tm}(hf:f.inferN g=(Ty.mk 4 [s,t],0))(hx:x.inferN g=(s,0)):(nT 3 [f,x]).inferN g=(t,0):=by
 unfold nT
 rw [z3g (by decide) (ze5 hf hx)]
 unfold ruleN
 rw [if_neg (by decide),if_pos rfl,if_pos ⟨rfl,z91 s⟩]
 rfl
theorem z55 {g:List Ty}{s t:Ty}{x:Tm}(hx:x.inferN (g++[s])=(t,0))(ho:(Ty.mk 4 [s,t]).ok):(Tm.mk 2 0 s [x]).inferN g=(Ty.mk 4 [s,t],0):=by
 rw [z3g (by decide) (by rw [if_pos rfl];exact zbe hx)]
 unfold ruleN
 rw [if_pos rfl]
 exact ze6 ho
theorem zk3 {g:List Ty}{s t:Ty}{x y:Tm}(hx:x.inferN g=(s,0))(hy:y.inferN g=(t,0))(ho:(Ty.mk 3 [s,t]).ok):(nT 10 [x,y]).inferN g=(Ty.mk 3 [s,t],0):=by
 unfold nT
 rw [z3g (by decide) (ze5 hx hy)]
 exact ze6 ho
theorem z1ab {g:List Ty}{s t:Ty}{x:Tm}(hx:x.inferN g=(Ty.mk 3 [s,t],0)):(nT 11 [x]).inferN g=(s,0):=by
 unfold nT
 rw [z3g (by decide) (zbe hx)]
 rfl
theorem z1ac {g:List Ty}{s t:Ty}{x:Tm}(hx:x.inferN g=(Ty.mk 3 [s,t],0)):(nT 12 [x]).inferN g=(t,0):=by
 unfold nT
 rw [z3g (by decide) (zbe hx)]
 rfl
theorem z1ad {g:List Ty}{t:Ty}{x f n:Tm}(hx:x.inferN g=(t,0))(hf:f.inferN g=(Ty.mk 4 [Ty.mk 1 [],Ty.mk 4 [t,t]],0))(hn:n.inferN g=(Ty.mk 1 [],0)):(Tm.mk 6 0 t [x,f,n]).inferN g=(t,0):=by
 rw [z3g (by decide) (zk2 hx hf hn)]
 unfold ruleN
 rw [if_neg (by decide),if_neg (by decide),if_neg (by decide),if_neg (by decide),if_pos rfl,if_pos ⟨z91 t,z91 _,rfl⟩]
theorem z1ae {g:List Ty}{t:Ty}{x f n:Tm}(hx:x.inferN g=(t,0))(hf:f.inferN g=(Ty.mk 4 [Ty.mk 1 [],Ty.mk 4 [Ty.mk 2 [],Ty.mk 4 [t,t]]],0))(hn:n.inferN g=(Ty.mk 2 [],0)):(Tm.mk 9 0 t [x,f,n]).inferN g=(t,0):=by
 rw [z3g (by decide) (zk2 hx hf hn)]
 unfold ruleN
 rw [if_neg (by decide),if_neg (by decide),if_neg (by decide),if_neg (by decide),if_neg (by decide),if_neg (by decide),if_neg (by decide),if_pos rfl,if_pos ⟨z91 t,z91 _,rfl⟩]
theorem zk4 {g:List Ty}{x:Tm}(hx:x.inferN g=(Ty.mk 1 [],0)):(nT 5 [x]).inferN g=(Ty.mk 1 [],0):=by
 unfold nT
 rw [z3g (by decide) (zbe hx)]
 rfl
theorem z1af {g:List Ty}{x y:Tm}(hx:x.inferN g=(Ty.mk 1 [],0))(hy:y.inferN g=(Ty.mk 2 [],0)):(nT 8 [x,y]).inferN g=(Ty.mk 2 [],0):=by
 unfold nT
 rw [z3g (by decide) (ze5 hx hy)]
 rfl
theorem z1ag (g:List Ty):(nT 4 []).inferN g=(Ty.mk 1 [],0):=by unfold nT;rw [z3g (by decide) rfl];rfl
theorem z1ah (g:List Ty):(nT 7 []).inferN g=(Ty.mk 2 [],0):=by unfold nT;rw [z3g (by decide) rfl];rfl
theorem z1ai (g:List Ty):(nT 13 []).inferN g=(Ty.mk 5 [],0):=by unfold nT;rw [z3g (by decide) rfl];rfl
theorem zbf (g:List Ty):∀ n:Nat,(numTm n).inferN g=(Ty.mk 1 [],0)
 | 0=>z1ag g
 | n+1=>zk4 (zbf g n)
theorem z1aj {g:List Ty}{i:Nat}(hi:i<g.length):(vT (i:Nat)).inferN g=(varTy g i,0):=by
 rw [Tm.inferN_eq]
 show (if (1:Int)=1 then if (g.length:Int)≤(i:Int) then _ else (g.getD (g.length - 1 - (i:Int).toNat) zeroTy,0) else _)=_
 rw [if_pos rfl,if_neg (by omega)]
 rfl
theorem z1ak (g:List Ty):plusT.inferN g=(Ty.mk 4 [Ty.mk 1 [],Ty.mk 4 [Ty.mk 1 [],Ty.mk 1 []]],0):=by
 rw [ze4 (by decide) g];rfl
theorem z1al (g:List Ty):subT.inferN g=(Ty.mk 4 [Ty.mk 1 [],Ty.mk 4 [Ty.mk 1 [],Ty.mk 1 []]],0):=by
 rw [ze4 (by decide) g];rfl
theorem zk5:DrawOK (fun t g x=>x.inferN g=(t,0)) where
 var g i hi:=z1aj hi
 num g n _:=zbf g n
 app g s t f x hs ht hf hx:=z54 hf hx
 lam g s t x hs ht hx:=z55 hx (z53 (.inr rfl) hs.1 ht.1 (by have:=hs.2;have:=ht.2;omega))
 lam2 g s t r x hs ht hr hx:=by
  have c1:=hs.2;have c2:=ht.2;have c3:=hr.2
  have h1:=z55 (g:=g++[s]) (s:=t) (t:=r) (x:=x) (by rw [List.append_assoc];exact hx) (z53 (.inr rfl) ht.1 hr.1 (by omega))
  exact z55 h1 (z53 (.inr rfl) hs.1 (z5l (.inr rfl) ht.1 hr.1) (by rw [show (Ty.mk 4 [t,r]).count=1+(t.count+(r.count+0)) from rfl];omega))
 lam3 g s t u r x hs ht hu hr hx:=by
  have c1:=hs.2;have c2:=ht.2;have c3:=hr.2;have c4:=hu.2
  have h1:=z55 (g:=g++[s]++[t]) (s:=u) (t:=r) (x:=x) (by simp only [List.append_assoc];exact hx) (z53 (.inr rfl) hu.1 hr.1 (by omega))
  have e1:(Ty.mk 4 [u,r]).count=1+(u.count+(r.count+0)):=rfl
  have h2:=z55 h1 (z53 (.inr rfl) ht.1 (z5l (.inr rfl) hu.1 hr.1) (by rw [e1];omega))
  have e2:(Ty.mk 4 [t,Ty.mk 4 [u,r]]).count=1+(t.count+((Ty.mk 4 [u,r]).count+0)):=rfl
  exact z55 h2 (z53 (.inr rfl) hs.1 (z5l (.inr rfl) ht.1 (z5l (.inr rfl) hu.1 hr.1)) (by rw [e2,e1];omega))
 pair g s t x y hs ht hx hy:=zk3 hx hy (z53 (.inl rfl) hs.1 ht.1 (by have:=hs.2;have:=ht.2;omega))
 fst g s t x hs ht hx:=z1ab hx
 snd g s t x hs ht hx:=z1ac hx
 rc g t x f n ht hx hf hn:=z1ad hx hf hn
 fold g t x f n ht hx hf hn:=z1ae hx hf hn
 succ g x hx:=zk4 hx
 plus g x y hx hy:=z54 (z54 (z1ak g) hx) hy
 sub g x y hx hy:=z54 (z54 (z1al g) hx) hy
 nil g:=z1ah g
 cons g x y hx hy:=z1af hx hy
 unit g:=z1ai g
end
section
variable {gl:Globs}
abbrev sz0:DV:=.agg [dint 0,.sl [],dint 0]
theorem zk6 (k:Int)(a b:Ty)(ha64:a.count≤64)(hb64:b.count≤64)(hc:¬ 1+a.count+b.count≤64):Con1 Tryz.prog gl 121 [dint k,.agg (szC a),.agg (szC b)] [] (.tup [sz0,dint 4]) []:=by
 refine t_in Tryz.func121 ?_
 intro X hP hgl hf hfn hn hR hids hfit
 have ha:=z0q a
 have hb:=z0q b
 have hc1:¬ (1:Int)+a.count+b.count≤64:=by omega
 have hc2:(64:Int)<1+a.count+b.count:=by omega
 refine t_g (j2 @ha (j2 @hb (j2 @hc1 @hc2))) ?_
 refine t_r ?_
 simp [go_sem,hP,hgl,hn] <;> (try omega)
 all_goals exact t_f
theorem z1am (t:Tm)(h:t.kind=10)(x y:Ty)(hx64:x.count≤64)(hy64:y.count≤64)(hc:¬ 1+x.count+y.count≤64) :
  Con1 Tryz.prog gl 122 [t.dv,.agg (sz3 [x,y])] [] (.tup [sz0,dint 4]) []:=by
 rw [z75]
 have wp:=z3c (gl:=gl) 10
 rw [if_neg (by decide),if_neg (by decide),if_neg (by decide),if_neg (by decide),if_neg (by decide)] at wp
 have hi:ints []=[]:=rfl
 rw [hi] at wp
 have wj:=zk6 (gl:=gl) 3 x y hx64 hy64 hc
 simp only [z0q] at wj ⊢
 refine t_in Tryz.func122 ?_
 intro X hP hgl hf hfn hn hR hids hfit
 refine t_g @h ?_
 refine t_c1 @h wp ?_
 refine t_g @h ?_
 refine t_c1 trivial wj ?_
 refine t_r ?_
 simp [go_sem,hP,hgl,hn] <;> (try omega)
theorem zk7 {k:Int}{s t:Ty}(hk:k=3∨k=4)(hs:s.ok)(ht:t.ok)(h:(okN (Ty.mk k [s,t])).2 ≠ 0):¬ 1+s.count+t.count≤64:=by
 intro hc
 apply h
 rw [ze6 (z53 hk hs.1 ht.1 hc)]
theorem z1an {k:Int}{y:Ty}{l:List Ty}(hk2:¬ k=2)(h:(ruleN k y l).2=4):k=10∧(okN (Ty.mk 3 [l.getD 0 zeroTy,l.getD 1 zeroTy])).2 ≠ 0:=by
 unfold ruleN at h
 rw [if_neg hk2] at h
 by_cases h10:k=10
 ·subst h10
  rw [if_neg (by decide),if_neg (by decide),if_neg (by decide),if_neg (by decide),if_neg (by decide),if_neg (by decide),if_neg (by decide),if_pos rfl] at h
  exact ⟨rfl,by rw [h];decide⟩
 ·exfalso
  rw [if_neg h10] at h
  repeat' split at h
  all_goals first|(cases h;done)|contradiction
theorem zk8 {g:List Ty}:∀ {l:List Tm},(Tm.inferN.infers l g).2=4→∃ (i:Nat) (x:Tm),l[i]? = some x∧(x.inferN g).2=4∧∀ (j:Nat) (y:Tm),j<i→l[j]? = some y→(y.inferN g).2=0
 | [],h=>by cases h
 | a::r,h=>by
  simp only [Tm.inferN.infers] at h
  by_cases e:(a.inferN g).2=0
  ·rw [if_pos e] at h
   by_cases e2:(Tm.inferN.infers r g).2=0
   ·rw [if_pos e2] at h;cases h
   ·rw [if_neg e2] at h
    obtain ⟨i,x,h1,h2,h3⟩:=zk8 (l:=r) h
    refine ⟨i+1,x,by simpa using h1,h2,fun j y hj hy=>?_⟩
    cases j with
    | zero=>simp at hy;rw [← hy];exact e
    | succ j=>exact h3 j y (by omega) (by simpa using hy)
  ·rw [if_neg e] at h
   exact ⟨0,a,rfl,h,fun j y hj _=>absurd hj (Nat.not_lt_zero _)⟩
set_option maxHeartbeats 1000000 in
theorem z1ao (t:Tm)(g:List Ty)(hgt:g.length+t.count≤2147483648)(ht:t.shape=true)(hg:∀ x ∈ g,x.ok)(h:(t.inferN g).2=4) :
  Con1 Tryz.prog gl 73 [.sl (g.map szC),t.dv] [] (.tup [sz0,dint 4]) []:=by
 induction t using Tm.ind generalizing g with
 | h t ih=>
 obtain ⟨ha,hi,hv,hty,hs⟩:=Tm.shape_node ht
 refine t_in Tryz.func73 ?_
 intro X hP hgl hf hfn hn hR hids hfit
 have hlg:=z4d (hfit (.sl (g.map szC)) (by simp))
 simp at hlg
 rw [Tm.inferN_eq t] at h
 by_cases h1:t.kind=1
 ·rw [if_pos h1] at h
  split at h <;> cases h
 rw [if_neg h1] at h
 by_cases hk2:t.kind=2
 ·rw [if_pos hk2] at h
  rw [hk2] at ha
  obtain ⟨b,hb⟩:∃ b,t.args=[b]:=by
   match hh:t.args,ha with
   | [b],_=>exact ⟨b,rfl⟩
  have hbm:b ∈ t.args:=by rw [hb];simp
  rw [if_pos (.inl hk2)] at hty
  have hg':∀ x ∈ g++[t.type],x.ok:=by
   intro x hx
   rcases List.mem_append.1 hx with hx|hx
   ·exact hg x hx
   ·rw [List.mem_singleton.1 hx];exact hty
  have hcb1:t.count=1+(b.count+0):=by rw [Tm.count_eq,hb];rfl
  have hcb2:=Tm.count_pos b
  have hgl1:g.length≤2147483647:=by omega
  have wo:=z40 (gl:=gl) t.type hty
  have fty:=Ty.fold t.type
  have fb:=Tm.fold b
  have hszm:List.map szC (g++[t.type])=List.map szC g++[szC t.type]:=by simp
  have hlm:(List.map szC g).length=g.length:=by simp
  have hwid:∀ e:List DV,e ∈ List.map szC g→e.length=3:=by intro e he;simp only [List.mem_map] at he;obtain ⟨x,-,rfl⟩:=he;rfl
  rw [hb] at h
  simp only [Tm.inferN.infers] at h
  by_cases hb0:(b.inferN (g++[t.type])).2=0
  ·rw [if_pos hb0] at h
   simp only [if_true] at h
   have hbo:=Tm.inferN_ok b (g++[t.type]) (hs b hbm) hg' hb0
   have w1:=zb4 (gl:=gl) b (g++[t.type]) (by simp;omega) (hs b hbm) hg' hb0
   generalize (b.inferN (g++[t.type])).1=rb at *
   have hrule:ruleN t.kind t.type [rb]=okN (Ty.mk 4 [t.type,rb]):=by rw [hk2];rfl
   rw [hrule] at h
   have hbig:=zk7 (.inr rfl) hty hbo (by rw [h];decide)
   have wj:=zk6 (gl:=gl) 4 t.type rb hty.2 hbo.2 hbig
   rw [hszm] at w1
   simp only [z0q t.type,z0q rb] at w1 wo wj
   generalize List.map szC g=G at *
   have htake:List.take g.length G=G:=by rw [List.take_of_length_le];omega
   refine t_g @hk2 ?_
   refine t_c1 (j2 @hk2 @fty) wo ?_
   refine t_c1 (j2 @hk2 (j2 @hb (j2 @htake (j2 @hlm (j2 @hwid @hgl1))))) w1 ?_
   refine t_g0 ?_
   refine t_c1 trivial wj ?_
   refine t_r ?_
   simp [go_sem,hP,hgl,hn] <;> (try omega)
  ·rw [if_neg hb0] at h
   simp only at h
   rw [if_neg hb0] at h
   have w1:=ih b hbm (g++[t.type]) (by simp;omega) (hs b hbm) hg' h
   rw [hszm] at w1
   simp only [z0q t.type] at w1 wo
   generalize List.map szC g=G at *
   have htake:List.take g.length G=G:=by rw [List.take_of_length_le];omega
   refine t_g @hk2 ?_
   refine t_c1 (j2 @hk2 @fty) wo ?_
   refine t_c1 (j2 @hk2 (j2 @hb (j2 @htake (j2 @hlm (j2 @hwid @hgl1))))) w1 ?_
   refine t_g0 ?_
   refine t_r ?_
   simp [go_sem,hP,hgl,hn] <;> (try omega)
   all_goals exact t_f
 rw [if_neg hk2] at h
 have hlen:=Tm.fit_len (hfit t.dv (by simp))
 have h3:t.args.length≤3:=by
  have:arityI t.kind≤3:=by unfold arityI;(repeat' split) <;> omega
  omega
 have ftt:=Tm.fold t
 have stepOK:∀ (i:Nat) (x:Tm),t.args[i]? = some x→(x.inferN g).2=0→Con1 Tryz.prog gl 73 [.sl (g.map szC),x.dv] [] (.tup [.agg (szC (x.inferN g).1),dint 0]) []:=by
  intro i x hx h0
  have hm:=List.mem_of_getElem? hx
  have hcx:=Tm.count_mem hm
  have hct:=Tm.count_eq t
  exact zb4 x g (by omega) (hs x hm) hg h0
 by_cases hI:(Tm.inferN.infers t.args g).2=0
 ·rw [if_pos hI] at h
  obtain ⟨h10,hbg⟩:=z1an hk2 h
  obtain ⟨hdl,hall⟩:=Tm.infers_all t.args g hI
  rw [h10] at ha
  match hargs:t.args,ha with
  | [x,y],_=>
   obtain ⟨x1,x2⟩:=hall 0 x (by rw [hargs];rfl)
   obtain ⟨y1,y2⟩:=hall 1 y (by rw [hargs];rfl)
   have w:=stepOK 0 x (by rw [hargs];rfl) x1
   have v:=stepOK 1 y (by rw [hargs];rfl) y1
   have xo:=Tm.inferN_ok x g (hs x (by rw [hargs];simp)) hg x1
   have yo:=Tm.inferN_ok y g (hs y (by rw [hargs];simp)) hg y1
   have e0:(Tm.inferN.infers t.args g).1.getD 0 zeroTy=(x.inferN g).1:=by rw [List.getD_eq_getElem?_getD,x2];rfl
   have e1:(Tm.inferN.infers t.args g).1.getD 1 zeroTy=(y.inferN g).1:=by rw [List.getD_eq_getElem?_getD,y2];rfl
   rw [e0,e1] at hbg
   have hbig:=zk7 (.inl rfl) xo yo hbg
   generalize (x.inferN g).1=d at *
   generalize (y.inferN g).1=e at *
   have wn:=z1am (gl:=gl) t h10 d e xo.2 yo.2 hbig
   rw [z75] at wn
   simp only [z0q] at w v
   clear ih stepOK
   generalize List.map szC g=G at *
   rw [hargs] at ftt
   simp only [List.map_cons,List.map_nil] at ftt
   rw [Tm.cells_eq x,Tm.cells_eq y] at ftt
   refine t_g (j2 @h1 (j2 @hk2 @hargs)) ?_
   refine z0n ?_
   refine t_g @hargs ?_
   refine t_c1 trivial w ?_
   refine t_g0 ?_
   refine z0c [] (s':=[(.slot 0,.one (.v (.sl G))),(.slot 67,.one (.v (dint 1))),(.slot 66,.one (.v (dint 2))),(.slot 65,.one (.v (.sl [x.cells,y.cells]))),(.slot 3,.one (.loc 3 0)),(.loc 3,.row ([.v (dint t.kind),.v (dint t.index),.v (dint t.type.kind),.v (.sl (t.type.args.map Ty.cells)),.v (.sl [x.cells,y.cells])])),(.slot 4,.one (.loc 4 0)),(.loc 4,.row ([.v (dint 0),.own 0 [],.v (dint 0)])),(.slot 9,.one (.loc 9 0)),(.loc 9,.row ([.v (dint d.kind),.v (.sl (d.args.map Ty.cells)),.v (dint (d.count:Int)),.v (dint 0),.own 0 [],.v (dint 0),.v (dint 0),.own 0 [],.v (dint 0)]))]) (by simp [go_sem]) (by simp [go_sem,hargs]) (by simp [go_sem]) ?_
   refine z0j ?_
   refine t_g @hargs ?_
   refine t_c1 trivial v ?_
   refine t_g0 ?_
   refine z0c [] (s':=[(.slot 0,.one (.v (.sl G))),(.slot 67,.one (.v (dint 2))),(.slot 66,.one (.v (dint 2))),(.slot 65,.one (.v (.sl [x.cells,y.cells]))),(.slot 3,.one (.loc 3 0)),(.loc 3,.row ([.v (dint t.kind),.v (dint t.index),.v (dint t.type.kind),.v (.sl (t.type.args.map Ty.cells)),.v (.sl [x.cells,y.cells])])),(.slot 4,.one (.loc 4 0)),(.loc 4,.row ([.v (dint 0),.own 0 [],.v (dint 0)])),(.slot 9,.one (.loc 9 0)),(.loc 9,.row ([.v (dint d.kind),.v (.sl (d.args.map Ty.cells)),.v (dint (d.count:Int)),.v (dint e.kind),.v (.sl (e.args.map Ty.cells)),.v (dint (e.count:Int)),.v (dint 0),.own 0 [],.v (dint 0)]))]) (by simp [go_sem]) (by simp [go_sem,hargs]) (by simp [go_sem]) ?_
   refine z0j ?_
   refine t_g0 ?_
   refine t_c1 @ftt wn ?_
   refine t_r ?_
   simp [go_sem,hP,hgl,hn] <;> (try omega)
 rw [if_neg hI] at h
 obtain ⟨i,z,z1,z2,z3⟩:=zk8 h
 have zm:=List.mem_of_getElem? z1
 have wz:=ih z zm g (by have hcx:=Tm.count_mem zm;have hct:=Tm.count_eq t;omega) (hs z zm) hg z2
 clear ih
 have hiz:i<t.args.length:=(List.getElem?_eq_some_iff.1 z1).1
 match hargs:t.args,h3 with
 | [],_=>rw [hargs] at hiz;simp at hiz
 | [x],_=>
  rw [hargs] at z1 z3 hiz ftt
  simp only [List.map_cons,List.map_nil] at ftt
  rw [Tm.cells_eq x] at ftt
  match i,hiz,z1,z3 with
  | 0,_,z1,z3=>
   simp at z1
   subst z1
   clear stepOK
   generalize List.map szC g=G at *
   refine t_g (j2 @h1 (j2 @hk2 @hargs)) ?_
   refine z0n ?_
   refine t_g @hargs ?_
   refine t_c1 trivial wz ?_
   refine t_g0 ?_
   refine t_r ?_
   simp [go_sem,hP,hgl,hn] <;> (try omega)
   all_goals exact t_f
  | i+1,hiz,_,_=>exact absurd hiz (by simp)
 | [x,y],_=>
  rw [hargs] at z1 z3 hiz ftt
  simp only [List.map_cons,List.map_nil] at ftt
  rw [Tm.cells_eq x,Tm.cells_eq y] at ftt
  match i,hiz,z1,z3 with
  | 0,_,z1,z3=>
   simp at z1
   subst z1
   clear stepOK
   generalize List.map szC g=G at *
   refine t_g (j2 @h1 (j2 @hk2 @hargs)) ?_
   refine z0n ?_
   refine t_g @hargs ?_
   refine t_c1 trivial wz ?_
   refine t_g0 ?_
   refine t_r ?_
   simp [go_sem,hP,hgl,hn] <;> (try omega)
   all_goals exact t_f
  | 1,_,z1,z3=>
   simp at z1
   subst z1
   have w:=stepOK 0 x (by rw [hargs];rfl) (z3 0 x (by omega) rfl)
   generalize (x.inferN g).1=d at *
   simp only [z0q] at w
   clear stepOK
   generalize List.map szC g=G at *
   refine t_g (j2 @h1 (j2 @hk2 @hargs)) ?_
   refine z0n ?_
   refine t_g @hargs ?_
   refine t_c1 trivial w ?_
   refine t_g0 ?_
   refine z0c [] (s':=[(.slot 0,.one (.v (.sl G))),(.slot 67,.one (.v (dint 1))),(.slot 66,.one (.v (dint 2))),(.slot 65,.one (.v (.sl [x.cells,y.cells]))),(.slot 3,.one (.loc 3 0)),(.loc 3,.row ([.v (dint t.kind),.v (dint t.index),.v (dint t.type.kind),.v (.sl (t.type.args.map Ty.cells)),.v (.sl [x.cells,y.cells])])),(.slot 4,.one (.loc 4 0)),(.loc 4,.row ([.v (dint 0),.own 0 [],.v (dint 0)])),(.slot 9,.one (.loc 9 0)),(.loc 9,.row ([.v (dint d.kind),.v (.sl (d.args.map Ty.cells)),.v (dint (d.count:Int)),.v (dint 0),.own 0 [],.v (dint 0),.v (dint 0),.own 0 [],.v (dint 0)]))]) (by simp [go_sem]) (by simp [go_sem,hargs]) (by simp [go_sem]) ?_
   refine z0j ?_
   refine t_g @hargs ?_
   refine t_c1 trivial wz ?_
   refine t_g0 ?_
   refine t_r ?_
   simp [go_sem,hP,hgl,hn] <;> (try omega)
   all_goals exact t_f
  | i+2,hiz,_,_=>exact absurd hiz (by simp)
 | [x,y,z'],_=>
  rw [hargs] at z1 z3 hiz ftt
  simp only [List.map_cons,List.map_nil] at ftt
  rw [Tm.cells_eq x,Tm.cells_eq y,Tm.cells_eq z'] at ftt
  match i,hiz,z1,z3 with
  | 0,_,z1,z3=>
   simp at z1
   subst z1
   clear stepOK
   generalize List.map szC g=G at *
   refine t_g (j2 @h1 (j2 @hk2 @hargs)) ?_
   refine z0n ?_
   refine t_g @hargs ?_
   refine t_c1 trivial wz ?_
   refine t_g0 ?_
   refine t_r ?_
   simp [go_sem,hP,hgl,hn] <;> (try omega)
   all_goals exact t_f
  | 1,_,z1,z3=>
   simp at z1
   subst z1
   have w:=stepOK 0 x (by rw [hargs];rfl) (z3 0 x (by omega) rfl)
   generalize (x.inferN g).1=d at *
   simp only [z0q] at w
   clear stepOK
   generalize List.map szC g=G at *
   refine t_g (j2 @h1 (j2 @hk2 @hargs)) ?_
   refine z0n ?_
   refine t_g @hargs ?_
   refine t_c1 trivial w ?_
   refine t_g0 ?_
   refine z0c [] (s':=[(.slot 0,.one (.v (.sl G))),(.slot 67,.one (.v (dint 1))),(.slot 66,.one (.v (dint 3))),(.slot 65,.one (.v (.sl [x.cells,y.cells,z'.cells]))),(.slot 3,.one (.loc 3 0)),(.loc 3,.row ([.v (dint t.kind),.v (dint t.index),.v (dint t.type.kind),.v (.sl (t.type.args.map Ty.cells)),.v (.sl [x.cells,y.cells,z'.cells])])),(.slot 4,.one (.loc 4 0)),(.loc 4,.row ([.v (dint 0),.own 0 [],.v (dint 0)])),(.slot 9,.one (.loc 9 0)),(.loc 9,.row ([.v (dint d.kind),.v (.sl (d.args.map Ty.cells)),.v (dint (d.count:Int)),.v (dint 0),.own 0 [],.v (dint 0),.v (dint 0),.own 0 [],.v (dint 0)]))]) (by simp [go_sem]) (by simp [go_sem,hargs]) (by simp [go_sem]) ?_
   refine z0j ?_
   refine t_g @hargs ?_
   refine t_c1 trivial wz ?_
   refine t_g0 ?_
   refine t_r ?_
   simp [go_sem,hP,hgl,hn] <;> (try omega)
   all_goals exact t_f
  | 2,_,z1,z3=>
   simp at z1
   subst z1
   have w:=stepOK 0 x (by rw [hargs];rfl) (z3 0 x (by omega) rfl)
   have v:=stepOK 1 y (by rw [hargs];rfl) (z3 1 y (by omega) rfl)
   generalize (x.inferN g).1=d at *
   generalize (y.inferN g).1=e at *
   simp only [z0q] at w v
   clear stepOK
   generalize List.map szC g=G at *
   refine t_g (j2 @h1 (j2 @hk2 @hargs)) ?_
   refine z0n ?_
   refine t_g @hargs ?_
   refine t_c1 trivial w ?_
   refine t_g0 ?_
   refine z0c [] (s':=[(.slot 0,.one (.v (.sl G))),(.slot 67,.one (.v (dint 1))),(.slot 66,.one (.v (dint 3))),(.slot 65,.one (.v (.sl [x.cells,y.cells,z'.cells]))),(.slot 3,.one (.loc 3 0)),(.loc 3,.row ([.v (dint t.kind),.v (dint t.index),.v (dint t.type.kind),.v (.sl (t.type.args.map Ty.cells)),.v (.sl [x.cells,y.cells,z'.cells])])),(.slot 4,.one (.loc 4 0)),(.loc 4,.row ([.v (dint 0),.own 0 [],.v (dint 0)])),(.slot 9,.one (.loc 9 0)),(.loc 9,.row ([.v (dint d.kind),.v (.sl (d.args.map Ty.cells)),.v (dint (d.count:Int)),.v (dint 0),.own 0 [],.v (dint 0),.v (dint 0),.own 0 [],.v (dint 0)]))]) (by simp [go_sem]) (by simp [go_sem,hargs]) (by simp [go_sem]) ?_
   refine z0j ?_
   refine t_g @hargs ?_
   refine t_c1 trivial v ?_
   refine t_g0 ?_
   refine z0c [] (s':=[(.slot 0,.one (.v (.sl G))),(.slot 67,.one (.v (dint 2))),(.slot 66,.one (.v (dint 3))),(.slot 65,.one (.v (.sl [x.cells,y.cells,z'.cells]))),(.slot 3,.one (.loc 3 0)),(.loc 3,.row ([.v (dint t.kind),.v (dint t.index),.v (dint t.type.kind),.v (.sl (t.type.args.map Ty.cells)),.v (.sl [x.cells,y.cells,z'.cells])])),(.slot 4,.one (.loc 4 0)),(.loc 4,.row ([.v (dint 0),.own 0 [],.v (dint 0)])),(.slot 9,.one (.loc 9 0)),(.loc 9,.row ([.v (dint d.kind),.v (.sl (d.args.map Ty.cells)),.v (dint (d.count:Int)),.v (dint e.kind),.v (.sl (e.args.map Ty.cells)),.v (dint (e.count:Int)),.v (dint 0),.own 0 [],.v (dint 0)]))]) (by simp [go_sem]) (by simp [go_sem,hargs]) (by simp [go_sem]) ?_
   refine z0j ?_
   refine t_g @hargs ?_
   refine t_c1 trivial wz ?_
   refine t_g0 ?_
   refine t_r ?_
   simp [go_sem,hP,hgl,hn] <;> (try omega)
   all_goals exact t_f
  | i+3,hiz,_,_=>exact absurd hiz (by simp)
theorem z1ap (har:globOf gl 0=some arEls){t:Tm}{a:T}{F:Env []→a.V}(h:Dn [] t a F)(hc:t.count≤536870912) :
  Con1 Tryz.prog gl 40 [.sl [],t.dv] [] (if (t.typeE []).2=0 then .tup [a.ty.dv,dint 0] else .tup [(Ty.mk 0 []).dv,dint 4]) []:=by
 have hs:=z1g h
 have hct:ctxN []=0:=rfl
 by_cases hk:t.checkN=0
 ·have hty:t.typeE []=t.inferN []:=by
   unfold Tm.typeE Tm.typedE
   rw [if_pos hct,if_pos hk]
  rw [hty]
  have hcc:=((Tm.checkN_iff t).1 hk).2
  rcases z6x h with h1|h1
  ·have h1:t.inferN []=(a.ty,0):=h1
   rw [h1]
   exact zb5 har t a.ty hk h1
  ·have h1:(t.inferN []).2=4:=h1
   rw [if_neg (by rw [h1];decide)]
   have w2:=zaf (gl:=gl) har t (z2b t hs) (by omega)
   rw [hk] at w2
   have w3:=z1ao (gl:=gl) t [] (by simp;omega) hs (by simp) h1
   have ftt:=Tm.fold t
   have fz:DV.agg [dint 0,.sl []]=(Ty.mk 0 []).dv:=rfl
   simp only [List.map_nil] at w3
   refine t_in Tryz.func40 ?_
   intro X hP hgl hf hfn hn hR hids hfit
   refine t_g0 ?_
   refine t_c1 trivial zdg ?_
   refine t_g0 ?_
   refine t_c1 @ftt w2 ?_
   refine t_g0 ?_
   refine t_c2 @ftt zik w3 ?_
   refine t_g0 ?_
   refine t_r ?_
   simp [go_sem,hP,hgl,hn] <;> (try omega)
   all_goals exact t_f
 ·have hk4:t.checkN=4:=by
   unfold Tm.checkN at hk ⊢
   rw [if_pos hs] at hk ⊢
   split at hk
   ·rename_i q;rw [if_pos q]
   ·exact absurd rfl hk
  have hty:(t.typeE []).2=4:=by
   unfold Tm.typeE Tm.typedE
   rw [if_pos hct,if_neg hk]
   exact hk4
  rw [if_neg (by rw [hty];decide)]
  have w2:=zaf (gl:=gl) har t (z2b t hs) (by omega)
  rw [hk4] at w2
  have ftt:=Tm.fold t
  have fz:DV.agg [dint 0,.sl []]=(Ty.mk 0 []).dv:=rfl
  refine t_in Tryz.func40 ?_
  intro X hP hgl hf hfn hn hR hids hfit
  refine t_g0 ?_
  refine t_c1 trivial zdg ?_
  refine t_g0 ?_
  refine t_c1 @ftt w2 ?_
  refine t_g0 ?_
  refine t_r ?_
  simp [go_sem,hP,hgl,hn] <;> (try omega)
  all_goals exact t_f
end
section
variable {gl:Globs}
def callR (t:Tm)(v:Val)(c:Nat)(work:Int):Val × Int × Int:=if (t.typeE []).2=0 then (if (c:Int)≤work then (v,(c:Int),0) else (zeroV,0,5)) else (zeroV,0,4)
theorem z1aq (t:Tm)(v:Val)(c:Nat)(work:Int):(callR t v c work).2.2=4∨(callR t v c work).2.2=5∨((callR t v c work).2.2=0∧(callR t v c work).1=v):=by
 unfold callR
 split
 ·split
  ·exact .inr (.inr ⟨rfl,rfl⟩)
  ·exact .inr (.inl rfl)
 ·exact .inl rfl
theorem z1ar {t:Tm}{a:T}{F:Env []→a.V}(h:Dn [] t a F)(h0:(t.typeE []).2=0):t.checkN=0∧t.inferN []=(a.ty,0):=by
 have hct:ctxN []=0:=rfl
 by_cases hk:t.checkN=0
 ·refine ⟨hk,?_⟩
  have hty:t.typeE []=t.inferN []:=by
   unfold Tm.typeE Tm.typedE
   rw [if_pos hct,if_pos hk]
  rcases z6x h with h1|h1
  ·exact h1
  ·have h1:(t.inferN []).2=4:=h1
   rw [hty,h1] at h0
   cases h0
 ·unfold Tm.typeE Tm.typedE at h0
  rw [if_pos hct,if_neg hk] at h0
  exact absurd h0 hk
theorem z1as (har:globOf gl 0=some arEls){t:Tm}{l:List T}{r:T}{F:Env []→(FnT l r).V}(h:Dn [] t (FnT l r) F)(hc:t.count≤536870912)(Z:Env l)(y:r.V)(hl:Plains l)(hll:l.length≤1000000)(hr:r.plain)(hro:r.ok){c d:Nat}(hcs:callS d t (mvsOf l Z)=some (ofM r y,c))(wk:Nat)(hwk:wk≤65536)(M:Nat)(hM:M≤1073000000)(hX:MV.nles M (mvsOf l Z)) :
  Con1 Tryz.prog gl 105 [t.dv,.sl ((valsOf l Z).map Val.cells),dint (wk:Int)] [] (.tup [(callR t (valOf r y) c wk).1.dv,dint (callR t (valOf r y) c wk).2.1,dint (callR t (valOf r y) c wk).2.2]) []:=by
 unfold callR
 by_cases h0:(t.typeE []).2=0
 ·rw [if_pos h0]
  obtain ⟨h1,h2⟩:=z1ar h h0
  have w:=zjy (gl:=gl) har t l r Z _ c d hcs h1 h2 hl hll hr hro wk hwk M hM hX
  unfold outC at w
  split at w
  ·rename_i q;rw [if_pos q];exact w
  ·rename_i q;rw [if_neg q];exact w
 ·rw [if_neg h0]
  have hte:=z1ap (gl:=gl) har h hc
  rw [if_neg h0] at hte
  have hft:=Tm.fold t
  have fz:(Ty.mk 0 []).dv = .agg [dint 0,.sl []]:=rfl
  rw [fz] at hte
  refine t_in Tryz.func105 ?_
  intro X hP hgl hf hfn hn hR hids hfit
  refine t_g0 ?_
  refine t_c1 @hft hte ?_
  refine t_g0 ?_
  refine t_r ?_
  simp [go_sem,hP,hgl,hn,zeroV] <;> (try omega)
  all_goals exact t_f
end
section
variable {gl:Globs}
theorem z92 {t:Tm}{f b m:Int}(hb:0≤b)(h:t.idx m):(t.upN f b).idx (m+b):=by
 induction t using Tm.ind generalizing f with
 | h t ih=>
 rw [Tm.idx_eq] at h
 rw [Tm.upN_eq,Tm.idx_eq,Tm.index_mk,Tm.args_mk]
 refine ⟨?_,?_⟩
 ·split <;> omega
 ·intro x hx
  obtain ⟨y,hy,rfl⟩:=List.mem_map.1 hx
  exact ih y hy (h.2 y hy)
theorem z7b {t:Tm}{f b:Int}(hb:0≤b)(h:t.shape=true):(t.upN f b).shape=true:=by
 induction t using Tm.ind generalizing f with
 | h t ih=>
 have h0:=h
 rw [Tm.shape_eq,Bool.and_eq_true,Tm.shapes_iff] at h
 rw [Tm.upN_eq,Tm.shape_eq,Bool.and_eq_true,Tm.shapes_iff,Tm.kind_mk,Tm.index_mk,Tm.type_mk,Tm.args_mk,List.length_map]
 refine ⟨?_,?_⟩
 ·have h1:=h.1
  simp only [tmKind,Bool.and_eq_true,Bool.or_eq_true] at h1 ⊢
  obtain ⟨⟨⟨a1,a2⟩,a3⟩,a4⟩:=h1
  have a2:=of_decide_eq_true a2
  refine ⟨⟨⟨a1,?_⟩,?_⟩,a4⟩
  ·apply decide_eq_true;split <;> omega
  ·rcases a3 with a3|a3
   ·exact .inl a3
   ·have a3:=of_decide_eq_true a3
    by_cases hk:t.kind=1
    ·exact .inl (decide_eq_true hk)
    ·exact .inr (decide_eq_true (by rw [if_neg (fun h=>hk h.1)];exact a3))
 ·intro x hx
  obtain ⟨y,hy,rfl⟩:=List.mem_map.1 hx
  exact ih y hy (h.2 y hy)
theorem z93 {k:Int}{s:Ty}{l:List Tm}{m:Int}(hm:0≤m)(h:∀ x ∈ l,x.idx m):(Tm.mk k 0 s l).idx m:=by
 rw [Tm.idx_eq];exact ⟨⟨Int.le_refl _,hm⟩,h⟩
theorem z2t {i m:Int}(h0:0≤i)(h:i≤m):(vT i).idx m:=by
 unfold vT;rw [Tm.idx_eq];exact ⟨⟨h0,h⟩,fun x hx=>by cases hx⟩
def Fine (e:Int)(M:Int)(t:Tm):Prop:=t.count≤268435456∧(e=0→t.shape=true∧t.idx M)
theorem Fine.mono {e M M':Int}{t:Tm}(h:Fine e M t)(hM:M≤M'):Fine e M' t:=⟨h.1,fun he=>⟨(h.2 he).1,Tm.idx_mono hM (h.2 he).2⟩⟩
theorem z5v {e k M:Int}{s:Ty}{l:List Tm}(hM:0≤M)(hs:e=0→(Tm.mk k 0 s l).shape=true)(hl:e=0→∀ x ∈ l,x.idx M):Fine (nodeE e k s l).2 M (nodeE e k s l).1:=by
 refine ⟨by have:=z06 e k s l;omega,fun h=>?_⟩
 obtain ⟨h1,h2,-⟩:=z0p h
 rw [h2]
 exact ⟨hs h1,z93 hM (hl h1)⟩
theorem Fine.later {e e' M:Int}{t:Tm}(h:Fine e M t)(he:e' = 0→e=0):Fine e' M t:=⟨h.1,fun h'=>h.2 (he h')⟩
theorem Fine.beside {e e' M M':Int}{t u:Tm}(_:Fine e' M' u)(h:Fine e M t)(he:e' = 0→e=0):Fine e' M t:=h.later he
theorem z5w {M:Int}(hM:0≤M):∀ (l:List Tm) {e:Int} {f:Tm},Fine e M f→(e=0→∀ x ∈ l,x.shape=true∧x.idx M)→Fine (callE e f l).2 M (callE e f l).1
 | [],e,f,hf,_=>hf
 | a::r,e,f,hf,hl=>by
  rw [callE]
  refine z5w hM r (z5v hM (fun he=>z1m rfl (by decide) ?_) (fun he=>?_)) fun he x hx=>hl (z0p he).1 x (by simp [hx])
  ·intro z hz;simp at hz;rcases hz with rfl|rfl;exact (hf.2 he).1;exact (hl he _ (by simp)).1
  ·intro z hz;simp at hz;rcases hz with rfl|rfl;exact (hf.2 he).2;exact (hl he _ (by simp)).2
theorem z1at {M:Int}(hM:10≤M):Fine 0 M greatT:=by
 refine ⟨by decide,fun _=>⟨by decide,Tm.idx_mono hM ?_⟩⟩
 have:∀ t:Tm,t=greatT→t.idx 10:=by
  rintro t rfl
  simp [greatT,lamT,appsT,appT,plusT,subT,predT,twoT,recT,lamsT,nT,vT,Tm.idx,Tm.idx.idxs]
 exact this _ rfl
theorem z1au {M:Int}{e i:Int}(h0:0≤i)(hM:i≤M):Fine e M (vT i):=by
 refine ⟨by show 1+0≤268435456;omega,fun _=>⟨?_,z2t h0 hM⟩⟩
 obtain ⟨n,rfl⟩:∃ n:Nat,i=n:=⟨i.toNat,by omega⟩
 exact z2k
theorem z94 {e M f b:Int}{t:Tm}(hb:0≤b)(h:Fine e M t):Fine e (M+b) (t.upN f b):=
 ⟨by rw [z2r];exact h.1,fun he=>⟨z7b hb (h.2 he).1,z92 hb (h.2 he).2⟩⟩
theorem z95 {e k M:Int}{x:Tm}(hM:0≤M)(hk:k=5∨k=11∨k=12)(hx:Fine e M x):Fine (nodeE e k zY [x]).2 M (nodeE e k zY [x]).1:=
 z5v hM (fun he=>z1m (by rcases hk with rfl|rfl|rfl <;> rfl) (by rcases hk with rfl|rfl|rfl <;> decide) (by intro z hz;simp at hz;rw [hz];exact (hx.2 he).1)) fun he z hz=>by simp at hz;rw [hz];exact (hx.2 he).2
theorem z96 {e M:Int}{s:T}{x:Tm}(hs:s.ok)(hM:0≤M)(hx:Fine e M x):Fine (nodeE e 2 s.ty [x]).2 M (nodeE e 2 s.ty [x]).1:=
 z5v hM (fun he=>z1f rfl (.inl rfl) (T.ok_ty hs) (by intro z hz;simp at hz;rw [hz];exact (hx.2 he).1)) fun he z hz=>by simp at hz;rw [hz];exact (hx.2 he).2
theorem z7c:∀ (a:T) {x y:Tm} {e M:Int},a.ok→10≤M→Fine e M x→Fine e M y→Fine (maxE a.ty x y e).2 (M+a.size) (maxE a.ty x y e).1
 | a,x,y,e,M,ho,hM,hx,hy=>by
  by_cases h0:e=0
  ·subst h0
   cases a with
   | nat=>
    rw [zcv]
    exact (z5w (by omega) _ (z1at hM) fun _ z hz=>by simp at hz;rcases hz with rfl|rfl;exact hx.2 rfl;exact hy.2 rfl).mono (by simp only [T.size];omega)
   | list=>rw [zcw];exact ⟨by show 1+0≤268435456;omega,fun _=>⟨rfl,z93 (by simp only [T.size];omega) (fun z hz=>by cases hz)⟩⟩
   | unit=>rw [zcx];exact ⟨by show 1+0≤268435456;omega,fun _=>⟨rfl,z93 (by simp only [T.size];omega) (fun z hz=>by cases hz)⟩⟩
   | pair s t=>
    rw [zcy ho]
    simp only [T.ok,T.size] at ho
    have p:=z95 (k:=11) (by omega) (.inr (.inl rfl)) hx
    have q:=z95 (k:=11) (e:=(nodeE 0 11 zY [x]).2) (by omega) (.inr (.inl rfl)) (hy.later fun h=>rfl)
    have l:=z7c s (by unfold T.ok;omega) hM (p.later fun h=>(z0p h).1) q
    have p':=z95 (k:=12) (e:=(maxE s.ty (nodeE 0 11 zY [x]).1 (nodeE (nodeE 0 11 zY [x]).2 11 zY [y]).1 (nodeE (nodeE 0 11 zY [x]).2 11 zY [y]).2).2) (by omega) (.inr (.inr rfl)) (hx.later fun h=>rfl)
    have q':=z95 (k:=12) (e:=(nodeE (maxE s.ty (nodeE 0 11 zY [x]).1 (nodeE (nodeE 0 11 zY [x]).2 11 zY [y]).1 (nodeE (nodeE 0 11 zY [x]).2 11 zY [y]).2).2 12 zY [x]).2) (by omega) (.inr (.inr rfl)) (hy.later fun h=>rfl)
    have r:=z7c t (by unfold T.ok;omega) hM (p'.later fun h=>(z0p h).1) q'
    have l':=Fine.beside r l fun h=>(z0p (z0p (z6w t (by unfold T.ok;omega) h).1).1).1
    refine z5v (by simp only [T.size];omega) (fun he=>z1m rfl (by decide) ?_) (fun he=>?_)
    ·intro z hz;simp at hz;rcases hz with rfl|rfl;exact (l'.2 he).1;exact (r.2 he).1
    ·intro z hz;simp at hz;rcases hz with rfl|rfl;exact Tm.idx_mono (by simp only [T.size];omega) (l'.2 he).2;exact Tm.idx_mono (by simp only [T.size];omega) (r.2 he).2
   | fn s t=>
    rw [zcz ho]
    simp only [T.ok,T.size] at ho
    have p:=z5w (M:=M+1) (by omega) [vT 0] (z94 (f:=0) (b:=1) (by decide) hx) fun he z hz=>by simp at hz;rw [hz];exact ⟨z2k (i:=0),z2t (by decide) (by omega)⟩
    have q:=z5w (M:=M+1) (by omega) [vT 0] (z94 (f:=0) (b:=1) (by decide) (hy.later (e':=(callE 0 (x.upN 0 1) [vT 0]).2) fun h=>rfl)) fun he z hz=>by simp at hz;rw [hz];exact ⟨z2k (i:=0),z2t (by decide) (by omega)⟩
    have r:=z7c t (M:=M+1) (by unfold T.ok;omega) (by omega) (p.later fun h=>(z4y h).1) q
    exact (z96 (by unfold T.ok;omega) (by omega) r).mono (by simp only [T.size];omega)
  ·rw [zd0 ho h0]
   exact ⟨by show 1+0≤268435456;omega,fun h=>absurd h h0⟩
end
section
variable {gl:Globs}
theorem z1av (l:List Ty):bareN.bares l=l.map bareN:=by
 induction l with
 | nil=>rfl
 | cons a r ih=>simp [bareN.bares,ih]
theorem z1aw (t:Ty):bareN t=if t.kind=2 then Ty.mk 1 [] else Ty.mk t.kind (t.args.map bareN):=by
 cases t;rw [bareN,z1av];rfl
theorem ze7 (l:List Tm)(h:(majE.majsE l).2=0):(majE.majsE l).1.length=l.length∧∀ (i:Nat) (x:Tm),l[i]? = some x→(majE x).2=0∧(majE.majsE l).1[i]? = some (majE x).1:=by
 induction l with
 | nil=>simp [majE.majsE]
 | cons a r ih=>
  simp only [majE.majsE] at h ⊢
  by_cases ha:(majE a).2=0
  ·by_cases hr:(majE.majsE r).2=0
   ·simp only [ha,hr,if_true]
    obtain ⟨h1,h2⟩:=ih hr
    refine ⟨by simp [h1],?_⟩
    intro i x hx
    cases i with
    | zero=>simp at hx;subst hx;exact ⟨ha,by simp⟩
    | succ i=>simp at hx;simpa using h2 i x hx
   ·simp [ha,hr] at h
  ·simp [ha] at h
theorem z1ax (l:List Tm)(x:Tm)(h:(majE.majsE l).2=0)(hx:(majE x).2=0):majE.majsE (l++[x])=((majE.majsE l).1++[(majE x).1],0):=by
 induction l with
 | nil=>simp [majE.majsE,hx]
 | cons a r ih=>
  simp only [majE.majsE] at h
  by_cases ha:(majE a).2=0
  ·by_cases hr:(majE.majsE r).2=0
   ·simp [majE.majsE,ha,hr,ih hr]
   ·simp [ha,hr] at h
  ·simp [ha] at h
theorem z1ay (l:List Tm)(x:Tm)(m:List Tm)(h:(majE.majsE l).2=0)(hx:¬ (majE x).2=0):majE.majsE (l++x::m)=([],(majE x).2):=by
 induction l with
 | nil=>simp [majE.majsE,hx]
 | cons a r ih=>
  simp only [majE.majsE] at h
  by_cases ha:(majE a).2=0
  ·by_cases hr:(majE.majsE r).2=0
   ·simp [majE.majsE,ha,ih hr,hx]
   ·simp [ha,hr] at h
  ·simp [ha] at h
theorem zk9 {s:T}{next:Tm}{e M:Int}(ho:s.ok)(hM:10≤M)(hx:Fine e M next):Fine (stepE s.ty next e).2 (M+s.size) (stepE s.ty next e).1:=by
 unfold stepE
 have h1:=z7c s ho hM (z1au (e:=e) (i:=0) (by decide) (by omega)) hx
 exact z96 (s:=.nat) z0r (by omega) (z96 ho (by omega) h1)
theorem ze8 {t:Tm}(hs:t.shape=true)(hk:t.kind=2∨t.kind=6∨t.kind=9):∃ a:T,a.ty=t.type∧a.ok∧bareN t.type=a.maj.ty∧a.maj.ok∧a.maj.size≤64:=by
 have h:=(Tm.shape_node hs).2.2.2.1
 rw [if_pos hk] at h
 obtain ⟨a,ha⟩:=T.of_shape t.type h.1
 have hok:a.ok:=T.ty_ok (by rw [ha];exact h)
 exact ⟨a,ha,hok,by rw [← ha,z3o],z29 hok,z29 hok⟩
theorem zka (t:Tm):∀ {M:Int},t.shape=true→t.idx M→10≤M→Fine (majE t).2 (M+100 * t.count) (majE t).1:=by
 induction t using Tm.ind with
 | h t ih=>
 intro M hs hi hM
 obtain ⟨hlen,hi0,hv,hty,hsa⟩:=Tm.shape_node hs
 have hix:=(Tm.idx_eq t _).1 hi
 have hct:=Tm.count_eq t
 rw [zas]
 by_cases h0:(majE.majsE t.args).2=0
 rotate_left
 ·rw [if_neg h0];exact ⟨by show 1+0≤268435456;omega,fun h=>absurd h h0⟩
 rw [if_pos h0]
 obtain ⟨hl,hx⟩:=ze7 t.args h0
 have get:∀ (i:Nat) (x:Tm),t.args[i]? = some x→∃ y,(majE.majsE t.args).1[i]? = some y∧Fine 0 (M+100 * (t.count - 1)) y:=by
  intro i x hix2
  obtain ⟨x1,x2⟩:=hx i x hix2
  have hm:=List.mem_of_getElem? hix2
  have hc:=Tm.count_mem hm
  have:=ih x hm (hsa x hm) (hix.2 x hm) hM
  exact ⟨_,x2,(this.later fun _=>x1).mono (by omega)⟩
 generalize (majE.majsE t.args).1=l at get hl ⊢
 have hc1:1≤t.count:=Tm.count_pos t
 generalize hM1:M+100 * ((t.count:Int) - 1)=M1 at get
 have hMt:M+100 * t.count=M1+100:=by omega
 rw [hMt]
 have hM2:10≤M1:=by omega
 have all:∀ z ∈ l,Fine 0 M1 z:=by
  intro z hz
  obtain ⟨i,hi⟩:=List.getElem?_of_mem hz
  have hil:=(List.getElem?_eq_some_iff.1 hi).1
  obtain ⟨y,hy,fy⟩:=get i t.args[i] (List.getElem?_eq_getElem (by omega))
  rw [hi] at hy;cases hy
  exact fy
 clear get
 unfold majNodeE
 by_cases h7:t.kind=7
 ·rw [if_pos h7];exact ⟨by show 1+0≤268435456;omega,fun _=>⟨rfl,z93 (by omega) (fun z hz=>by cases hz)⟩⟩
 rw [if_neg h7]
 by_cases h8:t.kind=8
 ·rw [if_pos h8]
  have h2:l.length=2:=by rw [h8] at hlen;simp [arityI] at hlen;omega
  match l,h2,all with
  | [y,z],_,all=>
   have fz:=z95 (k:=5) (by omega) (.inl rfl) (all z (by simp))
   exact (z7c .nat z0r hM2 ((all y (by simp)).later fun h=>rfl) fz).mono (by simp only [T.size];omega)
 rw [if_neg h8]
 by_cases h2:t.kind=2
 ·rw [if_pos h2]
  obtain ⟨a,-,-,hb,ho,-⟩:=ze8 hs (.inl h2)
  have h1:l.length=1:=by rw [h2] at hlen;simp [arityI] at hlen;omega
  match l,h1,all with
  | [y],_,all=>
   rw [hb]
   exact (z96 ho (by omega) (all y (by simp))).mono (by omega)
 rw [if_neg h2]
 by_cases h6:t.kind=6
 ·rw [if_pos h6]
  obtain ⟨a,-,-,hb,ho,hsz⟩:=ze8 hs (.inr (.inl h6))
  have h1:l.length=3:=by rw [h6] at hlen;simp [arityI] at hlen;omega
  match l,h1,all with
  | [x,f,n],_,all=>
   rw [hb]
   have c:=z5w (M:=M1+2) (by omega) [vT 1,vT 0] (z94 (f:=0) (b:=2) (by decide) (all f (by simp))) fun _ z hz=>by simp at hz;rcases hz with rfl|rfl;exact ⟨z2k (i:=1),z2t (by decide) (by omega)⟩;exact ⟨z2k (i:=0),z2t (by decide) (by omega)⟩
   have st:=zk9 ho (by omega) c
   refine (z5v (M:=M1+2+a.maj.size) (by omega) (fun he=>z1f rfl (.inr (.inl rfl)) (T.ok_ty ho) ?_) (fun he=>?_)).mono (by omega)
   ·intro z hz;simp at hz;rcases hz with rfl|rfl|rfl;exact ((all _ (by simp)).2 rfl).1;exact (st.2 he).1;exact ((all _ (by simp)).2 rfl).1
   ·intro z hz;simp at hz;rcases hz with rfl|rfl|rfl;exact Tm.idx_mono (by omega) ((all _ (by simp)).2 rfl).2;exact (st.2 he).2;exact Tm.idx_mono (by omega) ((all _ (by simp)).2 rfl).2
 rw [if_neg h6]
 by_cases h9:t.kind=9
 ·rw [if_pos h9]
  obtain ⟨a,-,-,hb,ho,hsz⟩:=ze8 hs (.inr (.inr h9))
  have h1:l.length=3:=by rw [h9] at hlen;simp [arityI] at hlen;omega
  match l,h1,all with
  | [x,f,n],_,all=>
   rw [hb]
   have c:=z5w (M:=M1+3) (by omega) [vT 2,vT 2,vT 0] (z94 (f:=0) (b:=3) (by decide) (all f (by simp))) fun _ z hz=>by simp at hz;rcases hz with rfl|rfl;exact ⟨z2k (i:=2),z2t (by decide) (by omega)⟩;exact ⟨z2k (i:=0),z2t (by decide) (by omega)⟩
   have st:=zk9 ho (by omega) c
   have x1:=z94 (f:=0) (b:=1) (by decide) (all x (by simp))
   have r:=z5v (e:=(stepE a.maj.ty (callE 0 (f.upN 0 3) [vT 2,vT 2,vT 0]).1 (callE 0 (f.upN 0 3) [vT 2,vT 2,vT 0]).2).2) (k:=6) (s:=a.maj.ty) (l:=[x.upN 0 1,(stepE a.maj.ty (callE 0 (f.upN 0 3) [vT 2,vT 2,vT 0]).1 (callE 0 (f.upN 0 3) [vT 2,vT 2,vT 0]).2).1,vT 0]) (M:=M1+3+a.maj.size) (by omega) (fun he=>z1f rfl (.inr (.inl rfl)) (T.ok_ty ho) (by
     intro z hz;simp at hz;rcases hz with rfl|rfl|rfl;exact (x1.2 rfl).1;exact (st.2 he).1;exact z2k (i:=0))) (fun he=>by
     intro z hz;simp at hz;rcases hz with rfl|rfl|rfl;exact Tm.idx_mono (by omega) (x1.2 rfl).2;exact (st.2 he).2;exact z2t (by decide) (by omega))
   have la:=z96 (s:=.nat) z0r (by omega) r
   exact (z5w (by omega) [n] la fun he z hz=>by simp at hz;rw [hz];exact ⟨((all n (by simp)).2 rfl).1,Tm.idx_mono (by omega) ((all n (by simp)).2 rfl).2⟩).mono (by omega)
 rw [if_neg h9]
 by_cases h1:t.kind=1
 ·rw [if_pos h1]
  have ha:t.args=[]:=by rw [h1] at hlen;simp [arityI] at hlen;exact hlen
  have hc:t.count=1:=by rw [Tm.count_eq,ha];rfl
  rw [Tm.eta]
  exact ⟨by rw [hc];decide,fun _=>⟨hs,Tm.idx_mono (by omega) hi⟩⟩
 rw [if_neg h1]
 refine (z5v (M:=M1) (by omega) (fun he=>z1m (by rw [hl];exact hlen) (by omega) fun z hz=>((all z hz).2 rfl).1) fun he z hz=>((all z hz).2 rfl).2).mono (by omega)
end
section
variable {gl:Globs}
theorem z1az (k:Int):arityI k≤3:=by
 unfold arityI
 repeat' split
 all_goals decide
end
section
variable {gl:Globs}
theorem z1b0 (d:Nat)(l:List DV):anyLoc d (l.map SV.v)=false:=by
 induction l with
 | nil=>rfl
 | cons x r ih=>simp [anyLoc,hasLoc,ih]
theorem z1b1 (d:Nat)(l:List DV):anyTok d (l.map SV.v)=false:=by
 induction l with
 | nil=>rfl
 | cons x r ih=>simp [anyTok,hasTok,ih]
theorem z1b2 (k b:Nat)(l:List DV):exRow k b (l.map SV.v)=l.map SV.v:=by
 induction l with
 | nil=>rfl
 | cons x r ih=>simp only [List.map_cons,exRow,ih];rfl
attribute [go_sem] z1b0 z1b1 z1b2
def runT (r:Tm × Int):Tm × Int:=if r.2=0 then r else (zeroTm,r.2)
def Tm.mTermE (t:Tm):Tm × Int:=if t.checkN=0 then if t.leastN 268435456=true then runT (majE t) else (zeroTm,1) else (zeroTm,t.checkN)
end
section
def TyQ (t:Ty)(g:List Ty)(x:Tm):Prop:=∀ (G:List T) (a:T),g=G.map T.ty→t=a.ty→∃ F:Env G.reverse→a.V,Dn G.reverse x a F
theorem z7d {s t:Ty}{a:T}(h:Ty.mk 4 [s,t]=a.ty):∃ S b,a = .fn S b∧s=S.ty∧t=b.ty:=by
 cases a with
 | fn S b=>simp [T.ty] at h;exact ⟨S,b,rfl,h.1,h.2⟩
 | pair S b=>simp [T.ty] at h
 | nat=>simp [T.ty] at h
 | list=>simp [T.ty] at h
 | unit=>simp [T.ty] at h
theorem z1b3 {s t:Ty}{a:T}(h:Ty.mk 3 [s,t]=a.ty):∃ S b,a = .pair S b∧s=S.ty∧t=b.ty:=by
 cases a with
 | pair S b=>simp [T.ty] at h;exact ⟨S,b,rfl,h.1,h.2⟩
 | fn S b=>simp [T.ty] at h
 | nat=>simp [T.ty] at h
 | list=>simp [T.ty] at h
 | unit=>simp [T.ty] at h
theorem zbg {a:T}(h:Ty.mk 1 []=a.ty):a = .nat:=by cases a <;> simp [T.ty] at h ⊢
theorem zkb {a:T}(h:Ty.mk 2 []=a.ty):a = .list:=by cases a <;> simp [T.ty] at h ⊢
theorem z1b4 {a:T}(h:Ty.mk 5 []=a.ty):a = .unit:=by cases a <;> simp [T.ty] at h ⊢
theorem z3h {s:Ty}(h:s.small):∃ S:T,s=S.ty∧S.ok∧S.size≤15:=by
 obtain ⟨S,rfl⟩:=T.of_shape s h.1
 have:=h.2
 rw [T.ty_count] at this
 exact ⟨S,rfl,by unfold T.ok;omega,this⟩
theorem zkc (Γ:List T):∀ n:Nat,∃ F:Env Γ→T.nat.V,Dn Γ (numTm n) .nat F
 | 0=>⟨_,.zero⟩
 | n+1=>by
  obtain ⟨F,h⟩:=zkc Γ n
  exact ⟨_,.succ h⟩
theorem zkd:DrawOK TyQ where
 var g i hi G a hg ht:=by
  subst hg
  have hl:i<G.length:=by simpa using hi
  obtain ⟨b,hb⟩:∃ b,G[G.length - 1 - i]? = some b:=⟨_,List.getElem?_eq_getElem (by omega)⟩
  have hv:varTy (G.map T.ty) i=b.ty:=by
   unfold varTy
   rw [List.getD_eq_getElem?_getD,List.length_map,List.getElem?_map,hb]
   rfl
  have hab:a=b:=T.ty_inj (by rw [← ht,hv])
  subst hab
  have hr:G.reverse[i]? = some a:=by rw [List.getElem?_reverse hl,hb]
  obtain ⟨p,hp⟩:=At.of hr
  exact ⟨p,.var hp⟩
 num g n _ G a hg ht:=by
  obtain rfl:=zbg ht
  exact zkc _ n
 app g s t f x hs ht hf hx G a hg hta:=by
  obtain ⟨S,rfl,-⟩:=z3h hs
  obtain ⟨F,h1⟩:=hf G (.fn S a) hg (by rw [hta];rfl)
  obtain ⟨X,h2⟩:=hx G S hg rfl
  exact ⟨_,.app h1 h2⟩
 lam g s t x hs ht hx G a hg hta:=by
  obtain ⟨S,b,rfl,rfl,rfl⟩:=z7d hta
  obtain ⟨S',e,ho,-⟩:=z3h hs
  obtain rfl:=T.ty_inj e
  have:=hx (G++[S]) b (by rw [hg,List.map_append];rfl) rfl
  rw [List.reverse_append] at this
  obtain ⟨F,h1⟩:=this
  exact ⟨_,.lam ho h1⟩
 lam2 g s t r x hs ht hr hx G a hg hta:=by
  obtain ⟨S,b1,rfl,rfl,hb1⟩:=z7d hta
  obtain ⟨S2,b,rfl,rfl,rfl⟩:=z7d hb1
  obtain ⟨_,e,ho,-⟩:=z3h hs
  obtain rfl:=T.ty_inj e
  obtain ⟨_,e,ho2,-⟩:=z3h ht
  obtain rfl:=T.ty_inj e
  have:=hx (G++[S,S2]) b (by rw [hg,List.map_append];rfl) rfl
  rw [List.reverse_append] at this
  obtain ⟨F,h1⟩:=this
  exact ⟨_,.lam ho (.lam ho2 h1)⟩
 lam3 g s t u r x hs ht hu hr hx G a hg hta:=by
  obtain ⟨S,b1,rfl,rfl,hb1⟩:=z7d hta
  obtain ⟨S2,b2,rfl,rfl,hb2⟩:=z7d hb1
  obtain ⟨S3,b,rfl,rfl,rfl⟩:=z7d hb2
  obtain ⟨_,e,ho,-⟩:=z3h hs
  obtain rfl:=T.ty_inj e
  obtain ⟨_,e,ho2,-⟩:=z3h ht
  obtain rfl:=T.ty_inj e
  obtain ⟨_,e,ho3,-⟩:=z3h hu
  obtain rfl:=T.ty_inj e
  have:=hx (G++[S,S2,S3]) b (by rw [hg,List.map_append];rfl) rfl
  rw [List.reverse_append] at this
  obtain ⟨F,h1⟩:=this
  exact ⟨_,.lam ho (.lam ho2 (.lam ho3 h1))⟩
 pair g s t x y hs ht hx hy G a hg hta:=by
  obtain ⟨S,b,rfl,rfl,rfl⟩:=z1b3 hta
  obtain ⟨F,h1⟩:=hx G S hg rfl
  obtain ⟨X,h2⟩:=hy G b hg rfl
  exact ⟨_,.pair h1 h2⟩
 fst g s t x hs ht hx G a hg hta:=by
  obtain ⟨S,rfl,-⟩:=z3h ht
  obtain ⟨F,h1⟩:=hx G (.pair a S) hg (by rw [hta];rfl)
  exact ⟨_,.fst h1⟩
 snd g s t x hs ht hx G a hg hta:=by
  obtain ⟨S,rfl,-⟩:=z3h hs
  obtain ⟨F,h1⟩:=hx G (.pair S a) hg (by rw [hta];rfl)
  exact ⟨_,.snd h1⟩
 rc g t x f n ht hx hf hn G a hg hta:=by
  subst hta
  obtain ⟨_,e,ho,-⟩:=z3h ht
  obtain rfl:=T.ty_inj e
  obtain ⟨B,h1⟩:=hx G a hg rfl
  obtain ⟨F,h2⟩:=hf G (.fn .nat (.fn a a)) hg rfl
  obtain ⟨N,h3⟩:=hn G .nat hg rfl
  exact ⟨_,.rc ho h1 h2 h3⟩
 fold g t x f n ht hx hf hn G a hg hta:=by
  subst hta
  obtain ⟨_,e,ho,-⟩:=z3h ht
  obtain rfl:=T.ty_inj e
  obtain ⟨B,h1⟩:=hx G a hg rfl
  obtain ⟨F,h2⟩:=hf G (.fn .nat (.fn .list (.fn a a))) hg rfl
  obtain ⟨N,h3⟩:=hn G .list hg rfl
  exact ⟨_,.fold ho h1 h2 h3⟩
 succ g x hx G a hg hta:=by
  obtain rfl:=zbg hta
  obtain ⟨F,h1⟩:=hx G .nat hg rfl
  exact ⟨_,.succ h1⟩
 plus g x y hx hy G a hg hta:=by
  obtain rfl:=zbg hta
  obtain ⟨F,h1⟩:=hx G .nat hg rfl
  obtain ⟨X,h2⟩:=hy G .nat hg rfl
  exact ⟨_,.app (.app (z4v _) h1) h2⟩
 sub g x y hx hy G a hg hta:=by
  obtain rfl:=zbg hta
  obtain ⟨F,h1⟩:=hx G .nat hg rfl
  obtain ⟨X,h2⟩:=hy G .nat hg rfl
  exact ⟨_,.app (.app (zh5 _) h1) h2⟩
 nil g G a hg hta:=by
  obtain rfl:=zkb hta
  exact ⟨_,.nil⟩
 cons g x y hx hy G a hg hta:=by
  obtain rfl:=zkb hta
  obtain ⟨F,h1⟩:=hx G .nat hg rfl
  obtain ⟨X,h2⟩:=hy G .list hg rfl
  exact ⟨_,.cons h1 h2⟩
 unit g G a hg hta:=by
  obtain rfl:=z1b4 hta
  exact ⟨_,.unit⟩
theorem ze9 (l:List Int)(n:Nat){t:Ty}{g:List Ty}{p:Nat}(ht:t.small)(hg:∀ x ∈ g,x.small)(hp:p≤l.length){G:List T}{a:T}(eg:g=G.map T.ty)(et:t=a.ty) :
  ∃ F:Env G.reverse→a.V,Dn G.reverse (termD l n t g p).1 a F:=(z4x zkd n t g p ht hg hp).2 G a eg et
theorem z1b5 {Γ:List T}{t:Tm}{a:T}{F:Env Γ→a.V}(h:Dn Γ t a F)(hl:Γ.length≤1000):(t.mTermE=(majT t,0)∧(majT t).count≤268435456∧t.count≤4096)∨t.mTermE.2=4:=by
 unfold Tm.mTermE
 by_cases h0:t.checkN=0
 ·have hk:=(Tm.checkN_iff t).1 h0
  rw [if_pos h0,if_pos (z6v h 268435456 (by omega))]
  obtain ⟨h1,h2⟩:=zhg h
  rcases h2 with h2|h2
  ·left
   have hf:=(zka t hk.1 (Tm.idx_of t 268435456 hk.1 (z6v h 268435456 (by omega))) (by decide)).1
   rw [h1 h2] at hf
   refine ⟨?_,hf,hk.2⟩
   unfold runT
   rw [if_pos h2]
   exact Prod.ext (h1 h2) h2
  ·right
   unfold runT
   rw [if_neg (by rw [h2];decide)]
   exact h2
 ·rw [if_neg h0]
  right
  have hs:=z1g h
  unfold Tm.checkN at h0 ⊢
  rw [if_pos hs] at h0 ⊢
  split at h0
  ·rename_i hq;rw [if_pos hq]
  ·exact absurd rfl h0
end
section
variable {gl:Globs}
theorem z3u (s:Ty)(b:Tm):Con1 Tryz.prog gl 32 [s.dv,b.dv] [] (Tm.mk 2 0 s [b]).dv []:=by
 refine t_in Tryz.func32 ?_
 intro X hP hgl hf hfn hn hR hids hfit
 refine t_g0 ?_
 refine t_r ?_
 simp [go_sem,hP,hgl,hn] <;> (try omega)
 all_goals exact t_f
end
section
variable {gl:Globs}
def mostOf (n:Int):List Int→Int
 | []=>n
 | x::r=>mostOf (max n x) r
theorem z1b6 (n:Int)(l r:List Int):mostOf n (l++r)=mostOf (mostOf n l) r:=by
 induction l generalizing n with
 | nil=>rfl
 | cons x l ih=>exact ih _
def Val.boundN:Val→Val
 | .mk k n l a=>if k=2 then .mk 1 (mostOf l.length l) [] [] else if k=3 then .mk 3 0 [] (bounds a) else .mk k n l a
where
 bounds:List Val→List Val
  | []=>[]
  | x::r=>x.boundN::bounds r
theorem Val.boundN_eq (v:Val):v.boundN=if v.kind=2 then .mk 1 (mostOf v.list.length v.list) [] [] else if v.kind=3 then .mk 3 0 [] (boundN.bounds v.args) else v:=by cases v;rw [boundN];rfl
def Val.overN:Val→Val→Bool
 | .mk k n l a,v=>
  if k=1∧(v.kind=1∨v.kind=2) then decide (v.boundN.num≤n)
  else if k=3∧v.kind=3 then overs a v.args else decide (k=4∧v.kind=4)
where
 overs:List Val→List Val→Bool
  | x::r,y::q=>x.overN y && overs r q
  | _,_=>true
theorem Val.overN_eq (a v:Val):a.overN v=if a.kind=1∧(v.kind=1∨v.kind=2) then decide (v.boundN.num≤a.num)
  else if a.kind=3∧v.kind=3 then overN.overs a.args v.args else decide (a.kind=4∧v.kind=4):=by cases a;rw [overN];rfl
def Val.majorizesN (a v:Val):Bool:=decide (a.checkN=0) && decide (v.checkN=0) && a.overN v
end
section
variable {gl:Globs}
theorem zke {ev:Ev6}{e:List MV}{x:Tm}{rest:List Tm}:∀ (done:List Tm) {u:Int} {r:List MV × Int × Bool} {vs:List MV} {uk:Int},allRun ev (done++x::rest) e u=some r→allRun ev done e u=some (vs,uk,false) →
  ∃ v u1 o,ev x e uk=some (v,u1,o)∧(o=true→r.2.1=u1∧r.2.2=true)∧(o=false→allRun ev (done++[x]) e u=some (vs++[v],u1,false))
 | [],u,r,vs,uk,h,hd=>by
  simp only [allRun,Option.some.injEq,Prod.mk.injEq] at hd
  obtain ⟨rfl,rfl,-⟩:=hd
  simp only [List.nil_append,allRun] at h ⊢
  split at h
  ·cases h
  ·rename_i v1 u1 h1
   obtain rfl:=Option.some.inj h
   exact ⟨v1,u1,true,h1,fun _=>⟨rfl,rfl⟩,fun h=>by cases h⟩
  ·rename_i v1 u1 h1
   exact ⟨v1,u1,false,h1,fun h=>(by cases h),fun _=>(by simp only [h1])⟩
 | t::done,u,r,vs,uk,h,hd=>by
  simp only [List.cons_append,allRun] at h hd ⊢
  split at hd
  ·cases hd
  ·simp at hd
  ·rename_i v1 u1 h1
   simp only [h1] at h ⊢
   split at hd
   ·cases hd
   ·rename_i vs2 u2 o2 h2
    simp only [Option.some.injEq,Prod.mk.injEq] at hd
    obtain ⟨rfl,rfl,rfl⟩:=hd
    split at h
    ·cases h
    ·rename_i vs3 u3 o3 h3
     obtain ⟨v,u4,o4,g1,g2,g3⟩:=zke done h3 h2
     obtain rfl:=Option.some.inj h
     exact ⟨v,u4,o4,g1,g2,fun h=>by simp only [g3 h];rfl⟩
def vsD (ev:Ev6)(e:List MV)(u:Int)(l:List Tm):List MV:=((allRun ev l e u).getD ([],0,false)).1
def ukD (ev:Ev6)(e:List MV)(u:Int)(l:List Tm):Int:=((allRun ev l e u).getD ([],0,false)).2.1
theorem allD {ev:Ev6}{e:List MV}{u:Int}{l:List Tm}(h:∃ vs uk,allRun ev l e u=some (vs,uk,false)):allRun ev l e u=some (vsD ev e u l,ukD ev e u l,false):=by
 obtain ⟨vs,uk,h⟩:=h
 simp only [vsD,ukD,h,Option.getD_some]
theorem zea {ev:Ev6}{e:List MV}:∀ {l:List Tm} {u:Int} {vs:List MV} {uk:Int},allRun ev l e u=some (vs,uk,false)→vs.length=l.length
 | [],u,vs,uk,h=>by
  simp only [allRun,Option.some.injEq,Prod.mk.injEq] at h
  obtain ⟨rfl,-,-⟩:=h
  rfl
 | t::l,u,vs,uk,h=>by
  simp only [allRun] at h
  split at h
  ·cases h
  ·simp at h
  ·rename_i v1 u1 h1
   split at h
   ·cases h
   ·rename_i vs2 u2 o2 h2
    simp only [Option.some.injEq,Prod.mk.injEq] at h
    obtain ⟨rfl,rfl,rfl⟩:=h
    simp [zea h2]
theorem z1b7 (ev:Ev6)(e:List MV)(u:Int):vsD ev e u []=[]:=rfl
theorem z1b8 (ev:Ev6)(e:List MV)(u:Int):ukD ev e u []=u:=rfl
theorem z97 (n:Nat):(MV.num n).dv = .agg [dint (n:Int),.sl [],.sl [],dint 0,dint 0,dint 0,.sl [],.sl [],.sl []]:=by rw [MV.dv,MV.cells]
theorem zeb (l:List Nat):(MV.list l).dv = .agg [dint 0,.sl (ints (l.map Int.ofNat)),.sl [],dint 0,dint 0,dint 0,.sl [],.sl [],.sl []]:=by rw [MV.dv,MV.cells]
theorem z1b9 (a b:MV):(MV.both a b).dv = .agg [dint 0,.sl [],.sl [a.cells,b.cells],dint 0,dint 0,dint 0,.sl [],.sl [],.sl []]:=by rw [MV.dv,MV.cells]
theorem zkf:MV.unit.dv = .agg [dint 0,.sl [],.sl [],dint 0,dint 0,dint 0,.sl [],.sl [],.sl []]:=by rw [MV.dv,MV.cells]
theorem zkg (b:Tm)(e:List MV):(MV.clo b e).dv = .agg [dint 0,.sl [],.sl [],dint b.kind,dint b.index,dint b.type.kind,.sl (List.map Ty.cells b.type.args),.sl (List.map Tm.cells b.args),.sl (e.reverse.map MV.cells)]:=by rw [MV.dv,MV.cells,MV.cellss_map,List.map_reverse]
theorem z98:zeroM.dv = .agg [dint 0,.sl [],.sl [],dint 0,dint 0,dint 0,.sl [],.sl [],.sl []]:=by rw [zeroM,z97];rfl
end
section
variable {gl:Globs}
theorem z1ba {α:Type}{e:List α}{i:Nat}{x:α}(h:e[i]? = some x):e.reverse[e.length - 1 - i]? = some x:=by
 have hi:=(List.getElem?_eq_some_iff.1 h).1
 rw [List.getElem?_reverse (by omega),← h]
 congr 1
 omega
set_option maxHeartbeats 4000000 in
set_option maxRecDepth 100000 in
theorem z1bb {most:Int}(hm:most≤1073741824){d:Nat}(H:Walk6 Tryz.prog gl 100 most (ev6 most d)):Walk6 Tryz.prog gl 100 most (ev6 most (d+1)):=fun t e u v u' o b M h hu0 hu hM hMb he hel=>by
 have B:=@zdv most d
 rw [ev6] at h
 have hft:=Tm.fold t
 have hlen:e.reverse.length=e.length:=List.length_reverse
 unfold mach6
 refine t_in Tryz.func100 ?_
 intro X hP hgl hf hfn hn hR hids hfit
 have hlt:=Tm.fit_len (hfit t.dv (by simp))
 by_cases hum:u=most
 ·rw [if_pos hum] at h
  simp only [Option.some.injEq,Prod.mk.injEq] at h
  obtain ⟨rfl,rfl,rfl⟩:=h
  subst hum
  refine t_g0 ?_
  refine t_ro [(b,[dint u,dint u,dbool true])] @z98 ?_
  try simp [z98]
  try all_goals exact t_f
 rw [if_neg hum] at h
 by_cases h1:t.kind=1
 ·rw [if_pos h1] at h
  split at h
  ·rename_i hi0
   split at h
   ·rename_i v1 hv
    simp only [Option.some.injEq,Prod.mk.injEq] at h
    obtain ⟨rfl,rfl,rfl⟩:=h
    have hgv:=z1ba hv
    have hl1:=(List.getElem?_eq_some_iff.1 hv).1
    generalize e.reverse=r at *
    have hix:(e.length:Int) - 1 - t.index=((e.length - 1 - t.index.toNat:Nat):Int):=by omega
    refine t_g (j2 @hum (j2 @h1 (j2 @hlen (j2 @hix @hgv)))) ?_
    refine t_ro [(b,[dint (u+1),dint most,dbool false])] trivial ?_
    try simp
    try all_goals exact t_f
   ·cases h
  ·cases h
 rw [if_neg h1] at h
 by_cases h2:t.kind=2
 ·rw [if_pos h2] at h
  split at h
  ·rename_i body r hargs
   simp only [Option.some.injEq,Prod.mk.injEq] at h
   obtain ⟨rfl,rfl,rfl⟩:=h
   have hg0:t.args[0]? = some body:=by rw [hargs];rfl
   refine t_g (j2 @hum (j2 @h1 (j2 @h2 @hg0))) ?_
   refine t_ro [(b,[dint (u+1),dint most,dbool false])] @zkg ?_
   try simp [zkg]
   try all_goals exact t_f
  ·cases h
 rw [if_neg h2] at h
 obtain ⟨r,hall⟩:∃ r,allRun (ev6 most d) t.args e (u+1)=some r:=by
  cases hq:allRun (ev6 most d) t.args e (u+1) with
  | none=>rw [hq] at h;cases h
  | some r=>exact ⟨r,rfl⟩
 rw [hall] at h
 obtain ⟨el,hela⟩:∃ el,el=e.reverse:=⟨_,rfl⟩
 refine t_g (j2 @hum (j2 @h1 @h2)) ?_
 refine t_a ?_
 refine z0e [(1007,0)] (j2 @z1b7 @z1b8) (z35 (t.args) (fun done=>(∃ vs uk,allRun (ev6 most d) done e (u+1)=some (vs,uk,false))) (fun done rest=>[(.slot 66,.one (.v (dint done.length))),(.slot 65,.one (.v (dint t.args.length))),(.slot 64,.one (.v (.sl (t.args.map Tm.cells)))),(.slot 0,.one (.v (ptr b))),(.slot 2,.one (.v (.sl (e.reverse.map MV.cells)))),(.slot 4,.one (.loc 4 0)),(.loc 4,.row ([.v (dint t.kind),.v (dint t.index),.v (dint t.type.kind),.v (.sl (t.type.args.map Ty.cells)),.v (.sl (t.args.map Tm.cells))])),(.slot 6,.one (.loc 6 0)),(.loc 6,.row ([.v (dint 0),.own 0 [],.own 0 [],.v (dint 0),.v (dint 0),.v (dint 0),.own 0 [],.own 0 [],.own 0 []])),(.slot 7,.one (.own 1007 ((vsD (ev6 most d) e (u+1) done).map MV.cells))),(.tok 1007,.tk 9 (vsD (ev6 most d) e (u+1) done).length),(.heap  b,.row ([.v (dint (ukD (ev6 most d) e (u+1) done)),.v (dint most),.v (dbool false)]))]) (⟨[],u+1,rfl⟩) ?_ ?_)
 ·intro done x rest hL hg0 hI hnext
  have hlt1:done.length<t.args.length:=by rw [hL];simp
  have hd:=allD hI
  rw [hL] at hall
  obtain ⟨v1,u1,o1,g1,g2,g3⟩:=zke done hall hd
  obtain ⟨b1,b2,b3⟩:=z90 B done hd (by omega) hM he hel
  have hlv:=zea hd
  have w:=H b M g1 (by omega) b2 hM (by omega) he hel
  unfold mach6 at w
  have hfx:=Tm.fold x
  refine z00 ?_
  refine z07 ?_
  refine t_g @hg0 ?_
  cases o1 with
  | true=>
   obtain ⟨k1,k2⟩:=g2 rfl
   obtain ⟨rv,ru,ro⟩:=r
   simp only at k1 k2
   subst k1 k2
   simp only [Option.some.injEq,Prod.mk.injEq] at h
   obtain ⟨rfl,rfl,rfl⟩:=h
   refine t_c1 (j2 @hg0 @hfx) w ?_
   refine t_g0 ?_
   refine t_ro [(b,[dint ru,dint most,dbool true])] @z98 ?_
   try simp [z98]
   try all_goals exact t_f
  | false=>
   have g3:=g3 rfl
   have e1:vsD (ev6 most d) e (u+1) (done++[x])=vsD (ev6 most d) e (u+1) done++[v1]:=by simp only [vsD,g3,Option.getD_some]
   have e2:ukD (ev6 most d) e (u+1) (done++[x])=u1:=by simp only [ukD,g3,Option.getD_some]
   have hv1:=MV.cells_eq v1
   refine t_c1 (j2 @hg0 @hfx) w ?_
   refine t_gt (wr [(1007,76)]) (j2 @e1 (j2 @e2 (j2 @hlv @hv1))) @hlv (hnext ⟨_,_,g3⟩)
 ·intro hI
  have hd:=allD hI
  rw [hd] at hall
  obtain rfl:=Option.some.inj hall
  simp only at h
  obtain ⟨b1,b2,b3⟩:=z90 B _ hd (by omega) hM he hel
  have hll:=zea hd
  clear hall hI
  clear hd
  generalize vsD (ev6 most d) e (u+1) t.args=l at *
  generalize ukD (ev6 most d) e (u+1) t.args=u1 at *
  obtain ⟨M2,hM2⟩:∃ M2,M2=M+(u1 - (u+1)):=⟨_,rfl⟩
  rw [← hM2] at b3
  have hM20:0≤M2:=by omega
  have hM2b:M2+(most - u1)≤1073741824:=by omega
  unfold nodeRun at h
  refine z00 ?_
  refine t_no ?_
  by_cases h3:t.kind=3
  ·rw [if_pos h3] at h
   split at h
   ·rename_i f x
    simp only [MV.les] at b3
    have w:=z2y hm H b M2 h (by omega) b2 hM20 hM2b b3.1 b3.2.1
    unfold mach6 at w
    refine t_g @h3 ?_
    refine t_c1 @h3 w ?_
    refine t_ro [(b,[dint u',dint most,dbool o])] trivial ?_
    try simp
    try all_goals exact t_f
   ·cases h
  rw [if_neg h3] at h
  by_cases h4:t.kind=4
  ·rw [if_pos h4] at h
   simp only [Option.some.injEq,Prod.mk.injEq] at h
   obtain ⟨rfl,rfl,rfl⟩:=h
   have hz:(MV.num 0).dv=_:=z98
   refine t_g @h4 ?_
   refine t_ro [(b,[dint u1,dint most,dbool false])] @hz ?_
   try simp [hz]
   try all_goals exact t_f
  rw [if_neg h4] at h
  by_cases h5:t.kind=5
  ·rw [if_pos h5] at h
   split at h
   ·rename_i n
    simp only [Option.some.injEq,Prod.mk.injEq] at h
    obtain ⟨rfl,rfl,rfl⟩:=h
    simp only [MV.les,MV.le] at b3
    have hz:=z97 (n+1)
    have hq:((n+1:Nat):Int)=(n:Int)+1:=by omega
    rw [hq] at hz
    refine t_g @h5 ?_
    refine t_ro [(b,[dint u1,dint most,dbool false])] @hz ?_
    try simp [hz]
    try all_goals exact t_f
   ·cases h
  rw [if_neg h5] at h
  by_cases h6:t.kind=6
  ·rw [if_pos h6] at h
   split at h
   ·rename_i b0 f n
    simp only [MV.les] at b3
    obtain ⟨c1,c2,c3,-⟩:=b3
    simp only [MV.le] at c3
    have hq1:=MV.numF_num n
    have hc1:=MV.cells_eq f
    have hf1:=MV.fold f
    generalize hnn:MV.num n=nn at *
    refine t_g @h6 ?_
    refine t_a ?_
    refine z0e [] trivial (z1k (fun x:Nat × MV × Int × Bool=>x.1≤n∧u1≤x.2.2.1∧x.2.2.1≤most∧x.2.1.le (M2+(x.2.2.1 - u1))∧(x.2.2.2=false→recRun (ev6 most d) f (n - x.1) x.1 x.2.1 x.2.2.1=some (v,u',o))∧(x.2.2.2=true→v=x.2.1∧u' = x.2.2.1∧o=true)) (fun x:Nat × MV × Int × Bool=>[(.slot 0,.one (.v (ptr b))),(.slot 6,.one (.loc 6 0)),(.loc 6,.row ([.v (dint 0),.own 0 [],.own 0 [],.v (dint 0),.v (dint 0),.v (dint 0),.own 0 [],.own 0 [],.own 0 []])),(.slot 7,.one (.v (.sl [b0.cells,f.cells,nn.cells]))),(.slot 10,.one (.loc 10 0)),(.loc 10,.row ([.v (dint x.2.1.numF),.v (.sl (ints x.2.1.listF)),.v (.sl (x.2.1.pairF.map MV.cells)),.v (dint x.2.1.bodyF.kind),.v (dint x.2.1.bodyF.index),.v (dint x.2.1.bodyF.type.kind),.v (.sl (x.2.1.bodyF.type.args.map Ty.cells)),.v (.sl (x.2.1.bodyF.args.map Tm.cells)),.v (.sl (x.2.1.envF.map MV.cells))])),(.slot 11,.one (.v (dint x.1))),(.heap  b,.row ([.v (dint x.2.2.1),.v (dint most),.v (dbool x.2.2.2)]))]) (fun x:Nat × MV × Int × Bool=>n - x.1) (0,b0,u1,false) (⟨Nat.zero_le _,Int.le_refl u1,b2,MV.le_mono (by show M2≤M2+(u1 - u1);omega) c1,fun _=>h,fun h=>(by cases h)⟩) ?_)
    rintro ⟨k,r,uk,ok⟩ ⟨i1,i2,i3,i4,i5,i6⟩ ih
    simp only at i1 i2 i3 i4 i5 i6
    have hr1:=MV.fold r
    cases ok with
    | true=>
     obtain ⟨rfl,rfl,rfl⟩:=i6 rfl
     by_cases hk:(k:Int)<n
     ·refine t_g (j2 @hk @hq1) ?_
      refine t_ro [(b,[dint u',dint most,dbool true])] trivial ?_
      try simp
      try all_goals exact t_f
     ·refine t_g (j2 @hk @hq1) ?_
      refine t_ro [(b,[dint u',dint most,dbool true])] trivial ?_
      try simp
      try all_goals exact t_f
    | false=>
     have i5:=i5 rfl
     by_cases hk:(k:Int)<n
     rotate_left
     ·have hk0:n - k=0:=by omega
      rw [hk0] at i5
      simp only [recRun,Option.some.injEq,Prod.mk.injEq] at i5
      obtain ⟨rfl,rfl,rfl⟩:=i5
      refine t_g (j2 @hk @hq1) ?_
      refine t_ro [(b,[dint uk,dint most,dbool false])] trivial ?_
      try simp
      try all_goals exact t_f
     ·have hk0:n - k=(n - (k+1))+1:=by omega
      rw [hk0] at i5
      simp only [recRun] at i5
      have hk1:((k+1:Nat):Int)=(k:Int)+1:=by omega
      split at i5
      ·cases i5
      ·rename_i g u2 g1
       have w:=z2y (gl:=gl) hm H b (M2+(uk - u1)) g1 (by omega) i3 (by omega) (by omega) (MV.le_mono (by omega) c2) (by simp only [MV.le];omega)
       obtain ⟨d1,d2,d3⟩:=z1h B g1 i3 (M:=M2+(uk - u1)) (by omega) (MV.le_mono (by omega) c2) (by simp only [MV.le];omega)
       simp only [Option.some.injEq,Prod.mk.injEq] at i5
       obtain ⟨rfl,rfl,rfl⟩:=i5
       unfold mach6 at w
       have hkd:=z97 k
       refine t_g (j2 @hk @hq1) ?_
       refine t_c1 (j2 @hkd @hf1) w ?_
       refine t_gt (wr []) @hk1 trivial (ih (k+1,r,u2,true) ⟨by show k+1≤n;omega,by show u1≤u2;omega,d2,MV.le_mono (by show _≤M2+(u2 - u1);omega) i4,fun h=>(by cases h),fun _=>⟨rfl,rfl,rfl⟩⟩ (by show n - (k+1)<n - k;omega))
      ·rename_i g u2 g1
       have w:=z2y (gl:=gl) hm H b (M2+(uk - u1)) g1 (by omega) i3 (by omega) (by omega) (MV.le_mono (by omega) c2) (by simp only [MV.le];omega)
       obtain ⟨d1,d2,d3⟩:=z1h B g1 i3 (M:=M2+(uk - u1)) (by omega) (MV.le_mono (by omega) c2) (by simp only [MV.le];omega)
       have hg1:=MV.fold g
       have hkd:=z97 k
       split at i5
       ·cases i5
       ·rename_i r2 u3 g2
        have w2:=z2y (gl:=gl) hm H b (M2+(u2 - u1)) g2 (by omega) d2 (by omega) (by omega) (MV.le_mono (by omega) d3) (MV.le_mono (by omega) i4)
        obtain ⟨d4,d5,d6⟩:=z1h B g2 d2 (M:=M2+(u2 - u1)) (by omega) (MV.le_mono (by omega) d3) (MV.le_mono (by omega) i4)
        simp only [Option.some.injEq,Prod.mk.injEq] at i5
        obtain ⟨rfl,rfl,rfl⟩:=i5
        unfold mach6 at w w2
        have hr2:=MV.cells_eq r2
        refine t_g (j2 @hk @hq1) ?_
        refine t_c1 (j2 @hkd @hf1) w ?_
        refine t_g0 ?_
        refine t_c1 (j2 @hg1 @hr1) w2 ?_
        refine t_gt (wr []) (j2 @hk1 @hr2) trivial (ih (k+1,r2,u3,true) ⟨by show k+1≤n;omega,by show u1≤u3;omega,d5,MV.le_mono (by show _≤M2+(u3 - u1);omega) d6,fun h=>(by cases h),fun _=>⟨rfl,rfl,rfl⟩⟩ (by show n - (k+1)<n - k;omega))
       ·rename_i r2 u3 g2
        have w2:=z2y (gl:=gl) hm H b (M2+(u2 - u1)) g2 (by omega) d2 (by omega) (by omega) (MV.le_mono (by omega) d3) (MV.le_mono (by omega) i4)
        obtain ⟨d4,d5,d6⟩:=z1h B g2 d2 (M:=M2+(u2 - u1)) (by omega) (MV.le_mono (by omega) d3) (MV.le_mono (by omega) i4)
        unfold mach6 at w w2
        have hr2:=MV.cells_eq r2
        refine t_g (j2 @hk @hq1) ?_
        refine t_c1 (j2 @hkd @hf1) w ?_
        refine t_g0 ?_
        refine t_c1 (j2 @hg1 @hr1) w2 ?_
        refine t_gt (wr []) (j2 @hk1 @hr2) trivial (ih (k+1,r2,u3,false) ⟨by show k+1≤n;omega,by show u1≤u3;omega,d5,MV.le_mono (by show _≤M2+(u3 - u1);omega) d6,fun _=>i5,fun h=>(by cases h)⟩ (by show n - (k+1)<n - k;omega))
   ·cases h
  rw [if_neg h6] at h
  by_cases h7:t.kind=7
  ·rw [if_pos h7] at h
   simp only [Option.some.injEq,Prod.mk.injEq] at h
   obtain ⟨rfl,rfl,rfl⟩:=h
   have hz:(MV.list []).dv = .agg [dint 0,.sl [],.sl [],dint 0,dint 0,dint 0,.sl [],.sl [],.sl []]:=zeb []
   refine t_g @h7 ?_
   refine t_ro [(b,[dint u1,dint most,dbool false])] @hz ?_
   try simp [hz]
   try all_goals exact t_f
  rw [if_neg h7] at h
  by_cases h8:t.kind=8
  ·rw [if_pos h8] at h
   split at h
   ·rename_i n rl
    simp only [Option.some.injEq,Prod.mk.injEq] at h
    obtain ⟨rfl,rfl,rfl⟩:=h
    simp only [MV.les,MV.le] at b3
    have hz:=zeb (n::rl)
    have hq:ints (List.map Int.ofNat (n::rl))=[dint (n:Int)]::ints (List.map Int.ofNat rl):=rfl
    rw [hq] at hz
    have hrl:=b3.2.1.1
    refine t_g @h8 ?_
    refine z09 (by rw [hP];exact z08) [146] fun K hK=>?_
    simp [go_sem,hP,hgl,hn]
    refine z174 (E:=1) (els:=[[dint (n:Int)]]) (fun _ _=>z0l) (by simp [go_sem,hP];rfl) (by simp [go_sem,hP,hgl,hn]) ⟨rfl,by decide,by decide⟩ (by rw [hn];exact Nat.le_of_ble_eq_true rfl) (by decide) (by rfl) ?_
    simp [go_sem,hP,hgl,hn]
    refine t_e ?_
    clear hK K
    refine t_ro [(b,[dint u1,dint most,dbool false])] @hz ?_
    try simp [hz]
    try all_goals exact t_f
   ·cases h
  rw [if_neg h8] at h
  by_cases h10:t.kind=10
  ·rw [if_neg (show ¬ t.kind=9 by omega),if_pos h10] at h
   split at h
   ·rename_i p q
    simp only [Option.some.injEq,Prod.mk.injEq] at h
    obtain ⟨rfl,rfl,rfl⟩:=h
    have hz:=z1b9 p q
    have hp1:=MV.cells_eq p
    have hp2:=MV.cells_eq q
    refine t_g @h10 ?_
    refine t_ro [(b,[dint u1,dint most,dbool false])] (j2 @hz (j2 @hp1 @hp2)) ?_
    try simp [hz,hp1,hp2]
    try all_goals exact t_f
   ·cases h
  by_cases h11:t.kind=11
  ·rw [if_neg (show ¬ t.kind=9 by omega),if_neg h10,if_pos h11] at h
   split at h
   ·rename_i p q
    simp only [Option.some.injEq,Prod.mk.injEq] at h
    obtain ⟨rfl,rfl,rfl⟩:=h
    have hf1:=MV.fold p
    refine t_g @h11 ?_
    refine t_ro [(b,[dint u1,dint most,dbool false])] @hf1 ?_
    try simp [hf1]
    try all_goals exact t_f
   ·cases h
  by_cases h12:t.kind=12
  ·rw [if_neg (show ¬ t.kind=9 by omega),if_neg h10,if_neg h11,if_pos h12] at h
   split at h
   ·rename_i p q
    simp only [Option.some.injEq,Prod.mk.injEq] at h
    obtain ⟨rfl,rfl,rfl⟩:=h
    have hf1:=MV.fold q
    refine t_g @h12 ?_
    refine t_ro [(b,[dint u1,dint most,dbool false])] @hf1 ?_
    try simp [hf1]
    try all_goals exact t_f
   ·cases h
  by_cases h9:t.kind=9
  rotate_left
  ·rw [if_neg h9,if_neg h10,if_neg h11,if_neg h12] at h
   simp only [Option.some.injEq,Prod.mk.injEq] at h
   obtain ⟨rfl,rfl,rfl⟩:=h
   refine t_g (j2 @h3 (j2 @h4 (j2 @h5 (j2 @h6 (j2 @h7 (j2 @h8 (j2 @h9 (j2 @h10 (j2 @h11 @h12))))))))) ?_
   refine t_ro [(b,[dint u1,dint most,dbool false])] @zkf ?_
   try simp [zkf]
   try all_goals exact t_f
  rw [if_pos h9] at h
  split at h
  ·rename_i b0 f L
   simp only [MV.les] at b3
   obtain ⟨c1,c2,c3,-⟩:=b3
   simp only [MV.le] at c3
   obtain ⟨c3,c4⟩:=c3
   have hq1:=MV.listF_list L
   have hc1:=MV.cells_eq f
   have hf1:=MV.fold f
   generalize hnn:MV.list L=nn at *
   have hL8:=c3
   refine t_g (j2 @h9 @hq1) ?_
   refine t_a ?_
   refine z0e [] @hq1 (z1k (fun x:Nat × MV × Int × Bool=>x.1≤L.length∧u1≤x.2.2.1∧x.2.2.1≤most∧x.2.1.le (M2+(x.2.2.1 - u1))∧(x.2.2.2=false→foldRun (ev6 most d) f (L.take x.1).reverse (L.drop x.1) x.2.1 x.2.2.1=some (v,u',o))∧(x.2.2.2=true→v=x.2.1∧u' = x.2.2.1∧o=true)) (fun x:Nat × MV × Int × Bool=>[(.slot 0,.one (.v (ptr b))),(.slot 6,.one (.loc 6 0)),(.loc 6,.row ([.v (dint 0),.own 0 [],.own 0 [],.v (dint 0),.v (dint 0),.v (dint 0),.own 0 [],.own 0 [],.own 0 []])),(.slot 7,.one (.v (.sl [b0.cells,f.cells,nn.cells]))),(.slot 13,.one (.loc 13 0)),(.loc 13,.row ([.v (dint x.2.1.numF),.v (.sl (ints x.2.1.listF)),.v (.sl (x.2.1.pairF.map MV.cells)),.v (dint x.2.1.bodyF.kind),.v (dint x.2.1.bodyF.index),.v (dint x.2.1.bodyF.type.kind),.v (.sl (x.2.1.bodyF.type.args.map Ty.cells)),.v (.sl (x.2.1.bodyF.args.map Tm.cells)),.v (.sl (x.2.1.envF.map MV.cells))])),(.slot 14,.one (.v (dint ((x.1:Int) - 1)))),(.heap  b,.row ([.v (dint x.2.2.1),.v (dint most),.v (dbool x.2.2.2)]))]) (fun x:Nat × MV × Int × Bool=>x.1) (L.length,b0,u1,false) (⟨Nat.le_refl _,Int.le_refl u1,b2,MV.le_mono (by show M2≤M2+(u1 - u1);omega) c1,fun _=>by simpa using h,fun h=>(by cases h)⟩) ?_)
   rintro ⟨j,r,uk,ok⟩ ⟨i1,i2,i3,i4,i5,i6⟩ ih
   simp only at i1 i2 i3 i4 i5 i6
   have hr1:=MV.fold r
   cases ok with
   | true=>
    obtain ⟨rfl,rfl,rfl⟩:=i6 rfl
    cases j with
    | zero=>
     refine t_g0 ?_
     refine t_ro [(b,[dint u',dint most,dbool true])] trivial ?_
     try simp
     try all_goals exact t_f
    | succ m=>
     have hk:(0:Int)≤m:=by omega
     refine t_g @hk ?_
     refine t_ro [(b,[dint u',dint most,dbool true])] trivial ?_
     try simp
     try all_goals exact t_f
   | false=>
    have i5:=i5 rfl
    cases j with
    | zero=>
     simp only [List.take_zero,List.reverse_nil,foldRun,Option.some.injEq,Prod.mk.injEq] at i5
     obtain ⟨rfl,rfl,rfl⟩:=i5
     refine t_g0 ?_
     refine t_ro [(b,[dint uk,dint most,dbool false])] trivial ?_
     try simp
     try all_goals exact t_f
    | succ m=>
     have hk:(0:Int)≤m:=by omega
     obtain ⟨y,hy⟩:∃ y,L[m]? = some y:=⟨_,List.getElem?_eq_getElem (by omega)⟩
     have htk:L.take (m+1)=L.take m++[y]:=by rw [List.take_add_one,hy];rfl
     have hdr:L.drop m=y::L.drop (m+1):=by
      obtain ⟨q1,q2⟩:=List.getElem?_eq_some_iff.1 hy
      rw [List.drop_eq_getElem_cons q1,q2]
     rw [htk,List.reverse_append,List.reverse_singleton,List.singleton_append] at i5
     simp only [foldRun] at i5
     rw [← hdr] at i5
     have hyM:(y:Int)≤M2:=c4 y (List.mem_of_getElem? hy)
     have hgy:(ints (List.map Int.ofNat L))[m]? = some [dint (y:Int)]:=by
      have:(List.map Int.ofNat L)[m]? = some (y:Int):=by rw [List.getElem?_map,hy];rfl
      exact z3x this
     have hsl:List.drop (m+1) (List.take L.length (ints (List.map Int.ofNat L)))=ints (List.drop (m+1) (List.map Int.ofNat L)):=by
      rw [List.take_of_length_le (by simp [ints])]
      simp only [ints,List.map_drop]
     have hm1:((m+1:Nat):Int) - 1=(m:Int):=by omega
     have hm2:((m+1:Nat):Int) - 1 - 1=(m:Int) - 1:=by omega
     have hyd:=z97 y
     have hrd:=zeb (L.drop (m+1))
     have hle1:(MV.num y).le (M2+(uk - u1)):=by simp only [MV.le];omega
     have hrest:∀ N:Int,M2≤N→(MV.list (L.drop (m+1))).le N:=by
      intro N hN
      simp only [MV.le,List.length_drop]
      exact ⟨by omega,fun z hz=>by have:=c4 z (List.mem_of_mem_drop hz);omega⟩
     split at i5
     ·cases i5
     ·rename_i g u2 g1
      have w1:=z2y (gl:=gl) hm H b (M2+(uk - u1)) g1 (by omega) i3 (by omega) (by omega) (MV.le_mono (by omega) c2) hle1
      obtain ⟨d1,d2,d3⟩:=z1h B g1 i3 (M:=M2+(uk - u1)) (by omega) (MV.le_mono (by omega) c2) hle1
      simp only [Option.some.injEq,Prod.mk.injEq] at i5
      obtain ⟨rfl,rfl,rfl⟩:=i5
      unfold mach6 at w1
      refine t_g (j2 @hk @hq1) ?_
      refine t_c1 (j2 @hyd (j2 @hf1 (j2 @hq1 @hgy))) w1 ?_
      refine t_gt (wr []) @hq1 trivial (ih (m,r,u2,true) ⟨by show m≤L.length;omega,by show u1≤u2;omega,d2,MV.le_mono (by show _≤M2+(u2 - u1);omega) i4,fun h=>(by cases h),fun _=>⟨rfl,rfl,rfl⟩⟩ (by show m<m+1;omega))
     ·rename_i g u2 g1
      have w1:=z2y (gl:=gl) hm H b (M2+(uk - u1)) g1 (by omega) i3 (by omega) (by omega) (MV.le_mono (by omega) c2) hle1
      obtain ⟨d1,d2,d3⟩:=z1h B g1 i3 (M:=M2+(uk - u1)) (by omega) (MV.le_mono (by omega) c2) hle1
      have hg1:=MV.fold g
      have hle2:=hrest (M2+(u2 - u1)) (by omega)
      split at i5
      ·cases i5
      ·rename_i g' u3 g2
       have w2:=z2y (gl:=gl) hm H b (M2+(u2 - u1)) g2 (by omega) d2 (by omega) (by omega) (MV.le_mono (by omega) d3) hle2
       obtain ⟨d4,d5,d6⟩:=z1h B g2 d2 (M:=M2+(u2 - u1)) (by omega) (MV.le_mono (by omega) d3) hle2
       simp only [Option.some.injEq,Prod.mk.injEq] at i5
       obtain ⟨rfl,rfl,rfl⟩:=i5
       unfold mach6 at w1 w2
       refine t_g (j2 @hk @hq1) ?_
       refine t_c1 (j2 @hyd (j2 @hf1 (j2 @hq1 @hgy))) w1 ?_
       refine t_g0 ?_
       refine t_c1 (j2 @hg1 (j2 @hq1 (j2 @hsl @hrd))) w2 ?_
       refine t_gt (wr []) @hq1 trivial (ih (m,r,u3,true) ⟨by show m≤L.length;omega,by show u1≤u3;omega,d5,MV.le_mono (by show _≤M2+(u3 - u1);omega) i4,fun h=>(by cases h),fun _=>⟨rfl,rfl,rfl⟩⟩ (by show m<m+1;omega))
      ·rename_i g' u3 g2
       have w2:=z2y (gl:=gl) hm H b (M2+(u2 - u1)) g2 (by omega) d2 (by omega) (by omega) (MV.le_mono (by omega) d3) hle2
       obtain ⟨d4,d5,d6⟩:=z1h B g2 d2 (M:=M2+(u2 - u1)) (by omega) (MV.le_mono (by omega) d3) hle2
       have hg2:=MV.fold g'
       split at i5
       ·cases i5
       ·rename_i r2 u4 g3
        have w3:=z2y (gl:=gl) hm H b (M2+(u3 - u1)) g3 (by omega) d5 (by omega) (by omega) (MV.le_mono (by omega) d6) (MV.le_mono (by omega) i4)
        obtain ⟨d7,d8,d9⟩:=z1h B g3 d5 (M:=M2+(u3 - u1)) (by omega) (MV.le_mono (by omega) d6) (MV.le_mono (by omega) i4)
        simp only [Option.some.injEq,Prod.mk.injEq] at i5
        obtain ⟨rfl,rfl,rfl⟩:=i5
        have hr2:=MV.cells_eq r2
        unfold mach6 at w1 w2 w3
        refine t_g (j2 @hk @hq1) ?_
        refine t_c1 (j2 @hyd (j2 @hf1 (j2 @hq1 @hgy))) w1 ?_
        refine t_g0 ?_
        refine t_c1 (j2 @hg1 (j2 @hq1 (j2 @hsl @hrd))) w2 ?_
        refine t_g0 ?_
        refine t_c1 (j2 @hg2 @hr1) w3 ?_
        refine t_gt (wr []) (j2 @hr2 @hq1) trivial (ih (m,r2,u4,true) ⟨by show m≤L.length;omega,by show u1≤u4;omega,d8,MV.le_mono (by show _≤M2+(u4 - u1);omega) d9,fun h=>(by cases h),fun _=>⟨rfl,rfl,rfl⟩⟩ (by show m<m+1;omega))
       ·rename_i r2 u4 g3
        have w3:=z2y (gl:=gl) hm H b (M2+(u3 - u1)) g3 (by omega) d5 (by omega) (by omega) (MV.le_mono (by omega) d6) (MV.le_mono (by omega) i4)
        obtain ⟨d7,d8,d9⟩:=z1h B g3 d5 (M:=M2+(u3 - u1)) (by omega) (MV.le_mono (by omega) d6) (MV.le_mono (by omega) i4)
        have hr2:=MV.cells_eq r2
        unfold mach6 at w1 w2 w3
        refine t_g (j2 @hk @hq1) ?_
        refine t_c1 (j2 @hyd (j2 @hf1 (j2 @hq1 @hgy))) w1 ?_
        refine t_g0 ?_
        refine t_c1 (j2 @hg1 (j2 @hq1 (j2 @hsl @hrd))) w2 ?_
        refine t_g0 ?_
        refine t_c1 (j2 @hg2 @hr1) w3 ?_
        refine t_gt (wr []) (j2 @hr2 @hq1) trivial (ih (m,r2,u4,false) ⟨by show m≤L.length;omega,by show u1≤u4;omega,d8,MV.le_mono (by show _≤M2+(u4 - u1);omega) d9,fun _=>i5,fun h=>(by cases h)⟩ (by show m<m+1;omega))
  ·cases h
theorem zkh {most:Int}(hm:most≤1073741824):∀ d:Nat,Walk6 Tryz.prog gl 100 most (ev6 most d)
 | 0=>fun t e u v u' o b M h=>by cases h
 | d+1=>z1bb hm (zkh hm d)
end
section
variable {gl:Globs}
theorem zki (t:Tm)(h:t.shape=true):t.tys:=by
 induction t using Tm.ind with
 | h t ih=>
 obtain ⟨-,-,-,h4,h5⟩:=Tm.shape_node h
 rw [Tm.tys_eq]
 refine ⟨?_,fun a ha=>ih a ha (h5 a ha)⟩
 split at h4
 ·have:=h4.2;omega
 ·unfold Ty.zero at h4
  simp at h4
  rw [Ty.count_eq,h4.2]
  decide
theorem z1bc {Γ:List T}{t:Tm}{a:T}{F:Env Γ→a.V}(h:Dn Γ t a F):t.tys:=zki _ (z1g h)
set_option maxHeartbeats 4000000 in
set_option maxRecDepth 100000 in
theorem z1bd (t:Tm)(l:List T)(r:T)(F:Env []→(FnT l r).V)(Z:Env l)(work M:Int)(h:Dn [] t (FnT l r) F)(hc:t.count≤536870912)(hl:Plains l)(hll:l.length≤1000000)(hr:r.plain)(hro:r.ok)(hw0:0≤work)(hw:work≤65536)(hM:0≤M)(hMb:M+work≤1073741824)(hX:MV.les M (mvsOf l Z)) :
  Con1 Tryz.prog gl 56 [t.dv,.sl ((valsOf l Z).map Val.cells),dint work] [] (.tup [(callOut t l (F ()) Z work).1.dv,dint (callOut t l (F ()) Z work).2.1,dint (callOut t l (F ()) Z work).2.2]) []:=by
 have hte:=z13v (gl:=gl) t [] (by simp) (z1bc h) (by omega)
 have hco:=ze3 h Z work
 have hvl:=ze0 l Z
 have hml:=ze1 l Z
 have hft:=Tm.fold t
 have hfz:(Ty.mk 0 []).cells=[dint 0,.sl []]:=rfl
 refine t_in Tryz.func56 ?_
 intro X hP hgl hf hfn hn hR hids hfit
 unfold callOut at hR
 refine t_g0 ?_
 refine t_c1 @hft hte ?_
 by_cases he:(t.typeE []).2=0
 rotate_left
 ·rw [if_neg he] at hR
  refine t_g @he ?_
  refine t_r ?_
  simp [go_sem,hP,hgl,hn,zeroV] <;> (try omega)
  all_goals exact t_f
 rw [if_pos he] at hR
 have hty:(t.typeE []).1=(FnT l r).ty:=by
  rcases zjv h with h1|h1
  ·rw [h1]
  ·rw [he] at h1;cases h1
 have hfr:=Ty.fold (FnT l r).ty
 refine t_g @he ?_
 refine t_a ?_
 refine z0e [] (j2 @hty @hvl) (z2h (l.length) (fun i=>True) (fun i=>[(.slot 1,.one (.v (.sl ((valsOf l Z).map Val.cells)))),(.slot 2,.one (.v (dint work))),(.slot 3,.one (.loc 3 0)),(.loc 3,.row ([.v (dint t.kind),.v (dint t.index),.v (dint t.type.kind),.v (.sl (t.type.args.map Ty.cells)),.v (.sl (t.args.map Tm.cells))])),(.slot 6,.one (.loc 6 0)),(.loc 6,.row ([.v (dint 0),.v (dint 0),.own 0 [],.own 0 []])),(.slot 9,.one (.loc 9 0)),(.loc 9,.row ([.v (dint (FnT (l.drop i) r).ty.kind),.v (.sl ((FnT (l.drop i) r).ty.args.map Ty.cells))])),(.slot 30,.one (.v (.sl ((valsOf l Z).map Val.cells)))),(.slot 31,.one (.v (dint l.length))),(.slot 32,.one (.v (dint i)))]) (trivial) ?_ ?_)
 ·intro i hi _ hnext
  obtain ⟨a,x,g1,g2,g3,g4,g5⟩:=zbc (r:=r) l Z i hi hl
  have hvg:(List.map Val.cells (valsOf l Z))[i]? = some (valOf a x).cells:=by rw [List.getElem?_map,g1];rfl
  have hfv:=Val.fold (valOf a x)
  have hcv:=Val.cells_eq (valOf a x)
  have hvc:=(z5n a x g4).2
  have hsz:a.size≤64:=g5
  have w1:=z157 (gl:=gl) (valOf a x) (by omega)
  rw [zju x g4 g5] at w1
  have w2:=z1q (gl:=gl) a.ty a.ty
  rw [show a.ty.same a.ty=true from (Ty.same_iff _ _).2 rfl] at w2
  have hti:(FnT (l.drop i) r).ty=Ty.mk 4 [a.ty,(FnT (l.drop (i+1)) r).ty]:=by rw [g3,T.ty_fn]
  have hfa:=Ty.fold a.ty
  generalize (FnT (l.drop (i+1)) r).ty=ty' at *
  generalize (FnT (l.drop i) r).ty=ty0 at *
  generalize a.ty=ta at *
  subst hti
  have hct:=Ty.cells_eq ty'
  refine z00 ?_
  refine z07 ?_
  refine t_g (j2 @hvg @hcv) ?_
  refine t_c1 @hfv w1 ?_
  refine t_g0 ?_
  refine t_c1 @hfa w2 ?_
  refine t_g0 ?_
  refine t_gt (wr []) @hct trivial (hnext trivial)
 ·intro _
  have hdl:FnT (l.drop l.length) r=r:=by rw [List.drop_length];rfl
  rw [hdl]
  have wd:=z19n (gl:=gl) r hro
  rw [show decide (r.level=0)=true from decide_eq_true ((T.level_plain r).2 hr)] at wd
  have hfr:=Ty.fold r.ty
  have hwn:¬ (work<0):=by omega
  have hwm:¬ (65536<work):=by omega
  have hH:=zkh (gl:=gl) (most:=work) (by omega) (work.toNat+1)
  have hB:=zdv work (work.toNat+1)
  obtain ⟨v0,u0,o0,e1,l1,m1,q1⟩:=zdu work (work.toNat+1) h .nil hw0 (by omega)
  obtain ⟨cr,hcr⟩:∃ cr,cr=call6N work t (mvsOf l Z):=⟨_,rfl⟩
  have hout:=z1a3 hw0 h Z hl
  rw [← hcr] at hR hout
  obtain ⟨vf,uf,of,r1,r2,r3,r4⟩:=hout
  unfold call6N at hcr
  rw [e1] at hcr
  obtain ⟨k1,k2,k3⟩:=hB e1 hw0 hM trivial (by simp only [List.length_nil];omega)
  refine z00 ?_
  refine t_no ?_
  refine t_g0 ?_
  refine t_c1 @hfr wd ?_
  refine t_g (j2 @hwn @hwm) ?_
  refine z2w 80 (by simp [go_sem];rfl) ?_
  intro b hb
  simp [go_sem] at hb ⊢
  have we:=hH b M e1 (by omega) hw0 hM (by omega) trivial (by simp only [List.length_nil];omega)
  unfold mach6 at we
  have hv0:=MV.cells_eq v0
  refine t_c1 @hft we ?_
  refine t_g0 ?_
  refine t_a ?_
  refine z0e [] (j2 @hv0 @hvl) (z1k (fun x:Nat × MV × Int × Bool=>x.1≤l.length∧0≤x.2.2.1∧x.2.2.1≤work∧x.2.1.le (M+x.2.2.1)∧(x.2.2.2=false→callsRun (ev6 work (work.toNat+1)) x.2.1 ((mvsOf l Z).drop x.1) x.2.2.1=cr)∧(x.2.2.2=true→of=true)) (fun x:Nat × MV × Int × Bool=>[(.slot 17,.one (.v (ptr b))),(.slot 6,.one (.loc 6 0)),(.loc 6,.row ([.v (dint 0),.v (dint 0),.own 0 [],.own 0 []])),(.slot 9,.one (.loc 9 0)),(.loc 9,.row ([.v (dint r.ty.kind),.v (.sl (r.ty.args.map Ty.cells))])),(.slot 18,.one (.loc 18 0)),(.loc 18,.row ([.v (dint x.2.1.numF),.v (.sl (ints x.2.1.listF)),.v (.sl (x.2.1.pairF.map MV.cells)),.v (dint x.2.1.bodyF.kind),.v (dint x.2.1.bodyF.index),.v (dint x.2.1.bodyF.type.kind),.v (.sl (x.2.1.bodyF.type.args.map Ty.cells)),.v (.sl (x.2.1.bodyF.args.map Tm.cells)),.v (.sl (x.2.1.envF.map MV.cells))])),(.slot 84,.one (.v (.sl ((valsOf l Z).map Val.cells)))),(.slot 85,.one (.v (dint l.length))),(.slot 86,.one (.v (dint x.1))),(.heap  b,.row ([.v (dint x.2.2.1),.v (dint work),.v (dbool x.2.2.2)]))]) (fun x:Nat × MV × Int × Bool=>l.length - x.1) (0,v0,u0,o0) (⟨Nat.zero_le _,by show 0≤u0;omega,m1,MV.le_mono (by show M+(u0 - 0)≤M+u0;omega) k3,fun h=>?_,fun h=>?_⟩) ?_)
  ·have h:o0=false:=h
   subst h
   exact hcr.symm
  ·have h:o0=true:=h
   subst h
   have hcr:cr=some (v0,u0,true):=hcr
   rw [hcr] at r1
   cases r1
   rfl
  rintro ⟨i,m,u,ok⟩ ⟨i1,i2,i3,i4,i5,i6⟩ ih
  simp only at i1 i2 i3 i4 i5 i6
  by_cases hi:i<l.length
  ·obtain ⟨a,x,g1,g2,-,g4,g5⟩:=zbc (r:=r) l Z i hi hl
   have hvg:(List.map Val.cells (valsOf l Z))[i]? = some (valOf a x).cells:=by rw [List.getElem?_map,g1];rfl
   have hfv:=Val.fold (valOf a x)
   have hcv:=Val.cells_eq (valOf a x)
   cases ok with
   | true=>
    refine z00 ?_
    refine z07 ?_
    refine t_g (j2 @hvg @hcv) ?_
    refine t_gt (wr []) trivial trivial (ih (i+1,m,u,true) ⟨by show i+1≤l.length;omega,i2,i3,i4,fun h=>(by cases h),fun _=>i6 rfl⟩ (by show l.length - (i+1)<l.length - i;omega))
   | false=>
    have i5:=i5 rfl
    have hdr:(mvsOf l Z).drop i=ofM a x::(mvsOf l Z).drop (i+1):=by
     obtain ⟨p1,p2⟩:=List.getElem?_eq_some_iff.1 g2
     rw [List.drop_eq_getElem_cons p1,p2]
    rw [hdr] at i5
    simp only [callsRun] at i5
    have hxM:(ofM a x).le (M+u):=MV.le_mono (by omega) (MV.les_iff.1 hX _ (List.mem_of_getElem? g2))
    have wo:=z1a1 (gl:=gl) a x g4
    have hfm:=MV.fold m
    split at i5
    ·rw [← i5] at r1;cases r1
    ·rename_i v1 u1 c1
     have w:=z2y (gl:=gl) (by omega) hH b (M+u) c1 i2 i3 (by omega) (by omega) i4 hxM
     obtain ⟨d1,d2,d3⟩:=z1h hB c1 i3 (M:=M+u) (by omega) i4 hxM
     have hof:of=true:=by rw [← i5] at r1;cases r1;rfl
     have hv1:=MV.cells_eq v1
     unfold mach6 at w
     generalize valOf a x=vx at *
     generalize ofM a x=mx at *
     refine z00 ?_
     refine z07 ?_
     refine t_g (j2 @hvg @hcv) ?_
     refine t_c2 (j2 @hfv @hfm) wo w ?_
     refine t_gt (wr []) @hv1 trivial (ih (i+1,v1,u1,true) ⟨by show i+1≤l.length;omega,by show 0≤u1;omega,d2,MV.le_mono (by show _≤M+u1;omega) d3,fun h=>(by cases h),fun _=>hof⟩ (by show l.length - (i+1)<l.length - i;omega))
    ·rename_i v1 u1 c1
     have w:=z2y (gl:=gl) (by omega) hH b (M+u) c1 i2 i3 (by omega) (by omega) i4 hxM
     obtain ⟨d1,d2,d3⟩:=z1h hB c1 i3 (M:=M+u) (by omega) i4 hxM
     have hv1:=MV.cells_eq v1
     unfold mach6 at w
     generalize valOf a x=vx at *
     generalize ofM a x=mx at *
     refine z00 ?_
     refine z07 ?_
     refine t_g (j2 @hvg @hcv) ?_
     refine t_c2 (j2 @hfv @hfm) wo w ?_
     refine t_gt (wr []) @hv1 trivial (ih (i+1,v1,u1,false) ⟨by show i+1≤l.length;omega,by show 0≤u1;omega,d2,MV.le_mono (by show _≤M+u1;omega) d3,fun _=>i5,fun h=>(by cases h)⟩ (by show l.length - (i+1)<l.length - i;omega))
  ·have hin:i=l.length:=by omega
   subst hin
   cases ok with
   | true=>
    have hof:=i6 rfl
    subst hof
    rw [r1] at hR
    refine z00 ?_
    refine t_no ?_
    refine t_g0 ?_
    refine t_r ?_
    simp [go_sem,hP,hgl,hn,zeroV] <;> (try omega)
    all_goals exact t_f
   | false=>
    have i5:=i5 rfl
    have hdr:(mvsOf l Z).drop l.length=[]:=by rw [← hml,List.drop_length]
    rw [hdr] at i5
    simp only [callsRun] at i5
    rw [← i5] at r1 hR
    have hq:m=vf∧of=false:=by cases r1;exact ⟨rfl,rfl⟩
    have r4:=r4 hq.2
    rw [← hq.1] at r4
    have wp:=z1a2 (gl:=gl) r4 hr
    have hfm:=MV.fold m
    generalize valOf r (appl l (F ()) Z)=vr at *
    refine z00 ?_
    refine t_no ?_
    refine t_g0 ?_
    refine t_c1 (j2 @hfm @hfr) wp ?_
    refine t_r ?_
    simp [go_sem,hP,hgl,hn] <;> (try omega)
    all_goals exact t_f
end
section
variable {gl:Globs}
theorem zkj (t:Tm)(r:T)(F:Env []→r.V)(work:Int)(h:Dn [] t r F)(hc:t.count≤536870912)(hr:r.plain)(hro:r.ok)(hw0:0≤work)(hw:work≤65536) :
  Con1 Tryz.prog gl 20 [t.dv,dint work] [] (.tup [(callOut t [] (r:=r) (F ()) () work).1.dv,dint (callOut t [] (r:=r) (F ()) () work).2.1,dint (callOut t [] (r:=r) (F ()) () work).2.2]) []:=by
 have w:=z1bd (gl:=gl) t [] r F () work 0 h hc trivial (by decide) hr hro hw0 hw (by omega) (by omega) trivial
 have hft:=Tm.fold t
 generalize callOut t [] (r:=r) (F ()) () work=c at *
 refine t_in Tryz.func20 ?_
 intro X hP hgl hf hfn hn hR hids hfit
 have e0:DV.sl (List.map Val.cells (valsOf [] ())) = .sl []:=rfl
 rw [e0] at w
 have hfc:=Val.fold c.1
 refine t_g0 ?_
 refine t_c1 @hft w ?_
 refine t_g0 ?_
 refine t_r ?_
 simp [go_sem,hP,hgl,hn] <;> (try omega)
 all_goals exact t_f
end
section
variable {gl:Globs}
theorem zbh:Con1 Tryz.prog gl 54 [] [] (Ty.mk 1 []).dv []:=by
 refine t_in Tryz.func54 ?_
 intro X hP hgl hf hfn hn hR hids hfit
 refine t_g0 ?_
 refine t_r ?_
 simp [go_sem,hP,hgl,hn] <;> (try omega)
 all_goals exact t_f
theorem z1be:Con1 Tryz.prog gl 18 [] [] (Ty.mk 1 []).dv []:=by
 refine t_in Tryz.func18 ?_
 intro X hP hgl hf hfn hn hR hids hfit
 refine t_g0 ?_
 refine t_c1 trivial zbh ?_
 refine t_r ?_
 simp [go_sem,hP,hgl,hn] <;> (try omega)
 all_goals exact t_f
theorem z1bf (a b:Ty):Con1 Tryz.prog gl 34 [a.dv,b.dv] [] (Ty.mk 4 [a,b]).dv []:=by
 refine t_in Tryz.func34 ?_
 intro X hP hgl hf hfn hn hR hids hfit
 refine t_g0 ?_
 refine t_r ?_
 simp [go_sem,hP,hgl,hn] <;> (try omega)
 all_goals exact t_f
theorem z4i (k:Int)(l:List Tm):Con1 Tryz.prog gl 31 [dint k,.sl (l.map Tm.cells)] [] (Tm.mk k 0 (Ty.mk 0 []) l).dv []:=by
 refine t_in Tryz.func31 ?_
 intro X hP hgl hf hfn hn hR hids hfit
 refine t_g0 ?_
 refine t_r ?_
 simp [go_sem,hP,hgl,hn] <;> (try omega)
 all_goals exact t_f
theorem z1bg:Con1 Tryz.prog gl 144 [] [] (Tm.mk 13 0 (Ty.mk 0 []) []).dv []:=by
 refine t_in Tryz.func144 ?_
 intro X hP hgl hf hfn hn hR hids hfit
 refine t_g0 ?_
 refine t_r ?_
 simp [go_sem,hP,hgl,hn] <;> (try omega)
 all_goals exact t_f
theorem z5x (i:Int):Con1 Tryz.prog gl 113 [dint i] [] (Tm.mk 1 i (Ty.mk 0 []) []).dv []:=by
 refine t_in Tryz.func113 ?_
 intro X hP hgl hf hfn hn hR hids hfit
 refine t_g0 ?_
 refine t_r ?_
 simp [go_sem,hP,hgl,hn] <;> (try omega)
 all_goals exact t_f
theorem z99 (Γ:List T):∀ n:Nat,Dn Γ (numTm n) .nat (fun _=>(n:Nat))
 | 0=>.zero
 | n+1=>.succ (z99 Γ n)
end
section
def cutE (x:Tm):Tm × Int:=if 4096<x.count then (zeroTm,4) else (x,0)
theorem z3v {x:Tm}(h:4096<x.count):cutE x=(zeroTm,4):=if_pos h
theorem z2z {x:Tm}(h:¬ 4096<x.count):cutE x=(x,0):=if_neg h
theorem z5y (k:Int)(s:Ty)(l:List Tm):nodeE 0 k s l=cutE (Tm.mk k 0 s l):=rfl
theorem z9a (k:Int)(s:Ty)(l:List Tm):nodeE 4 k s l=(zeroTm,4):=rfl
theorem z5z (y:Ty)(a b:Tm):maxE y a b 4=(zeroTm,4):=by
 cases y;rw [maxE.eq_def];rfl
theorem z60 {x:Tm}{k:Int}{s:Ty}(f:Tm→List Tm)(h:x.count≤(Tm.mk k 0 s (f x)).count):nodeE (cutE x).2 k s (f (cutE x).1)=cutE (Tm.mk k 0 s (f x)):=by
 by_cases hx:4096<x.count
 ·rw [z3v hx,z3v (show 4096<(Tm.mk k 0 s (f x)).count by omega)]
  rfl
 ·rw [z2z hx];rfl
theorem zbi (f a b:Tm):callE 0 f [a,b]=cutE (nT 3 [nT 3 [f,a],b]):=by
 show (_,_)=_
 have h:=z60 (x:=nT 3 [f,a]) (k:=3) (s:=zY) (fun x=>[x,b]) (by show (nT 3 [f,a]).count≤1+((nT 3 [f,a]).count+(b.count+0));omega)
 exact h
theorem zkk (f a:Tm):callE 0 f [a]=cutE (nT 3 [f,a]):=rfl
theorem z1bh (f a b c:Tm):callE 0 f [a,b,c]=cutE (nT 3 [nT 3 [nT 3 [f,a],b],c]):=by
 have h2:=zbi f a b
 have e:callE 0 f [a,b,c]=nodeE (callE 0 f [a,b]).2 3 zY [(callE 0 f [a,b]).1,c]:=rfl
 rw [e,h2]
 exact z60 (x:=nT 3 [nT 3 [f,a],b]) (k:=3) (s:=zY) (fun x=>[x,c]) (by show (nT 3 [nT 3 [f,a],b]).count≤1+((nT 3 [nT 3 [f,a],b]).count+(c.count+0));omega)
def max33 (y:Ty)(a b:Tm):Tm × Int:=if 4096<a.count∨4096<b.count then (zeroTm,4) else maxE y a b 0
theorem z30 {y:Ty}{a b:Tm}(h:4096<a.count∨4096<b.count):max33 y a b=(zeroTm,4):=if_pos h
theorem z42 {y:Ty}{a b:Tm}(h:¬ (4096<a.count∨4096<b.count)):max33 y a b=maxE y a b 0:=if_neg h
theorem zec {a b:Tm}(h:¬ (4096<a.count∨4096<b.count)):max33 (T.ty .nat) a b=cutE (nT 3 [nT 3 [greatT,a],b]):=by
 rw [z42 h,z39 _ (T.ok_ty z0r),if_pos rfl,if_pos (show (T.ty .nat).kind=1 from rfl),zbi]
theorem zkl {a b:Tm}(h:¬ (4096<a.count∨4096<b.count)):max33 (T.ty .unit) a b=(nT 13 [],0):=by
 rw [z42 h,z39 _ (T.ok_ty (a:=.unit) (by unfold T.ok;decide)),if_pos rfl]
 rfl
theorem zkm {s t:T}(ho:(T.pair s t).ok){a b:Tm}(h:¬ (4096<a.count∨4096<b.count)) :
  max33 (T.pair s t).ty a b=if (max33 s.ty (nT 11 [a]) (nT 11 [b])).2=0 then if (max33 t.ty (nT 12 [a]) (nT 12 [b])).2=0 then cutE (nT 10 [(max33 s.ty (nT 11 [a]) (nT 11 [b])).1,(max33 t.ty (nT 12 [a]) (nT 12 [b])).1]) else (zeroTm,(max33 t.ty (nT 12 [a]) (nT 12 [b])).2) else (zeroTm,(max33 s.ty (nT 11 [a]) (nT 11 [b])).2):=by
 rw [z42 h,z39 _ (T.ok_ty ho),if_pos rfl,if_neg (show ¬ (T.pair s t).ty.kind=1 by simp [T.ty,Ty.kind]),if_pos (show (T.pair s t).ty.kind=3 from rfl)]
 have ca:(nT 11 [a]).count=1+(a.count+0):=rfl
 have cb:(nT 11 [b]).count=1+(b.count+0):=rfl
 have ca':(nT 12 [a]).count=1+(a.count+0):=rfl
 have cb':(nT 12 [b]).count=1+(b.count+0):=rfl
 have e0:(T.pair s t).ty.arg 0=s.ty:=rfl
 have e1:(T.pair s t).ty.arg 1=t.ty:=rfl
 rw [e0,e1]
 simp only [z5y]
 have f11:∀ x,Tm.mk 11 0 zY [x]=nT 11 [x]:=fun _=>rfl
 have f12:∀ x,Tm.mk 12 0 zY [x]=nT 12 [x]:=fun _=>rfl
 have f10:∀ l,Tm.mk 10 0 zY l=nT 10 l:=fun _=>rfl
 rw [f11]
 by_cases h1:4096<(nT 11 [a]).count
 ·rw [z3v h1,z30 (y:=s.ty) (b:=nT 11 [b]) (.inl h1)]
  simp only [z9a,z5z]
  rfl
 rw [z2z h1]
 simp only [z5y,f11]
 by_cases h2:4096<(nT 11 [b]).count
 ·rw [z3v h2,z30 (y:=s.ty) (a:=nT 11 [a]) (.inr h2)]
  simp only [z9a,z5z]
  rfl
 rw [z2z h2,z42 (y:=s.ty) (a:=nT 11 [a]) (b:=nT 11 [b]) (by omega)]
 simp only
 generalize maxE s.ty (nT 11 [a]) (nT 11 [b]) 0=l
 obtain ⟨l1,l2⟩:=l
 simp only
 by_cases hl:l2=0
 ·subst hl
  simp only [z5y,f12,if_true]
  rw [z2z (show ¬ 4096<(nT 12 [a]).count by omega)]
  simp only [z5y,f12]
  rw [z2z (show ¬ 4096<(nT 12 [b]).count by omega),z42 (y:=t.ty) (a:=nT 12 [a]) (b:=nT 12 [b]) (by omega)]
  simp only
  generalize maxE t.ty (nT 12 [a]) (nT 12 [b]) 0=r
  obtain ⟨r1,r2⟩:=r
  simp only
  by_cases hr:r2=0
  ·subst hr;simp only [z5y,f10,if_true]
  ·rw [if_neg hr]
   unfold nodeE
   rw [if_neg hr]
 ·rw [if_neg hl]
  have hn:∀ k s l,nodeE l2 k s l=(zeroTm,l2):=fun k s l=>by unfold nodeE;rw [if_neg hl]
  have hm:∀ y a b,maxE y a b l2=(zeroTm,l2):=fun y a b=>by cases y;rw [maxE.eq_def];simp only;rw [if_neg hl]
  simp only [hn,hm]
theorem zkn {s t:T}(ho:(T.fn s t).ok){a b:Tm}(h:¬ (4096<a.count∨4096<b.count)) :
  max33 (T.fn s t).ty a b=if (max33 t.ty (nT 3 [a.upN 0 1,vT 0]) (nT 3 [b.upN 0 1,vT 0])).2=0 then cutE (Tm.mk 2 0 s.ty [(max33 t.ty (nT 3 [a.upN 0 1,vT 0]) (nT 3 [b.upN 0 1,vT 0])).1]) else (zeroTm,(max33 t.ty (nT 3 [a.upN 0 1,vT 0]) (nT 3 [b.upN 0 1,vT 0])).2):=by
 rw [z42 h,z39 _ (T.ok_ty ho),if_pos rfl,if_neg (show ¬ (T.fn s t).ty.kind=1 by simp [T.ty,Ty.kind]),if_neg (show ¬ (T.fn s t).ty.kind=3 by simp [T.ty,Ty.kind]),if_pos (show (T.fn s t).ty.kind=4 from rfl)]
 have e0:(T.fn s t).ty.arg 0=s.ty:=rfl
 have e1:(T.fn s t).ty.arg 1=t.ty:=rfl
 rw [e0,e1]
 simp only [zkk]
 by_cases h1:4096<(nT 3 [a.upN 0 1,vT 0]).count
 ·rw [z3v h1,z30 (y:=t.ty) (b:=nT 3 [b.upN 0 1,vT 0]) (.inl h1)]
  simp only
  have:callE 4 (b.upN 0 1) [vT 0]=(zeroTm,4):=rfl
  rw [this]
  simp only [z5z,z9a]
  rfl
 rw [z2z h1]
 simp only [zkk]
 by_cases h2:4096<(nT 3 [b.upN 0 1,vT 0]).count
 ·rw [z3v h2,z30 (y:=t.ty) (a:=nT 3 [a.upN 0 1,vT 0]) (.inr h2)]
  simp only [z5z,z9a]
  rfl
 rw [z2z h2,z42 (y:=t.ty) (a:=nT 3 [a.upN 0 1,vT 0]) (b:=nT 3 [b.upN 0 1,vT 0]) (by omega)]
 simp only
 generalize maxE t.ty (nT 3 [a.upN 0 1,vT 0]) (nT 3 [b.upN 0 1,vT 0]) 0=r
 obtain ⟨r1,r2⟩:=r
 simp only
 by_cases hr:r2=0
 ·subst hr;simp only [z5y,if_true]
 ·rw [if_neg hr]
  unfold nodeE
  rw [if_neg hr]
end
section
theorem z1bi (i:Int):(vT i).count=1:=rfl
theorem z1bj {i:Int}{y:Ty}{a:List Tm}{p q:Tm}(hp:¬ 4096<p.count):majNodeE 8 i y a [p,q]=max33 natY p (nT 5 [q]):=by
 unfold majNodeE
 rw [if_neg (by decide),if_pos rfl]
 show maxE natY p (cutE (nT 5 [q])).1 (cutE (nT 5 [q])).2=_
 by_cases h:4096<(nT 5 [q]).count
 ·rw [z3v h,z30 (.inr h)]
  exact z5z _ _ _
 ·rw [z2z h,z42 (by omega)]
theorem zko {s:Ty}(next:Tm):stepE s (cutE next).1 (cutE next).2=if (max33 s (vT 0) next).2=0 then cutE (Tm.mk 2 0 natY [Tm.mk 2 0 s [(max33 s (vT 0) next).1]]) else (zeroTm,(max33 s (vT 0) next).2):=by
 unfold stepE
 have h0:¬ 4096<(vT 0).count:=by rw [z1bi];decide
 by_cases h:4096<next.count
 ·rw [z3v h,z30 (.inr h)]
  simp only [z5z,z9a]
  rfl
 rw [z2z h,z42 (show ¬ (4096<(vT 0).count∨4096<next.count) by omega)]
 simp only
 generalize maxE s (vT 0) next 0=m
 obtain ⟨m1,m2⟩:=m
 simp only
 by_cases hm:m2=0
 ·subst hm
  rw [if_pos rfl]
  simp only [z5y]
  exact z60 (x:=Tm.mk 2 0 s [m1]) (k:=2) (s:=natY) (fun x=>[x]) (by show (Tm.mk 2 0 s [m1]).count≤1+((Tm.mk 2 0 s [m1]).count+0);omega)
 ·rw [if_neg hm]
  have hn:∀ k s l,nodeE m2 k s l=(zeroTm,m2):=fun k s l=>by unfold nodeE;rw [if_neg hm]
  simp only [hn]
def recNext (q:Tm):Tm:=nT 3 [nT 3 [q.upN 0 2,vT 1],vT 0]
def foldNext (q:Tm):Tm:=nT 3 [nT 3 [nT 3 [q.upN 0 3,vT 2],vT 2],vT 0]
theorem z1bk {i:Int}{y:Ty}{a:List Tm}{p q r:Tm}:majNodeE 6 i y a [p,q,r]=if (max33 (bareN y) (vT 0) (recNext q)).2=0 then cutE (Tm.mk 6 0 (bareN y) [p,Tm.mk 2 0 natY [Tm.mk 2 0 (bareN y) [(max33 (bareN y) (vT 0) (recNext q)).1]],r]) else (zeroTm,(max33 (bareN y) (vT 0) (recNext q)).2):=by
 unfold majNodeE
 rw [if_neg (by decide),if_neg (by decide),if_neg (by decide),if_pos rfl]
 show nodeE (stepE (bareN y) (callE 0 (q.upN 0 2) [vT 1,vT 0]).1 (callE 0 (q.upN 0 2) [vT 1,vT 0]).2).2 6 (bareN y) [p,(stepE (bareN y) (callE 0 (q.upN 0 2) [vT 1,vT 0]).1 (callE 0 (q.upN 0 2) [vT 1,vT 0]).2).1,r]=_
 rw [zbi]
 show nodeE (stepE (bareN y) (cutE (recNext q)).1 (cutE (recNext q)).2).2 6 (bareN y) [p,(stepE (bareN y) (cutE (recNext q)).1 (cutE (recNext q)).2).1,r]=_
 rw [zko]
 generalize max33 (bareN y) (vT 0) (recNext q)=m
 obtain ⟨m1,m2⟩:=m
 simp only
 by_cases hm:m2=0
 ·rw [if_pos hm,if_pos hm]
  exact z60 (x:=Tm.mk 2 0 natY [Tm.mk 2 0 (bareN y) [m1]]) (k:=6) (s:=bareN y) (fun x=>[p,x,r]) (by show (Tm.mk 2 0 natY [Tm.mk 2 0 (bareN y) [m1]]).count≤1+(p.count+((Tm.mk 2 0 natY [Tm.mk 2 0 (bareN y) [m1]]).count+(r.count+0)));omega)
 ·rw [if_neg hm,if_neg hm]
  unfold nodeE;rw [if_neg hm]
theorem z1bl {i:Int}{y:Ty}{a:List Tm}{p q r:Tm}:majNodeE 9 i y a [p,q,r]=if (max33 (bareN y) (vT 0) (foldNext q)).2=0 then cutE (nT 3 [Tm.mk 2 0 natY [Tm.mk 6 0 (bareN y) [p.upN 0 1,Tm.mk 2 0 natY [Tm.mk 2 0 (bareN y) [(max33 (bareN y) (vT 0) (foldNext q)).1]],vT 0]],r]) else (zeroTm,(max33 (bareN y) (vT 0) (foldNext q)).2):=by
 unfold majNodeE
 rw [if_neg (by decide),if_neg (by decide),if_neg (by decide),if_neg (by decide),if_pos rfl]
 have e3:callE 0 (([p,q,r].getD 1 zeroTm).upN 0 3) [vT 2,vT 2,vT 0]=cutE (foldNext q):=z1bh _ _ _ _
 simp only [e3]
 rw [zko]
 generalize max33 (bareN y) (vT 0) (foldNext q)=m
 obtain ⟨m1,m2⟩:=m
 simp only
 by_cases hm:m2=0
 ·rw [if_pos hm,if_pos hm]
  have o1:=z60 (x:=Tm.mk 2 0 natY [Tm.mk 2 0 (bareN y) [m1]]) (k:=6) (s:=bareN y) (fun x=>[p.upN 0 1,x,vT 0]) (by show (Tm.mk 2 0 natY [Tm.mk 2 0 (bareN y) [m1]]).count≤1+((p.upN 0 1).count+((Tm.mk 2 0 natY [Tm.mk 2 0 (bareN y) [m1]]).count+((vT 0).count+0)));omega)
  have e0:([p,q,r].getD 0 zeroTm).upN 0 1=p.upN 0 1:=rfl
  have e2:[p,q,r].getD 2 zeroTm=r:=rfl
  rw [e0,e2,o1]
  generalize Tm.mk 6 0 (bareN y) [p.upN 0 1,Tm.mk 2 0 natY [Tm.mk 2 0 (bareN y) [m1]],vT 0]=z
  have o2:=z60 (x:=z) (k:=2) (s:=natY) (fun x=>[x]) (by show z.count≤1+(z.count+0);omega)
  rw [o2]
  have o3:=z60 (x:=Tm.mk 2 0 natY [z]) (k:=3) (s:=zY) (fun x=>[x,r]) (by show (Tm.mk 2 0 natY [z]).count≤1+((Tm.mk 2 0 natY [z]).count+(r.count+0));omega)
  exact o3
 ·rw [if_neg hm,if_neg hm]
  have hn:∀ k s l,nodeE m2 k s l=(zeroTm,m2):=fun k s l=>by unfold nodeE;rw [if_neg hm]
  simp only [hn,callE]
theorem z1bm {x:Tm}(h:(cutE x).2=0):(cutE x).1.count≤4096:=by
 by_cases hx:4096<x.count
 ·rw [z3v hx] at h;cases h
 ·rw [z2z hx];show x.count≤4096;omega
theorem z7e {e k:Int}{s:Ty}{l:List Tm}(h:(nodeE e k s l).2=0):(nodeE e k s l).1.count≤4096:=by
 obtain ⟨-,h2,h3⟩:=z0p h
 rw [h2];exact h3
theorem zkp (c:T)(ho:c.ok){a b:Tm}{e:Int}(h:(maxE c.ty a b e).2=0):(maxE c.ty a b e).1.count≤4096:=by
 rw [z39 _ (T.ok_ty ho)] at h ⊢
 by_cases he:e=0
 rotate_left
 ·rw [if_neg he] at h;exact absurd h he
 rw [if_pos he] at h ⊢
 cases c with
 | nat=>
  rw [if_pos (show (T.ty .nat).kind=1 from rfl),zbi] at h ⊢
  exact z1bm h
 | list=>exact (show (nT 13 []).count≤4096 by decide)
 | unit=>exact (show (nT 13 []).count≤4096 by decide)
 | pair s t=>
  rw [if_neg (show ¬ (T.pair s t).ty.kind=1 by simp [T.ty,Ty.kind]),if_pos (show (T.pair s t).ty.kind=3 from rfl)] at h ⊢
  exact z7e h
 | fn s t=>
  rw [if_neg (show ¬ (T.fn s t).ty.kind=1 by simp [T.ty,Ty.kind]),if_neg (show ¬ (T.fn s t).ty.kind=3 by simp [T.ty,Ty.kind]),if_pos (show (T.fn s t).ty.kind=4 from rfl)] at h ⊢
  exact z7e h
theorem z1bn {e:Int}{f a:Tm}(h:(callE e f [a]).2=0):(callE e f [a]).1.count≤4096:=z7e (k:=3) (s:=zY) (l:=[f,a]) h
theorem z1bo (t:Tm)(hs:t.shape=true)(h:(majE t).2=0):(majE t).1.count≤4096:=by
 obtain ⟨hlen,-,-,-,-⟩:=Tm.shape_node hs
 rw [zas] at h ⊢
 by_cases h0:(majE.majsE t.args).2=0
 rotate_left
 ·rw [if_neg h0] at h;exact absurd h h0
 rw [if_pos h0] at h ⊢
 generalize (majE.majsE t.args).1=l at *
 unfold majNodeE at h ⊢
 by_cases h7:t.kind=7
 ·rw [if_pos h7];exact (show (nT 4 []).count≤4096 by decide)
 rw [if_neg h7] at h ⊢
 by_cases h8:t.kind=8
 ·rw [if_pos h8] at h ⊢
  exact zkp .nat z0r h
 rw [if_neg h8] at h ⊢
 by_cases h2:t.kind=2
 ·rw [if_pos h2] at h ⊢
  exact z7e h
 rw [if_neg h2] at h ⊢
 by_cases h6:t.kind=6
 ·rw [if_pos h6] at h ⊢
  exact z7e h
 rw [if_neg h6] at h ⊢
 by_cases h9:t.kind=9
 ·rw [if_pos h9] at h ⊢
  exact z1bn h
 rw [if_neg h9] at h ⊢
 by_cases h1:t.kind=1
 ·rw [if_pos h1] at h ⊢
  have ha:t.args=[]:=by
   rw [h1] at hlen
   exact List.length_eq_zero_iff.1 (by simpa [arityI] using hlen)
  rw [ha]
  exact (show (Tm.mk t.kind t.index t.type []).count≤4096 from Nat.le_of_ble_eq_true rfl)
 rw [if_neg h1] at h ⊢
 exact z7e h
end
section
theorem zed:∀ (l:List Int) (n:Int),n≤mostOf n l∧∀ x ∈ l,x≤mostOf n l
 | [],n=>⟨Int.le_refl n,fun x h=>by cases h⟩
 | y::l,n=>by
  obtain ⟨h1,h2⟩:=zed l (max n y)
  refine ⟨?_,fun x hx=>?_⟩
  ·show n≤mostOf (max n y) l
   omega
  ·show x≤mostOf (max n y) l
   rcases List.mem_cons.1 hx with rfl|hx
   ·omega
   ·exact h2 x hx
theorem zkq {B:Int}:∀ (l:List Int) (n:Int),n≤B→(∀ x ∈ l,x≤B)→mostOf n l≤B
 | [],n,h,_=>h
 | y::l,n,h,k=>zkq l (max n y) (by have:=k y (by simp);omega) fun x hx=>k x (by simp [hx])
def bnd:(a:T)→a.V→a.maj.V
 | .nat,n=>n
 | .list,l=>(mostOf (List.length l:Nat) (List.map Int.ofNat l)).toNat
 | .unit,_=>()
 | .pair a b,p=>(bnd a p.1,bnd b p.2)
 | .fn a b,_=>(T.fn a b).maj.dflt
theorem zee (l:List Nat):((mostOf (l.length:Nat) (l.map Int.ofNat)).toNat:Int)=mostOf (l.length:Nat) (l.map Int.ofNat):=by
 have:=(zed (l.map Int.ofNat) (l.length:Nat)).1
 omega
theorem z1bp (l:List Nat):(Val.mk 2 0 (l.map Int.ofNat) []).boundN=Val.mk 1 (((mostOf (l.length:Nat) (l.map Int.ofNat)).toNat:Nat):Int) [] []:=by
 rw [Val.boundN_eq,if_pos (show (Val.mk 2 0 (l.map Int.ofNat) []).kind=2 from rfl)]
 show Val.mk 1 (mostOf ((List.map Int.ofNat l).length:Nat) (List.map Int.ofNat l)) [] []=_
 rw [zee,List.length_map]
theorem zkr {N:Int}(l:List Nat)(h:(l.length:Int)≤N∧∀ x ∈ l,(x:Int)≤N):(((mostOf (l.length:Nat) (l.map Int.ofNat)).toNat:Nat):Int)≤N:=by
 rw [zee]
 exact zkq _ _ h.1 fun x hx=>by
  obtain ⟨y,hy,rfl⟩:=List.mem_map.1 hx
  exact h.2 y hy
theorem z9b:∀ (a:T) (x:a.V),a.plain→(valOf a x).boundN=valOf a.maj (bnd a x)
 | .nat,n,_=>by rw [Val.boundN_eq];rfl
 | .list,l,_=>z1bp l
 | .unit,_,_=>by rw [Val.boundN_eq];rfl
 | .pair a b,p,h=>by
  rw [Val.boundN_eq,if_neg (show ¬ (valOf (.pair a b) p).kind=2 by simp [valOf,Val.kind]),if_pos (show (valOf (.pair a b) p).kind=3 from rfl)]
  show Val.mk 3 0 [] [(valOf a p.1).boundN,(valOf b p.2).boundN]=Val.mk 3 0 [] [valOf a.maj (bnd a p.1),valOf b.maj (bnd b p.2)]
  rw [z9b a p.1 h.1,z9b b p.2 h.2]
 | .fn _ _,_,h=>h.elim
theorem z9c:∀ {a:T},a.plain→a.maj.plain
 | .nat,_=>trivial
 | .list,_=>trivial
 | .unit,_=>trivial
 | .pair _ _,h=>⟨z9c h.1,z9c h.2⟩
theorem zef:∀ (r:T) (Y:r.maj.V) (y:r.V),r.plain→Mj r Y y→(valOf r.maj Y).overN (valOf r y)=true
 | .nat,Y,y,_,h=>by
  rw [Val.overN_eq,if_pos ⟨rfl,.inl rfl⟩]
  exact decide_eq_true (show (valOf .nat y).boundN.num≤Int.ofNat Y by rw [Val.boundN_eq];exact Int.ofNat_le.2 h)
 | .list,Y,l,_,h=>by
  rw [Val.overN_eq,if_pos ⟨rfl,.inr rfl⟩]
  refine decide_eq_true ?_
  rw [z9b .list l trivial]
  exact zkr l ⟨Int.ofNat_le.2 h.1,fun y hy=>Int.ofNat_le.2 (h.2 y hy)⟩
 | .unit,_,_,_,_=>by rw [Val.overN_eq];rfl
 | .pair a b,Y,y,hp,h=>by
  have h1:=zef a Y.1 y.1 hp.1 h.1
  have h2:=zef b Y.2 y.2 hp.2 h.2
  rw [Val.overN_eq,if_neg (by rintro ⟨h,-⟩;exact absurd h (show ¬ (valOf (T.pair a b).maj Y).kind=1 by show ¬ (3:Int)=1;decide)),if_pos ⟨rfl,rfl⟩]
  show ((valOf a.maj Y.1).overN (valOf a y.1) && ((valOf b.maj Y.2).overN (valOf b y.2) && true))=true
  rw [h1,h2];rfl
 | .fn _ _,_,_,h,_=>h.elim
theorem z1bq {r:T}{Y:r.maj.V}{y:r.V}(hp:r.plain)(ho:r.ok)(h:Mj r Y y):(valOf r.maj Y).majorizesN (valOf r y)=true:=by
 unfold Val.majorizesN
 rw [zbd Y (z9c hp) (z29 ho),zbd y hp ho,zef r Y y hp h]
 rfl
end
section
variable {gl:Globs}
def Val.val33N:Val→Val
 | .mk k n l a=>if k=2 then .mk 1 (mostOf l.length l) [] [] else .mk k n [] (vals a)
where
 vals:List Val→List Val
  | []=>[]
  | x::r=>x.val33N::vals r
theorem Val.val33N_eq (v:Val):v.val33N=if v.kind=2 then .mk 1 (mostOf v.list.length v.list) [] [] else .mk v.kind v.num [] (val33N.vals v.args):=by cases v;rw [val33N];rfl
theorem Val.vals33_append (l r:List Val):val33N.vals (l++r)=val33N.vals l++val33N.vals r:=by
 induction l with
 | nil=>rfl
 | cons x l ih=>simp only [List.cons_append,val33N.vals,ih]
theorem Val.vals33_len (l:List Val):(val33N.vals l).length=l.length:=by
 induction l with
 | nil=>rfl
 | cons x l ih=>simp only [val33N.vals,List.length_cons,ih]
theorem z1br (v:Val):Con1 Tryz.prog gl 116 [v.dv] [] v.val33N.dv []:=by
 induction v using Val.ind with
 | h v ih=>
 refine t_in Tryz.func116 ?_
 intro X hP hgl hf hfn hn hR hids hfit
 have hl2:=Val.fit_list (hfit v.dv (by simp))
 have hli:=((Val.fit_eq v).1 ((Val.dv_fit v).1 (hfit v.dv (by simp)))).2.2.1.2
 have hal:=((Val.fit_eq v).1 ((Val.dv_fit v).1 (hfit v.dv (by simp)))).2.2.2.1
 have hb:BIG=2147483648:=rfl
 rw [hb] at hal
 rw [Val.val33N_eq] at hR
 by_cases h2:v.kind=2
 ·rw [if_pos h2] at hR
  refine t_g @h2 ?_
  refine t_a ?_
  refine z0c [] (by simp [go_sem]) (by simp [go_sem,mostOf,h2] <;> omega) (by simp [go_sem]) (z35 (v.list) (fun done=>True) (fun done rest=>[(.slot 3,.one (.v (dint (mostOf v.list.length done)))),(.slot 4,.one (.v (dint done.length))),(.slot 1,.one (.loc 1 0)),(.loc 1,.row ([.v (dint v.kind),.v (dint v.num),.v (.sl (ints v.list)),.v (.sl (v.args.map Val.cells))])),(.slot 2,.one (.loc 2 0)),(.loc 2,.row ([.v (dint 0),.v (dint 0),.own 0 [],.own 0 []]))]) (trivial) ?_ ?_)
  ·intro done x rest hL hg0 hI hnext
   have hlt:done.length<v.list.length:=by rw [hL];simp
   have hgi:=z3x hg0
   have hm:mostOf v.list.length (done++[x])=max (mostOf v.list.length done) x:=z1b6 _ _ _
   have hi1:=(z57 x).1 (hli x (List.mem_of_getElem? hg0))
   refine z00 ?_
   refine z07 ?_
   refine t_g @hgi ?_
   refine t_gt (wr []) @hm @hi1 (hnext trivial)
  ·intro _
   refine z00 ?_
   refine t_no ?_
   refine t_g0 ?_
   refine t_r ?_
   simp [go_sem,hP,hgl,hn] <;> (try omega)
   all_goals exact t_f
 ·rw [if_neg h2] at hR
  refine t_g @h2 ?_
  refine t_a ?_
  refine z0c [(1005,0)] (by simp [go_sem]) (by simp [go_sem,Val.val33N.vals] <;> omega) (by simp [go_sem]) (z35 (v.args) (fun done=>True) (fun done rest=>[(.slot 6,.one (.v (dint done.length))),(.slot 1,.one (.loc 1 0)),(.loc 1,.row ([.v (dint v.kind),.v (dint v.num),.v (.sl (ints v.list)),.v (.sl (v.args.map Val.cells))])),(.slot 2,.one (.loc 2 0)),(.loc 2,.row ([.v (dint 0),.v (dint 0),.own 0 [],.own 0 []])),(.slot 5,.one (.loc 5 0)),(.loc 5,.row ([.v (dint v.kind),.v (dint v.num),.v (.sl []),.own 1005 ((Val.val33N.vals done).map Val.cells)])),(.tok 1005,.tk 4 (Val.val33N.vals done).length)]) (trivial) ?_ ?_)
  ·intro done x rest hL hg0 hI hnext
   have hlt:done.length<v.args.length:=by rw [hL];simp
   have hsn:Val.val33N.vals (done++[x])=Val.val33N.vals done++[x.val33N]:=by rw [Val.vals33_append];rfl
   have hvl:=Val.vals33_len done
   have hfx:=Val.fold x
   have hcx:=Val.cells_eq x.val33N
   refine z00 ?_
   refine z07 ?_
   refine t_c1 (j2 @hg0 @hfx) (ih x (List.mem_of_getElem? hg0)) ?_
   refine t_gt (wr [(1005,50)]) (j2 @hsn (j2 @hvl @hcx)) @hvl (hnext trivial)
  ·intro _
   refine z00 ?_
   refine t_no ?_
   refine t_g0 ?_
   refine t_r ?_
   simp [go_sem,hP,hgl,hn] <;> (try omega)
   all_goals exact t_f
end
end Go.Proofs.YtoamlfmdkbmmpaaGreatDoor.Lift
