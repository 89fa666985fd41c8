import Derived.Test.YtoamlfmdkbmmpaaGreatDoorQl2
import Derived.Test.YtoamlfmdkbmmpaaGreatDoorProg
namespace Go.Proofs.YtoamlfmdkbmmpaaGreatDoor.Lift
set_option linter.unusedSimpArgs false
set_option linter.unusedVariables false
set_option linter.unnecessarySimpa false
open Go
section
def ints (l:List Int):List (List DV):=l.map fun n=>[dint n]
theorem zac {α:Type}(f:α→List DV)(g:α→DV)(hg:∀ a,g a = .agg (f a))(l:List α):DV.fit (.sl (l.map f))↔l.length≤BIG∧∀ a ∈ l,(g a).fit:=by
 simp only [DV.fit,List.length_map]
 refine and_congr Iff.rfl ?_
 rw [zes]
 constructor
 ·intro h a ha
  obtain ⟨i,hi,rfl⟩:=List.mem_iff_getElem.1 ha
  rw [hg]
  show DV.fit.fits _
  rw [fits_iff]
  intro j c hc
  exact h i j _ c (by simp [hi]) hc
 ·intro h i j e c he hc
  rw [List.getElem?_map] at he
  cases hq:l[i]? with
  | none=>simp [hq] at he
  | some a=>
   simp [hq] at he
   subst he
   have:=h a (List.mem_of_getElem? hq)
   rw [hg] at this
   exact (fits_iff _).1 this j c hc
theorem zyx {α:Type}(f:α→List DV)(g:α→DV)(hg:∀ a,g a = .agg (f a)){p:α→Prop}(hp:∀ a,(g a).fit↔p a)(l:List α):DV.fit (.sl (l.map f))↔l.length≤BIG∧∀ a ∈ l,p a:=by
 rw [zac f g hg]
 simp only [hp]
theorem zyy (l:List Int):DV.fit (.sl (ints l))↔l.length≤BIG∧∀ n ∈ l,intOK .i64 n:=by
 unfold ints
 rw [zyx (fun n=>[dint n]) (fun n=>.agg [dint n]) (fun _=>rfl) (p:=fun n=>intOK .i64 n) (fun n=>by simp [DV.fit,DV.fit.fits,primOK,intOK])]
theorem zcl {α:Type}(f:α→α→Bool)(g:List α→List α→Bool)(h0:g [] []=true)(h1:∀ a r,g (a::r) []=false)(h2:∀ a r,g [] (a::r)=false)(h3:∀ a r b t,g (a::r) (b::t)=(f a b && g r t))(az bs:List α) :
  g az bs=true↔az.length=bs.length∧∀ (i:Nat) (a b:α),az[i]? = some a→bs[i]? = some b→f a b=true:=by
 induction az generalizing bs with
 | nil=>cases bs <;> simp [h0,h2]
 | cons a r ih=>
  cases bs with
  | nil=>simp [h1]
  | cons b t=>
   simp only [h3,Bool.and_eq_true,ih,List.length_cons,Nat.add_right_cancel_iff]
   constructor
   ·rintro ⟨h1,h2,h3⟩
    refine ⟨h2,fun i x y hx hy=>?_⟩
    cases i with
    | zero=>simp at hx hy;subst hx hy;exact h1
    | succ i=>exact h3 i x y (by simpa using hx) (by simpa using hy)
   ·rintro ⟨h1,h2⟩
    exact ⟨h2 0 a b rfl rfl,h1,fun i x y hx hy=>h2 (i+1) x y (by simpa using hx) (by simpa using hy)⟩
theorem z6l {α:Type}{f:α→α→Bool}{b:Bool}{az bs:List α}(h:b=true↔az.length=bs.length∧∀ (i:Nat) (a b:α),az[i]? = some a→bs[i]? = some b→f a b=true)(ih:∀ a ∈ az,∀ b,f a b=true↔a=b):b=true↔az=bs:=by
 rw [h]
 constructor
 ·rintro ⟨h2,h3⟩
  apply List.ext_getElem h2
  intro i hi hj
  exact (ih _ (List.getElem_mem hi) _).1 (h3 i _ _ (List.getElem?_eq_getElem hi) (List.getElem?_eq_getElem hj))
 ·rintro rfl
  exact ⟨rfl,fun i x y hx hy=>by rw [hx] at hy;cases hy;exact (ih x (List.mem_of_getElem? hx) x).2 rfl⟩
theorem zgp (l:List Int):(ints l).length=l.length:=by simp [ints]
theorem z3x {l:List Int}{i:Nat}{n:Int}(h:l[i]? = some n):(ints l)[i]? = some [dint n]:=by simp [ints,h]
theorem z6m:ints []=[]:=rfl
theorem zyz (l m:List Int):ints (l++m)=ints l++ints m:=by simp [ints]
theorem zz0 (n:Int)(m:List Int):ints (n::m)=[dint n]::ints m:=rfl
theorem zz1 (l:List Int):(∀ e ∈ ints l,e.length=1)=True:=by simp [ints]
attribute [go_sem] zgp zz1 zyz
inductive Ty where
 | mk (kind:Int) (args:List Ty)
namespace Ty
set_option linter.unusedSimpArgs false
set_option linter.unusedVariables false
set_option linter.unnecessarySimpa false
def kind:Ty→Int | .mk x _=>x
def args:Ty→List Ty | .mk _ x=>x
theorem ind {p:Ty→Prop}(h:∀ t:Ty,(∀ a ∈ t.args,p a)→p t)(t:Ty):p t:=
 Ty.rec (motive_1:=p) (motive_2:=fun az=>∀ a ∈ az,p a) (fun v0 v1 ih=>h (.mk v0 v1) ih) (fun a ha=>by cases ha)
  (fun a r ha hr b hb=>by
   rcases List.mem_cons.1 hb with rfl|hb
   ·exact ha
   ·exact hr b hb) t
def cells:Ty→List DV
 | .mk v0 v1=>[dint v0,.sl (all v1)]
where
 all:List Ty→List (List DV)
  | []=>[]
  | a::r=>cells a::all r
theorem all_map (az:List Ty):cells.all az=az.map cells:=by
 induction az with
 | nil=>rfl
 | cons a r ih=>simp [cells.all,ih]
theorem cells_eq (t:Ty):t.cells=[dint t.kind,.sl (List.map cells t.args)]:=by
 cases t with
 | mk v0 v1=>simp [cells,kind,args,all_map]
def dv (t:Ty):DV:=.agg t.cells
theorem fold (t:Ty):DV.agg [dint t.kind,.sl (List.map Ty.cells t.args)]=t.dv:=by rw [Ty.dv,Ty.cells_eq]
theorem cells_mk (kind:Int)(args:List Ty):(mk kind args).cells=[dint kind,.sl (List.map Ty.cells args)]:=by rw [cells_eq];rfl
theorem fold_mk (kind:Int)(args:List Ty):DV.agg [dint kind,.sl (List.map Ty.cells args)]=(mk kind args).dv:=by rw [dv,cells_mk]
theorem cellsD_dv (t:Ty):cellsD t.dv=[dint t.kind,.sl (List.map Ty.cells t.args)]:=by rw [Ty.dv,cellsD,Ty.cells_eq]
theorem length_cells (t:Ty):t.cells.length=2:=by rw [cells_eq];rfl
theorem isCell_dv (t:Ty):t.dv.isCell=false:=rfl
theorem isAgg_dv (t:Ty):t.dv.isAgg=true:=rfl
theorem eta (t:Ty):Ty.mk t.kind t.args=t:=by cases t;rfl
theorem kind_mk (kind:Int)(args:List Ty):(mk kind args).kind=kind:=rfl
theorem args_mk (kind:Int)(args:List Ty):(mk kind args).args=args:=rfl
def fit:Ty→Prop
 | .mk v0 v1=>intOK .i64 v0∧v1.length≤BIG∧fits v1
where
 fits:List Ty→Prop
  | []=>True
  | a::r=>fit a∧fits r
theorem fits_iff (az:List Ty):fit.fits az↔∀ a ∈ az,a.fit:=by
 induction az with
 | nil=>simp [fit.fits]
 | cons a r ih=>simp [fit.fits,ih]
theorem fit_eq (t:Ty):t.fit↔intOK .i64 t.kind∧t.args.length≤BIG∧∀ a ∈ t.args,a.fit:=by
 cases t with
 | mk v0 v1=>simp only [fit,fits_iff,kind,args]
theorem dv_fit (t:Ty):t.dv.fit↔t.fit:=by
 induction t using Ty.ind with
 | h t ih=>
  rw [fit_eq,← fold]
  have hs:DV.fit (.sl (t.args.map cells))↔t.args.length≤BIG∧∀ a ∈ t.args,a.fit:=by
   rw [zac cells dv (fun _=>rfl)]
   exact and_congr Iff.rfl ⟨fun h a ha=>(ih a ha).1 (h a ha),fun h a ha=>(ih a ha).2 (h a ha)⟩
  rw [← hs]
  simp only [DV.fit,DV.fit.fits,primOK,intOK,and_true,and_assoc]
def same:Ty→Ty→Bool
 | .mk v0 v1,.mk w0 w1=>v0 == w0 && sames v1 w1
where
 sames:List Ty→List Ty→Bool
  | [],[]=>true
  | a::r,b::t=>same a b && sames r t
  | _,_=>false
theorem sames_iff (az bs:List Ty):same.sames az bs=true↔az.length=bs.length∧∀ (i:Nat) (a b:Ty),az[i]? = some a→bs[i]? = some b→a.same b=true:=
 zcl same same.sames rfl (fun _ _=>rfl) (fun _ _=>rfl) (fun _ _ _ _=>rfl) az bs
theorem same_eq (a b:Ty):a.same b=(a.kind == b.kind && same.sames a.args b.args):=by
 cases a;cases b;rfl
theorem same_iff (a b:Ty):a.same b=true↔a=b:=by
 induction a using Ty.ind generalizing b with
 | h a ih=>
  have hs:same.sames a.args b.args=true↔a.args=b.args:=z6l (sames_iff _ _) ih
  rw [same_eq]
  simp only [Bool.and_eq_true,beq_iff_eq,hs]
  constructor
  ·intro h
   cases a;cases b
   simp only [kind,args] at h
   simp_all
  ·rintro rfl
   simp
end Ty
attribute [go_sem] Ty.cells_eq Ty.fold Ty.cellsD_dv Ty.isCell_dv Ty.isAgg_dv Ty.kind_mk Ty.args_mk
inductive Tm where
 | mk (kind:Int) (index:Int) (type:Ty) (args:List Tm)
namespace Tm
set_option linter.unusedSimpArgs false
set_option linter.unusedVariables false
set_option linter.unnecessarySimpa false
def kind:Tm→Int | .mk x _ _ _=>x
def index:Tm→Int | .mk _ x _ _=>x
def type:Tm→Ty | .mk _ _ x _=>x
def args:Tm→List Tm | .mk _ _ _ x=>x
theorem ind {p:Tm→Prop}(h:∀ t:Tm,(∀ a ∈ t.args,p a)→p t)(t:Tm):p t:=
 Tm.rec (motive_1:=p) (motive_2:=fun az=>∀ a ∈ az,p a) (fun v0 v1 v2 v3 ih=>h (.mk v0 v1 v2 v3) ih) (fun a ha=>by cases ha)
  (fun a r ha hr b hb=>by
   rcases List.mem_cons.1 hb with rfl|hb
   ·exact ha
   ·exact hr b hb) t
def cells:Tm→List DV
 | .mk v0 v1 v2 v3=>[dint v0,dint v1,dint v2.kind,.sl (List.map Ty.cells v2.args),.sl (all v3)]
where
 all:List Tm→List (List DV)
  | []=>[]
  | a::r=>cells a::all r
theorem all_map (az:List Tm):cells.all az=az.map cells:=by
 induction az with
 | nil=>rfl
 | cons a r ih=>simp [cells.all,ih]
theorem cells_eq (t:Tm):t.cells=[dint t.kind,dint t.index,dint t.type.kind,.sl (List.map Ty.cells t.type.args),.sl (List.map cells t.args)]:=by
 cases t with
 | mk v0 v1 v2 v3=>simp [cells,kind,index,type,args,all_map]
def dv (t:Tm):DV:=.agg t.cells
theorem fold (t:Tm):DV.agg [dint t.kind,dint t.index,dint t.type.kind,.sl (List.map Ty.cells t.type.args),.sl (List.map Tm.cells t.args)]=t.dv:=by rw [Tm.dv,Tm.cells_eq]
theorem cells_mk (kind:Int)(index:Int)(type:Ty)(args:List Tm):(mk kind index type args).cells=[dint kind,dint index,dint type.kind,.sl (List.map Ty.cells type.args),.sl (List.map Tm.cells args)]:=by rw [cells_eq];rfl
theorem fold_mk (kind:Int)(index:Int)(type:Ty)(args:List Tm):DV.agg [dint kind,dint index,dint type.kind,.sl (List.map Ty.cells type.args),.sl (List.map Tm.cells args)]=(mk kind index type args).dv:=by rw [dv,cells_mk]
theorem cellsD_dv (t:Tm):cellsD t.dv=[dint t.kind,dint t.index,dint t.type.kind,.sl (List.map Ty.cells t.type.args),.sl (List.map Tm.cells t.args)]:=by rw [Tm.dv,cellsD,Tm.cells_eq]
theorem length_cells (t:Tm):t.cells.length=5:=by rw [cells_eq];rfl
theorem isCell_dv (t:Tm):t.dv.isCell=false:=rfl
theorem isAgg_dv (t:Tm):t.dv.isAgg=true:=rfl
theorem eta (t:Tm):Tm.mk t.kind t.index t.type t.args=t:=by cases t;rfl
theorem kind_mk (kind:Int)(index:Int)(type:Ty)(args:List Tm):(mk kind index type args).kind=kind:=rfl
theorem index_mk (kind:Int)(index:Int)(type:Ty)(args:List Tm):(mk kind index type args).index=index:=rfl
theorem type_mk (kind:Int)(index:Int)(type:Ty)(args:List Tm):(mk kind index type args).type=type:=rfl
theorem args_mk (kind:Int)(index:Int)(type:Ty)(args:List Tm):(mk kind index type args).args=args:=rfl
def fit:Tm→Prop
 | .mk v0 v1 v2 v3=>intOK .i64 v0∧intOK .i64 v1∧v2.fit∧v3.length≤BIG∧fits v3
where
 fits:List Tm→Prop
  | []=>True
  | a::r=>fit a∧fits r
theorem fits_iff (az:List Tm):fit.fits az↔∀ a ∈ az,a.fit:=by
 induction az with
 | nil=>simp [fit.fits]
 | cons a r ih=>simp [fit.fits,ih]
theorem fit_eq (t:Tm):t.fit↔intOK .i64 t.kind∧intOK .i64 t.index∧t.type.fit∧t.args.length≤BIG∧∀ a ∈ t.args,a.fit:=by
 cases t with
 | mk v0 v1 v2 v3=>simp only [fit,fits_iff,kind,index,type,args]
theorem dv_fit (t:Tm):t.dv.fit↔t.fit:=by
 induction t using Tm.ind with
 | h t ih=>
  rw [fit_eq,← fold]
  have hs:DV.fit (.sl (t.args.map cells))↔t.args.length≤BIG∧∀ a ∈ t.args,a.fit:=by
   rw [zac cells dv (fun _=>rfl)]
   exact and_congr Iff.rfl ⟨fun h a ha=>(ih a ha).1 (h a ha),fun h a ha=>(ih a ha).2 (h a ha)⟩
  have htype:DV.fit (dint t.type.kind)∧DV.fit (.sl (List.map Ty.cells t.type.args))↔t.type.fit:=by
   rw [← Ty.dv_fit,← Ty.fold]
   simp only [DV.fit,DV.fit.fits,and_true,and_assoc]
  rw [← hs,← htype]
  simp only [DV.fit,DV.fit.fits,primOK,intOK,and_true,and_assoc]
def same:Tm→Tm→Bool
 | .mk v0 v1 v2 v3,.mk w0 w1 w2 w3=>v0 == w0 && v1 == w1 && v2.same w2 && sames v3 w3
where
 sames:List Tm→List Tm→Bool
  | [],[]=>true
  | a::r,b::t=>same a b && sames r t
  | _,_=>false
theorem sames_iff (az bs:List Tm):same.sames az bs=true↔az.length=bs.length∧∀ (i:Nat) (a b:Tm),az[i]? = some a→bs[i]? = some b→a.same b=true:=
 zcl same same.sames rfl (fun _ _=>rfl) (fun _ _=>rfl) (fun _ _ _ _=>rfl) az bs
theorem same_eq (a b:Tm):a.same b=(a.kind == b.kind && a.index == b.index && a.type.same b.type && same.sames a.args b.args):=by
 cases a;cases b;rfl
theorem same_iff (a b:Tm):a.same b=true↔a=b:=by
 induction a using Tm.ind generalizing b with
 | h a ih=>
  have hs:same.sames a.args b.args=true↔a.args=b.args:=z6l (sames_iff _ _) ih
  rw [same_eq]
  simp only [Bool.and_eq_true,beq_iff_eq,hs,Ty.same_iff]
  constructor
  ·intro h
   cases a;cases b
   simp only [kind,index,type,args] at h
   simp_all
  ·rintro rfl
   simp
end Tm
attribute [go_sem] Tm.cells_eq Tm.fold Tm.cellsD_dv Tm.isCell_dv Tm.isAgg_dv Tm.kind_mk Tm.index_mk Tm.type_mk Tm.args_mk
inductive Val where
 | mk (kind:Int) (num:Int) (list:List Int) (args:List Val)
namespace Val
set_option linter.unusedSimpArgs false
set_option linter.unusedVariables false
set_option linter.unnecessarySimpa false
def kind:Val→Int | .mk x _ _ _=>x
def num:Val→Int | .mk _ x _ _=>x
def list:Val→List Int | .mk _ _ x _=>x
def args:Val→List Val | .mk _ _ _ x=>x
theorem ind {p:Val→Prop}(h:∀ t:Val,(∀ a ∈ t.args,p a)→p t)(t:Val):p t:=
 Val.rec (motive_1:=p) (motive_2:=fun az=>∀ a ∈ az,p a) (fun v0 v1 v2 v3 ih=>h (.mk v0 v1 v2 v3) ih) (fun a ha=>by cases ha)
  (fun a r ha hr b hb=>by
   rcases List.mem_cons.1 hb with rfl|hb
   ·exact ha
   ·exact hr b hb) t
def cells:Val→List DV
 | .mk v0 v1 v2 v3=>[dint v0,dint v1,.sl (ints v2),.sl (all v3)]
where
 all:List Val→List (List DV)
  | []=>[]
  | a::r=>cells a::all r
theorem all_map (az:List Val):cells.all az=az.map cells:=by
 induction az with
 | nil=>rfl
 | cons a r ih=>simp [cells.all,ih]
theorem cells_eq (t:Val):t.cells=[dint t.kind,dint t.num,.sl (ints t.list),.sl (List.map cells t.args)]:=by
 cases t with
 | mk v0 v1 v2 v3=>simp [cells,kind,num,list,args,all_map]
def dv (t:Val):DV:=.agg t.cells
theorem fold (t:Val):DV.agg [dint t.kind,dint t.num,.sl (ints t.list),.sl (List.map Val.cells t.args)]=t.dv:=by rw [Val.dv,Val.cells_eq]
theorem cells_mk (kind:Int)(num:Int)(list:List Int)(args:List Val):(mk kind num list args).cells=[dint kind,dint num,.sl (ints list),.sl (List.map Val.cells args)]:=by rw [cells_eq];rfl
theorem fold_mk (kind:Int)(num:Int)(list:List Int)(args:List Val):DV.agg [dint kind,dint num,.sl (ints list),.sl (List.map Val.cells args)]=(mk kind num list args).dv:=by rw [dv,cells_mk]
theorem cellsD_dv (t:Val):cellsD t.dv=[dint t.kind,dint t.num,.sl (ints t.list),.sl (List.map Val.cells t.args)]:=by rw [Val.dv,cellsD,Val.cells_eq]
theorem length_cells (t:Val):t.cells.length=4:=by rw [cells_eq];rfl
theorem isCell_dv (t:Val):t.dv.isCell=false:=rfl
theorem isAgg_dv (t:Val):t.dv.isAgg=true:=rfl
theorem eta (t:Val):Val.mk t.kind t.num t.list t.args=t:=by cases t;rfl
theorem kind_mk (kind:Int)(num:Int)(list:List Int)(args:List Val):(mk kind num list args).kind=kind:=rfl
theorem num_mk (kind:Int)(num:Int)(list:List Int)(args:List Val):(mk kind num list args).num=num:=rfl
theorem list_mk (kind:Int)(num:Int)(list:List Int)(args:List Val):(mk kind num list args).list=list:=rfl
theorem args_mk (kind:Int)(num:Int)(list:List Int)(args:List Val):(mk kind num list args).args=args:=rfl
def fit:Val→Prop
 | .mk v0 v1 v2 v3=>intOK .i64 v0∧intOK .i64 v1∧(v2.length≤BIG∧∀ n ∈ v2,intOK .i64 n)∧v3.length≤BIG∧fits v3
where
 fits:List Val→Prop
  | []=>True
  | a::r=>fit a∧fits r
theorem fits_iff (az:List Val):fit.fits az↔∀ a ∈ az,a.fit:=by
 induction az with
 | nil=>simp [fit.fits]
 | cons a r ih=>simp [fit.fits,ih]
theorem fit_eq (t:Val):t.fit↔intOK .i64 t.kind∧intOK .i64 t.num∧(t.list.length≤BIG∧∀ n ∈ t.list,intOK .i64 n)∧t.args.length≤BIG∧∀ a ∈ t.args,a.fit:=by
 cases t with
 | mk v0 v1 v2 v3=>simp only [fit,fits_iff,kind,num,list,args]
theorem dv_fit (t:Val):t.dv.fit↔t.fit:=by
 induction t using Val.ind with
 | h t ih=>
  rw [fit_eq,← fold]
  have hs:DV.fit (.sl (t.args.map cells))↔t.args.length≤BIG∧∀ a ∈ t.args,a.fit:=by
   rw [zac cells dv (fun _=>rfl)]
   exact and_congr Iff.rfl ⟨fun h a ha=>(ih a ha).1 (h a ha),fun h a ha=>(ih a ha).2 (h a ha)⟩
  rw [← hs]
  rw [← zyy t.list]
  simp only [DV.fit,DV.fit.fits,primOK,intOK,and_true,and_assoc]
def same:Val→Val→Bool
 | .mk v0 v1 v2 v3,.mk w0 w1 w2 w3=>v0 == w0 && v1 == w1 && v2 == w2 && sames v3 w3
where
 sames:List Val→List Val→Bool
  | [],[]=>true
  | a::r,b::t=>same a b && sames r t
  | _,_=>false
theorem sames_iff (az bs:List Val):same.sames az bs=true↔az.length=bs.length∧∀ (i:Nat) (a b:Val),az[i]? = some a→bs[i]? = some b→a.same b=true:=
 zcl same same.sames rfl (fun _ _=>rfl) (fun _ _=>rfl) (fun _ _ _ _=>rfl) az bs
theorem same_eq (a b:Val):a.same b=(a.kind == b.kind && a.num == b.num && a.list == b.list && same.sames a.args b.args):=by
 cases a;cases b;rfl
theorem same_iff (a b:Val):a.same b=true↔a=b:=by
 induction a using Val.ind generalizing b with
 | h a ih=>
  have hs:same.sames a.args b.args=true↔a.args=b.args:=z6l (sames_iff _ _) ih
  rw [same_eq]
  simp only [Bool.and_eq_true,beq_iff_eq,hs]
  constructor
  ·intro h
   cases a;cases b
   simp only [kind,num,list,args] at h
   simp_all
  ·rintro rfl
   simp
end Val
attribute [go_sem] Val.cells_eq Val.fold Val.cellsD_dv Val.isCell_dv Val.isAgg_dv Val.kind_mk Val.num_mk Val.list_mk Val.args_mk
end
section
theorem z08:Tryz.prog.follows .mixedOrders=true:=by kernel_rfl
theorem lay3:layT Tryz.prog 3=some (false,1):=by kernel_rfl
theorem zrp3:zeroP Tryz.prog 3=some (.int .i64 (0)):=by kernel_rfl
theorem con3:concT Tryz.prog 3=true:=by kernel_rfl
theorem lay4:layT Tryz.prog 4=some (false,1):=by kernel_rfl
theorem zer4:zeroT Tryz.prog 4=some [.v (.prim (.bool false))]:=by kernel_rfl
theorem zz2:layT Tryz.prog 22=some (false,1):=by kernel_rfl
theorem zz3:elemT Tryz.prog 22=some 1:=by kernel_rfl
theorem zz4:elemZ Tryz.prog 22=some (1,8):=by kernel_rfl
theorem zz5:layT Tryz.prog 27=some (false,1):=by kernel_rfl
theorem zz6:elemT Tryz.prog 27=some 2:=by kernel_rfl
theorem zz7:elemZ Tryz.prog 27=some (2,32):=by kernel_rfl
theorem zz8:layT Tryz.prog 30=some (true,2):=by kernel_rfl
theorem zz9:zeroT Tryz.prog 30=some [.v (.prim (.int .i64 (0))),.own 0 []]:=by kernel_rfl
theorem zza:placesT Tryz.prog 30=some [(0,1),(1,1)]:=by kernel_rfl
theorem zzb:fieldT Tryz.prog 30 0=some (false,0,1):=by kernel_rfl
theorem zzc:fieldT Tryz.prog 30 1=some (false,1,1):=by kernel_rfl
theorem zzd:layT Tryz.prog 32=some (false,1):=by kernel_rfl
theorem zze:elemT Tryz.prog 32=some 5:=by kernel_rfl
theorem zzf:elemZ Tryz.prog 32=some (5,72):=by kernel_rfl
theorem zzg:layT Tryz.prog 34=some (true,5):=by kernel_rfl
theorem zzh:zeroT Tryz.prog 34=some [.v (.prim (.int .i64 (0))),.v (.prim (.int .i64 (0))),.v (.prim (.int .i64 (0))),.own 0 [],.own 0 []]:=by kernel_rfl
theorem zzi:placesT Tryz.prog 34=some [(0,1),(1,1),(2,2),(4,1)]:=by kernel_rfl
theorem zzj:fieldT Tryz.prog 34 0=some (false,0,1):=by kernel_rfl
theorem zzk:fieldT Tryz.prog 34 1=some (false,1,1):=by kernel_rfl
theorem zzl:fieldT Tryz.prog 34 2=some (true,2,2):=by kernel_rfl
theorem zzm:fieldT Tryz.prog 34 3=some (false,4,1):=by kernel_rfl
theorem zzn:layT Tryz.prog 35=some (false,1):=by kernel_rfl
theorem zzo:zeroT Tryz.prog 35=some [.v (.prim (.int .i64 (0)))]:=by kernel_rfl
theorem zzp:layT Tryz.prog 47=some (false,1):=by kernel_rfl
theorem zzq:elemT Tryz.prog 47=some 4:=by kernel_rfl
theorem zzr:elemZ Tryz.prog 47=some (4,64):=by kernel_rfl
theorem zzs:layT Tryz.prog 49=some (true,4):=by kernel_rfl
theorem zzt:zeroT Tryz.prog 49=some [.v (.prim (.int .i64 (0))),.v (.prim (.int .i64 (0))),.own 0 [],.own 0 []]:=by kernel_rfl
theorem zzu:placesT Tryz.prog 49=some [(0,1),(1,1),(2,1),(3,1)]:=by kernel_rfl
theorem zzv:fieldT Tryz.prog 49 0=some (false,0,1):=by kernel_rfl
theorem zzw:fieldT Tryz.prog 49 1=some (false,1,1):=by kernel_rfl
theorem zzx:fieldT Tryz.prog 49 2=some (false,2,1):=by kernel_rfl
theorem zzy:fieldT Tryz.prog 49 3=some (false,3,1):=by kernel_rfl
theorem zzz:zeroT Tryz.prog 65=some [.own 0 [],.v (.prim (.int .i64 (0)))]:=by kernel_rfl
theorem z100:placesT Tryz.prog 65=some [(0,1),(1,1)]:=by kernel_rfl
theorem z101:fieldT Tryz.prog 65 0=some (false,0,1):=by kernel_rfl
theorem z102:fieldT Tryz.prog 65 1=some (false,1,1):=by kernel_rfl
theorem z103:zeroT Tryz.prog 68=some [.v (.prim (.int .i64 (0)))]:=by kernel_rfl
theorem z104:placesT Tryz.prog 68=some [(0,1)]:=by kernel_rfl
theorem z105:fieldT Tryz.prog 68 0=some (false,0,1):=by kernel_rfl
theorem z106:zeroT Tryz.prog 83=some [.v (.prim (.int .i64 (0)))]:=by kernel_rfl
theorem z107:placesT Tryz.prog 83=some [(0,1)]:=by kernel_rfl
theorem z108:fieldT Tryz.prog 83 0=some (false,0,1):=by kernel_rfl
theorem z109:layT Tryz.prog 84=some (false,1):=by kernel_rfl
theorem z10a:layT Tryz.prog 95=some (true,3):=by kernel_rfl
theorem z10b:zeroT Tryz.prog 95=some [.v (.prim (.int .i64 (0))),.own 0 [],.v (.prim (.int .i64 (0)))]:=by kernel_rfl
theorem z10c:placesT Tryz.prog 95=some [(0,2),(2,1)]:=by kernel_rfl
theorem z10d:fieldT Tryz.prog 95 0=some (true,0,2):=by kernel_rfl
theorem z10e:fieldT Tryz.prog 95 1=some (false,2,1):=by kernel_rfl
theorem z10f:elemT Tryz.prog 98=some 3:=by kernel_rfl
theorem z10g:elemZ Tryz.prog 98=some (3,40):=by kernel_rfl
theorem z10h:zeroT Tryz.prog 113=some [.v (.prim (.int .i64 (0))),.v (.prim (.int .i64 (0))),.v (.prim (.bool false))]:=by kernel_rfl
theorem z10i:placesT Tryz.prog 113=some [(0,1),(1,1),(2,1)]:=by kernel_rfl
theorem z10j:fieldT Tryz.prog 113 0=some (false,0,1):=by kernel_rfl
theorem z10k:fieldT Tryz.prog 113 1=some (false,1,1):=by kernel_rfl
theorem z10l:fieldT Tryz.prog 113 2=some (false,2,1):=by kernel_rfl
theorem z10m:layT Tryz.prog 114=some (false,1):=by kernel_rfl
theorem z10n:elemT Tryz.prog 114=some 9:=by kernel_rfl
theorem z10o:elemZ Tryz.prog 114=some (9,152):=by kernel_rfl
theorem z10p:layT Tryz.prog 116=some (true,9):=by kernel_rfl
theorem z10q:zeroT Tryz.prog 116=some [.v (.prim (.int .i64 (0))),.own 0 [],.own 0 [],.v (.prim (.int .i64 (0))),.v (.prim (.int .i64 (0))),.v (.prim (.int .i64 (0))),.own 0 [],.own 0 [],.own 0 []]:=by kernel_rfl
theorem z10r:placesT Tryz.prog 116=some [(0,1),(1,1),(2,1),(3,5),(8,1)]:=by kernel_rfl
theorem z10s:fieldT Tryz.prog 116 0=some (false,0,1):=by kernel_rfl
theorem z10t:fieldT Tryz.prog 116 1=some (false,1,1):=by kernel_rfl
theorem z10u:fieldT Tryz.prog 116 2=some (false,2,1):=by kernel_rfl
theorem z10v:fieldT Tryz.prog 116 3=some (true,3,5):=by kernel_rfl
theorem z10w:fieldT Tryz.prog 116 4=some (false,8,1):=by kernel_rfl
theorem z10x:layT Tryz.prog 124=some (false,1):=by kernel_rfl
theorem z10y:layT Tryz.prog 125=some (false,1):=by kernel_rfl
theorem z10z:layT Tryz.prog 126=some (false,1):=by kernel_rfl
theorem z110:ptrT Tryz.prog 126=true:=by kernel_rfl
theorem z111:zeroT Tryz.prog 127=some [.v (.prim (.pointer none)),.v (.prim (.pointer none))]:=by kernel_rfl
theorem z112:elemT Tryz.prog 127=none:=by kernel_rfl
theorem z113:arrT Tryz.prog 127=some (2,1):=by kernel_rfl
theorem z114:placesT Tryz.prog 127=some [(0,1),(1,1)]:=by kernel_rfl
theorem z115:zeroT Tryz.prog 129=some [.v (.prim (.int .i64 (0))),.v (.prim (.pointer none)),.v (.prim (.pointer none)),.v (.prim (.pointer none)),.v (.prim (.pointer none)),.v (.prim (.pointer none))]:=by kernel_rfl
theorem z116:placesT Tryz.prog 129=some [(0,1),(1,1),(2,2),(4,1),(5,1)]:=by kernel_rfl
theorem z117:fieldT Tryz.prog 129 0=some (false,0,1):=by kernel_rfl
theorem z118:fieldT Tryz.prog 129 1=some (false,1,1):=by kernel_rfl
theorem z119:fieldT Tryz.prog 129 2=some (true,2,2):=by kernel_rfl
theorem z11a:fieldT Tryz.prog 129 3=some (false,4,1):=by kernel_rfl
theorem z11b:fieldT Tryz.prog 129 4=some (false,5,1):=by kernel_rfl
theorem z11c:zeroT Tryz.prog 131=some [.v (.prim (.pointer none)),.v (.prim (.pointer none))]:=by kernel_rfl
theorem z11d:placesT Tryz.prog 131=some [(0,1),(1,1)]:=by kernel_rfl
theorem z11e:fieldT Tryz.prog 131 0=some (false,0,1):=by kernel_rfl
theorem z11f:fieldT Tryz.prog 131 1=some (false,1,1):=by kernel_rfl
theorem z11g:elemT Tryz.prog 132=some 1:=by kernel_rfl
theorem z11h:elemZ Tryz.prog 132=some (1,8):=by kernel_rfl
theorem z11i:zeroT Tryz.prog 135=some [.v (.prim (.int .i64 (0))),.v (.prim (.pointer none))]:=by kernel_rfl
theorem z11j:placesT Tryz.prog 135=some [(0,1),(1,1)]:=by kernel_rfl
theorem z11k:fieldT Tryz.prog 135 0=some (false,0,1):=by kernel_rfl
theorem z11l:fieldT Tryz.prog 135 1=some (false,1,1):=by kernel_rfl
theorem z11m:elemT Tryz.prog 136=some 1:=by kernel_rfl
theorem z11n:elemZ Tryz.prog 136=some (1,8):=by kernel_rfl
theorem z11o:layT Tryz.prog 147=some (true,9):=by kernel_rfl
theorem z11p:zeroT Tryz.prog 147=some [.v (.prim (.int .i64 (0))),.own 0 [],.v (.prim (.int .i64 (0))),.v (.prim (.int .i64 (0))),.own 0 [],.v (.prim (.int .i64 (0))),.v (.prim (.int .i64 (0))),.own 0 [],.v (.prim (.int .i64 (0)))]:=by kernel_rfl
theorem z11q:elemT Tryz.prog 147=none:=by kernel_rfl
theorem z11r:arrT Tryz.prog 147=some (3,3):=by kernel_rfl
theorem z11s:elemT Tryz.prog 157=some 1:=by kernel_rfl
theorem z11t:elemZ Tryz.prog 157=some (1,16):=by kernel_rfl
theorem z11u:layT Tryz.prog 158=some (false,1):=by kernel_rfl
theorem z11v:zeroT Tryz.prog 158=some [.v (.prim .nilIface)]:=by kernel_rfl
theorem z11w:layT Tryz.prog 160=some (false,1):=by kernel_rfl
theorem z11x:zeroT Tryz.prog 162=some [.v (.prim (.int .i64 (0))),.v (.prim (.int .i64 (0)))]:=by kernel_rfl
theorem z11y:placesT Tryz.prog 162=some [(0,1),(1,1)]:=by kernel_rfl
theorem z11z:fieldT Tryz.prog 162 0=some (false,0,1):=by kernel_rfl
theorem z120:fieldT Tryz.prog 162 1=some (false,1,1):=by kernel_rfl
theorem z121:layT Tryz.prog 173=some (false,1):=by kernel_rfl
theorem z122:zeroT Tryz.prog 173=some [.v (.prim (.pointer none))]:=by kernel_rfl
theorem z123:ptrT Tryz.prog 173=true:=by kernel_rfl
theorem z124:zeroP Tryz.prog 173=some (.pointer none):=by kernel_rfl
theorem z125:concT Tryz.prog 173=true:=by kernel_rfl
theorem z126:zeroT Tryz.prog 178=some [.v (.prim (.int .i64 (0))),.v (.prim (.pointer none))]:=by kernel_rfl
theorem z127:placesT Tryz.prog 178=some [(0,1),(1,1)]:=by kernel_rfl
theorem z128:fieldT Tryz.prog 178 0=some (false,0,1):=by kernel_rfl
theorem z129:fieldT Tryz.prog 178 1=some (false,1,1):=by kernel_rfl
theorem z12a:zeroP Tryz.prog 179=some (.pointer none):=by kernel_rfl
theorem z12b:concT Tryz.prog 179=true:=by kernel_rfl
theorem z12c:zeroT Tryz.prog 181=some [.v (.prim .nilIface),.v (.prim .nilIface)]:=by kernel_rfl
theorem z12d:placesT Tryz.prog 181=some [(0,1),(1,1)]:=by kernel_rfl
theorem z12e:fieldT Tryz.prog 181 0=some (false,0,1):=by kernel_rfl
theorem z12f:fieldT Tryz.prog 181 1=some (false,1,1):=by kernel_rfl
theorem z12g:zeroT Tryz.prog 183=some []:=by kernel_rfl
theorem z12h:placesT Tryz.prog 183=some []:=by kernel_rfl
theorem z12i:concT Tryz.prog 183=true:=by kernel_rfl
theorem z12j:layT Tryz.prog 184=some (false,1):=by kernel_rfl
theorem z12k:zeroP Tryz.prog 186=some (.pointer none):=by kernel_rfl
theorem z12l:concT Tryz.prog 186=true:=by kernel_rfl
theorem z12m:zeroT Tryz.prog 188=some [.v (.prim (.int .i64 (0))),.v (.prim (.int .i64 (0))),.v (.prim (.int .i64 (0))),.own 0 [],.own 0 [],.v (.prim (.pointer none))]:=by kernel_rfl
theorem z12n:placesT Tryz.prog 188=some [(0,5),(5,1)]:=by kernel_rfl
theorem z12o:fieldT Tryz.prog 188 0=some (true,0,5):=by kernel_rfl
theorem z12p:fieldT Tryz.prog 188 1=some (false,5,1):=by kernel_rfl
theorem z12q:layT Tryz.prog 189=some (true,3):=by kernel_rfl
theorem z12r:zeroT Tryz.prog 189=some [.v (.prim .nilIface),.v (.prim .nilIface),.v (.prim .nilIface)]:=by kernel_rfl
theorem z12s:elemT Tryz.prog 189=none:=by kernel_rfl
theorem z12t:arrT Tryz.prog 189=some (3,1):=by kernel_rfl
theorem z12u:zeroT Tryz.prog 194=some [.v (.prim .nilIface),.v (.prim (.pointer none))]:=by kernel_rfl
theorem z12v:placesT Tryz.prog 194=some [(0,1),(1,1)]:=by kernel_rfl
theorem z12w:fieldT Tryz.prog 194 0=some (false,0,1):=by kernel_rfl
theorem z12x:fieldT Tryz.prog 194 1=some (false,1,1):=by kernel_rfl
theorem z12y:layT Tryz.prog 201=some (false,1):=by kernel_rfl
theorem z12z:elemT Tryz.prog 201=some 1:=by kernel_rfl
theorem z130:elemZ Tryz.prog 201=some (1,8):=by kernel_rfl
theorem z131:elemT Tryz.prog 205=none:=by kernel_rfl
theorem z132:arrT Tryz.prog 205=some (14,1):=by kernel_rfl
attribute [go_sem] lay3 zrp3 con3 lay4 zer4 zz2 zz3 zz4 zz5 zz6 zz7 zz8 zz9 zza zzb zzc zzd zze zzf zzg zzh zzi zzj zzk zzl zzm zzn zzo zzp zzq zzr zzs zzt zzu zzv zzw zzx zzy zzz z100 z101 z102 z103 z104 z105 z106 z107 z108 z109 z10a z10b z10c z10d z10e z10f z10g z10h z10i z10j z10k z10l z10m z10n z10o z10p z10q z10r z10s z10t z10u z10v z10w z10x z10y z10z z110 z111 z112 z113 z114 z115 z116 z117 z118 z119 z11a z11b z11c z11d z11e z11f z11g z11h z11i z11j z11k z11l z11m z11n z11o z11p z11q z11r z11s z11t z11u z11v z11w z11x z11y z11z z120 z121 z122 z123 z124 z125 z126 z127 z128 z129 z12a z12b z12c z12d z12e z12f z12g z12h z12i z12j z12k z12l z12m z12n z12o z12p z12q z12r z12s z12t z12u z12v z12w z12x z12y z12z z130 z131 z132
end
section
variable {gl:Globs}
theorem z4b (t:Ty):Con1 Tryz.prog gl 69 [t.dv] [] t.dv []:=by
 induction t using Ty.ind with
 | h t ih=>
 refine t_in Tryz.func69 ?_
 intro X hP hgl hf hfn hn hR hids hfit
 have htf:t.fit:=(Ty.dv_fit t).1 (hfit _ (by simp))
 have hlen:t.args.length≤2147483648:=((Ty.fit_eq t).1 htf).2.1
 refine z00 ?_
 refine z00 ?_
 refine z00 ?_
 refine t_a ?_
 refine z0c [(1003,0)] ?_ ?_ ?_ (z1z t.args (fun done rest=>[(.slot 2,.one (.loc 2 0)),(.loc 2,.row [.v (dint 0),.own 0 []]),(.slot 1,.one (.loc 1 0)),(.loc 1,.row [.v (dint t.kind),.v (.sl (t.args.map Ty.cells))]),
   (.slot 3,.one (.own 1003 (done.map Ty.cells))),(.tok 1003,.tk 2 done.length),(.slot 7,.one (.v (.sl (t.args.map Ty.cells)))),(.slot 8,.one (.v (dint t.args.length))),(.slot 9,.one (.v (dint done.length)))]) ?_ ?_)
 ·simp [go_sem]
 ·simp [go_sem]
 ·simp [go_sem]
 ·intro done x rest hL hg hnext
  have hlt:done.length<t.args.length:=by rw [hL];simp
  refine z00 ?_
  refine z07 ?_
  refine t_rg @hg ?_
  refine t_a ?_
  first|refine z05 [] fun K hK=>?_|refine z09 (by rw [hP];exact z08) [] fun K hK=>?_
  refine t_s0 ?_
  refine t_c trivial (ih x (List.mem_of_getElem? hg)) ?_
  refine t_e ?_
  clear hK K
  refine z00 ?_
  refine t_b ?_
  refine z0e [(1003,17)] trivial hnext
 ·refine z00 ?_
  refine t_no ?_
  refine z00 ?_
  refine t_r ?_
  simp [go_sem,hP,hgl,hn] <;> (try omega)
theorem z1q (a b:Ty):Con1 Tryz.prog gl 16 [a.dv,b.dv] [] (dbool (a.same b)) []:=by
 induction a using Ty.ind generalizing b with
 | h a ih=>
 refine t_in Tryz.func16 ?_
 intro X hP hgl hf hfn hn hR hids hfit
 have hfa:a.fit:=(Ty.dv_fit a).1 (hfit _ (by simp))
 have hfb:b.fit:=(Ty.dv_fit b).1 (hfit _ (by simp))
 have hla:a.args.length≤2147483648:=((Ty.fit_eq a).1 hfa).2.1
 have hlb:b.args.length≤2147483648:=((Ty.fit_eq b).1 hfb).2.1
 refine z00 ?_
 by_cases hk:a.kind=b.kind
 ·refine t_rg @hk ?_
  by_cases hl:a.args.length=b.args.length
  ·refine t_a ?_
   refine z0f rfl ?_ ?_
   ·intro h;simp [hl] at h
   intro _
   refine z00 ?_
   refine t_a ?_
   refine z0c [] ?_ ?_ ?_ (z2h a.args.length (fun i=>∀ (j:Nat) (x y:Ty),j<i→a.args[j]? = some x→b.args[j]? = some y→x.same y=true)
    (fun i=>[(.slot 2,.one (.loc 2 0)),(.loc 2,.row [.v (dint a.kind),.v (.sl (a.args.map Ty.cells))]),(.slot 3,.one (.loc 3 0)),(.loc 3,.row [.v (dint b.kind),.v (.sl (b.args.map Ty.cells))]),(.slot 22,.one (.v (dint a.args.length))),(.slot 23,.one (.v (dint i)))]) (by intro j x y h;omega) ?_ ?_)
   ·simp [go_sem]
   ·simp [go_sem,hk,hl]
   ·simp [go_sem]
   ·intro i hi hI hnext
    obtain ⟨x,hx⟩:∃ x,a.args[i]? = some x:=⟨_,List.getElem?_eq_getElem hi⟩
    obtain ⟨y,hy⟩:∃ y,b.args[i]? = some y:=⟨_,List.getElem?_eq_getElem (by omega)⟩
    refine z00 ?_
    refine z07 ?_
    refine z00 ?_
    refine t_a ?_
    first|refine z05 [] fun K hK=>?_|refine z09 (by rw [hP];exact z08) [] fun K hK=>?_
    refine t_s (j2 @hx @hy) ?_
    refine t_c trivial (ih x (List.mem_of_getElem? hx) y) ?_
    refine t_e ?_
    clear hK K
    by_cases hs:x.same y=true
    ·refine t_a ?_
     refine z0f rfl ?_ ?_
     ·intro h;simp [hs] at h
     intro _
     refine z00 ?_
     refine t_b ?_
     refine z0e [] trivial (hnext ?_)
     intro j x' y' hj hx' hy'
     by_cases hji:j=i
     ·subst hji;rw [hx] at hx';rw [hy] at hy';cases hx';cases hy';exact hs
     ·exact hI j x' y' (by omega) hx' hy'
    ·refine t_a ?_
     refine z0f rfl ?_ ?_
     rotate_left
     ·intro h;simp [hs] at h
     intro _
     refine z00 ?_
     refine t_r ?_
     simp [go_sem,hP,hgl,hn] <;> (try omega)
     refine Bool.eq_false_iff.2 ?_
     intro h
     rw [Ty.same_eq,Bool.and_eq_true,Ty.sames_iff] at h
     exact hs (h.2.2 i x y hx hy)
   ·intro hI
    refine z00 ?_
    refine t_no ?_
    refine z00 ?_
    refine t_r ?_
    simp [go_sem,hP,hgl,hn] <;> (try omega)
    rw [Ty.same_eq,Bool.and_eq_true,Ty.sames_iff]
    exact ⟨by simp [hk],hl,fun i x y hx hy=>hI i x y (List.getElem?_eq_some_iff.1 hx).1 hx hy⟩
  ·refine t_a ?_
   refine z0f rfl ?_ ?_
   rotate_left
   ·intro h;simp at h;omega
   intro _
   refine z00 ?_
   refine t_r ?_
   simp [go_sem,hP,hgl,hn] <;> (try omega)
   refine Bool.eq_false_iff.2 ?_
   intro h
   rw [Ty.same_eq,Bool.and_eq_true,Ty.sames_iff] at h
   exact hl h.2.1
 ·refine t_rg @hk ?_
  refine t_a ?_
  refine z0f rfl ?_ ?_
  rotate_left
  ·intro h;simp at h
  intro _
  refine z00 ?_
  refine t_r ?_
  simp [go_sem,hP,hgl,hn] <;> (try omega)
  simp [Ty.same_eq,hk]
theorem z1l:Con1 Tryz.prog gl 35 [] [] (Ty.mk 1 []).dv []:=by
 refine t_in Tryz.func35 ?_
 intro X hP hgl hf hfn hn hR hids hfit
 refine z00 ?_
 refine z00 ?_
 refine t_r ?_
 simp [go_sem,hP,hgl,hn] <;> (try omega)
 all_goals exact t_f
theorem z4c:Con1 Tryz.prog gl 36 [] [] (Ty.mk 2 []).dv []:=by
 refine t_in Tryz.func36 ?_
 intro X hP hgl hf hfn hn hR hids hfit
 refine z00 ?_
 refine z00 ?_
 refine t_r ?_
 simp [go_sem,hP,hgl,hn] <;> (try omega)
 all_goals exact t_f
theorem z7w:Con1 Tryz.prog gl 37 [] [] (Ty.mk 5 []).dv []:=by
 refine t_in Tryz.func37 ?_
 intro X hP hgl hf hfn hn hR hids hfit
 refine z00 ?_
 refine z00 ?_
 refine t_r ?_
 simp [go_sem,hP,hgl,hn] <;> (try omega)
 all_goals exact t_f
theorem z7x (a b:Ty):Con1 Tryz.prog gl 38 [a.dv,b.dv] [] (Ty.mk 3 [a,b]).dv []:=by
 refine t_in Tryz.func38 ?_
 intro X hP hgl hf hfn hn hR hids hfit
 refine z00 ?_
 refine t_a ?_
 first|refine z05 [] fun K hK=>?_|refine z09 (by rw [hP];exact z08) [] fun K hK=>?_
 refine t_s0 ?_
 refine t_c trivial (z4b a) ?_
 refine t_c trivial (z4b b) ?_
 refine t_e ?_
 clear hK K
 refine t_r ?_
 simp [go_sem,hP,hgl,hn] <;> (try omega)
 all_goals exact t_f
end
section
variable {gl:Globs}
theorem Tm.fit_len {t:Tm}(h:t.dv.fit):t.args.length≤2147483648:=((Tm.fit_eq t).1 ((Tm.dv_fit t).1 h)).2.2.2.1
theorem z4d {l:List (List DV)}(h:DV.fit (.sl l)):l.length≤2147483648:=by simp [DV.fit,BIG] at h;exact h.1
theorem zgq (t:Tm):Con1 Tryz.prog gl 90 [t.dv] [] t.dv []:=by
 induction t using Tm.ind with
 | h t ih=>
 refine t_in Tryz.func90 ?_
 intro X hP hgl hf hfn hn hR hids hfit
 have hlen:=Tm.fit_len (hfit t.dv (by simp))
 refine z00 ?_
 refine z00 ?_
 refine z00 ?_
 refine t_a ?_
 refine z0e [(1003,0)] trivial (z1z (t.args) (fun done rest=>[(.slot 9,.one (.v (dint done.length))),(.slot 8,.one (.v (dint t.args.length))),(.slot 7,.one (.v (.sl (t.args.map Tm.cells)))),(.slot 3,.one (.own 1003 (done.map Tm.cells))),(.tok 1003,.tk 5 done.length),(.loc 2,.row ([.v (dint 0),.v (dint 0),.v (dint 0),.own 0 [],.own 0 []])),(.slot 2,.one (.loc 2 0)),(.loc 1,.row ([.v (dint t.kind),.v (dint t.index),.v (dint t.type.kind),.v (.sl (t.type.args.map Ty.cells)),.v (.sl (t.args.map Tm.cells))])),(.slot 1,.one (.loc 1 0))]) ?_ ?_)
 ·intro done x rest hL hg hnext
  have hlt:done.length<t.args.length:=by rw [hL];simp
  refine z00 ?_
  refine z07 ?_
  refine t_rg @hg ?_
  refine t_a ?_
  first|refine z05 [] fun K hK=>?_|refine z09 (by rw [hP];exact z08) [] fun K hK=>?_
  refine t_s0 ?_
  refine t_c trivial (ih x (List.mem_of_getElem? hg)) ?_
  refine t_e ?_
  clear hK K
  refine z00 ?_
  refine t_b ?_
  refine z0e [(1003,17)] trivial hnext
 ·refine z00 ?_
  refine t_no ?_
  refine t_a ?_
  first|refine z05 [] fun K hK=>?_|refine z09 (by rw [hP];exact z08) [] fun K hK=>?_
  refine t_s0 ?_
  refine t_c trivial (z4b t.type) ?_
  refine t_e ?_
  clear hK K
  refine t_r ?_
  simp [go_sem,hP,hgl,hn] <;> (try omega)
def Tm.count:Tm→Nat
 | .mk _ _ _ l=>1+counts l
where
 counts:List Tm→Nat
  | []=>0
  | a::r=>a.count+counts r
theorem Tm.count_eq (t:Tm):t.count=1+Tm.count.counts t.args:=by cases t;rfl
theorem Tm.counts_append (l m:List Tm):Tm.count.counts (l++m)=Tm.count.counts l+Tm.count.counts m:=by
 induction l with
 | nil=>simp [Tm.count.counts]
 | cons a r ih=>simp [Tm.count.counts,ih];omega
theorem z133 (t:Tm)(hc:t.count≤2147483648):Con1 Tryz.prog gl 109 [t.dv] [] (dint t.count) []:=by
 induction t using Tm.ind with
 | h t ih=>
 refine t_in Tryz.func109 ?_
 intro X hP hgl hf hfn hn hR hids hfit
 have hlen:=Tm.fit_len (hfit t.dv (by simp))
 rw [Tm.count_eq] at hc
 refine z00 ?_
 refine z00 ?_
 refine z00 ?_
 refine t_a ?_
 refine z0c [] (by simp [go_sem]) (by simp [go_sem,Tm.count.counts] <;> omega) (by simp [go_sem]) (z1z (t.args) (fun done rest=>[(.slot 9,.one (.v (dint done.length))),(.slot 8,.one (.v (dint t.args.length))),(.slot 7,.one (.v (.sl (t.args.map Tm.cells)))),(.slot 3,.one (.v (dint (1+Tm.count.counts done:Nat))))]) ?_ ?_)
 ·intro done x rest hL hg hnext
  have hlt:done.length<t.args.length:=by rw [hL];simp
  have hcx:Tm.count.counts t.args=Tm.count.counts done+(x.count+Tm.count.counts rest):=by rw [hL,Tm.counts_append];rfl
  refine z00 ?_
  refine z07 ?_
  refine t_rg @hg ?_
  refine t_a ?_
  first|refine z05 [] fun K hK=>?_|refine z09 (by rw [hP];exact z08) [] fun K hK=>?_
  refine t_s0 ?_
  refine t_c trivial (ih x (List.mem_of_getElem? hg) (by omega)) ?_
  refine t_e ?_
  clear hK K
  refine z00 ?_
  repeat (first|refine z03 ?_|refine z01 ?_|refine z02 ?_|refine z04 rfl ?_)
  refine z0c [] (by simp [go_sem]) (by simp [go_sem,Tm.counts_append,Tm.count.counts] <;> omega) (by simp [go_sem]) hnext
 ·refine z00 ?_
  refine t_no ?_
  refine z00 ?_
  refine t_r ?_
  simp [go_sem,hP,hgl,hn,Tm.count_eq] <;> (try omega)
theorem z1o (k:Int)(l:List Tm):Con1 Tryz.prog gl 44 [dint k,.sl (l.map Tm.cells)] [] (Tm.mk k 0 (Ty.mk 0 []) l).dv []:=by
 refine t_in Tryz.func44 ?_
 intro X hP hgl hf hfn hn hR hids hfit
 have hlen:l.length≤2147483648:=by simpa using z4d (hfit (.sl (l.map Tm.cells)) (by simp))
 refine z00 ?_
 refine z00 ?_
 refine z00 ?_
 refine t_a ?_
 refine z0e [(1005,0)] trivial (z1z (l) (fun done rest=>[(.slot 10,.one (.v (dint done.length))),(.slot 9,.one (.v (dint l.length))),(.slot 8,.one (.v (.sl (l.map Tm.cells)))),(.slot 5,.one (.own 1005 (done.map Tm.cells))),(.tok 1005,.tk 5 done.length),(.loc 4,.row ([.v (dint 0),.v (dint 0),.v (dint 0),.own 0 [],.own 0 []])),(.slot 4,.one (.loc 4 0)),(.slot 0,.one (.v (dint k)))]) ?_ ?_)
 ·intro done x rest hL hg hnext
  have hlt:done.length<l.length:=by rw [hL];simp
  refine z00 ?_
  refine z07 ?_
  refine t_rg @hg ?_
  refine t_a ?_
  first|refine z05 [] fun K hK=>?_|refine z09 (by rw [hP];exact z08) [] fun K hK=>?_
  refine t_s0 ?_
  refine t_c trivial (zgq x) ?_
  refine t_e ?_
  clear hK K
  refine z00 ?_
  refine t_b ?_
  refine z0e [(1005,18)] trivial hnext
 ·refine z00 ?_
  refine t_no ?_
  refine z00 ?_
  refine t_r ?_
  simp [go_sem,hP,hgl,hn] <;> (try omega)
  all_goals exact t_f
end
section
def tyKind (k:Int)(n:Nat):Bool:=(decide (k=1∨k=2∨k=5) && n == 0) || (decide (k=3∨k=4) && n == 2)
namespace Ty
set_option linter.unusedSimpArgs false
set_option linter.unusedVariables false
set_option linter.unnecessarySimpa false
def shape:Ty→Bool
 | .mk k a=>tyKind k a.length && shapes a
where
 shapes:List Ty→Bool
  | []=>true
  | a::r=>a.shape && shapes r
theorem shape_eq (t:Ty):t.shape=(tyKind t.kind t.args.length && shape.shapes t.args):=by cases t;rfl
theorem shapes_append (l m:List Ty):shape.shapes (l++m)=(shape.shapes l && shape.shapes m):=by
 induction l with
 | nil=>simp [shape.shapes]
 | cons a r ih=>simp [shape.shapes,ih,Bool.and_assoc]
theorem shapes_iff (l:List Ty):shape.shapes l=true↔∀ a ∈ l,a.shape=true:=by
 induction l with
 | nil=>simp [shape.shapes]
 | cons a r ih=>simp [shape.shapes,ih]
def count:Ty→Nat
 | .mk _ a=>1+counts a
where
 counts:List Ty→Nat
  | []=>0
  | a::r=>a.count+counts r
theorem count_eq (t:Ty):t.count=1+count.counts t.args:=by cases t;rfl
theorem counts_append (l m:List Ty):count.counts (l++m)=count.counts l+count.counts m:=by
 induction l with
 | nil=>simp [count.counts]
 | cons a r ih=>simp [count.counts,ih];omega
theorem count_mem {l:List Ty}{a:Ty}(h:a ∈ l):a.count≤count.counts l:=by
 induction l with
 | nil=>cases h
 | cons b r ih=>
  simp only [count.counts]
  rcases List.mem_cons.1 h with rfl|h
  ·omega
  ·have:=ih h;omega
def checkN (t:Ty):Int:=if t.shape=true then if 64<t.count then 4 else 0 else 2
def zero (t:Ty):Bool:=decide (t.kind=0) && decide (t.args.length=0)
end Ty
def arityI (k:Int):Int:=
 if k=1∨k=4∨k=7∨k=13 then 0 else if k=2∨k=5∨k=11∨k=12 then 1 else if k=3∨k=8∨k=10 then 2 else if k=6∨k=9 then 3 else -1
def tyOfKind (k:Int)(t:Ty):Bool:=if k=2∨k=6∨k=9 then decide (t.checkN=0) else t.zero
def tmKind (k i:Int)(t:Ty)(n:Nat):Bool:=decide ((n:Int)=arityI k) && decide (0≤i) && (decide (k=1) || decide (i=0)) && tyOfKind k t
namespace Tm
set_option linter.unusedSimpArgs false
set_option linter.unusedVariables false
set_option linter.unnecessarySimpa false
def shape:Tm→Bool
 | .mk k i t a=>tmKind k i t a.length && shapes a
where
 shapes:List Tm→Bool
  | []=>true
  | a::r=>a.shape && shapes r
theorem shape_eq (t:Tm):t.shape=(tmKind t.kind t.index t.type t.args.length && shape.shapes t.args):=by cases t;rfl
theorem shapes_append (l m:List Tm):shape.shapes (l++m)=(shape.shapes l && shape.shapes m):=by
 induction l with
 | nil=>simp [shape.shapes]
 | cons a r ih=>simp [shape.shapes,ih,Bool.and_assoc]
theorem shapes_iff (l:List Tm):shape.shapes l=true↔∀ a ∈ l,a.shape=true:=by
 induction l with
 | nil=>simp [shape.shapes]
 | cons a r ih=>simp [shape.shapes,ih]
theorem count_mem {l:List Tm}{a:Tm}(h:a ∈ l):a.count≤count.counts l:=by
 induction l with
 | nil=>cases h
 | cons b r ih=>
  simp only [count.counts]
  rcases List.mem_cons.1 h with rfl|h
  ·omega
  ·have:=ih h;omega
theorem count_pos (t:Tm):1≤t.count:=by rw [count_eq];omega
def tys:Tm→Prop
 | .mk _ _ t a=>t.count≤1073741824∧tyss a
where
 tyss:List Tm→Prop
  | []=>True
  | a::r=>a.tys∧tyss r
theorem z134 (l:List Tm):tys.tyss l↔∀ a ∈ l,a.tys:=by
 induction l with
 | nil=>simp [tys.tyss]
 | cons a r ih=>simp [tys.tyss,ih]
theorem tys_eq (t:Tm):t.tys↔t.type.count≤1073741824∧∀ a ∈ t.args,a.tys:=by cases t;simp only [tys,z134,type,args]
def checkN (t:Tm):Int:=if t.shape=true then if 4096<t.count then 4 else 0 else 2
end Tm
theorem Ty.fit_len {t:Ty}(h:t.dv.fit):t.args.length≤2147483648:=((Ty.fit_eq t).1 ((Ty.dv_fit t).1 h)).2.1
end
section
variable {gl:Globs}
abbrev ptr (b:Nat):DV:=.prim (.pointer (some ⟨b,0,none⟩))
abbrev deck (l:List Int)(p:Nat):List DV:=[.sl (ints l),dint p]
def modz (n k:Int):Int:=(n.tmod k+k).tmod k
theorem zgr (n k:Int)(h:1≤k):0≤modz n k∧modz n k<k∧-k<n.tmod k∧n.tmod k<k:=by
 have h1:-k<n.tmod k:=by
  have:=Int.lt_tmod_of_pos n (show 0<k by omega);omega
 have h2:n.tmod k<k:=Int.tmod_lt_of_pos n (by omega)
 refine ⟨?_,Int.tmod_lt_of_pos _ (by omega),h1,h2⟩
 exact Int.tmod_nonneg _ (by omega)
theorem z135 (n k:Int)(h1:1≤k)(h2:k≤2147483648):Con1 Tryz.prog gl 61 [dint n,dint k] [] (dint (modz n k)) []:=by
 refine t_in Tryz.func61 ?_
 intro X hP hgl hf hfn hn hR hids hfit
 have hb:=zgr n k h1
 unfold modz at hb
 refine z00 ?_
 refine t_a ?_
 first|refine z05 [] fun K hK=>?_|refine z09 (by rw [hP];exact z08) [] fun K hK=>?_
 refine t_s0 ?_
 have hk0:¬ k=0:=by omega
 refine ⟨⟨hk0,by omega⟩,?_⟩
 refine ⟨by omega,⟨hk0,by omega⟩,?_⟩
 refine t_e ?_
 clear hK K
 refine t_r ?_
 simp [go_sem,hP,hgl,hn,modz] <;> (try omega)
theorem zad (l:List Int):Con1 Tryz.prog gl 8 [.sl (ints l)] [] (dbool (decide (l.length≤500))) []:=by
 refine t_in Tryz.func8 ?_
 intro X hP hgl hf hfn hn hR hids hfit
 refine z00 ?_
 refine z00 ?_
 refine t_r ?_
 simp [go_sem,hP,hgl,hn] <;> (try omega)
theorem zgs (l:List Int):Con Tryz.prog gl 9 [.sl (ints l)] [] fun r φ=>∃ b,r=ptr b∧φ=[(b,deck l 0)]:=by
 refine t_in Tryz.func9 ?_
 intro X hP hgl hf hfn hn hR hids hfit
 refine z00 ?_
 refine z00 ?_
 refine z2w 5 (by simp [go_sem];rfl) ?_
 intro b hb
 simp [go_sem]
 refine z0k hP hf hfn (ptr b) [(b,deck l 0)] (by simp [go_sem,hP,hgl,hn]) (by simp [go_sem]) (by simp) (by rw [hR.1];exact ⟨b,rfl,rfl⟩) hR.2
def nextD (l:List Int)(p:Nat)(n:Int):Int × Nat:=
 if n<1 then (0,p) else match l[p]? with
  | some x=>(modz x n,p+1)
  | none=>(0,p)
theorem z1w (b:Nat)(l:List Int)(p:Nat)(n:Int)(hn2:n≤2147483648)(hp:p≤2147483648) :
  Con1 Tryz.prog gl 26 [ptr b,dint n] [(b,deck l p)] (dint (nextD l p n).1) [(b,deck l (nextD l p n).2)]:=by
 refine t_in Tryz.func26 ?_
 intro X hP hgl hf hfn hn hR hids hfit
 refine z00 ?_
 by_cases hlt:n<1
 ·refine t_rg @hlt ?_
  refine t_a ?_
  refine z0f rfl ?_ ?_
  rotate_left
  ·intro h;simp at h
  intro _
  refine z00 ?_
  repeat (first|refine z0a ?_|refine z01 ?_|refine z0b ?_|refine z03 ?_|refine z02 ?_|refine z04 rfl ?_)
  first|refine z0k hP hf hfn _ ([(b,deck l p)]) (by first|(simp [go_sem,hP,hgl,hn,nextD,hlt];done)|(simp [go_sem,hP,hgl,hn,nextD,hlt];rfl)) (by simp [go_sem,hP,hgl,hn,nextD,hlt]) (by simp) ?_ hR.2|refine z0m hP hf hfn _ ([(b,deck l p)]) (by first|(simp [go_sem,hP,hgl,hn,nextD,hlt];done)|(simp [go_sem,hP,hgl,hn,nextD,hlt];rfl)) (by simp [go_sem,hP,hgl,hn,nextD,hlt]) (by simp) ?_ hR.2
  rw [hR.1]
  refine ⟨?_,by simp [nextD,hlt]⟩
  try simp [nextD,hlt]
  try all_goals (simp [Ty.dv,Ty.cells_eq,Ty.kind_mk,Ty.args_mk,Tm.dv,Tm.cells_eq,Tm.kind_mk,Tm.index_mk,Tm.type_mk,Tm.args_mk,Val.dv,Val.cells_eq,Val.kind_mk,Val.num_mk,Val.list_mk,Val.args_mk,ints])
 ·by_cases hle:l.length≤p
  ·refine t_rg (j2 @hlt @hle) ?_
   refine t_a ?_
   refine z0f rfl ?_ ?_
   rotate_left
   ·intro h;simp [hle] at h
   intro _
   refine z00 ?_
   have hg:l[p]? = none:=List.getElem?_eq_none hle
   repeat (first|refine z0a ?_|refine z01 ?_|refine z0b ?_|refine z03 ?_|refine z02 ?_|refine z04 rfl ?_)
   first|refine z0k hP hf hfn _ ([(b,deck l p)]) (by first|(simp [go_sem,hP,hgl,hn,nextD,hlt,hg];done)|(simp [go_sem,hP,hgl,hn,nextD,hlt,hg];rfl)) (by simp [go_sem,hP,hgl,hn,nextD,hlt,hg]) (by simp) ?_ hR.2|refine z0m hP hf hfn _ ([(b,deck l p)]) (by first|(simp [go_sem,hP,hgl,hn,nextD,hlt,hg];done)|(simp [go_sem,hP,hgl,hn,nextD,hlt,hg];rfl)) (by simp [go_sem,hP,hgl,hn,nextD,hlt,hg]) (by simp) ?_ hR.2
   rw [hR.1]
   refine ⟨?_,by simp [nextD,hlt,hg]⟩
   try simp [nextD,hlt,hg]
   try all_goals (simp [Ty.dv,Ty.cells_eq,Ty.kind_mk,Ty.args_mk,Tm.dv,Tm.cells_eq,Tm.kind_mk,Tm.index_mk,Tm.type_mk,Tm.args_mk,Val.dv,Val.cells_eq,Val.kind_mk,Val.num_mk,Val.list_mk,Val.args_mk,ints])
  ·refine t_rg (j2 @hlt @hle) ?_
   refine t_a ?_
   refine z0f rfl ?_ ?_
   ·intro h;simp [hle] at h
   intro _
   obtain ⟨x,hx⟩:∃ x,l[p]? = some x:=⟨_,List.getElem?_eq_getElem (by omega)⟩
   have hg:=z3x hx
   refine t_rg @hg ?_
   refine z00 ?_
   refine t_a ?_
   first|refine z05 [] fun K hK=>?_|refine z09 (by rw [hP];exact z08) [] fun K hK=>?_
   refine t_s0 ?_
   refine t_c trivial (z135 x n (by omega) hn2) ?_
   refine t_e ?_
   clear hK K
   repeat (first|refine z0a ?_|refine z01 ?_|refine z0b ?_|refine z03 ?_|refine z02 ?_|refine z04 rfl ?_)
   first|refine z0k hP hf hfn _ ([(b,deck l (p+1))]) (by first|(simp [go_sem,hP,hgl,hn,nextD,hlt,hx];done)|(simp [go_sem,hP,hgl,hn,nextD,hlt,hx];rfl)) (by simp [go_sem,hP,hgl,hn,nextD,hlt,hx]) (by simp) ?_ hR.2|refine z0m hP hf hfn _ ([(b,deck l (p+1))]) (by first|(simp [go_sem,hP,hgl,hn,nextD,hlt,hx];done)|(simp [go_sem,hP,hgl,hn,nextD,hlt,hx];rfl)) (by simp [go_sem,hP,hgl,hn,nextD,hlt,hx]) (by simp) ?_ hR.2
   rw [hR.1]
   refine ⟨?_,by simp [nextD,hlt,hx]⟩
   try simp [nextD,hlt,hx]
   try all_goals (simp [Ty.dv,Ty.cells_eq,Ty.kind_mk,Ty.args_mk,Tm.dv,Tm.cells_eq,Tm.kind_mk,Tm.index_mk,Tm.type_mk,Tm.args_mk,Val.dv,Val.cells_eq,Val.kind_mk,Val.num_mk,Val.list_mk,Val.args_mk,ints])
end
section
variable {gl:Globs}
def wantI (k:Int):Int:=if k=3∨k=4 then 2 else 0
theorem z136 (t:Ty):Con1 Tryz.prog gl 130 [t.dv] [] (dbool t.shape) []:=by
 induction t using Ty.ind with
 | h t ih=>
 refine t_in Tryz.func130 ?_
 intro X hP hgl hf hfn hn hR hids hfit
 have hlen:=Ty.fit_len (hfit t.dv (by simp))
 have hs:=Ty.shape_eq t
 refine z00 ?_
 refine z00 ?_
 refine z00 ?_
 repeat (first|refine z0a ?_|refine z01 ?_|refine z03 ?_|refine z02 ?_)
 refine za6 (t.kind=1∨t.kind=2∨t.kind=5∨t.kind=3∨t.kind=4) [(.slot 3,.one (.v (dint (wantI t.kind)))),(.loc 1,.row ([.v (dint t.kind),.v (.sl (t.args.map Ty.cells))])),(.slot 1,.one (.loc 1 0))] ?_ ?_
 ·intro hrest
  by_cases h1:t.kind=1
  ·repeat (first|(refine z0c [] (by simp [go_sem]) (by simp [go_sem,wantI,h1] <;> omega) (by simp [go_sem]) (hrest (by simp [h1])))|refine z0a ?_|refine z01 ?_|refine z0b ?_|refine z03 ?_|refine z02 ?_|refine z04 rfl ?_|((first|refine z05 [] fun K hK=>?_|refine z09 (by rw [hP];exact z08) [] fun K hK=>?_);simp [go_sem,hP,hgl,hn,h1];(repeat (refine ⟨by omega,?_⟩));(first|refine hK _ ?_|refine ⟨by rfl,hK _ ?_⟩);clear hK K)|refine z0f rfl (fun _=>?_) (fun hq=>False.elim (by first|(simp [h1];done)|(simp [h1];omega)|(simp [h1] at hq;done)|(simp [h1] at hq;omega)))|refine z0f rfl (fun hq=>False.elim (by first|(simp [h1];done)|(simp [h1];omega)|(simp [h1] at hq;done)|(simp [h1] at hq;omega))) (fun _=>?_))
  by_cases h2:t.kind=2
  ·repeat (first|(refine z0c [] (by simp [go_sem]) (by simp [go_sem,wantI,h2] <;> omega) (by simp [go_sem]) (hrest (by simp [h2])))|refine z0a ?_|refine z01 ?_|refine z0b ?_|refine z03 ?_|refine z02 ?_|refine z04 rfl ?_|((first|refine z05 [] fun K hK=>?_|refine z09 (by rw [hP];exact z08) [] fun K hK=>?_);simp [go_sem,hP,hgl,hn,h2];(repeat (refine ⟨by omega,?_⟩));(first|refine hK _ ?_|refine ⟨by rfl,hK _ ?_⟩);clear hK K)|refine z0f rfl (fun _=>?_) (fun hq=>False.elim (by first|(simp [h2];done)|(simp [h2];omega)|(simp [h2] at hq;done)|(simp [h2] at hq;omega)))|refine z0f rfl (fun hq=>False.elim (by first|(simp [h2];done)|(simp [h2];omega)|(simp [h2] at hq;done)|(simp [h2] at hq;omega))) (fun _=>?_))
  by_cases h3:t.kind=5
  ·repeat (first|(refine z0c [] (by simp [go_sem]) (by simp [go_sem,wantI,h3] <;> omega) (by simp [go_sem]) (hrest (by simp [h3])))|refine z0a ?_|refine z01 ?_|refine z0b ?_|refine z03 ?_|refine z02 ?_|refine z04 rfl ?_|((first|refine z05 [] fun K hK=>?_|refine z09 (by rw [hP];exact z08) [] fun K hK=>?_);simp [go_sem,hP,hgl,hn,h3];(repeat (refine ⟨by omega,?_⟩));(first|refine hK _ ?_|refine ⟨by rfl,hK _ ?_⟩);clear hK K)|refine z0f rfl (fun _=>?_) (fun hq=>False.elim (by first|(simp [h3];done)|(simp [h3];omega)|(simp [h3] at hq;done)|(simp [h3] at hq;omega)))|refine z0f rfl (fun hq=>False.elim (by first|(simp [h3];done)|(simp [h3];omega)|(simp [h3] at hq;done)|(simp [h3] at hq;omega))) (fun _=>?_))
  by_cases h4:t.kind=3
  ·repeat (first|(refine z0c [] (by simp [go_sem]) (by simp [go_sem,wantI,h4] <;> omega) (by simp [go_sem]) (hrest (by simp [h4])))|refine z0a ?_|refine z01 ?_|refine z0b ?_|refine z03 ?_|refine z02 ?_|refine z04 rfl ?_|((first|refine z05 [] fun K hK=>?_|refine z09 (by rw [hP];exact z08) [] fun K hK=>?_);simp [go_sem,hP,hgl,hn,h4];(repeat (refine ⟨by omega,?_⟩));(first|refine hK _ ?_|refine ⟨by rfl,hK _ ?_⟩);clear hK K)|refine z0f rfl (fun _=>?_) (fun hq=>False.elim (by first|(simp [h4];done)|(simp [h4];omega)|(simp [h4] at hq;done)|(simp [h4] at hq;omega)))|refine z0f rfl (fun hq=>False.elim (by first|(simp [h4];done)|(simp [h4];omega)|(simp [h4] at hq;done)|(simp [h4] at hq;omega))) (fun _=>?_))
  by_cases h5:t.kind=4
  ·repeat (first|(refine z0c [] (by simp [go_sem]) (by simp [go_sem,wantI,h5] <;> omega) (by simp [go_sem]) (hrest (by simp [h5])))|refine z0a ?_|refine z01 ?_|refine z0b ?_|refine z03 ?_|refine z02 ?_|refine z04 rfl ?_|((first|refine z05 [] fun K hK=>?_|refine z09 (by rw [hP];exact z08) [] fun K hK=>?_);simp [go_sem,hP,hgl,hn,h5];(repeat (refine ⟨by omega,?_⟩));(first|refine hK _ ?_|refine ⟨by rfl,hK _ ?_⟩);clear hK K)|refine z0f rfl (fun _=>?_) (fun hq=>False.elim (by first|(simp [h5];done)|(simp [h5];omega)|(simp [h5] at hq;done)|(simp [h5] at hq;omega)))|refine z0f rfl (fun hq=>False.elim (by first|(simp [h5];done)|(simp [h5];omega)|(simp [h5] at hq;done)|(simp [h5] at hq;omega))) (fun _=>?_))
  refine t_g (j2 @h1 (j2 @h2 (j2 @h3 (j2 @h4 @h5)))) ?_
  refine t_r ?_
  simp [go_sem,hP,hgl,hn,hs,tyKind,h1,h2,h3,h4,h5] <;> (try omega)
 ·intro hk
  by_cases hl:(t.args.length:Int)=wantI t.kind
  ·have hty:tyKind t.kind t.args.length=true:=by
    unfold wantI at hl
    unfold tyKind
    rcases hk with h|h|h|h|h <;> simp [h] at hl ⊢ <;> omega
   refine t_g @hl ?_
   refine t_a ?_
   refine z0c [] (by simp [go_sem]) (by simp [go_sem,Ty.shape.shapes] <;> omega) (by simp [go_sem]) (z35 (t.args) (fun done=>Ty.shape.shapes done=true) (fun done rest=>[(.slot 23,.one (.v (dint done.length))),(.slot 22,.one (.v (dint t.args.length))),(.slot 21,.one (.v (.sl (t.args.map Ty.cells))))]) (rfl) ?_ ?_)
   ·intro done x rest hL hg hI hnext
    have hlt:done.length<t.args.length:=by rw [hL];simp
    refine z00 ?_
    refine z07 ?_
    refine t_rg @hg ?_
    refine t_c1 @hg (ih x (List.mem_of_getElem? hg)) ?_
    by_cases hx:x.shape=true
    ·refine t_n @hx ?_
     refine t_gt (wr []) trivial @hx (hnext (by rw [Ty.shapes_append];simp [hI,Ty.shape.shapes,hx]))
    ·refine t_y @hx ?_
     refine t_g @hx ?_
     have:t.shape=false:=by rw [hs,hL,Ty.shapes_append];simp [Ty.shape.shapes,hx]
     refine t_r ?_
     simp [go_sem,hP,hgl,hn,this] <;> (try omega)
   ·intro hI
    refine z00 ?_
    refine t_no ?_
    refine t_g0 ?_
    refine t_r ?_
    simp [go_sem,hP,hgl,hn,hs,hty,hI] <;> (try omega)
  ·have hty:tyKind t.kind t.args.length=false:=by
    unfold wantI at hl
    unfold tyKind
    rcases hk with h|h|h|h|h <;> simp [h] at hl ⊢ <;> omega
   refine t_g @hl ?_
   refine t_r ?_
   simp [go_sem,hP,hgl,hn,hs,hty] <;> (try omega)
theorem z137 (t:Ty)(hc:t.count≤2147483648):Con1 Tryz.prog gl 131 [t.dv] [] (dint t.count) []:=by
 induction t using Ty.ind with
 | h t ih=>
 refine t_in Tryz.func131 ?_
 intro X hP hgl hf hfn hn hR hids hfit
 have hlen:=Ty.fit_len (hfit t.dv (by simp))
 rw [Ty.count_eq] at hc
 refine z00 ?_
 refine z00 ?_
 refine z00 ?_
 refine t_a ?_
 refine z0c [] (by simp [go_sem]) (by simp [go_sem,Ty.count.counts] <;> omega) (by simp [go_sem]) (z1z (t.args) (fun done rest=>[(.slot 9,.one (.v (dint done.length))),(.slot 8,.one (.v (dint t.args.length))),(.slot 7,.one (.v (.sl (t.args.map Ty.cells)))),(.slot 3,.one (.v (dint (1+Ty.count.counts done:Nat))))]) ?_ ?_)
 ·intro done x rest hL hg hnext
  have hlt:done.length<t.args.length:=by rw [hL];simp
  have hcx:Ty.count.counts t.args=Ty.count.counts done+(x.count+Ty.count.counts rest):=by rw [hL,Ty.counts_append];rfl
  rw [Ty.counts_append] at hnext
  refine z00 ?_
  refine z07 ?_
  refine t_rg @hg ?_
  refine t_a ?_
  first|refine z05 [] fun K hK=>?_|refine z09 (by rw [hP];exact z08) [] fun K hK=>?_
  refine t_s0 ?_
  refine t_c trivial (ih x (List.mem_of_getElem? hg) (by omega)) ?_
  refine t_e ?_
  clear hK K
  refine z00 ?_
  repeat (first|refine z03 ?_|refine z01 ?_|refine z02 ?_|refine z04 rfl ?_)
  refine z0c [] (by simp [go_sem]) (by simp [go_sem,Ty.count.counts] <;> omega) (by simp [go_sem]) hnext
 ·refine z00 ?_
  refine t_no ?_
  refine z00 ?_
  refine t_r ?_
  simp [go_sem,hP,hgl,hn,Ty.count_eq] <;> (try omega)
theorem z138 (t:Ty):Con1 Tryz.prog gl 143 [t.dv] [] (dbool t.zero) []:=by
 refine t_in Tryz.func143 ?_
 intro X hP hgl hf hfn hn hR hids hfit
 refine z00 ?_
 by_cases h:t.kind=0
 ·refine t_rg @h ?_
  refine t_r ?_
  simp [go_sem,hP,hgl,hn,Ty.zero,h] <;> (try omega)
 ·refine t_rg @h ?_
  refine t_r ?_
  simp [go_sem,hP,hgl,hn,Ty.zero,h] <;> (try omega)
theorem z6n (t:Ty)(hc:t.count≤2147483648):Con1 Tryz.prog gl 96 [t.dv] [] (dint t.checkN) []:=by
 refine t_in Tryz.func96 ?_
 intro X hP hgl hf hfn hn hR hids hfit
 refine z00 ?_
 refine t_a ?_
 first|refine z05 [] fun K hK=>?_|refine z09 (by rw [hP];exact z08) [] fun K hK=>?_
 refine t_s0 ?_
 refine t_c trivial (z136 t) ?_
 refine t_e ?_
 clear hK K
 by_cases h:t.shape=true
 ·refine t_n @h ?_
  refine t_a ?_
  first|refine z05 [] fun K hK=>?_|refine z09 (by rw [hP];exact z08) [] fun K hK=>?_
  refine t_s0 ?_
  refine t_c trivial (z137 t hc) ?_
  refine t_e ?_
  clear hK K
  by_cases h2:64<t.count
  ·refine t_y @h2 ?_
   refine z00 ?_
   refine t_r ?_
   simp [go_sem,hP,hgl,hn,Ty.checkN,h,h2] <;> (try omega)
  ·refine t_n @h2 ?_
   refine z00 ?_
   refine t_r ?_
   simp [go_sem,hP,hgl,hn,Ty.checkN,h,h2] <;> (try omega)
 ·refine t_y @h ?_
  refine z00 ?_
  refine t_r ?_
  simp [go_sem,hP,hgl,hn,Ty.checkN,h] <;> (try omega)
end
section
variable {gl:Globs}
def errTys:List Ty→Int
 | []=>0
 | t::r=>if t.checkN=0 then errTys r else t.checkN
def ctxN (l:List Ty):Int:=if 16<l.length then 3 else errTys l
theorem zgt (l m:List Ty)(h:errTys l=0):errTys (l++m)=errTys m:=by
 induction l with
 | nil=>rfl
 | cons a r ih=>
  simp only [errTys] at h
  split at h
  ·rename_i ha;simp only [List.cons_append,errTys,ha,if_true];exact ih h
  ·rename_i ha;exact absurd h ha
theorem z139 (l:List Ty)(hc:∀ t ∈ l,t.count≤2147483648):Con1 Tryz.prog gl 52 [.sl (l.map Ty.cells)] [] (dint (ctxN l)) []:=by
 refine t_in Tryz.func52 ?_
 intro X hP hgl hf hfn hn hR hids hfit
 have hlen:=z4d (hfit (.sl (l.map Ty.cells)) (by simp))
 simp only [List.length_map] at hlen
 by_cases h:16<l.length
 ·refine t_g @h ?_
  refine t_r ?_
  simp [go_sem,hP,hgl,hn,ctxN,h] <;> (try omega)
 ·refine t_g @h ?_
  refine t_a ?_
  refine z0e [] trivial (z35 (l) (fun done=>errTys done=0) (fun done rest=>[(.slot 11,.one (.v (dint done.length))),(.slot 10,.one (.v (dint l.length))),(.slot 9,.one (.v (.sl (l.map Ty.cells))))]) (rfl) ?_ ?_)
  ·intro done x rest hL hg hI hnext
   have hlt:done.length<l.length:=by rw [hL];simp
   have hx:=zgt done (x::rest) hI
   rw [← hL] at hx
   refine z00 ?_
   refine z07 ?_
   refine t_rg @hg ?_
   refine t_c1 @hg (z6n x (hc x (List.mem_of_getElem? hg))) ?_
   by_cases hx0:x.checkN=0
   ·refine t_gt (wr []) trivial @hx0 (hnext (by rw [zgt done [x] hI];simp [errTys,hx0]))
   ·refine t_g @hx0 ?_
    refine t_r ?_
    simp [go_sem,hP,hgl,hn,ctxN,h,hx,errTys,hx0] <;> (try omega)
  ·intro hI
   refine z00 ?_
   refine t_no ?_
   refine t_g0 ?_
   refine t_r ?_
   simp [go_sem,hP,hgl,hn,ctxN,h,hI] <;> (try omega)
theorem z7y (k:Int):Con1 Tryz.prog gl 142 [dint k] [] (dint (arityI k)) []:=by
 refine t_in Tryz.func142 ?_
 intro X hP hgl hf hfn hn hR hids hfit
 by_cases hs0:k=1
 ·refine t_g @hs0 ?_
  refine t_r ?_
  simp [go_sem,hP,hgl,hn,arityI,hs0] <;> (try omega)
 by_cases hs1:k=4
 ·refine t_g @hs1 ?_
  refine t_r ?_
  simp [go_sem,hP,hgl,hn,arityI,hs1] <;> (try omega)
 by_cases hs2:k=7
 ·refine t_g @hs2 ?_
  refine t_r ?_
  simp [go_sem,hP,hgl,hn,arityI,hs2] <;> (try omega)
 by_cases hs3:k=13
 ·refine t_g @hs3 ?_
  refine t_r ?_
  simp [go_sem,hP,hgl,hn,arityI,hs3] <;> (try omega)
 by_cases hs4:k=2
 ·refine t_g @hs4 ?_
  refine t_r ?_
  simp [go_sem,hP,hgl,hn,arityI,hs4] <;> (try omega)
 by_cases hs5:k=5
 ·refine t_g @hs5 ?_
  refine t_r ?_
  simp [go_sem,hP,hgl,hn,arityI,hs5] <;> (try omega)
 by_cases hs6:k=11
 ·refine t_g @hs6 ?_
  refine t_r ?_
  simp [go_sem,hP,hgl,hn,arityI,hs6] <;> (try omega)
 by_cases hs7:k=12
 ·refine t_g @hs7 ?_
  refine t_r ?_
  simp [go_sem,hP,hgl,hn,arityI,hs7] <;> (try omega)
 by_cases hs8:k=3
 ·refine t_g @hs8 ?_
  refine t_r ?_
  simp [go_sem,hP,hgl,hn,arityI,hs8] <;> (try omega)
 by_cases hs9:k=8
 ·refine t_g @hs9 ?_
  refine t_r ?_
  simp [go_sem,hP,hgl,hn,arityI,hs9] <;> (try omega)
 by_cases hs10:k=10
 ·refine t_g @hs10 ?_
  refine t_r ?_
  simp [go_sem,hP,hgl,hn,arityI,hs10] <;> (try omega)
 by_cases hs11:k=6
 ·refine t_g @hs11 ?_
  refine t_r ?_
  simp [go_sem,hP,hgl,hn,arityI,hs11] <;> (try omega)
 by_cases hs12:k=9
 ·refine t_g @hs12 ?_
  refine t_r ?_
  simp [go_sem,hP,hgl,hn,arityI,hs12] <;> (try omega)
 refine t_g (j2 @hs0 (j2 @hs1 (j2 @hs2 (j2 @hs3 (j2 @hs4 (j2 @hs5 (j2 @hs6 (j2 @hs7 (j2 @hs8 (j2 @hs9 (j2 @hs10 (j2 @hs11 @hs12)))))))))))) ?_
 refine t_r ?_
 simp [go_sem,hP,hgl,hn,arityI,hs0,hs1,hs2,hs3,hs4,hs5,hs6,hs7,hs8,hs9,hs10,hs11,hs12] <;> (try omega)
def okNode (t:Tm):Bool:=decide ((t.args.length:Int)=arityI t.kind) && decide (0≤t.index) && (decide (t.kind=1) || decide (t.index=0))
theorem z13a (t:Tm)(ht:t.tys):Con1 Tryz.prog gl 108 [t.dv] [] (dbool t.shape) []:=by
 induction t using Tm.ind with
 | h t ih=>
 obtain ⟨ht1,ht2⟩:=(Tm.tys_eq t).1 ht
 refine t_in Tryz.func108 ?_
 intro X hP hgl hf hfn hn hR hids hfit
 have hlen:=Tm.fit_len (hfit t.dv (by simp))
 have hs:=Tm.shape_eq t
 refine z00 ?_
 repeat (first|refine z0a ?_|refine z01 ?_|refine z03 ?_|refine z02 ?_)
 refine zce [(.slot 26,.one (.v (dbool (!okNode t)))),(.loc 1,.row ([.v (dint t.kind),.v (dint t.index),.v (dint t.type.kind),.v (.sl (t.type.args.map Ty.cells)),.v (.sl (t.args.map Tm.cells))])),(.slot 1,.one (.loc 1 0))] ?_ ?_
 ·intro hrest
  by_cases hA:(t.args.length:Int)=arityI t.kind
  ·by_cases hB:t.index<0
   ·refine t_c1 (j2 @hA @hB) (z7y t.kind) ?_
    repeat (first|refine z03 ?_|refine z01 ?_|refine z02 ?_|refine z04 rfl ?_)
    refine z0c [] (by simp [go_sem]) (by simp [go_sem,okNode,hA,hB] <;> omega) (by simp [go_sem]) hrest
   ·by_cases hC:t.kind=1
    ·refine t_c1 (j2 @hA (j2 @hB @hC)) (z7y t.kind) ?_
     repeat (first|refine z03 ?_|refine z01 ?_|refine z02 ?_|refine z04 rfl ?_)
     refine z0c [] (by simp [go_sem]) (by simp [go_sem,okNode,hA,hB,hC] <;> omega) (by simp [go_sem]) hrest
    ·by_cases hD:t.index=0
     ·refine t_c1 (j2 @hA (j2 @hB (j2 @hC @hD))) (z7y t.kind) ?_
      repeat (first|refine z03 ?_|refine z01 ?_|refine z02 ?_|refine z04 rfl ?_)
      refine z0c [] (by simp [go_sem]) (by simp [go_sem,okNode,hA,hB,hC,hD] <;> omega) (by simp [go_sem]) hrest
     ·refine t_c1 (j2 @hA (j2 @hB (j2 @hC @hD))) (z7y t.kind) ?_
      repeat (first|refine z03 ?_|refine z01 ?_|refine z02 ?_|refine z04 rfl ?_)
      refine z0c [] (by simp [go_sem]) (by simp [go_sem,okNode,hA,hB,hC,hD] <;> omega) (by simp [go_sem]) hrest
  ·refine t_c1 @hA (z7y t.kind) ?_
   repeat (first|refine z03 ?_|refine z01 ?_|refine z02 ?_|refine z04 rfl ?_)
   refine z0c [] (by simp [go_sem]) (by simp [go_sem,okNode,hA] <;> omega) (by simp [go_sem]) hrest
 ·by_cases hok:okNode t=true
  ·have hk:tmKind t.kind t.index t.type t.args.length=tyOfKind t.kind t.type:=by
    simp only [okNode,Bool.and_eq_true,decide_eq_true_eq] at hok
    simp [tmKind,hok]
   refine t_n @hok ?_
   refine z00 ?_
   repeat (first|refine z0a ?_|refine z01 ?_|refine z03 ?_|refine z02 ?_)
   refine za6 (tyOfKind t.kind t.type=true) [(.loc 1,.row ([.v (dint t.kind),.v (dint t.index),.v (dint t.type.kind),.v (.sl (t.type.args.map Ty.cells)),.v (.sl (t.args.map Tm.cells))])),(.slot 1,.one (.loc 1 0))] ?_ ?_
   ·intro hrest
    by_cases k2:t.kind=2
    ·refine t_g @k2 ?_
     refine t_c1 trivial (z6n t.type (by omega)) ?_
     by_cases hc:t.type.checkN=0
     ·refine t_gt (wr []) @k2 (j2 @k2 @hc) (hrest (by simp [tyOfKind,k2,hc]))
     ·have hz:tyOfKind t.kind t.type=false:=by simp [tyOfKind,k2,hc]
      refine t_g @hc ?_
      refine t_r ?_
      simp [go_sem,hP,hgl,hn,hs,hk,hz] <;> (try omega)
    by_cases k6:t.kind=6
    ·refine t_g @k6 ?_
     refine t_c1 trivial (z6n t.type (by omega)) ?_
     by_cases hc:t.type.checkN=0
     ·refine t_gt (wr []) @k6 (j2 @k6 @hc) (hrest (by simp [tyOfKind,k6,hc]))
     ·have hz:tyOfKind t.kind t.type=false:=by simp [tyOfKind,k6,hc]
      refine t_g @hc ?_
      refine t_r ?_
      simp [go_sem,hP,hgl,hn,hs,hk,hz] <;> (try omega)
    by_cases k9:t.kind=9
    ·refine t_g @k9 ?_
     refine t_c1 trivial (z6n t.type (by omega)) ?_
     by_cases hc:t.type.checkN=0
     ·refine t_gt (wr []) @k9 (j2 @k9 @hc) (hrest (by simp [tyOfKind,k9,hc]))
     ·have hz:tyOfKind t.kind t.type=false:=by simp [tyOfKind,k9,hc]
      refine t_g @hc ?_
      refine t_r ?_
      simp [go_sem,hP,hgl,hn,hs,hk,hz] <;> (try omega)
    refine t_g (j2 @k2 (j2 @k6 @k9)) ?_
    refine t_c1 trivial (z138 t.type) ?_
    by_cases hc:t.type.zero=true
    ·refine t_gt (wr []) trivial @hc (hrest (by simp [tyOfKind,k2,k6,k9,hc]))
    ·have hz:tyOfKind t.kind t.type=false:=by simp [tyOfKind,k2,k6,k9,hc]
     refine t_g @hc ?_
     refine t_r ?_
     simp [go_sem,hP,hgl,hn,hs,hk,hz] <;> (try omega)
   ·intro hty
    refine t_g0 ?_
    refine t_a ?_
    refine z0c [] (by simp [go_sem]) (by simp [go_sem,Tm.shape.shapes] <;> omega) (by simp [go_sem]) (z35 (t.args) (fun done=>Tm.shape.shapes done=true) (fun done rest=>[(.slot 44,.one (.v (dint done.length))),(.slot 43,.one (.v (dint t.args.length))),(.slot 42,.one (.v (.sl (t.args.map Tm.cells))))]) (rfl) ?_ ?_)
    ·intro done x rest hL hg hI hnext
     have hlt:done.length<t.args.length:=by rw [hL];simp
     refine z00 ?_
     refine z07 ?_
     refine t_rg @hg ?_
     refine t_c1 @hg (ih x (List.mem_of_getElem? hg) (ht2 x (List.mem_of_getElem? hg))) ?_
     by_cases hx:x.shape=true
     ·refine t_gt (wr []) trivial @hx (hnext (by rw [Tm.shapes_append];simp [hI,Tm.shape.shapes,hx]))
     ·refine t_g @hx ?_
      have:t.shape=false:=by rw [hs,hL,Tm.shapes_append];simp [Tm.shape.shapes,hx]
      refine t_r ?_
      simp [go_sem,hP,hgl,hn,this] <;> (try omega)
    ·intro hI
     refine z00 ?_
     refine t_no ?_
     refine t_g0 ?_
     refine t_r ?_
     simp [go_sem,hP,hgl,hn,hs,hk,hty,hI] <;> (try omega)
  ·have hk:tmKind t.kind t.index t.type t.args.length=false:=by
    simp only [okNode,Bool.and_eq_true,decide_eq_true_eq] at hok
    simp only [tmKind]
    cases hh:(decide ((t.args.length:Int)=arityI t.kind) && decide (0≤t.index) && (decide (t.kind=1) || decide (t.index=0))) with
    | true=>exact absurd (by simpa using hh) hok
    | false=>rfl
   refine t_g @hok ?_
   refine t_r ?_
   simp [go_sem,hP,hgl,hn,hs,hk] <;> (try omega)
theorem z2q (t:Tm)(ht:t.tys)(hc:t.count≤2147483648):Con1 Tryz.prog gl 63 [t.dv] [] (dint t.checkN) []:=by
 refine t_in Tryz.func63 ?_
 intro X hP hgl hf hfn hn hR hids hfit
 refine t_g0 ?_
 refine t_c1 trivial (z13a t ht) ?_
 by_cases h:t.shape=true
 ·refine t_g @h ?_
  refine t_c1 trivial (z133 t hc) ?_
  by_cases h2:4096<t.count
  ·refine t_g @h2 ?_
   refine t_r ?_
   simp [go_sem,hP,hgl,hn,Tm.checkN,h,h2] <;> (try omega)
  ·refine t_g @h2 ?_
   refine t_r ?_
   simp [go_sem,hP,hgl,hn,Tm.checkN,h,h2] <;> (try omega)
 ·refine t_g @h ?_
  refine t_r ?_
  simp [go_sem,hP,hgl,hn,Tm.checkN,h] <;> (try omega)
end
section
variable {gl:Globs}
def arEls:List (List DV):=ints [0,0,1,2,0,1,3,0,2,3,2,1,1,0]
def known (k:Int):Bool:=decide (1≤k) && decide (k≤13)
theorem zgu (k:Int):known k=decide (0≤arityI k):=by
 unfold known arityI
 by_cases h:1≤k∧k≤13
 ·have:k=1∨k=2∨k=3∨k=4∨k=5∨k=6∨k=7∨k=8∨k=9∨k=10∨k=11∨k=12∨k=13:=by omega
  rcases this with rfl|rfl|rfl|rfl|rfl|rfl|rfl|rfl|rfl|rfl|rfl|rfl|rfl <;> decide
 ·rw [if_neg (by omega),if_neg (by omega),if_neg (by omega),if_neg (by omega)]
  simp;omega
theorem z13b (har:globOf gl 0=some arEls)(k:Int):Con1 Tryz.prog gl 166 [dint k] [] (.tup [dint (if known k=true then arityI k else 0),dbool (known k)]) []:=by
 refine t_in Tryz.func166 ?_
 intro X hP hgl hf hfn hn hR hids hfit
 have hk:=har
 simp only [arEls,ints,List.map] at hk
 by_cases hs0:k=1
 ·refine t_g (j2 @hs0 @hk) ?_
  refine t_r ?_
  simp [go_sem,hP,hgl,hn,known,arityI,hs0] <;> (try omega)
 by_cases hs1:k=2
 ·refine t_g (j2 @hs1 @hk) ?_
  refine t_r ?_
  simp [go_sem,hP,hgl,hn,known,arityI,hs1] <;> (try omega)
 by_cases hs2:k=3
 ·refine t_g (j2 @hs2 @hk) ?_
  refine t_r ?_
  simp [go_sem,hP,hgl,hn,known,arityI,hs2] <;> (try omega)
 by_cases hs3:k=4
 ·refine t_g (j2 @hs3 @hk) ?_
  refine t_r ?_
  simp [go_sem,hP,hgl,hn,known,arityI,hs3] <;> (try omega)
 by_cases hs4:k=5
 ·refine t_g (j2 @hs4 @hk) ?_
  refine t_r ?_
  simp [go_sem,hP,hgl,hn,known,arityI,hs4] <;> (try omega)
 by_cases hs5:k=6
 ·refine t_g (j2 @hs5 @hk) ?_
  refine t_r ?_
  simp [go_sem,hP,hgl,hn,known,arityI,hs5] <;> (try omega)
 by_cases hs6:k=7
 ·refine t_g (j2 @hs6 @hk) ?_
  refine t_r ?_
  simp [go_sem,hP,hgl,hn,known,arityI,hs6] <;> (try omega)
 by_cases hs7:k=8
 ·refine t_g (j2 @hs7 @hk) ?_
  refine t_r ?_
  simp [go_sem,hP,hgl,hn,known,arityI,hs7] <;> (try omega)
 by_cases hs8:k=9
 ·refine t_g (j2 @hs8 @hk) ?_
  refine t_r ?_
  simp [go_sem,hP,hgl,hn,known,arityI,hs8] <;> (try omega)
 by_cases hs9:k=10
 ·refine t_g (j2 @hs9 @hk) ?_
  refine t_r ?_
  simp [go_sem,hP,hgl,hn,known,arityI,hs9] <;> (try omega)
 by_cases hs10:k=11
 ·refine t_g (j2 @hs10 @hk) ?_
  refine t_r ?_
  simp [go_sem,hP,hgl,hn,known,arityI,hs10] <;> (try omega)
 by_cases hs11:k=12
 ·refine t_g (j2 @hs11 @hk) ?_
  refine t_r ?_
  simp [go_sem,hP,hgl,hn,known,arityI,hs11] <;> (try omega)
 by_cases hs12:k=13
 ·refine t_g (j2 @hs12 @hk) ?_
  refine t_r ?_
  simp [go_sem,hP,hgl,hn,known,arityI,hs12] <;> (try omega)
 by_cases hlo:k<1
 ·have:known k=false:=by simp [known];omega
  refine t_g @hlo ?_
  refine t_r ?_
  simp [go_sem,hP,hgl,hn,this] <;> (try omega)
 ·have hhi:14≤k:=by omega
  have:known k=false:=by simp [known];omega
  refine t_g (j2 @hlo @hhi) ?_
  refine t_r ?_
  simp [go_sem,hP,hgl,hn,this] <;> (try omega)
theorem z13c (k:Int):Con1 Tryz.prog gl 167 [dint k] [] (dbool (decide (k=2) || decide (k=6) || decide (k=9))) []:=by
 refine t_in Tryz.func167 ?_
 intro X hP hgl hf hfn hn hR hids hfit
 by_cases hs0:k=2
 ·refine t_g @hs0 ?_
  refine t_r ?_
  simp [go_sem,hP,hgl,hn,hs0] <;> (try omega)
 by_cases hs1:k=6
 ·refine t_g @hs1 ?_
  refine t_r ?_
  simp [go_sem,hP,hgl,hn,hs1] <;> (try omega)
 by_cases hs2:k=9
 ·refine t_g @hs2 ?_
  refine t_r ?_
  simp [go_sem,hP,hgl,hn,hs2] <;> (try omega)
 refine t_g (j2 @hs0 (j2 @hs1 @hs2)) ?_
 refine t_r ?_
 simp [go_sem,hP,hgl,hn,hs0,hs1,hs2] <;> (try omega)
theorem z13d (t:Ty):Con1 Tryz.prog gl 168 [t.dv] [] (dbool t.zero) []:=by
 refine t_in Tryz.func168 ?_
 intro X hP hgl hf hfn hn hR hids hfit
 by_cases h:t.kind=0
 ·refine t_g @h ?_
  refine t_r ?_
  simp [go_sem,hP,hgl,hn,Ty.zero,h] <;> (try omega)
 ·refine t_g @h ?_
  refine t_r ?_
  simp [go_sem,hP,hgl,hn,Ty.zero,h] <;> (try omega)
def Ty.nodesR (t:Ty):DV:=.tup [dint (if t.shape=true then t.count else 0:Nat),dbool t.shape]
theorem z4s (t:Ty)(hc:t.count≤2147483648):Con1 Tryz.prog gl 129 [t.dv] [] t.nodesR []:=by
 induction t using Ty.ind with
 | h t ih=>
 rw [Ty.count_eq] at hc
 refine t_in Tryz.func129 ?_
 intro X hP hgl hf hfn hn hR hids hfit
 have hlen:=Ty.fit_len (hfit t.dv (by simp))
 have hs:=Ty.shape_eq t
 have no:t.shape=false→t.nodesR = .tup [dint 0,dbool false]:=fun h=>by simp [Ty.nodesR,h]
 refine z00 ?_
 refine z00 ?_
 refine z00 ?_
 repeat (first|refine z0a ?_|refine z01 ?_|refine z03 ?_|refine z02 ?_)
 refine za6 (t.kind=1∨t.kind=2∨t.kind=5∨t.kind=3∨t.kind=4) [(.slot 4,.one (.v (dint (wantI t.kind)))),(.loc 1,.row ([.v (dint t.kind),.v (.sl (t.args.map Ty.cells))])),(.slot 1,.one (.loc 1 0))] ?_ ?_
 ·intro hrest
  by_cases h1:t.kind=1
  ·repeat (first|(refine z0c [] (by simp [go_sem]) (by simp [go_sem,wantI,h1] <;> omega) (by simp [go_sem]) (hrest (by simp [h1])))|refine z0a ?_|refine z01 ?_|refine z0b ?_|refine z03 ?_|refine z02 ?_|refine z04 rfl ?_|((first|refine z05 [] fun K hK=>?_|refine z09 (by rw [hP];exact z08) [] fun K hK=>?_);simp [go_sem,hP,hgl,hn,h1];(repeat (refine ⟨by omega,?_⟩));(first|refine hK _ ?_|refine ⟨by rfl,hK _ ?_⟩);clear hK K)|refine z0f rfl (fun _=>?_) (fun hq=>False.elim (by first|(simp [h1];done)|(simp [h1];omega)|(simp [h1] at hq;done)|(simp [h1] at hq;omega)))|refine z0f rfl (fun hq=>False.elim (by first|(simp [h1];done)|(simp [h1];omega)|(simp [h1] at hq;done)|(simp [h1] at hq;omega))) (fun _=>?_))
  by_cases h2:t.kind=2
  ·repeat (first|(refine z0c [] (by simp [go_sem]) (by simp [go_sem,wantI,h2] <;> omega) (by simp [go_sem]) (hrest (by simp [h2])))|refine z0a ?_|refine z01 ?_|refine z0b ?_|refine z03 ?_|refine z02 ?_|refine z04 rfl ?_|((first|refine z05 [] fun K hK=>?_|refine z09 (by rw [hP];exact z08) [] fun K hK=>?_);simp [go_sem,hP,hgl,hn,h2];(repeat (refine ⟨by omega,?_⟩));(first|refine hK _ ?_|refine ⟨by rfl,hK _ ?_⟩);clear hK K)|refine z0f rfl (fun _=>?_) (fun hq=>False.elim (by first|(simp [h2];done)|(simp [h2];omega)|(simp [h2] at hq;done)|(simp [h2] at hq;omega)))|refine z0f rfl (fun hq=>False.elim (by first|(simp [h2];done)|(simp [h2];omega)|(simp [h2] at hq;done)|(simp [h2] at hq;omega))) (fun _=>?_))
  by_cases h3:t.kind=5
  ·repeat (first|(refine z0c [] (by simp [go_sem]) (by simp [go_sem,wantI,h3] <;> omega) (by simp [go_sem]) (hrest (by simp [h3])))|refine z0a ?_|refine z01 ?_|refine z0b ?_|refine z03 ?_|refine z02 ?_|refine z04 rfl ?_|((first|refine z05 [] fun K hK=>?_|refine z09 (by rw [hP];exact z08) [] fun K hK=>?_);simp [go_sem,hP,hgl,hn,h3];(repeat (refine ⟨by omega,?_⟩));(first|refine hK _ ?_|refine ⟨by rfl,hK _ ?_⟩);clear hK K)|refine z0f rfl (fun _=>?_) (fun hq=>False.elim (by first|(simp [h3];done)|(simp [h3];omega)|(simp [h3] at hq;done)|(simp [h3] at hq;omega)))|refine z0f rfl (fun hq=>False.elim (by first|(simp [h3];done)|(simp [h3];omega)|(simp [h3] at hq;done)|(simp [h3] at hq;omega))) (fun _=>?_))
  by_cases h4:t.kind=3
  ·repeat (first|(refine z0c [] (by simp [go_sem]) (by simp [go_sem,wantI,h4] <;> omega) (by simp [go_sem]) (hrest (by simp [h4])))|refine z0a ?_|refine z01 ?_|refine z0b ?_|refine z03 ?_|refine z02 ?_|refine z04 rfl ?_|((first|refine z05 [] fun K hK=>?_|refine z09 (by rw [hP];exact z08) [] fun K hK=>?_);simp [go_sem,hP,hgl,hn,h4];(repeat (refine ⟨by omega,?_⟩));(first|refine hK _ ?_|refine ⟨by rfl,hK _ ?_⟩);clear hK K)|refine z0f rfl (fun _=>?_) (fun hq=>False.elim (by first|(simp [h4];done)|(simp [h4];omega)|(simp [h4] at hq;done)|(simp [h4] at hq;omega)))|refine z0f rfl (fun hq=>False.elim (by first|(simp [h4];done)|(simp [h4];omega)|(simp [h4] at hq;done)|(simp [h4] at hq;omega))) (fun _=>?_))
  by_cases h5:t.kind=4
  ·repeat (first|(refine z0c [] (by simp [go_sem]) (by simp [go_sem,wantI,h5] <;> omega) (by simp [go_sem]) (hrest (by simp [h5])))|refine z0a ?_|refine z01 ?_|refine z0b ?_|refine z03 ?_|refine z02 ?_|refine z04 rfl ?_|((first|refine z05 [] fun K hK=>?_|refine z09 (by rw [hP];exact z08) [] fun K hK=>?_);simp [go_sem,hP,hgl,hn,h5];(repeat (refine ⟨by omega,?_⟩));(first|refine hK _ ?_|refine ⟨by rfl,hK _ ?_⟩);clear hK K)|refine z0f rfl (fun _=>?_) (fun hq=>False.elim (by first|(simp [h5];done)|(simp [h5];omega)|(simp [h5] at hq;done)|(simp [h5] at hq;omega)))|refine z0f rfl (fun hq=>False.elim (by first|(simp [h5];done)|(simp [h5];omega)|(simp [h5] at hq;done)|(simp [h5] at hq;omega))) (fun _=>?_))
  have hz:=no (by rw [hs];simp [tyKind,h1,h2,h3,h4,h5])
  refine t_g (j2 @h1 (j2 @h2 (j2 @h3 (j2 @h4 @h5)))) ?_
  refine t_r ?_
  simp [go_sem,hP,hgl,hn,hz] <;> (try omega)
 ·intro hk
  by_cases hl:(t.args.length:Int)=wantI t.kind
  ·have hty:tyKind t.kind t.args.length=true:=by
    unfold wantI at hl
    unfold tyKind
    rcases hk with h|h|h|h|h <;> simp [h] at hl ⊢ <;> omega
   refine t_g @hl ?_
   refine t_a ?_
   refine z0c [] (by simp [go_sem]) (by simp [go_sem,Ty.count.counts] <;> omega) (by simp [go_sem]) (z35 (t.args) (fun done=>Ty.shape.shapes done=true) (fun done rest=>[(.slot 5,.one (.v (dint (1+Ty.count.counts done:Nat)))),(.slot 27,.one (.v (dint done.length))),(.slot 26,.one (.v (dint t.args.length))),(.slot 25,.one (.v (.sl (t.args.map Ty.cells))))]) (rfl) ?_ ?_)
   ·intro done x rest hL hg hI hnext
    have hlt:done.length<t.args.length:=by rw [hL];simp
    have hcx:Ty.count.counts t.args=Ty.count.counts done+(x.count+Ty.count.counts rest):=by rw [hL,Ty.counts_append];rfl
    rw [Ty.counts_append] at hnext
    refine z00 ?_
    refine z07 ?_
    refine t_rg @hg ?_
    by_cases hx:x.shape=true
    ·refine t_a ?_
     first|refine z05 [] fun K hK=>?_|refine z09 (by rw [hP];exact z08) [] fun K hK=>?_
     simp [go_sem,hP,hgl,hn,hg,Ty.nodesR,hx]
     repeat (refine ⟨by omega,?_⟩)
     first|refine z1u hP hgl (ih x (List.mem_of_getElem? hg) (by omega)) (by simp [go_sem,hP,hgl,hn,hg,Ty.nodesR,hx]) rfl (by simp [go_sem]) (by simp) (by rw [hn];exact Nat.le_of_ble_eq_true rfl) ?_|refine z1v (fun _ _=>z0l) hP hgl (ih x (List.mem_of_getElem? hg) (by omega)) (by simp [go_sem,hP,hgl,hn,hg,Ty.nodesR,hx]) rfl (by simp [go_sem]) (by simp) (by rw [hn];exact Nat.le_of_ble_eq_true rfl) ?_|refine z23 hP hgl (ih x (List.mem_of_getElem? hg) (by omega)) (by simp [go_sem,hP,hgl,hn,hg,Ty.nodesR,hx]) rfl (by simp [go_sem]) (by simp) (by rw [hn];exact Nat.le_of_ble_eq_true rfl) (by simp [go_sem];rfl) (by rw [hn];exact Nat.le_of_ble_eq_true rfl) (by simp [go_sem]) ?_|refine z24 (fun _ _=>z0l) hP hgl (ih x (List.mem_of_getElem? hg) (by omega)) (by simp [go_sem,hP,hgl,hn,hg,Ty.nodesR,hx]) rfl (by simp [go_sem]) (by simp) (by rw [hn];exact Nat.le_of_ble_eq_true rfl) (by simp [go_sem];rfl) (by rw [hn];exact Nat.le_of_ble_eq_true rfl) (by simp [go_sem]) ?_
     simp [go_sem,hP,hgl,hn,hg,Ty.nodesR,hx]
     refine t_e ?_
     clear hK K
     repeat (first|(refine z0c [] (by simp [go_sem]) (by simp [go_sem,Ty.count.counts] <;> omega) (by simp [go_sem]) (hnext (by rw [Ty.shapes_append];simp [hI,Ty.shape.shapes,hx])))|refine z0a ?_|refine z01 ?_|refine z0b ?_|refine z03 ?_|refine z02 ?_|refine z04 rfl ?_|((first|refine z05 [] fun K hK=>?_|refine z09 (by rw [hP];exact z08) [] fun K hK=>?_);simp [go_sem,hP,hgl,hn,hx];(repeat (refine ⟨by omega,?_⟩));(first|refine hK _ ?_|refine ⟨by rfl,hK _ ?_⟩);clear hK K)|refine z0f rfl (fun _=>?_) (fun hq=>False.elim (by first|(simp [hx];done)|(simp [hx];omega)|(simp [hx] at hq;done)|(simp [hx] at hq;omega)))|refine z0f rfl (fun hq=>False.elim (by first|(simp [hx];done)|(simp [hx];omega)|(simp [hx] at hq;done)|(simp [hx] at hq;omega))) (fun _=>?_))
    ·have hz:=no (by rw [hs,hL,Ty.shapes_append];simp [Ty.shape.shapes,hx])
     refine t_a ?_
     first|refine z05 [] fun K hK=>?_|refine z09 (by rw [hP];exact z08) [] fun K hK=>?_
     simp [go_sem,hP,hgl,hn,hg,Ty.nodesR,hx]
     repeat (refine ⟨by omega,?_⟩)
     first|refine z1u hP hgl (ih x (List.mem_of_getElem? hg) (by omega)) (by simp [go_sem,hP,hgl,hn,hg,Ty.nodesR,hx]) rfl (by simp [go_sem]) (by simp) (by rw [hn];exact Nat.le_of_ble_eq_true rfl) ?_|refine z1v (fun _ _=>z0l) hP hgl (ih x (List.mem_of_getElem? hg) (by omega)) (by simp [go_sem,hP,hgl,hn,hg,Ty.nodesR,hx]) rfl (by simp [go_sem]) (by simp) (by rw [hn];exact Nat.le_of_ble_eq_true rfl) ?_|refine z23 hP hgl (ih x (List.mem_of_getElem? hg) (by omega)) (by simp [go_sem,hP,hgl,hn,hg,Ty.nodesR,hx]) rfl (by simp [go_sem]) (by simp) (by rw [hn];exact Nat.le_of_ble_eq_true rfl) (by simp [go_sem];rfl) (by rw [hn];exact Nat.le_of_ble_eq_true rfl) (by simp [go_sem]) ?_|refine z24 (fun _ _=>z0l) hP hgl (ih x (List.mem_of_getElem? hg) (by omega)) (by simp [go_sem,hP,hgl,hn,hg,Ty.nodesR,hx]) rfl (by simp [go_sem]) (by simp) (by rw [hn];exact Nat.le_of_ble_eq_true rfl) (by simp [go_sem];rfl) (by rw [hn];exact Nat.le_of_ble_eq_true rfl) (by simp [go_sem]) ?_
     simp [go_sem,hP,hgl,hn,hg,Ty.nodesR,hx]
     refine t_e ?_
     clear hK K
     refine t_g @hx ?_
     refine t_r ?_
     simp [go_sem,hP,hgl,hn,hz] <;> (try omega)
   ·intro hI
    have hz:t.nodesR = .tup [dint t.count,dbool true]:=by simp [Ty.nodesR,hs,hty,hI]
    refine z00 ?_
    refine t_no ?_
    refine t_g0 ?_
    refine t_r ?_
    simp [go_sem,hP,hgl,hn,hz,Ty.count_eq] <;> (try omega)
  ·have hz:=no (by
    rw [hs]
    have:tyKind t.kind t.args.length=false:=by
     unfold wantI at hl
     unfold tyKind
     rcases hk with h|h|h|h|h <;> simp [h] at hl ⊢ <;> omega
    simp [this])
   refine t_g @hl ?_
   refine t_r ?_
   simp [go_sem,hP,hgl,hn,hz] <;> (try omega)
theorem z7z (t:Ty)(hc:t.count≤2147483648):Con1 Tryz.prog gl 94 [t.dv] [] (.tup [dint (if t.checkN=0 then t.count else 0:Nat),dint t.checkN]) []:=by
 refine t_in Tryz.func94 ?_
 intro X hP hgl hf hfn hn hR hids hfit
 refine t_g0 ?_
 by_cases h:t.shape=true
 ·refine t_a ?_
  first|refine z05 [] fun K hK=>?_|refine z09 (by rw [hP];exact z08) [] fun K hK=>?_
  simp [go_sem,hP,hgl,hn,Ty.nodesR,h]
  repeat (refine ⟨by omega,?_⟩)
  first|refine z1u hP hgl (z4s t hc) (by simp [go_sem,hP,hgl,hn,Ty.nodesR,h]) rfl (by simp [go_sem]) (by simp) (by rw [hn];exact Nat.le_of_ble_eq_true rfl) ?_|refine z1v (fun _ _=>z0l) hP hgl (z4s t hc) (by simp [go_sem,hP,hgl,hn,Ty.nodesR,h]) rfl (by simp [go_sem]) (by simp) (by rw [hn];exact Nat.le_of_ble_eq_true rfl) ?_|refine z23 hP hgl (z4s t hc) (by simp [go_sem,hP,hgl,hn,Ty.nodesR,h]) rfl (by simp [go_sem]) (by simp) (by rw [hn];exact Nat.le_of_ble_eq_true rfl) (by simp [go_sem];rfl) (by rw [hn];exact Nat.le_of_ble_eq_true rfl) (by simp [go_sem]) ?_|refine z24 (fun _ _=>z0l) hP hgl (z4s t hc) (by simp [go_sem,hP,hgl,hn,Ty.nodesR,h]) rfl (by simp [go_sem]) (by simp) (by rw [hn];exact Nat.le_of_ble_eq_true rfl) (by simp [go_sem];rfl) (by rw [hn];exact Nat.le_of_ble_eq_true rfl) (by simp [go_sem]) ?_
  simp [go_sem,hP,hgl,hn,Ty.nodesR,h]
  refine t_e ?_
  clear hK K
  by_cases h2:64<t.count
  ·refine t_g (j2 @h @h2) ?_
   refine t_r ?_
   simp [go_sem,hP,hgl,hn,Ty.checkN,h,h2] <;> (try omega)
  ·refine t_g (j2 @h @h2) ?_
   refine t_r ?_
   simp [go_sem,hP,hgl,hn,Ty.checkN,h,h2] <;> (try omega)
 ·refine t_a ?_
  first|refine z05 [] fun K hK=>?_|refine z09 (by rw [hP];exact z08) [] fun K hK=>?_
  simp [go_sem,hP,hgl,hn,Ty.nodesR,h]
  repeat (refine ⟨by omega,?_⟩)
  first|refine z1u hP hgl (z4s t hc) (by simp [go_sem,hP,hgl,hn,Ty.nodesR,h]) rfl (by simp [go_sem]) (by simp) (by rw [hn];exact Nat.le_of_ble_eq_true rfl) ?_|refine z1v (fun _ _=>z0l) hP hgl (z4s t hc) (by simp [go_sem,hP,hgl,hn,Ty.nodesR,h]) rfl (by simp [go_sem]) (by simp) (by rw [hn];exact Nat.le_of_ble_eq_true rfl) ?_|refine z23 hP hgl (z4s t hc) (by simp [go_sem,hP,hgl,hn,Ty.nodesR,h]) rfl (by simp [go_sem]) (by simp) (by rw [hn];exact Nat.le_of_ble_eq_true rfl) (by simp [go_sem];rfl) (by rw [hn];exact Nat.le_of_ble_eq_true rfl) (by simp [go_sem]) ?_|refine z24 (fun _ _=>z0l) hP hgl (z4s t hc) (by simp [go_sem,hP,hgl,hn,Ty.nodesR,h]) rfl (by simp [go_sem]) (by simp) (by rw [hn];exact Nat.le_of_ble_eq_true rfl) (by simp [go_sem];rfl) (by rw [hn];exact Nat.le_of_ble_eq_true rfl) (by simp [go_sem]) ?_
  simp [go_sem,hP,hgl,hn,Ty.nodesR,h]
  refine t_e ?_
  clear hK K
  refine t_g @h ?_
  refine t_r ?_
  simp [go_sem,hP,hgl,hn,Ty.checkN,h] <;> (try omega)
def okNodeP (t:Tm):Bool:=known t.kind && decide ((t.args.length:Int)=arityI t.kind) && decide (0≤t.index) && (decide (t.index=0) || decide (t.kind=1))
theorem z13e (t:Tm):okNodeP t=okNode t:=by
 unfold okNodeP okNode
 rw [zgu]
 cases h:decide ((t.args.length:Int)=arityI t.kind) with
 | false=>simp
 | true=>
  have h1:(t.args.length:Int)=arityI t.kind:=by simpa using h
  have:decide (0≤arityI t.kind)=true:=by simp;omega
  rw [this]
  cases decide (0≤t.index) <;> cases decide (t.index=0) <;> cases decide (t.kind=1) <;> rfl
def Tm.nodesR (t:Tm):DV:=.tup [dint (if t.shape=true then t.count else 0:Nat),dbool t.shape]
theorem z4t (har:globOf gl 0=some arEls)(t:Tm)(ht:t.tys)(hc:t.count≤2147483648):Con1 Tryz.prog gl 147 [t.dv] [] t.nodesR []:=by
 induction t using Tm.ind with
 | h t ih=>
 obtain ⟨ht1,ht2⟩:=(Tm.tys_eq t).1 ht
 rw [Tm.count_eq] at hc
 refine t_in Tryz.func147 ?_
 intro X hP hgl hf hfn hn hR hids hfit
 have hlen:=Tm.fit_len (hfit t.dv (by simp))
 have hs:=Tm.shape_eq t
 have no:t.shape=false→t.nodesR = .tup [dint 0,dbool false]:=fun h=>by simp [Tm.nodesR,h]
 refine t_g0 ?_
 refine t_c1 trivial (z13b har t.kind) ?_
 repeat (first|refine z0a ?_|refine z01 ?_|refine z03 ?_|refine z02 ?_)
 refine zce [(.slot 42,.one (.v (dbool (!okNodeP t)))),(.loc 1,.row ([.v (dint t.kind),.v (dint t.index),.v (dint t.type.kind),.v (.sl (t.type.args.map Ty.cells)),.v (.sl (t.args.map Tm.cells))])),(.slot 1,.one (.loc 1 0))] ?_ ?_
 ·intro hrest
  by_cases h0:known t.kind=true
  ·by_cases hA:(t.args.length:Int)=arityI t.kind
   ·by_cases hB:t.index<0
    ·refine t_rg (j2 @h0 (j2 @hA @hB)) ?_
     repeat (first|refine z03 ?_|refine z01 ?_|refine z02 ?_|refine z04 rfl ?_)
     refine z0c [] (by simp [go_sem]) (by simp [go_sem,okNodeP,h0,hA,hB] <;> omega) (by simp [go_sem]) hrest
    ·by_cases hD:t.index=0
     ·refine t_rg (j2 @h0 (j2 @hA (j2 @hB @hD))) ?_
      repeat (first|refine z03 ?_|refine z01 ?_|refine z02 ?_|refine z04 rfl ?_)
      refine z0c [] (by simp [go_sem]) (by simp [go_sem,okNodeP,h0,hA,hB,hD] <;> omega) (by simp [go_sem]) hrest
     ·by_cases hC:t.kind=1
      ·have h01:known 1=true:=rfl
       refine t_rg (j2 @h0 (j2 @hA (j2 @hB (j2 @hD (j2 @hC @h01))))) ?_
       repeat (first|refine z03 ?_|refine z01 ?_|refine z02 ?_|refine z04 rfl ?_)
       refine z0c [] (by simp [go_sem]) (by simp [go_sem,okNodeP,h0,hA,hB,hD,hC,h01] <;> omega) (by simp [go_sem]) hrest
      ·refine t_rg (j2 @h0 (j2 @hA (j2 @hB (j2 @hD @hC)))) ?_
       repeat (first|refine z03 ?_|refine z01 ?_|refine z02 ?_|refine z04 rfl ?_)
       refine z0c [] (by simp [go_sem]) (by simp [go_sem,okNodeP,h0,hA,hB,hD,hC] <;> omega) (by simp [go_sem]) hrest
   ·refine t_rg (j2 @h0 @hA) ?_
    repeat (first|refine z03 ?_|refine z01 ?_|refine z02 ?_|refine z04 rfl ?_)
    refine z0c [] (by simp [go_sem]) (by simp [go_sem,okNodeP,h0,hA] <;> omega) (by simp [go_sem]) hrest
  ·refine t_rg @h0 ?_
   repeat (first|refine z03 ?_|refine z01 ?_|refine z02 ?_|refine z04 rfl ?_)
   refine z0c [] (by simp [go_sem]) (by simp [go_sem,okNodeP,h0] <;> omega) (by simp [go_sem]) hrest
 ·rw [z13e]
  by_cases hok:okNode t=true
  ·have hk:tmKind t.kind t.index t.type t.args.length=tyOfKind t.kind t.type:=by
    simp only [okNode,Bool.and_eq_true,decide_eq_true_eq] at hok
    simp [tmKind,hok]
   refine t_n @hok ?_
   refine t_c1 trivial (z13c t.kind) ?_
   repeat (first|refine z0a ?_|refine z01 ?_|refine z03 ?_|refine z02 ?_)
   refine za6 (tyOfKind t.kind t.type=true) [(.loc 1,.row ([.v (dint t.kind),.v (dint t.index),.v (dint t.type.kind),.v (.sl (t.type.args.map Ty.cells)),.v (.sl (t.args.map Tm.cells))])),(.slot 1,.one (.loc 1 0))] ?_ ?_
   ·intro hrest
    by_cases k2:t.kind=2
    ·refine t_g @k2 ?_
     refine t_c1 trivial (z7z t.type (by omega)) ?_
     by_cases hc:t.type.checkN=0
     ·refine t_gt (wr []) @k2 (j2 @k2 @hc) (hrest (by simp [tyOfKind,k2,hc]))
     ·have hz:=no (by rw [hs,hk];simp [tyOfKind,k2,hc])
      refine t_g @hc ?_
      refine t_r ?_
      simp [go_sem,hP,hgl,hn,hz] <;> (try omega)
    by_cases k6:t.kind=6
    ·refine t_g @k6 ?_
     refine t_c1 trivial (z7z t.type (by omega)) ?_
     by_cases hc:t.type.checkN=0
     ·refine t_gt (wr []) @k6 (j2 @k6 @hc) (hrest (by simp [tyOfKind,k6,hc]))
     ·have hz:=no (by rw [hs,hk];simp [tyOfKind,k6,hc])
      refine t_g @hc ?_
      refine t_r ?_
      simp [go_sem,hP,hgl,hn,hz] <;> (try omega)
    by_cases k9:t.kind=9
    ·refine t_g @k9 ?_
     refine t_c1 trivial (z7z t.type (by omega)) ?_
     by_cases hc:t.type.checkN=0
     ·refine t_gt (wr []) @k9 (j2 @k9 @hc) (hrest (by simp [tyOfKind,k9,hc]))
     ·have hz:=no (by rw [hs,hk];simp [tyOfKind,k9,hc])
      refine t_g @hc ?_
      refine t_r ?_
      simp [go_sem,hP,hgl,hn,hz] <;> (try omega)
    refine t_g (j2 @k2 (j2 @k6 @k9)) ?_
    refine t_c1 trivial (z13d t.type) ?_
    by_cases hc:t.type.zero=true
    ·refine t_gt (wr []) trivial @hc (hrest (by simp [tyOfKind,k2,k6,k9,hc]))
    ·have hz:=no (by rw [hs,hk];simp [tyOfKind,k2,k6,k9,hc])
     refine t_g @hc ?_
     refine t_r ?_
     simp [go_sem,hP,hgl,hn,hz] <;> (try omega)
   ·intro hty
    refine t_g0 ?_
    refine t_a ?_
    refine z0c [] (by simp [go_sem]) (by simp [go_sem,Tm.count.counts] <;> omega) (by simp [go_sem]) (z35 (t.args) (fun done=>Tm.shape.shapes done=true) (fun done rest=>[(.slot 8,.one (.v (dint (1+Tm.count.counts done:Nat)))),(.slot 61,.one (.v (dint done.length))),(.slot 60,.one (.v (dint t.args.length))),(.slot 59,.one (.v (.sl (t.args.map Tm.cells))))]) (rfl) ?_ ?_)
    ·intro done x rest hL hg hI hnext
     have hlt:done.length<t.args.length:=by rw [hL];simp
     have hcx:Tm.count.counts t.args=Tm.count.counts done+(x.count+Tm.count.counts rest):=by rw [hL,Tm.counts_append];rfl
     rw [Tm.counts_append] at hnext
     refine z00 ?_
     refine z07 ?_
     refine t_rg @hg ?_
     by_cases hx:x.shape=true
     ·refine t_a ?_
      first|refine z05 [] fun K hK=>?_|refine z09 (by rw [hP];exact z08) [] fun K hK=>?_
      simp [go_sem,hP,hgl,hn,hg,Tm.nodesR,hx]
      repeat (refine ⟨by omega,?_⟩)
      first|refine z1u hP hgl (ih x (List.mem_of_getElem? hg) (ht2 x (List.mem_of_getElem? hg)) (by omega)) (by simp [go_sem,hP,hgl,hn,hg,Tm.nodesR,hx]) rfl (by simp [go_sem]) (by simp) (by rw [hn];exact Nat.le_of_ble_eq_true rfl) ?_|refine z1v (fun _ _=>z0l) hP hgl (ih x (List.mem_of_getElem? hg) (ht2 x (List.mem_of_getElem? hg)) (by omega)) (by simp [go_sem,hP,hgl,hn,hg,Tm.nodesR,hx]) rfl (by simp [go_sem]) (by simp) (by rw [hn];exact Nat.le_of_ble_eq_true rfl) ?_|refine z23 hP hgl (ih x (List.mem_of_getElem? hg) (ht2 x (List.mem_of_getElem? hg)) (by omega)) (by simp [go_sem,hP,hgl,hn,hg,Tm.nodesR,hx]) rfl (by simp [go_sem]) (by simp) (by rw [hn];exact Nat.le_of_ble_eq_true rfl) (by simp [go_sem];rfl) (by rw [hn];exact Nat.le_of_ble_eq_true rfl) (by simp [go_sem]) ?_|refine z24 (fun _ _=>z0l) hP hgl (ih x (List.mem_of_getElem? hg) (ht2 x (List.mem_of_getElem? hg)) (by omega)) (by simp [go_sem,hP,hgl,hn,hg,Tm.nodesR,hx]) rfl (by simp [go_sem]) (by simp) (by rw [hn];exact Nat.le_of_ble_eq_true rfl) (by simp [go_sem];rfl) (by rw [hn];exact Nat.le_of_ble_eq_true rfl) (by simp [go_sem]) ?_
      simp [go_sem,hP,hgl,hn,hg,Tm.nodesR,hx]
      refine t_e ?_
      clear hK K
      repeat (first|(refine z0c [] (by simp [go_sem]) (by simp [go_sem,Tm.count.counts] <;> omega) (by simp [go_sem]) (hnext (by rw [Tm.shapes_append];simp [hI,Tm.shape.shapes,hx])))|refine z0a ?_|refine z01 ?_|refine z0b ?_|refine z03 ?_|refine z02 ?_|refine z04 rfl ?_|((first|refine z05 [] fun K hK=>?_|refine z09 (by rw [hP];exact z08) [] fun K hK=>?_);simp [go_sem,hP,hgl,hn,hx];(repeat (refine ⟨by omega,?_⟩));(first|refine hK _ ?_|refine ⟨by rfl,hK _ ?_⟩);clear hK K)|refine z0f rfl (fun _=>?_) (fun hq=>False.elim (by first|(simp [hx];done)|(simp [hx];omega)|(simp [hx] at hq;done)|(simp [hx] at hq;omega)))|refine z0f rfl (fun hq=>False.elim (by first|(simp [hx];done)|(simp [hx];omega)|(simp [hx] at hq;done)|(simp [hx] at hq;omega))) (fun _=>?_))
     ·have hz:=no (by rw [hs,hL,Tm.shapes_append];simp [Tm.shape.shapes,hx])
      refine t_a ?_
      first|refine z05 [] fun K hK=>?_|refine z09 (by rw [hP];exact z08) [] fun K hK=>?_
      simp [go_sem,hP,hgl,hn,hg,Tm.nodesR,hx]
      repeat (refine ⟨by omega,?_⟩)
      first|refine z1u hP hgl (ih x (List.mem_of_getElem? hg) (ht2 x (List.mem_of_getElem? hg)) (by omega)) (by simp [go_sem,hP,hgl,hn,hg,Tm.nodesR,hx]) rfl (by simp [go_sem]) (by simp) (by rw [hn];exact Nat.le_of_ble_eq_true rfl) ?_|refine z1v (fun _ _=>z0l) hP hgl (ih x (List.mem_of_getElem? hg) (ht2 x (List.mem_of_getElem? hg)) (by omega)) (by simp [go_sem,hP,hgl,hn,hg,Tm.nodesR,hx]) rfl (by simp [go_sem]) (by simp) (by rw [hn];exact Nat.le_of_ble_eq_true rfl) ?_|refine z23 hP hgl (ih x (List.mem_of_getElem? hg) (ht2 x (List.mem_of_getElem? hg)) (by omega)) (by simp [go_sem,hP,hgl,hn,hg,Tm.nodesR,hx]) rfl (by simp [go_sem]) (by simp) (by rw [hn];exact Nat.le_of_ble_eq_true rfl) (by simp [go_sem];rfl) (by rw [hn];exact Nat.le_of_ble_eq_true rfl) (by simp [go_sem]) ?_|refine z24 (fun _ _=>z0l) hP hgl (ih x (List.mem_of_getElem? hg) (ht2 x (List.mem_of_getElem? hg)) (by omega)) (by simp [go_sem,hP,hgl,hn,hg,Tm.nodesR,hx]) rfl (by simp [go_sem]) (by simp) (by rw [hn];exact Nat.le_of_ble_eq_true rfl) (by simp [go_sem];rfl) (by rw [hn];exact Nat.le_of_ble_eq_true rfl) (by simp [go_sem]) ?_
      simp [go_sem,hP,hgl,hn,hg,Tm.nodesR,hx]
      refine t_e ?_
      clear hK K
      refine t_g @hx ?_
      refine t_r ?_
      simp [go_sem,hP,hgl,hn,hz] <;> (try omega)
    ·intro hI
     have hz:t.nodesR = .tup [dint t.count,dbool true]:=by simp [Tm.nodesR,hs,hk,hty,hI]
     refine z00 ?_
     refine t_no ?_
     refine t_g0 ?_
     refine t_r ?_
     simp [go_sem,hP,hgl,hn,hz,Tm.count_eq] <;> (try omega)
  ·have hk:tmKind t.kind t.index t.type t.args.length=false:=by
    simp only [okNode,Bool.and_eq_true,decide_eq_true_eq] at hok
    simp only [tmKind]
    cases hh:(decide ((t.args.length:Int)=arityI t.kind) && decide (0≤t.index) && (decide (t.kind=1) || decide (t.index=0))) with
    | true=>exact absurd (by simpa using hh) hok
    | false=>rfl
   have hz:=no (by rw [hs,hk];rfl)
   refine t_g @hok ?_
   refine t_r ?_
   simp [go_sem,hP,hgl,hn,hz] <;> (try omega)
end
section
variable {gl:Globs}
theorem z0s {l:List Int}{p:Nat}{n:Int}(h:p≤l.length):(nextD l p n).2≤l.length:=by
 unfold nextD
 split
 ·exact h
 ·split
  ·rename_i x hx
   have:=(List.getElem?_eq_some_iff.1 hx).1
   simp only;omega
  ·exact h
theorem z0y {l:List Int}{p:Nat}{n:Int}(h:1≤n):0≤(nextD l p n).1∧(nextD l p n).1<n:=by
 unfold nextD
 rw [if_neg (by omega)]
 split
 ·rename_i x hx
  have:=zgr x n h
  exact ⟨this.1,this.2.1⟩
 ·exact ⟨by simp,by simp;omega⟩
def Ty.plain:Ty→Prop
 | .mk k ts=>(k=3→ts.length=2)∧plains ts
where
 plains:List Ty→Prop
  | []=>True
  | t::r=>t.plain∧plains r
end
section
variable {gl:Globs}
theorem Val.fit_args {t:Val}(h:t.dv.fit):t.args.length≤2147483648:=((Val.fit_eq t).1 ((Val.dv_fit t).1 h)).2.2.2.1
theorem Val.fit_list {t:Val}(h:t.dv.fit):t.list.length≤2147483648:=((Val.fit_eq t).1 ((Val.dv_fit t).1 h)).2.2.1.1
theorem zae (k:Int)(l:List Tm):Con1 Tryz.prog gl 158 [dint k,.sl (l.map Tm.cells)] [] (Tm.mk k 0 (Ty.mk 0 []) l).dv []:=by
 refine t_in Tryz.func158 ?_
 intro X hP hgl hf hfn hn hR hids hfit
 refine z00 ?_
 refine z00 ?_
 refine t_r ?_
 simp [go_sem,hP,hgl,hn] <;> (try omega)
 all_goals exact t_f
def numTm:Nat→Tm
 | 0=>Tm.mk 4 0 (Ty.mk 0 []) []
 | n+1=>Tm.mk 5 0 (Ty.mk 0 []) [numTm n]
def sizeI (n:Int):Int:=min n 4096+1
def Val.okB (v:Val):Bool:=
 if v.kind=1 then decide (0≤v.num) && decide (v.list.length=0) && decide (v.args.length=0)
 else if v.kind=2 then decide (v.num=0) && !v.list.any (fun n=>decide (n<0)) && decide (v.args.length=0)
 else if v.kind=3 then decide (v.num=0) && decide (v.list.length=0) && decide (v.args.length=2)
 else if v.kind=4 then decide (v.num=0) && decide (v.list.length=0) && decide (v.args.length=0)
 else false
theorem z13f (n:Int):Con1 Tryz.prog gl 177 [dint n] [] (dbool (decide (n<0))) []:=by
 refine t_in Tryz.func177 ?_
 intro X hP hgl hf hfn hn hR hids hfit
 refine z00 ?_
 refine z00 ?_
 refine t_r ?_
 simp [go_sem,hP,hgl,hn] <;> (try omega)
abbrev fnv (f:Nat):DV:=.prim (.func (.func f) #[] #[])
def idxNeg (l:List Int):Int:=match l.findIdx? (fun n=>decide (n<0)) with
 | some k=>k
 | none=>-1
theorem z13g (l:List Int):Con1 Tryz.prog gl 180 [.sl (ints l),fnv 177] [] (dint (idxNeg l)) []:=by
 refine t_in Tryz.func180 ?_
 intro X hP hgl hf hfn hn hR hids hfit
 have hlen:l.length≤2147483648:=by simpa [ints] using z4d (hfit (.sl (ints l)) (by simp))
 refine z00 ?_
 refine z00 ?_
 refine t_a ?_
 refine z0e [] trivial (z2h (l.length) (fun i=>∀ (j:Nat) (x:Int),j<i→l[j]? = some x→0≤x) (fun i=>[(.slot 8,.one (.v (dint i))),(.slot 7,.one (.v (dint l.length))),(.slot 6,.one (.v (.sl (ints l)))),(.slot 0,.one (.v (.sl (ints l)))),(.slot 1,.one (.v (fnv 177)))]) (by intro j x h;omega) ?_ ?_)
 ·intro i hlt hI hnext
  obtain ⟨x,hx⟩:∃ x,l[i]? = some x:=⟨_,List.getElem?_eq_getElem hlt⟩
  have hg:=z3x hx
  refine z00 ?_
  refine z07 ?_
  refine z00 ?_
  refine t_a ?_
  first|refine z05 [] fun K hK=>?_|refine z09 (by rw [hP];exact z08) [] fun K hK=>?_
  refine t_s @hg ?_
  repeat (refine ⟨by omega,?_⟩)
  refine zxq hP hgl (z13f x) (by simp [go_sem]) (by simp [go_sem,hP,hgl,hn]) rfl (by simp [go_sem]) (by simp) (by rw [hn];exact Nat.le_of_ble_eq_true rfl) ?_
  simp [go_sem,hP,hgl,hn]
  refine t_e ?_
  clear hK K
  by_cases hneg:x<0
  ·refine t_a ?_
   refine z0f rfl ?_ ?_
   rotate_left
   ·intro h;simp [hneg] at h
   intro _
   refine z00 ?_
   refine t_r ?_
   simp [go_sem,hP,hgl,hn] <;> (try omega)
   unfold idxNeg
   have:l.findIdx? (fun n=>decide (n<0))=some i:=by
    rw [List.findIdx?_eq_some_iff_getElem]
    obtain ⟨h1,h2⟩:=List.getElem?_eq_some_iff.1 hx
    refine ⟨h1,by simp [h2,hneg],fun j hj=>?_⟩
    have:=hI j l[j] hj (List.getElem?_eq_getElem (by omega))
    simp;omega
   rw [this]
  ·refine t_a ?_
   refine z0f rfl ?_ ?_
   ·intro h;simp [hneg] at h
   intro _
   refine z00 ?_
   refine t_b ?_
   refine z0e [] trivial (hnext ?_)
   intro j y hj hy
   by_cases hji:j=i
   ·subst hji;rw [hx] at hy;cases hy;omega
   ·exact hI j y (by omega) hy
 ·intro hI
  refine z00 ?_
  refine t_no ?_
  refine z00 ?_
  refine t_r ?_
  simp [go_sem,hP,hgl,hn] <;> (try omega)
  unfold idxNeg
  have:l.findIdx? (fun n=>decide (n<0))=none:=by
   rw [List.findIdx?_eq_none_iff]
   intro x hx
   obtain ⟨i,hi,rfl⟩:=List.mem_iff_getElem.1 hx
   have:=hI i l[i] hi (List.getElem?_eq_getElem hi)
   simp;omega
  rw [this]
theorem z13h (l:List Int):Con1 Tryz.prog gl 178 [.sl (ints l),fnv 177] [] (dbool (l.any (fun n=>decide (n<0)))) []:=by
 refine t_in Tryz.func178 ?_
 intro X hP hgl hf hfn hn hR hids hfit
 refine z00 ?_
 refine t_a ?_
 first|refine z05 [] fun K hK=>?_|refine z09 (by rw [hP];exact z08) [] fun K hK=>?_
 refine t_s0 ?_
 refine t_c trivial (z13g l) ?_
 refine t_e ?_
 clear hK K
 refine t_r ?_
 simp [go_sem,hP,hgl,hn] <;> (try omega)
 unfold idxNeg
 cases h:l.findIdx? (fun n=>decide (n<0)) with
 | none=>
  rw [List.findIdx?_eq_none_iff] at h
  have:l.any (fun n=>decide (n<0))=false:=by
   rw [List.any_eq_false]
   intro x hx
   simp [h x hx]
  simp only [this]
  decide
 | some k=>
  obtain ⟨h1,h2,-⟩:=List.findIdx?_eq_some_iff_getElem.1 h
  have:l.any (fun n=>decide (n<0))=true:=by
   rw [List.any_eq_true]
   exact ⟨_,List.getElem_mem h1,h2⟩
  simp [this]
end
section
variable {gl:Globs}
def Val.nodesN:Val→Int × Bool
 | .mk k n l a=>nodesL a (1,Val.okB (.mk k n l a))
where
 nodesL:List Val→Int × Bool→Int × Bool
  | [],p=>p
  | a::r,p=>if p.2 then nodesL r (p.1+(Val.nodesN a).1,(Val.nodesN a).2) else p
theorem Val.nodesN_eq (v:Val):v.nodesN=nodesN.nodesL v.args (1,v.okB):=by cases v;simp [nodesN,args]
theorem Val.nodesL_no (l:List Val)(n:Int):nodesN.nodesL l (n,false)=(n,false):=by cases l <;> simp [nodesN.nodesL]
theorem Val.nodesL_append (l m:List Val)(p:Int × Bool):nodesN.nodesL (l++m) p=nodesN.nodesL m (nodesN.nodesL l p):=by
 induction l generalizing p with
 | nil=>simp [nodesN.nodesL]
 | cons a r ih=>
  obtain ⟨n,ok⟩:=p
  cases ok with
  | true=>simp [nodesN.nodesL,ih]
  | false=>simp [nodesL_no]
def Val.count:Val→Nat
 | .mk _ _ _ a=>1+counts a
where
 counts:List Val→Nat
  | []=>0
  | a::r=>a.count+counts r
theorem Val.count_eq (t:Val):t.count=1+Val.count.counts t.args:=by cases t;simp [count,args]
theorem Val.counts_append (l m:List Val):Val.count.counts (l++m)=Val.count.counts l+Val.count.counts m:=by
 induction l with
 | nil=>simp [Val.count.counts]
 | cons a r ih=>simp [Val.count.counts,ih];omega
theorem Val.nodesL_le {v:Val}(ih:∀ a ∈ v.args,0≤a.nodesN.1∧a.nodesN.1≤a.count)(l:List Val):(∀ a ∈ l,a ∈ v.args)→∀ (n:Int) (ok:Bool),n≤(nodesN.nodesL l (n,ok)).1∧(nodesN.nodesL l (n,ok)).1≤n+Val.count.counts l:=by
 induction l with
 | nil=>intro _ n ok;simp [nodesN.nodesL,Val.count.counts]
 | cons a r ihr=>
  intro h n ok
  have h1:=ih a (h a (by simp))
  cases ok with
  | false=>simp [nodesL_no,Val.count.counts];omega
  | true=>
   have h2:=ihr (fun b hb=>h b (List.mem_cons_of_mem _ hb)) (n+a.nodesN.1) a.nodesN.2
   simp only [nodesN.nodesL,if_true,Val.count.counts]
   omega
theorem Val.nodes_le (v:Val):0≤v.nodesN.1∧v.nodesN.1≤v.count:=by
 induction v using Val.ind with
 | h v ih=>
 have:=Val.nodesL_le ih v.args (fun _ h=>h) 1 v.okB
 rw [nodesN_eq,count_eq]
 omega
theorem z13i (v:Val)(hc:v.count≤2147483648):Con1 Tryz.prog gl 174 [v.dv] [] (.tup [dint v.nodesN.1,dbool v.nodesN.2]) []:=by
 induction v using Val.ind with
 | h v ih=>
 refine t_in Tryz.func174 ?_
 intro X hP hgl hf hfn hn hR hids hfit
 have hl1:=Val.fit_args (hfit v.dv (by simp))
 have hl2:=Val.fit_list (hfit v.dv (by simp))
 rw [Val.count_eq] at hc
 refine z00 ?_
 refine z00 ?_
 refine z00 ?_
 refine z00 ?_
 repeat (first|refine z0a ?_|refine z01 ?_|refine z03 ?_|refine z02 ?_)
 refine zce [(.slot 5,.one (.v (dbool v.okB))),(.loc 1,.row ([.v (dint v.kind),.v (dint v.num),.v (.sl (ints v.list)),.v (.sl (v.args.map Val.cells))])),(.slot 1,.one (.loc 1 0))] ?_ ?_
 ·intro hrest
  by_cases h1:v.kind=1
  ·refine t_rg @h1 ?_
   refine z07 ?_
   by_cases q1:0≤v.num
   ·by_cases q2:v.list.length=0
    ·refine t_rg (j2 @h1 (j2 @q1 @q2)) ?_
     repeat (first|refine z03 ?_|refine z01 ?_|refine z02 ?_|refine z04 rfl ?_)
     refine z0c [] (by simp [go_sem]) (by simp [go_sem,Val.okB,h1,q1,q2] <;> omega) (by simp [go_sem]) hrest
    ·refine t_rg (j2 @h1 (j2 @q1 @q2)) ?_
     repeat (first|refine z03 ?_|refine z01 ?_|refine z02 ?_|refine z04 rfl ?_)
     refine z0c [] (by simp [go_sem]) (by simp [go_sem,Val.okB,h1,q1,q2] <;> omega) (by simp [go_sem]) hrest
   ·refine t_rg (j2 @h1 @q1) ?_
    repeat (first|refine z03 ?_|refine z01 ?_|refine z02 ?_|refine z04 rfl ?_)
    refine z0c [] (by simp [go_sem]) (by simp [go_sem,Val.okB,h1,q1] <;> omega) (by simp [go_sem]) hrest
  by_cases h2:v.kind=2
  ·refine t_rg @h2 ?_
   refine t_no ?_
   refine t_rg @h2 ?_
   refine z07 ?_
   by_cases q1:v.num=0
   ·refine t_a ?_
    first|refine z05 [] fun K hK=>?_|refine z09 (by rw [hP];exact z08) [] fun K hK=>?_
    refine t_s (j2 @h2 @q1) ?_
    refine t_c trivial (z13h v.list) ?_
    by_cases q2:v.list.any (fun n=>decide (n<0))=true
    ·simp [go_sem,hP,hn,q2]
     refine t_e ?_
     clear hK K
     repeat (first|refine z03 ?_|refine z01 ?_|refine z02 ?_|refine z04 rfl ?_)
     refine z0c [] (by simp [go_sem]) (by simp [go_sem,Val.okB,h2,q1,q2] <;> omega) (by simp [go_sem]) hrest
    ·simp only [Bool.not_eq_true] at q2
     simp [go_sem,hP,hn,q2]
     refine t_e ?_
     clear hK K
     repeat (first|refine z03 ?_|refine z01 ?_|refine z02 ?_|refine z04 rfl ?_)
     refine z0c [] (by simp [go_sem]) (by simp [go_sem,Val.okB,h2,q1,q2] <;> omega) (by simp [go_sem]) hrest
   ·refine t_rg (j2 @h2 @q1) ?_
    repeat (first|refine z03 ?_|refine z01 ?_|refine z02 ?_|refine z04 rfl ?_)
    refine z0c [] (by simp [go_sem]) (by simp [go_sem,Val.okB,h2,q1] <;> omega) (by simp [go_sem]) hrest
  by_cases h3:v.kind=3
  ·refine t_rg @h3 ?_
   refine t_no ?_
   refine t_rg @h3 ?_
   refine t_no ?_
   refine t_rg @h3 ?_
   refine z07 ?_
   by_cases q1:v.num=0
   ·by_cases q2:v.list.length=0
    ·refine t_rg (j2 @h3 (j2 @q1 @q2)) ?_
     repeat (first|refine z03 ?_|refine z01 ?_|refine z02 ?_|refine z04 rfl ?_)
     refine z0c [] (by simp [go_sem]) (by simp [go_sem,Val.okB,h3,q1,q2] <;> omega) (by simp [go_sem]) hrest
    ·refine t_rg (j2 @h3 (j2 @q1 @q2)) ?_
     repeat (first|refine z03 ?_|refine z01 ?_|refine z02 ?_|refine z04 rfl ?_)
     refine z0c [] (by simp [go_sem]) (by simp [go_sem,Val.okB,h3,q1,q2] <;> omega) (by simp [go_sem]) hrest
   ·refine t_rg (j2 @h3 @q1) ?_
    repeat (first|refine z03 ?_|refine z01 ?_|refine z02 ?_|refine z04 rfl ?_)
    refine z0c [] (by simp [go_sem]) (by simp [go_sem,Val.okB,h3,q1] <;> omega) (by simp [go_sem]) hrest
  by_cases h4:v.kind=4
  ·refine t_rg @h4 ?_
   refine t_no ?_
   refine t_rg @h4 ?_
   refine t_no ?_
   refine t_rg @h4 ?_
   refine t_no ?_
   refine t_rg @h4 ?_
   refine z07 ?_
   by_cases q1:v.num=0
   ·by_cases q2:v.list.length=0
    ·refine t_rg (j2 @h4 (j2 @q1 @q2)) ?_
     repeat (first|refine z03 ?_|refine z01 ?_|refine z02 ?_|refine z04 rfl ?_)
     refine z0c [] (by simp [go_sem]) (by simp [go_sem,Val.okB,h4,q1,q2] <;> omega) (by simp [go_sem]) hrest
    ·refine t_rg (j2 @h4 (j2 @q1 @q2)) ?_
     repeat (first|refine z03 ?_|refine z01 ?_|refine z02 ?_|refine z04 rfl ?_)
     refine z0c [] (by simp [go_sem]) (by simp [go_sem,Val.okB,h4,q1,q2] <;> omega) (by simp [go_sem]) hrest
   ·refine t_rg (j2 @h4 @q1) ?_
    repeat (first|refine z03 ?_|refine z01 ?_|refine z02 ?_|refine z04 rfl ?_)
    refine z0c [] (by simp [go_sem]) (by simp [go_sem,Val.okB,h4,q1] <;> omega) (by simp [go_sem]) hrest
  refine t_rg @h1 ?_
  refine t_no ?_
  refine t_rg @h2 ?_
  refine t_no ?_
  refine t_rg @h3 ?_
  refine t_no ?_
  refine t_rg @h4 ?_
  refine t_no ?_
  repeat (first|refine z03 ?_|refine z01 ?_|refine z02 ?_|refine z04 rfl ?_)
  refine z0c [] (by simp [go_sem]) (by simp [go_sem,Val.okB,h1,h2,h3,h4] <;> omega) (by simp [go_sem]) hrest
 ·refine z00 ?_
  refine z00 ?_
  refine t_a ?_
  refine z0c [] (by simp [go_sem]) (by simp [go_sem,Val.nodesN.nodesL] <;> omega) (by simp [go_sem]) (z1z (v.args) (fun done rest=>[(.slot 84,.one (.v (dint done.length))),(.slot 83,.one (.v (dint v.args.length))),(.slot 82,.one (.v (.sl (v.args.map Val.cells)))),(.slot 6,.one (.v (dint (Val.nodesN.nodesL done (1,v.okB)).1))),(.slot 5,.one (.v (dbool (Val.nodesN.nodesL done (1,v.okB)).2)))]) ?_ ?_)
  ·intro done x rest hL hg hnext
   have hlt:done.length<v.args.length:=by rw [hL];simp
   have hcx:Val.count.counts v.args=Val.count.counts done+(x.count+Val.count.counts rest):=by rw [hL,Val.counts_append];rfl
   have hb:=Val.nodesL_le (v:=v) (fun a _=>Val.nodes_le a) done (fun a ha=>by rw [hL];simp [ha]) 1 v.okB
   have hx:=Val.nodes_le x
   obtain ⟨n,ok,hp⟩:∃ n ok,Val.nodesN.nodesL done (1,v.okB)=(n,ok):=⟨_,_,rfl⟩
   rw [hp] at hb
   simp only [Val.nodesL_append,hp] at hnext ⊢
   refine z00 ?_
   refine z07 ?_
   refine t_rg @hg ?_
   cases ok with
   | false=>
    refine z00 ?_
    refine z07 ?_
    refine z00 ?_
    refine t_r ?_
    simp [go_sem,hP,hgl,hn,Val.nodesN_eq,hL,Val.nodesL_append,hp,Val.nodesL_no] <;> (try omega)
   | true=>
    refine z00 ?_
    refine t_no ?_
    refine z00 ?_
    refine t_a ?_
    first|refine z05 [] fun K hK=>?_|refine z09 (by rw [hP];exact z08) [] fun K hK=>?_
    refine t_s0 ?_
    refine t_c trivial (ih x (List.mem_of_getElem? hg) (by omega)) ?_
    refine t_e ?_
    clear hK K
    refine z00 ?_
    refine z00 ?_
    repeat (first|refine z03 ?_|refine z01 ?_|refine z02 ?_|refine z04 rfl ?_)
    refine z0c [] (by simp [go_sem]) (by simp [go_sem,Val.nodesN.nodesL] <;> omega) (by simp [go_sem]) hnext
  ·refine z00 ?_
   refine t_no ?_
   refine z00 ?_
   refine t_r ?_
   simp [go_sem,hP,hgl,hn,Val.nodesN_eq] <;> (try omega)
theorem z13j (v:Val)(hc:v.count≤2147483648):Con1 Tryz.prog gl 159 [v.dv] [] (dint (if v.nodesN.2=true then if v.nodesN.1 > 64 then 4 else 0 else 2)) []:=by
 refine t_in Tryz.func159 ?_
 intro X hP hgl hf hfn hn hR hids hfit
 refine z00 ?_
 refine t_a ?_
 first|refine z05 [] fun K hK=>?_|refine z09 (by rw [hP];exact z08) [] fun K hK=>?_
 refine t_s0 ?_
 refine t_c trivial (z13i v hc) ?_
 refine t_e ?_
 clear hK K
 obtain ⟨n,ok,hp⟩:∃ n ok,v.nodesN=(n,ok):=⟨_,_,rfl⟩
 simp only [hp]
 cases ok with
 | false=>
  refine z00 ?_
  refine z07 ?_
  refine z00 ?_
  refine t_r ?_
  simp [go_sem,hP,hgl,hn,hp] <;> (try omega)
 | true=>
  refine z00 ?_
  refine t_no ?_
  by_cases h:64<n
  ·refine t_rg @h ?_
   refine z07 ?_
   refine z00 ?_
   refine t_r ?_
   simp [go_sem,hP,hgl,hn,hp,h] <;> (try omega)
  ·refine t_rg @h ?_
   refine t_no ?_
   refine z00 ?_
   refine t_r ?_
   simp [go_sem,hP,hgl,hn,hp,h] <;> (try omega)
end
section
variable {gl:Globs}
theorem z13k (har:globOf gl 0=some arEls)(t:Tm)(ht:t.tys)(hc:t.count≤2147483648):Con1 Tryz.prog gl 119 [t.dv] [] (.tup [dint (if t.checkN=0 then t.count else 0:Nat),dint t.checkN]) []:=by
 refine t_in Tryz.func119 ?_
 intro X hP hgl hf hfn hn hR hids hfit
 refine t_g0 ?_
 by_cases h:t.shape=true
 ·refine t_a ?_
  first|refine z05 [] fun K hK=>?_|refine z09 (by rw [hP];exact z08) [] fun K hK=>?_
  simp [go_sem,hP,hgl,hn,Tm.nodesR,h]
  repeat (refine ⟨by omega,?_⟩)
  first|refine z1u hP hgl (z4t har t ht hc) (by simp [go_sem,hP,hgl,hn,Tm.nodesR,h]) rfl (by simp [go_sem]) (by simp) (by rw [hn];exact Nat.le_of_ble_eq_true rfl) ?_|refine z1v (fun _ _=>z0l) hP hgl (z4t har t ht hc) (by simp [go_sem,hP,hgl,hn,Tm.nodesR,h]) rfl (by simp [go_sem]) (by simp) (by rw [hn];exact Nat.le_of_ble_eq_true rfl) ?_|refine z23 hP hgl (z4t har t ht hc) (by simp [go_sem,hP,hgl,hn,Tm.nodesR,h]) rfl (by simp [go_sem]) (by simp) (by rw [hn];exact Nat.le_of_ble_eq_true rfl) (by simp [go_sem];rfl) (by rw [hn];exact Nat.le_of_ble_eq_true rfl) (by simp [go_sem]) ?_|refine z24 (fun _ _=>z0l) hP hgl (z4t har t ht hc) (by simp [go_sem,hP,hgl,hn,Tm.nodesR,h]) rfl (by simp [go_sem]) (by simp) (by rw [hn];exact Nat.le_of_ble_eq_true rfl) (by simp [go_sem];rfl) (by rw [hn];exact Nat.le_of_ble_eq_true rfl) (by simp [go_sem]) ?_
  simp [go_sem,hP,hgl,hn,Tm.nodesR,h]
  refine t_e ?_
  clear hK K
  by_cases h2:4096<t.count
  ·refine t_g (j2 @h @h2) ?_
   refine t_r ?_
   simp [go_sem,hP,hgl,hn,Tm.checkN,h,h2] <;> (try omega)
  ·refine t_g (j2 @h @h2) ?_
   refine t_r ?_
   simp [go_sem,hP,hgl,hn,Tm.checkN,h,h2] <;> (try omega)
 ·refine t_a ?_
  first|refine z05 [] fun K hK=>?_|refine z09 (by rw [hP];exact z08) [] fun K hK=>?_
  simp [go_sem,hP,hgl,hn,Tm.nodesR,h]
  repeat (refine ⟨by omega,?_⟩)
  first|refine z1u hP hgl (z4t har t ht hc) (by simp [go_sem,hP,hgl,hn,Tm.nodesR,h]) rfl (by simp [go_sem]) (by simp) (by rw [hn];exact Nat.le_of_ble_eq_true rfl) ?_|refine z1v (fun _ _=>z0l) hP hgl (z4t har t ht hc) (by simp [go_sem,hP,hgl,hn,Tm.nodesR,h]) rfl (by simp [go_sem]) (by simp) (by rw [hn];exact Nat.le_of_ble_eq_true rfl) ?_|refine z23 hP hgl (z4t har t ht hc) (by simp [go_sem,hP,hgl,hn,Tm.nodesR,h]) rfl (by simp [go_sem]) (by simp) (by rw [hn];exact Nat.le_of_ble_eq_true rfl) (by simp [go_sem];rfl) (by rw [hn];exact Nat.le_of_ble_eq_true rfl) (by simp [go_sem]) ?_|refine z24 (fun _ _=>z0l) hP hgl (z4t har t ht hc) (by simp [go_sem,hP,hgl,hn,Tm.nodesR,h]) rfl (by simp [go_sem]) (by simp) (by rw [hn];exact Nat.le_of_ble_eq_true rfl) (by simp [go_sem];rfl) (by rw [hn];exact Nat.le_of_ble_eq_true rfl) (by simp [go_sem]) ?_
  simp [go_sem,hP,hgl,hn,Tm.nodesR,h]
  refine t_e ?_
  clear hK K
  refine t_g @h ?_
  refine t_r ?_
  simp [go_sem,hP,hgl,hn,Tm.checkN,h] <;> (try omega)
theorem zaf (har:globOf gl 0=some arEls)(t:Tm)(ht:t.tys)(hc:t.count≤2147483648):Con1 Tryz.prog gl 71 [t.dv] [] (dint t.checkN) []:=by
 refine t_in Tryz.func71 ?_
 intro X hP hgl hf hfn hn hR hids hfit
 refine t_g0 ?_
 refine t_c1 trivial (z13k har t ht hc) ?_
 refine t_g0 ?_
 refine t_r ?_
 simp [go_sem,hP,hgl,hn] <;> (try omega)
def zeroV:Val:=Val.mk 0 0 [] []
end
section
variable {gl:Globs}
theorem z13l:Con1 Tryz.prog gl 171 [] [] (Ty.mk 2 []).dv []:=by
 refine t_in Tryz.func171 ?_
 intro X hP hgl hf hfn hn hR hids hfit
 refine t_g0 ?_
 refine t_r ?_
 simp [go_sem,hP,hgl,hn] <;> (try omega)
 all_goals exact t_f
theorem z6o:Con1 Tryz.prog gl 170 [] [] (Ty.mk 1 []).dv []:=by
 refine t_in Tryz.func170 ?_
 intro X hP hgl hf hfn hn hR hids hfit
 refine t_g0 ?_
 refine t_r ?_
 simp [go_sem,hP,hgl,hn] <;> (try omega)
 all_goals exact t_f
def Val.tyN:Val→Ty
 | .mk k _ _ a=>if k=2 then Ty.mk 2 [] else if k=4 then Ty.mk 5 [] else if k=3 then Ty.mk 3 (tys a) else Ty.mk 1 []
where
 tys:List Val→List Ty
  | []=>[]
  | a::r=>a.tyN::tys r
theorem Val.tys_map (l:List Val):tyN.tys l=l.map Val.tyN:=by
 induction l with
 | nil=>rfl
 | cons a r ih=>simp [tyN.tys,ih]
theorem Val.tyN_eq (v:Val):v.tyN=if v.kind=2 then Ty.mk 2 [] else if v.kind=4 then Ty.mk 5 [] else if v.kind=3 then Ty.mk 3 (v.args.map Val.tyN) else Ty.mk 1 []:=by
 cases v;rw [tyN,tys_map];rfl
end
section
variable {gl:Globs}
def lenL:List Int→Int→Int × Bool
 | [],n=>(n,false)
 | x::r,n=>if 4096<n+(1+sizeI x) then (n+(1+sizeI x),true) else lenL r (n+(1+sizeI x))
def Val.lengthN:Val→Int
 | .mk k n l a=>
  if k=1 then lengths a (sizeI n)
  else if k=2 then (if (lenL l 1).2=true then (lenL l 1).1 else lengths a (lenL l 1).1)
  else lengths a 1
where
 lengths:List Val→Int→Int
  | [],n=>n
  | a::r,n=>lengths r (n+a.lengthN)
def Val.pos (v:Val):Prop:=0≤v.num∧∀ n ∈ v.list,(0:Int)≤n
def Val.allPos:Val→Prop
 | .mk k n l a=>Val.pos (.mk k n l a)∧poss a
where
 poss:List Val→Prop
  | []=>True
  | a::r=>a.allPos∧poss r
theorem Val.poss_iff (l:List Val):allPos.poss l↔∀ a ∈ l,a.allPos:=by
 induction l with
 | nil=>simp [allPos.poss]
 | cons a r ih=>simp [allPos.poss,ih]
theorem Val.allPos_eq (v:Val):v.allPos↔v.pos∧∀ a ∈ v.args,a.allPos:=by
 cases v;simp only [allPos,poss_iff,args]
def Val.head (v:Val):Int:=if v.kind=1 then sizeI v.num else if v.kind=2 then (lenL v.list 1).1 else 1
end
section
variable {gl:Globs}
theorem z13m (l:List Int):Con Tryz.prog gl 161 [.sl (ints l)] [] fun r φ=>∃ b,r = .prim (.func (.func 175) #[] #[.pointer (some ⟨b,0,none⟩)])∧φ=[(b,[.sl (ints l)])]:=by
 refine t_in Tryz.func161 ?_
 intro X hP hgl hf hfn hn hR hids hfit
 refine z00 ?_
 refine z2w 1 (by simp [go_sem];rfl) ?_
 intro b hb
 simp [go_sem]
 refine z00 ?_
 refine t_a ?_
 refine z0k hP hf hfn (.prim (.func (.func 175) #[] #[.pointer (some ⟨b,0,none⟩)])) [(b,[.sl (ints l)])] (by simp [go_sem,hP,hgl,hn]) (by simp [go_sem]) (by simp) (by rw [hR.1];exact ⟨b,rfl,rfl⟩) hR.2
def BackY (P:Program)(gl:Globs)(l:List Int)(φ:Nat→Objs)(Stop:Objs→Loop→Prop)(lp:Nat)(r:Loop)(D0:Nat→Nat→Prop)(w0:World):Prop:=
 ∀ (i:Nat) (x:Int),l[i]? = some x→YC P gl D0 w0 lp r [dint i,dint x] (φ (i+1)) fun b φ' r'=>if b=true then φ' = φ i∧r' = r else Stop φ' r'
theorem z13n (l:List Int)(hlen:l.length≤2147483648)(b0:Nat)(φ:Nat→Objs)(hφ:∀ i,(φ i).map (·.1)=(φ 0).map (·.1))(hnd:((φ 0).map (·.1)).Nodup)(hb0:b0 ∉ (φ 0).map (·.1)){Stop:Objs→Loop→Prop}(hStop:∀ ψ r',Stop ψ r'→ψ.map (·.1)=(φ 0).map (·.1))(lp:Nat)(r:Loop)(hps:r.params.size=2) :
  ItC Tryz.prog gl 175 [.prim (.func (.yield lp) #[] #[]),ptr b0] ((b0,[.sl (ints l)])::φ l.length) lp r (BackY Tryz.prog gl l φ Stop lp r) (fun φ' r'=>(φ' = (b0,[.sl (ints l)])::φ 0∧r' = r)∨∃ ψ,φ' = (b0,[.sl (ints l)])::ψ∧Stop ψ r'):=by
 refine zcf Tryz.func175 rfl (by kernel_rfl) (Nat.le_of_ble_eq_true rfl) ?_
 intro X hP hgl hf hfn hn hmd hids hfit hlp hY
 simp only [List.map_cons,List.mem_cons,not_or,hφ] at hlp
 obtain ⟨hlb,hlφ⟩:=hlp
 have hin:∀ (i:Nat) (A:St),(∀ m v,(m,v) ∈ A→∀ b ∈ (φ 0).map (·.1),m ≠ .heap b)→objsIn (get (A++heapSt (φ i))) (φ i):=fun i A h=>zcj (by rw [hφ];exact hnd) (by rw [hφ];exact h)
 simp only [entryL,entry,argSt,heapSt,List.map_cons,List.map_nil,List.cons_append,List.nil_append]
 refine t_rg @hlb ?_
 refine t_a ?_
 refine zaa (A':=[(.slot 3,.one (.v (dint ((l.length:Int) - 1 - (0:Nat))))),(.slot 0,.one (.v (.prim (.func (.yield lp) #[] #[])))),(.slot 1,.one (.v (ptr b0))),(.heap lp,.ob r),(.heap b0,.row [.v (.sl (ints l))])]) (A:=[_,_,_,_,_,_,_,_]) ?_ ?_ ?_
 ·intro m v h
  simp only [List.mem_cons,List.not_mem_nil,or_false,Prod.mk.injEq] at h
  rcases h with ⟨rfl,rfl⟩|⟨rfl,rfl⟩|⟨rfl,rfl⟩|⟨rfl,rfl⟩|⟨rfl,rfl⟩ <;> simp [go_sem,hlb]
 ·simp only [List.cons_append,List.nil_append]
  refine z2h (X:=X) l.length (fun _=>True) (fun j=>(.slot 3,.one (.v (dint ((l.length:Int) - 1 - (j:Nat)))))::(.slot 0,.one (.v (.prim (.func (.yield lp) #[] #[]))))::(.slot 1,.one (.v (ptr b0)))::(.heap lp,.ob r)::(.heap b0,.row [.v (.sl (ints l))])::heapSt (φ (l.length - j))) trivial ?_ ?_
  ·intro j hj _ hnext
   obtain ⟨i,hi⟩:∃ i:Nat,l.length=j+1+i:=⟨l.length - (j+1),by omega⟩
   have hi1:(l.length:Int) - 1 - (j:Nat)=(i:Nat):=by omega
   have hi2:l.length - j=i+1:=by omega
   have hi3:l.length - (j+1)=i:=by omega
   have hx:l[i]? = some l[i]:=List.getElem?_eq_getElem (by omega)
   rw [hi1,hi2]
   rw [hi3] at hnext
   generalize l[i]=x at hx
   have hgi:=z3x hx
   refine z00 ?_
   refine z07 ?_
   refine t_a ?_
   first|refine z05 [] fun K hK=>?_|refine z09 (by rw [hP];exact z08) [] fun K hK=>?_
   refine t_s (j2 @hlb @hgi) ?_
   repeat (refine ⟨by omega,?_⟩)
   refine zci (by simp [go_sem]) hP hgl (hY i x hx) hps (by simp [go_sem]) rfl ?_ (by rw [hφ];exact hnd) (by simp [go_sem]) (by rw [hn];exact Nat.le_of_ble_eq_true rfl) [(.slot 3,.one (.v (dint (i:Nat)))),(.slot 0,.one (.v (.prim (.func (.yield lp) #[] #[])))),(.slot 1,.one (.v (ptr b0))),(.heap b0,.row [.v (.sl (ints l))])] ?_ ?_ ?_
   ·repeat (first|refine z6i ?_|refine z6j (by rw [hφ];assumption) ?_)
    exact z4r (by rw [hφ];exact hnd)
   ·intro m v h
    simp only [List.mem_cons,List.not_mem_nil,or_false,Prod.mk.injEq] at h
    rw [hφ]
    rcases h with ⟨rfl,rfl⟩|⟨rfl,rfl⟩|⟨rfl,rfl⟩|⟨rfl,rfl⟩
    ·simp [go_sem]
    ·simp [go_sem]
    ·simp [go_sem]
    ·refine ⟨by simp [go_sem,hlb],by simp,by simp;exact fun e=>hlb e.symm,fun b hb e=>?_⟩
     cases e;exact hb0 hb
   ·intro b φ' r' h
    have:φ'.map (·.1)=(φ 0).map (·.1):=by
     split at h
     ·rw [h.1,hφ]
     ·exact hStop _ _ h
    rw [this]
    exact ⟨hnd,hlφ⟩
   ·intro b φ' r' h _
    simp only [List.cons_append,List.nil_append]
    cases b with
    | true=>
     simp only [if_true] at h
     obtain ⟨rfl,rfl⟩:=h
     simp [go_sem,hP,hgl,hn]
     refine t_e ?_
     clear hK K
     refine t_no ?_
     refine z00 ?_
     refine t_a ?_
     refine zaa (A':=[(.slot 3,.one (.v (dint ((l.length:Int) - 1 - (j+1:Nat))))),(.slot 0,.one (.v (.prim (.func (.yield lp) #[] #[])))),(.slot 1,.one (.v (ptr b0))),(.heap lp,.ob r'),(.heap b0,.row [.v (.sl (ints l))])]) (A:=[_,_,_,_,_,_,_,_,_]) ?_ (hnext trivial) ?_
     ·intro m v h
      simp only [List.mem_cons,List.not_mem_nil,or_false,Prod.mk.injEq] at h
      rcases h with ⟨rfl,rfl⟩|⟨rfl,rfl⟩|⟨rfl,rfl⟩|⟨rfl,rfl⟩|⟨rfl,rfl⟩ <;> simp [go_sem,hlb]
      omega
     ·intro m v h
      simp only [List.mem_cons,List.not_mem_nil,or_false,Prod.mk.injEq] at h
      rw [hφ]
      intro b hb
      rcases h with ⟨rfl,rfl⟩|⟨rfl,rfl⟩|⟨rfl,rfl⟩|⟨rfl,rfl⟩|⟨rfl,rfl⟩|⟨rfl,rfl⟩|⟨rfl,rfl⟩|⟨rfl,rfl⟩|⟨rfl,rfl⟩ <;> first|(simp;done)|(intro e;cases e;first|exact hb0 hb|exact hlφ hb)
    | false=>
     simp only [Bool.false_eq_true,if_false] at h
     have hids':=hStop _ _ h
     simp [go_sem,hP,hgl,hn]
     refine t_e ?_
     clear hK K
     refine z07 ?_
     refine t_a ?_
     refine z7l hmd (φ:=(b0,[.sl (ints l)])::φ') (q:=r') (r:=.tup []) (by rw [hP,hf,hfn];exact Tryz.func175) (by rw [hfn];simp [go_sem]) (z0v ?_ ?_) ?_ ?_ (.inr ⟨φ',rfl,h⟩) zc1
     ·simp [go_sem,hlb]
     ·repeat (first|refine z6i ?_|refine z6j (by rw [hids'];assumption) ?_)
      exact z4r (by rw [hids'];exact hnd)
     ·simp only [List.map_cons,List.nodup_cons,hids'];exact ⟨hb0,hnd⟩
     ·simp [go_sem,hlb]
  ·intro _
   refine z00 ?_
   refine t_no ?_
   refine t_a ?_
   refine z7l hmd (φ:=(b0,[.sl (ints l)])::φ 0) (q:=r) (r:=.tup []) (by rw [hP,hf,hfn];exact Tryz.func175) (by rw [hfn];simp [go_sem]) (z0v ?_ ?_) ?_ ?_ (.inl ⟨rfl,rfl⟩) z9v
   ·simp [go_sem,hlb]
   ·repeat (first|refine z6i ?_|refine z6j (by assumption) ?_)
    exact z4r hnd
   ·simp only [List.map_cons,List.nodup_cons];exact ⟨hb0,hnd⟩
   ·simp [go_sem,hlb]
 ·intro m v h
  simp only [List.mem_cons,List.not_mem_nil,or_false,Prod.mk.injEq] at h
  rw [hφ]
  intro b hb
  rcases h with ⟨rfl,rfl⟩|⟨rfl,rfl⟩|⟨rfl,rfl⟩|⟨rfl,rfl⟩|⟨rfl,rfl⟩|⟨rfl,rfl⟩|⟨rfl,rfl⟩|⟨rfl,rfl⟩ <;> first|(simp;done)|(intro e;cases e;first|exact hb0 hb|exact hlφ hb)
end
section
variable {gl:Globs}
def listTm (l:List Int):Tm:=l.foldr (fun x t=>Tm.mk 8 0 (Ty.mk 0 []) [numTm x.toNat,t]) (Tm.mk 7 0 (Ty.mk 0 []) [])
def Val.termN:Val→Tm
 | .mk k n l a=>
  if k=2 then listTm l else if k=4 then Tm.mk 13 0 (Ty.mk 0 []) [] else if k=3 then Tm.mk 10 0 (Ty.mk 0 []) (terms a) else numTm n.toNat
where
 terms:List Val→List Tm
  | []=>[]
  | a::r=>a.termN::terms r
def Val.two:Val→Prop
 | .mk k _ _ a=>(k=3→a.length=2)∧twos a
where
 twos:List Val→Prop
  | []=>True
  | a::r=>a.two∧twos r
theorem Val.twos_iff (l:List Val):two.twos l↔∀ a ∈ l,a.two:=by
 induction l with
 | nil=>simp [two.twos]
 | cons a r ih=>simp [two.twos,ih]
theorem Val.two_eq (v:Val):v.two↔(v.kind=3→v.args.length=2)∧∀ a ∈ v.args,a.two:=by
 cases v;simp only [two,twos_iff,kind,args]
end
section
variable {gl:Globs}
theorem Val.nodesL_ok {l:List Val}{n:Int}{ok:Bool}(h:(nodesN.nodesL l (n,ok)).2=true):ok=true∧∀ a ∈ l,a.nodesN.2=true:=by
 induction l generalizing n ok with
 | nil=>simp [nodesN.nodesL] at h;exact ⟨h,by simp⟩
 | cons a r ih=>
  cases ok with
  | false=>rw [nodesL_no] at h;cases h
  | true=>
   simp only [nodesN.nodesL,if_true] at h
   obtain ⟨h1,h2⟩:=ih h
   exact ⟨rfl,by simpa using ⟨h1,h2⟩⟩
theorem Val.ok_all (v:Val)(h:v.nodesN.2=true):v.allPos∧v.two:=by
 induction v using Val.ind with
 | h v ih=>
 rw [nodesN_eq] at h
 obtain ⟨h1,h2⟩:=nodesL_ok h
 rw [allPos_eq,two_eq]
 have hpos:v.pos∧(v.kind=3→v.args.length=2):=by
  unfold okB at h1
  unfold pos
  split at h1
  ·rename_i hk
   simp at h1
   simp [hk,h1]
  ·split at h1
   ·rename_i hk
    simp at h1
    simp [hk]
    obtain ⟨⟨q1,q2⟩,q3⟩:=h1
    rw [q1]
    exact ⟨by omega,fun n hn=>by have:=q2 n hn;omega⟩
   ·split at h1
    ·simp at h1;simp [h1]
    ·split at h1
     ·rename_i hk;simp at h1;simp [h1,hk]
     ·cases h1
 exact ⟨⟨hpos.1,fun a ha=>(ih a ha (h2 a ha)).1⟩,hpos.2,fun a ha=>(ih a ha (h2 a ha)).2⟩
def zeroTm:Tm:=Tm.mk 0 0 (Ty.mk 0 []) []
def Val.checkN (v:Val):Int:=if v.nodesN.2=true then if v.nodesN.1 > 64 then 4 else 0 else 2
end
section
def zeroTy:Ty:=Ty.mk 0 []
def Ty.arg (t:Ty)(i:Nat):Ty:=t.args.getD i zeroTy
def Ty.ok (t:Ty):Prop:=t.shape=true∧t.count≤64
theorem Ty.checkN_iff (t:Ty):t.checkN=0↔t.ok:=by
 unfold Ty.checkN Ty.ok
 split
 ·split
  ·rename_i h;simp;omega
  ·rename_i h;simp;constructor <;> first|assumption|omega
 ·rename_i h;simp [h]
def okN (t:Ty):Ty × Int:=if t.checkN=0 then (t,0) else (zeroTy,4)
theorem z6p (t:Ty)(h:(okN t).2=0):(okN t).1.ok∧okN t=(t,0):=by
 unfold okN at h ⊢
 split
 ·rename_i h2;exact ⟨(Ty.checkN_iff t).1 h2,rfl⟩
 ·rename_i h2;rw [if_neg h2] at h;cases h
def ruleN (k:Int)(ty:Ty)(l:List Ty):Ty × Int:=
 if k=2 then okN (Ty.mk 4 [ty,l.getD 0 zeroTy])
 else if k=3 then if (l.getD 0 zeroTy).kind=4∧((l.getD 0 zeroTy).arg 0).same (l.getD 1 zeroTy)=true then ((l.getD 0 zeroTy).arg 1,0) else (zeroTy,7)
 else if k=4 then (Ty.mk 1 [],0)
 else if k=5 then if (l.getD 0 zeroTy).same (Ty.mk 1 [])=true then (Ty.mk 1 [],0) else (zeroTy,7)
 else if k=6 then if (l.getD 0 zeroTy).same ty=true∧(l.getD 1 zeroTy).same (Ty.mk 4 [Ty.mk 1 [],Ty.mk 4 [ty,ty]])=true∧(l.getD 2 zeroTy).same (Ty.mk 1 [])=true then (ty,0) else (zeroTy,7)
 else if k=7 then (Ty.mk 2 [],0)
 else if k=8 then if (l.getD 0 zeroTy).same (Ty.mk 1 [])=true∧(l.getD 1 zeroTy).same (Ty.mk 2 [])=true then (Ty.mk 2 [],0) else (zeroTy,7)
 else if k=9 then if (l.getD 0 zeroTy).same ty=true∧(l.getD 1 zeroTy).same (Ty.mk 4 [Ty.mk 1 [],Ty.mk 4 [Ty.mk 2 [],Ty.mk 4 [ty,ty]]])=true∧(l.getD 2 zeroTy).same (Ty.mk 2 [])=true then (ty,0) else (zeroTy,7)
 else if k=10 then okN (Ty.mk 3 [l.getD 0 zeroTy,l.getD 1 zeroTy])
 else if k=11 then if (l.getD 0 zeroTy).kind=3 then ((l.getD 0 zeroTy).arg 0,0) else (zeroTy,7)
 else if k=12 then if (l.getD 0 zeroTy).kind=3 then ((l.getD 0 zeroTy).arg 1,0) else (zeroTy,7)
 else (Ty.mk 5 [],0)
namespace Tm
set_option linter.unusedSimpArgs false
set_option linter.unusedVariables false
set_option linter.unnecessarySimpa false
def inferN:Tm→List Ty→Ty × Int
 | .mk k i ty a,g=>
  if k=1 then if (g.length:Int)≤i then (zeroTy,6) else (g.getD (g.length - 1 - i.toNat) zeroTy,0)
  else if (infers a (if k=2 then g++[ty] else g)).2=0 then ruleN k ty (infers a (if k=2 then g++[ty] else g)).1
  else (zeroTy,(infers a (if k=2 then g++[ty] else g)).2)
where
 infers:List Tm→List Ty→List Ty × Int
  | [],_=>([],0)
  | a::r,g=>if (a.inferN g).2=0 then if (infers r g).2=0 then ((a.inferN g).1::(infers r g).1,0) else ([],(infers r g).2) else ([],(a.inferN g).2)
theorem inferN_eq (t:Tm)(g:List Ty):t.inferN g =
  if t.kind=1 then if (g.length:Int)≤t.index then (zeroTy,6) else (g.getD (g.length - 1 - t.index.toNat) zeroTy,0)
  else if (inferN.infers t.args (if t.kind=2 then g++[t.type] else g)).2=0 then ruleN t.kind t.type (inferN.infers t.args (if t.kind=2 then g++[t.type] else g)).1
  else (zeroTy,(inferN.infers t.args (if t.kind=2 then g++[t.type] else g)).2):=by
 cases t;rw [inferN];rfl
theorem infers_snoc (l:List Tm)(x:Tm)(g:List Ty)(h:(inferN.infers l g).2=0)(hx:(x.inferN g).2=0) :
  inferN.infers (l++[x]) g=((inferN.infers l g).1++[(x.inferN g).1],0):=by
 induction l with
 | nil=>simp [inferN.infers,hx]
 | cons a r ih=>
  simp only [inferN.infers] at h
  by_cases ha:(a.inferN g).2=0
  ·by_cases hr:(inferN.infers r g).2=0
   ·simp [inferN.infers,ha,hr,ih hr]
   ·simp [ha,hr] at h
  ·simp [ha] at h
theorem infers_stop (l:List Tm)(x:Tm)(m:List Tm)(g:List Ty)(h:(inferN.infers l g).2=0)(hx:¬ (x.inferN g).2=0) :
  inferN.infers (l++x::m) g=([],(x.inferN g).2):=by
 induction l with
 | nil=>simp [inferN.infers,hx]
 | cons a r ih=>
  simp only [inferN.infers] at h
  by_cases ha:(a.inferN g).2=0
  ·by_cases hr:(inferN.infers r g).2=0
   ·simp [inferN.infers,ha,ih hr,hx]
   ·simp [ha,hr] at h
  ·simp [ha] at h
theorem infers_all (l:List Tm)(g:List Ty)(h:(inferN.infers l g).2=0) :
  (inferN.infers l g).1.length=l.length∧∀ (i:Nat) (x:Tm),l[i]? = some x→(x.inferN g).2=0∧(inferN.infers l g).1[i]? = some (x.inferN g).1:=by
 induction l with
 | nil=>simp [inferN.infers]
 | cons a r ih=>
  simp only [inferN.infers] at h ⊢
  by_cases ha:(a.inferN g).2=0
  ·by_cases hr:(inferN.infers r g).2=0
   ·simp only [ha,hr,if_true]
    obtain ⟨h1,h2⟩:=ih hr
    refine ⟨by simp [h1],?_⟩
    intro i x hx
    cases i with
    | zero=>simp at hx;subst hx;exact ⟨ha,by simp⟩
    | succ i=>simp at hx;simpa using h2 i x hx
   ·simp [ha,hr] at h
  ·simp [ha] at h
end Tm
theorem Ty.ok_arg {t:Ty}(h:t.ok){a:Ty}(ha:a ∈ t.args):a.ok:=by
 obtain ⟨h1,h2⟩:=h
 rw [Ty.shape_eq,Bool.and_eq_true,Ty.shapes_iff] at h1
 have:=Ty.count_mem ha
 rw [Ty.count_eq] at h2
 exact ⟨h1.2 a ha,by omega⟩
theorem Ty.ok_two {t:Ty}(h:t.ok)(hk:t.kind=3∨t.kind=4):t.args.length=2:=by
 obtain ⟨h1,h2⟩:=h
 rw [Ty.shape_eq,Bool.and_eq_true] at h1
 rcases hk with hk|hk <;> simpa [tyKind,hk] using h1.1
theorem Ty.ok_args {t:Ty}(h:t.ok)(hk:t.kind=3∨t.kind=4):∃ a b,t.args=[a,b]∧a.ok∧b.ok∧t.arg 0=a∧t.arg 1=b:=by
 have h2:=Ty.ok_two h hk
 match ha:t.args,h2 with
 | [a,b],_=>exact ⟨a,b,rfl,Ty.ok_arg h (by rw [ha];simp),Ty.ok_arg h (by rw [ha];simp),by simp [Ty.arg,ha],by simp [Ty.arg,ha]⟩
theorem zag:(Ty.mk 1 []).ok:=⟨rfl,by decide⟩
theorem zah:(Ty.mk 2 []).ok:=⟨rfl,by decide⟩
theorem zgv:(Ty.mk 5 []).ok:=⟨rfl,by decide⟩
theorem Tm.shape_node {t:Tm}(h:t.shape=true):((t.args.length:Int)=arityI t.kind)∧0≤t.index∧(t.kind=1∨t.index=0)∧(if t.kind=2∨t.kind=6∨t.kind=9 then t.type.ok else t.type.zero=true)∧∀ a ∈ t.args,a.shape=true:=by
 rw [Tm.shape_eq,Bool.and_eq_true,Tm.shapes_iff] at h
 obtain ⟨h1,h2⟩:=h
 simp only [tmKind,Bool.and_eq_true,Bool.or_eq_true,decide_eq_true_eq,tyOfKind] at h1
 refine ⟨h1.1.1.1,h1.1.1.2,h1.1.2,?_,h2⟩
 by_cases hk:t.kind=2∨t.kind=6∨t.kind=9
 ·rw [if_pos hk] at h1 ⊢;exact (Ty.checkN_iff _).1 (by simpa using h1.2)
 ·rw [if_neg hk] at h1 ⊢;exact h1.2
theorem Tm.inferN_ok (t:Tm)(g:List Ty)(ht:t.shape=true)(hg:∀ x ∈ g,x.ok)(h:(t.inferN g).2=0):(t.inferN g).1.ok:=by
 induction t using Tm.ind generalizing g with
 | h t ih=>
 obtain ⟨ha,hi,hv,hty,hs⟩:=Tm.shape_node ht
 rw [inferN_eq] at h ⊢
 by_cases h1:t.kind=1
 ·rw [if_pos h1] at h ⊢
  by_cases h2:(g.length:Int)≤t.index
  ·rw [if_pos h2] at h;cases h
  ·rw [if_neg h2]
   have:g.length - 1 - t.index.toNat<g.length:=by omega
   simp only [List.getD_eq_getElem?_getD,List.getElem?_eq_getElem this,Option.getD_some]
   exact hg _ (List.getElem_mem _)
 ·rw [if_neg h1] at h ⊢
  generalize hge:(if t.kind=2 then g++[t.type] else g)=g' at h ⊢
  have hg':∀ x ∈ g',x.ok:=by
   subst hge
   split
   ·rename_i h2
    intro x hx
    rcases List.mem_append.1 hx with hx|hx
    ·exact hg x hx
    ·rw [List.mem_singleton.1 hx];rwa [if_pos (.inl h2)] at hty
   ·exact hg
  by_cases h2:(inferN.infers t.args g').2=0
  ·rw [if_pos h2] at h ⊢
   obtain ⟨hl,hx⟩:=infers_all _ _ h2
   have key:∀ i:Nat,i<t.args.length→((inferN.infers t.args g').1.getD i zeroTy).ok:=by
    intro i hi
    obtain ⟨x1,x2⟩:=hx i t.args[i] (List.getElem?_eq_getElem hi)
    rw [List.getD_eq_getElem?_getD,x2,Option.getD_some]
    exact ih _ (List.getElem_mem _) g' (hs _ (List.getElem_mem _)) hg' x1
   generalize (inferN.infers t.args g').1=l at h key ⊢
   unfold ruleN at h ⊢
   by_cases hk:t.kind=2
   ·rw [if_pos hk] at h ⊢
    exact (z6p _ h).1
   rw [if_neg hk] at h ⊢
   by_cases hk:t.kind=3
   ·rw [if_pos hk] at h ⊢
    by_cases hx:(l.getD 0 zeroTy).kind=4∧((l.getD 0 zeroTy).arg 0).same (l.getD 1 zeroTy)=true
    ·rw [if_pos hx] at h ⊢
     obtain ⟨a,b,e,oa,ob,e0,e1⟩:=Ty.ok_args (key 0 (by rw [hk] at ha;simp [arityI] at ha;omega)) (.inr hx.1)
     rw [e1];exact ob
    ·rw [if_neg hx] at h;cases h
   rw [if_neg hk] at h ⊢
   by_cases hk:t.kind=4
   ·rw [if_pos hk] at h ⊢
    exact zag
   rw [if_neg hk] at h ⊢
   by_cases hk:t.kind=5
   ·rw [if_pos hk] at h ⊢
    by_cases hx:(l.getD 0 zeroTy).same (Ty.mk 1 [])=true
    ·rw [if_pos hx] at h ⊢
     exact zag
    ·rw [if_neg hx] at h;cases h
   rw [if_neg hk] at h ⊢
   by_cases hk:t.kind=6
   ·rw [if_pos hk] at h ⊢
    by_cases hx:(l.getD 0 zeroTy).same t.type=true∧(l.getD 1 zeroTy).same (Ty.mk 4 [Ty.mk 1 [],Ty.mk 4 [t.type,t.type]])=true∧(l.getD 2 zeroTy).same (Ty.mk 1 [])=true
    ·rw [if_pos hx] at h ⊢
     rwa [if_pos (.inr (.inl hk))] at hty
    ·rw [if_neg hx] at h;cases h
   rw [if_neg hk] at h ⊢
   by_cases hk:t.kind=7
   ·rw [if_pos hk] at h ⊢
    exact zah
   rw [if_neg hk] at h ⊢
   by_cases hk:t.kind=8
   ·rw [if_pos hk] at h ⊢
    by_cases hx:(l.getD 0 zeroTy).same (Ty.mk 1 [])=true∧(l.getD 1 zeroTy).same (Ty.mk 2 [])=true
    ·rw [if_pos hx] at h ⊢
     exact zah
    ·rw [if_neg hx] at h;cases h
   rw [if_neg hk] at h ⊢
   by_cases hk:t.kind=9
   ·rw [if_pos hk] at h ⊢
    by_cases hx:(l.getD 0 zeroTy).same t.type=true∧(l.getD 1 zeroTy).same (Ty.mk 4 [Ty.mk 1 [],Ty.mk 4 [Ty.mk 2 [],Ty.mk 4 [t.type,t.type]]])=true∧(l.getD 2 zeroTy).same (Ty.mk 2 [])=true
    ·rw [if_pos hx] at h ⊢
     rwa [if_pos (.inr (.inr hk))] at hty
    ·rw [if_neg hx] at h;cases h
   rw [if_neg hk] at h ⊢
   by_cases hk:t.kind=10
   ·rw [if_pos hk] at h ⊢
    exact (z6p _ h).1
   rw [if_neg hk] at h ⊢
   by_cases hk:t.kind=11
   ·rw [if_pos hk] at h ⊢
    by_cases hx:(l.getD 0 zeroTy).kind=3
    ·rw [if_pos hx] at h ⊢
     obtain ⟨a,b,e,oa,ob,e0,e1⟩:=Ty.ok_args (key 0 (by rw [hk] at ha;simp [arityI] at ha;omega)) (.inl hx)
     rw [e0];exact oa
    ·rw [if_neg hx] at h;cases h
   rw [if_neg hk] at h ⊢
   by_cases hk:t.kind=12
   ·rw [if_pos hk] at h ⊢
    by_cases hx:(l.getD 0 zeroTy).kind=3
    ·rw [if_pos hx] at h ⊢
     obtain ⟨a,b,e,oa,ob,e0,e1⟩:=Ty.ok_args (key 0 (by rw [hk] at ha;simp [arityI] at ha;omega)) (.inl hx)
     rw [e1];exact ob
    ·rw [if_neg hx] at h;cases h
   rw [if_neg hk] at h ⊢
   exact zgv
  ·rw [if_neg h2] at h
   exact absurd h h2
end
section
variable {gl:Globs}
theorem z13o (v:Val)(ht:v.two):Con1 Tryz.prog gl 160 [v.dv] [] v.tyN.dv []:=by
 induction v using Val.ind with
 | h v ih=>
 obtain ⟨ht1,ht2⟩:=(Val.two_eq v).1 ht
 refine t_in Tryz.func160 ?_
 intro X hP hgl hf hfn hn hR hids hfit
 by_cases h2:v.kind=2
 ·have hr:v.tyN=Ty.mk 2 []:=by rw [Val.tyN_eq];simp [h2]
  refine t_g @h2 ?_
  refine t_c1 @h2 z13l ?_
  refine t_r ?_
  simp [go_sem,hP,hgl,hn,hr] <;> (try omega)
  all_goals exact t_f
 by_cases h4:v.kind=4
 ·have hr:v.tyN=Ty.mk 5 []:=by rw [Val.tyN_eq];simp [h4]
  refine t_g @h4 ?_
  refine t_r ?_
  simp [go_sem,hP,hgl,hn,hr] <;> (try omega)
  all_goals exact t_f
 by_cases h3:v.kind=3
 ·have h2l:=ht1 h3
  match hargs:v.args,h2l with
  | [x,y],_=>
  have hx:x ∈ v.args:=by rw [hargs];simp
  have hy:y ∈ v.args:=by rw [hargs];simp
  have hr:v.tyN=Ty.mk 3 [x.tyN,y.tyN]:=by rw [Val.tyN_eq];simp [h3,hargs]
  refine t_g @h3 ?_
  refine t_c2 (j2 @h3 @hargs) (ih x hx (ht2 x hx)) (ih y hy (ht2 y hy)) ?_
  refine t_r ?_
  simp [go_sem,hP,hgl,hn,hr] <;> (try omega)
  all_goals exact t_f
 have hr:v.tyN=Ty.mk 1 []:=by rw [Val.tyN_eq];simp [h2,h3,h4]
 refine t_g (j2 @h2 (j2 @h3 @h4)) ?_
 refine t_c1 @h2 z6o ?_
 refine t_r ?_
 simp [go_sem,hP,hgl,hn,hr] <;> (try omega)
 all_goals exact t_f
def Val.typeE (v:Val):Ty × Int:=if v.checkN ≠ 0 then (zeroTy,v.checkN) else (v.tyN,0)
theorem z13p (v:Val)(hc:v.count≤1048576):Con1 Tryz.prog gl 136 [v.dv] [] (.tup [v.typeE.1.dv,dint v.typeE.2]) []:=by
 refine t_in Tryz.func136 ?_
 intro X hP hgl hf hfn hn hR hids hfit
 refine t_g0 ?_
 have hck:(if v.nodesN.2=true then if v.nodesN.1 > 64 then 4 else 0 else 2)=v.checkN:=rfl
 have hcon:=z13j (gl:=gl) v (by omega)
 rw [hck] at hcon
 refine t_c1 trivial hcon ?_
 by_cases h:v.checkN=0
 ·have hok:v.nodesN.2=true:=by
   unfold Val.checkN at h
   split at h
   ·assumption
   ·cases h
  obtain ⟨ha,ht⟩:=v.ok_all hok
  refine t_g @h ?_
  refine t_c1 trivial (z13o v ht) ?_
  refine t_r ?_
  simp [go_sem,hP,hgl,hn,Val.typeE,h] <;> (try omega)
  all_goals exact t_f
 ·refine t_g @h ?_
  refine t_r ?_
  simp [go_sem,hP,hgl,hn,Val.typeE,h,zeroTy] <;> (try omega)
  all_goals exact t_f
end
section
variable {gl:Globs}
theorem z36 (a b:Ty):Con1 Tryz.prog gl 39 [a.dv,b.dv] [] (Ty.mk 4 [a,b]).dv []:=by
 refine t_in Tryz.func39 ?_
 intro X hP hgl hf hfn hn hR hids hfit
 refine t_g0 ?_
 refine t_c2 trivial (z4b a) (z4b b) ?_
 refine t_r ?_
 simp [go_sem,hP,hgl,hn] <;> (try omega)
 all_goals exact t_f
theorem zgw (t:Ty)(hc:t.count≤1073741824):Con1 Tryz.prog gl 132 [t.dv] [] (.tup [(okN t).1.dv,dint (okN t).2]) []:=by
 refine t_in Tryz.func132 ?_
 intro X hP hgl hf hfn hn hR hids hfit
 refine t_g0 ?_
 refine t_c1 trivial (z6n t (by omega)) ?_
 by_cases h:t.checkN=0
 ·refine t_g @h ?_
  refine t_r ?_
  simp [go_sem,hP,hgl,hn,okN,h] <;> (try omega)
  all_goals exact t_f
 ·refine t_g @h ?_
  refine t_r ?_
  simp [go_sem,hP,hgl,hn,okN,h,zeroTy] <;> (try omega)
  all_goals exact t_f
theorem z80 (k:Int)(a b:Ty):(Ty.mk k [a,b]).count=1+(a.count+(b.count+0)):=rfl
theorem z13q (g:List Ty):List.take g.length (List.map Ty.cells g)=List.map Ty.cells g:=by rw [List.take_of_length_le];simp
theorem z2i:(Ty.mk 1 []).dv = .agg [dint 1,.sl []]:=rfl
theorem z3y:(Ty.mk 2 []).dv = .agg [dint 2,.sl []]:=rfl
set_option maxHeartbeats 4000000 in
theorem z13r (t:Tm)(g:List Ty)(hgt:g.length+t.count≤2147483648)(ht:t.shape=true)(hg:∀ x ∈ g,x.ok):Con1 Tryz.prog gl 97 [.sl (g.map Ty.cells),t.dv] [] (.tup [(t.inferN g).1.dv,dint (t.inferN g).2]) []:=by
 induction t using Tm.ind generalizing g with
 | h t ih=>
 obtain ⟨ha,hi,hv,hty,hs⟩:=Tm.shape_node ht
 refine t_in Tryz.func97 ?_
 intro X hP hgl hf hfn hn hR hids hfit
 have hlg:=z4d (hfit (.sl (g.map Ty.cells)) (by simp))
 simp at hlg
 by_cases h1:t.kind=1
 ·by_cases h2:(g.length:Int)≤t.index
  ·refine t_g (j2 @h1 @h2) ?_
   refine t_r ?_
   simp [go_sem,hP,hgl,hn,Tm.inferN_eq t,h1,h2,zeroTy] <;> (try omega)
   all_goals exact t_f
  ·have hlt:g.length - 1 - t.index.toNat<g.length:=by omega
   have hx:=List.getElem?_eq_getElem hlt
   generalize hge:g[g.length - 1 - t.index.toNat]=x at hx
   have hx':g[(g.length - 1 - t.index:Int).toNat]? = some x:=by rw [← hx];congr 1;omega
   refine t_g (j2 @h1 @h2) ?_
   refine t_c1 @hx' (z4b x) ?_
   refine t_r ?_
   simp [go_sem,hP,hgl,hn,Tm.inferN_eq t,h1,h2,hx] <;> (try omega)
   all_goals exact t_f
 by_cases hk2:t.kind=2
 ·rw [hk2] at ha
  obtain ⟨b,hb⟩:∃ b,t.args=[b]:=by
   match hh:t.args,ha with
   | [b],_=>exact ⟨b,rfl⟩
  have hbm:b ∈ t.args:=by rw [hb];simp
  rw [if_pos (.inl hk2)] at hty
  have hg':∀ x ∈ g++[t.type],x.ok:=by
   intro x hx
   rcases List.mem_append.1 hx with hx|hx
   ·exact hg x hx
   ·rw [List.mem_singleton.1 hx];exact hty
  have hi':=Tm.inferN_ok b (g++[t.type]) (hs b hbm) hg'
  have hcb1:t.count=1+(b.count+0):=by rw [Tm.count_eq,hb];rfl
  have hcb2:=Tm.count_pos b
  have hgl1:g.length≤2147483647:=by omega
  refine t_g @hk2 ?_
  refine t_c1 (j2 @hk2 (j2 @hb (j2 @z13q (j2 (Ty.cells_eq t.type) @Ty.length_cells)))) (ih b hbm (g++[t.type]) (by simp;omega) (hs b hbm) hg') ?_
  by_cases he:(b.inferN (g++[t.type])).2=0
  ·have hcb:=hty.2
   have hcc:=(hi' he).2
   refine t_g @he ?_
   refine t_c2 trivial (z36 t.type (b.inferN (g++[t.type])).1) (zgw (Ty.mk 4 [t.type,(b.inferN (g++[t.type])).1]) (by rw [z80];omega)) ?_
   refine t_r ?_
   simp [go_sem,hP,hgl,hn,Tm.inferN_eq t,hk2,hb,Tm.inferN.infers,he,ruleN] <;> (try omega)
   all_goals exact t_f
  ·refine t_g @he ?_
   refine t_r ?_
   simp [go_sem,hP,hgl,hn,Tm.inferN_eq t,hk2,hb,Tm.inferN.infers,he,zeroTy] <;> (try omega)
   all_goals exact t_f
 have hlen:=Tm.fit_len (hfit t.dv (by simp))
 refine t_g (j2 @h1 @hk2) ?_
 refine t_a ?_
 refine z0c [(1008,0)] (by simp [go_sem]) (by simp [go_sem,Tm.inferN.infers] <;> omega) (by simp [go_sem]) (z35 (t.args) (fun done=>(Tm.inferN.infers done g).2=0) (fun done rest=>[(.slot 0,.one (.v (.sl (g.map Ty.cells)))),(.slot 69,.one (.v (dint done.length))),(.slot 68,.one (.v (dint t.args.length))),(.slot 67,.one (.v (.sl (t.args.map Tm.cells)))),(.slot 8,.one (.own 1008 ((Tm.inferN.infers done g).1.map Ty.cells))),(.tok 1008,.tk 2 (Tm.inferN.infers done g).1.length),(.loc 4,.row ([.v (dint 0),.own 0 []])),(.slot 4,.one (.loc 4 0)),(.loc 3,.row ([.v (dint t.kind),.v (dint t.index),.v (dint t.type.kind),.v (.sl (t.type.args.map Ty.cells)),.v (.sl (t.args.map Tm.cells))])),(.slot 3,.one (.loc 3 0))]) (rfl) ?_ ?_)
 ·intro done x rest hL hg0 hI hnext
  have hlt:done.length<t.args.length:=by rw [hL];simp
  have hxm:=List.mem_of_getElem? hg0
  have hcx:=Tm.count_mem hxm
  have hct:=Tm.count_eq t
  have hix:=Tm.inferN_ok x g (hs x hxm) hg
  refine z00 ?_
  refine z07 ?_
  refine t_g @hg0 ?_
  refine t_c1 @hg0 (ih x hxm g (by omega) (hs x hxm) hg) ?_
  by_cases he:(x.inferN g).2=0
  ·have hsn:=Tm.infers_snoc done x g hI he
   have hdl:=(Tm.infers_all done g hI).1
   refine t_gt (wr [(1008,86)]) (j2 @hsn (j2 @hdl (Ty.cells_eq (x.inferN g).1))) (j2 @he @hdl) (hnext (by rw [hsn]))
  ·have hst:=Tm.infers_stop done x rest g hI he
   rw [← hL] at hst
   refine t_g @he ?_
   refine t_r ?_
   simp [go_sem,hP,hgl,hn,Tm.inferN_eq t,h1,hk2,hst,he,zeroTy] <;> (try omega)
   all_goals exact t_f
 ·intro hI
  have hN:t.inferN g=ruleN t.kind t.type (Tm.inferN.infers t.args g).1:=by rw [Tm.inferN_eq t];simp [h1,hk2,hI]
  have hdl:=(Tm.infers_all t.args g hI).1
  have hdo:∀ a ∈ (Tm.inferN.infers t.args g).1,a.ok:=by
   intro a ha
   obtain ⟨i,hi,rfl⟩:=List.mem_iff_getElem.1 ha
   obtain ⟨x1,x2⟩:=(Tm.infers_all t.args g hI).2 i t.args[i] (List.getElem?_eq_getElem (by omega))
   rw [List.getElem?_eq_getElem hi] at x2
   rw [Option.some.inj x2]
   exact Tm.inferN_ok _ g (hs _ (List.getElem_mem _)) hg x1
  obtain ⟨ds,hds⟩:∃ ds,ds=(Tm.inferN.infers t.args g).1:=⟨_,rfl⟩
  rw [← hds] at hN hdl hdo ⊢
  rw [← hdl] at ha
  have h1l:t.kind=5∨t.kind=11∨t.kind=12→∃ x,ds=[x]:=by
   intro hk
   have:ds.length=1:=by rcases hk with hk|hk|hk <;> simp [hk,arityI] at ha <;> omega
   exact List.length_eq_one_iff.1 this
  have h2l:t.kind=3∨t.kind=8∨t.kind=10→∃ x y,ds=[x,y]:=by
   intro hk
   have:ds.length=2:=by rcases hk with hk|hk|hk <;> simp [hk,arityI] at ha <;> omega
   match ds,this with
   | [x,y],_=>exact ⟨x,y,rfl⟩
  have h3l:t.kind=6∨t.kind=9→∃ x y z,ds=[x,y,z]:=by
   intro hk
   have:ds.length=3:=by rcases hk with hk|hk <;> simp [hk,arityI] at ha <;> omega
   match ds,this with
   | [x,y,z],_=>exact ⟨x,y,z,rfl⟩
  refine z00 ?_
  refine t_no ?_
  refine t_c2 trivial z1l z4c ?_
  by_cases h3:t.kind=3
  ·obtain ⟨x,y,rfl⟩:=h2l (.inl h3)
   by_cases hx:x.kind=4
   ·obtain ⟨p,q,hp,op,oq,e0,e1⟩:=Ty.ok_args (hdo x (by simp)) (.inr hx)
    refine t_g @h3 ?_
    refine t_c1 (j2 @h3 (j2 @hx @hp)) (z1q p y) ?_
    by_cases hs:p.same y=true
    ·refine t_g (j2 @h3 (j2 @hx (j2 @hp @hs))) ?_
     refine t_r ?_
     simp [go_sem,hP,hgl,hn,hN,ruleN,h3,hx,e0,e1,hs] <;> (try omega)
     all_goals exact t_f
    ·refine t_g (j2 @h3 (j2 @hx (j2 @hp @hs))) ?_
     refine t_r ?_
     simp [go_sem,hP,hgl,hn,hN,ruleN,h3,hx,e0,e1,hs,zeroTy] <;> (try omega)
     all_goals exact t_f
   ·refine t_g (j2 @h3 @hx) ?_
    refine t_r ?_
    simp [go_sem,hP,hgl,hn,hN,ruleN,h3,hx,zeroTy] <;> (try omega)
    all_goals exact t_f
  by_cases h4:t.kind=4
  ·refine t_g @h4 ?_
   refine t_r ?_
   simp [go_sem,hP,hgl,hn,hN,ruleN,h4] <;> (try omega)
   all_goals exact t_f
  by_cases h5:t.kind=5
  ·obtain ⟨x,rfl⟩:=h1l (.inl h5)
   refine t_g @h5 ?_
   refine t_c1 (j2 @h5 (j2 @z2i @z3y)) (z1q x (Ty.mk 1 [])) ?_
   by_cases hs:x.same (Ty.mk 1 [])=true
   ·refine t_g (j2 @h5 @hs) ?_
    refine t_r ?_
    simp [go_sem,hP,hgl,hn,hN,ruleN,h5,hs] <;> (try omega)
    all_goals exact t_f
   ·refine t_g (j2 @h5 @hs) ?_
    refine t_r ?_
    simp [go_sem,hP,hgl,hn,hN,ruleN,h5,hs,zeroTy] <;> (try omega)
    all_goals exact t_f
  by_cases h6:t.kind=6
  ·obtain ⟨x,y,z,rfl⟩:=h3l (.inl h6)
   rw [if_pos (by simp [h6])] at hty
   by_cases hs1:x.same t.type=true
   ·by_cases hs2:y.same (Ty.mk 4 [Ty.mk 1 [],Ty.mk 4 [t.type,t.type]])=true
    ·refine t_g @h6 ?_
     refine t_c5 (j2 @h6 (j2 @hs1 (j2 @hs2 (j2 @z2i @z3y)))) (z1q x t.type) (z36 t.type t.type) (z36 (Ty.mk 1 []) (Ty.mk 4 [t.type,t.type])) (z1q y (Ty.mk 4 [Ty.mk 1 [],Ty.mk 4 [t.type,t.type]])) (z1q z (Ty.mk 1 [])) ?_
     by_cases hs3:z.same (Ty.mk 1 [])=true
     ·refine t_g (j2 @h6 (j2 @hs1 (j2 @hs2 @hs3))) ?_
      refine t_c1 @h6 (z4b t.type) ?_
      refine t_r ?_
      simp [go_sem,hP,hgl,hn,hN,ruleN,h6,hs1,hs2,hs3] <;> (try omega)
      all_goals exact t_f
     ·refine t_g (j2 @h6 (j2 @hs1 (j2 @hs2 @hs3))) ?_
      refine t_r ?_
      simp [go_sem,hP,hgl,hn,hN,ruleN,h6,hs1,hs2,hs3,zeroTy] <;> (try omega)
      all_goals exact t_f
    ·refine t_g @h6 ?_
     refine t_c4 (j2 @h6 (j2 @hs1 (j2 @hs2 (j2 @z2i @z3y)))) (z1q x t.type) (z36 t.type t.type) (z36 (Ty.mk 1 []) (Ty.mk 4 [t.type,t.type])) (z1q y (Ty.mk 4 [Ty.mk 1 [],Ty.mk 4 [t.type,t.type]])) ?_
     refine t_g (j2 @h6 (j2 @hs1 @hs2)) ?_
     refine t_r ?_
     simp [go_sem,hP,hgl,hn,hN,ruleN,h6,hs1,hs2,zeroTy] <;> (try omega)
     all_goals exact t_f
   ·refine t_g @h6 ?_
    refine t_c1 (j2 @h6 @hs1) (z1q x t.type) ?_
    refine t_g (j2 @h6 @hs1) ?_
    refine t_r ?_
    simp [go_sem,hP,hgl,hn,hN,ruleN,h6,hs1,zeroTy] <;> (try omega)
    all_goals exact t_f
  by_cases h7:t.kind=7
  ·refine t_g @h7 ?_
   refine t_r ?_
   simp [go_sem,hP,hgl,hn,hN,ruleN,h7] <;> (try omega)
   all_goals exact t_f
  by_cases h8:t.kind=8
  ·obtain ⟨x,y,rfl⟩:=h2l (.inr (.inl h8))
   by_cases hs1:x.same (Ty.mk 1 [])=true
   ·refine t_g @h8 ?_
    refine t_c2 (j2 @h8 (j2 @hs1 (j2 @z2i @z3y))) (z1q x (Ty.mk 1 [])) (z1q y (Ty.mk 2 [])) ?_
    by_cases hs2:y.same (Ty.mk 2 [])=true
    ·refine t_g (j2 @h8 (j2 @hs1 @hs2)) ?_
     refine t_r ?_
     simp [go_sem,hP,hgl,hn,hN,ruleN,h8,hs1,hs2] <;> (try omega)
     all_goals exact t_f
    ·refine t_g (j2 @h8 (j2 @hs1 @hs2)) ?_
     refine t_r ?_
     simp [go_sem,hP,hgl,hn,hN,ruleN,h8,hs1,hs2,zeroTy] <;> (try omega)
     all_goals exact t_f
   ·refine t_g @h8 ?_
    refine t_c1 (j2 @h8 (j2 @hs1 (j2 @z2i @z3y))) (z1q x (Ty.mk 1 [])) ?_
    refine t_g (j2 @h8 @hs1) ?_
    refine t_r ?_
    simp [go_sem,hP,hgl,hn,hN,ruleN,h8,hs1,zeroTy] <;> (try omega)
    all_goals exact t_f
  by_cases h9:t.kind=9
  ·obtain ⟨x,y,z,rfl⟩:=h3l (.inr h9)
   rw [if_pos (by simp [h9])] at hty
   by_cases hs1:x.same t.type=true
   ·by_cases hs2:y.same (Ty.mk 4 [Ty.mk 1 [],Ty.mk 4 [Ty.mk 2 [],Ty.mk 4 [t.type,t.type]]])=true
    ·refine t_g @h9 ?_
     refine t_c6 (j2 @h9 (j2 @hs1 (j2 @hs2 (j2 @z2i @z3y)))) (z1q x t.type) (z36 t.type t.type) (z36 (Ty.mk 2 []) (Ty.mk 4 [t.type,t.type])) (z36 (Ty.mk 1 []) (Ty.mk 4 [Ty.mk 2 [],Ty.mk 4 [t.type,t.type]])) (z1q y (Ty.mk 4 [Ty.mk 1 [],Ty.mk 4 [Ty.mk 2 [],Ty.mk 4 [t.type,t.type]]])) (z1q z (Ty.mk 2 [])) ?_
     by_cases hs3:z.same (Ty.mk 2 [])=true
     ·refine t_g (j2 @h9 (j2 @hs1 (j2 @hs2 @hs3))) ?_
      refine t_c1 @h9 (z4b t.type) ?_
      refine t_r ?_
      simp [go_sem,hP,hgl,hn,hN,ruleN,h9,hs1,hs2,hs3] <;> (try omega)
      all_goals exact t_f
     ·refine t_g (j2 @h9 (j2 @hs1 (j2 @hs2 @hs3))) ?_
      refine t_r ?_
      simp [go_sem,hP,hgl,hn,hN,ruleN,h9,hs1,hs2,hs3,zeroTy] <;> (try omega)
      all_goals exact t_f
    ·refine t_g @h9 ?_
     refine t_c5 (j2 @h9 (j2 @hs1 (j2 @hs2 (j2 @z2i @z3y)))) (z1q x t.type) (z36 t.type t.type) (z36 (Ty.mk 2 []) (Ty.mk 4 [t.type,t.type])) (z36 (Ty.mk 1 []) (Ty.mk 4 [Ty.mk 2 [],Ty.mk 4 [t.type,t.type]])) (z1q y (Ty.mk 4 [Ty.mk 1 [],Ty.mk 4 [Ty.mk 2 [],Ty.mk 4 [t.type,t.type]]])) ?_
     refine t_g (j2 @h9 (j2 @hs1 @hs2)) ?_
     refine t_r ?_
     simp [go_sem,hP,hgl,hn,hN,ruleN,h9,hs1,hs2,zeroTy] <;> (try omega)
     all_goals exact t_f
   ·refine t_g @h9 ?_
    refine t_c1 (j2 @h9 @hs1) (z1q x t.type) ?_
    refine t_g (j2 @h9 @hs1) ?_
    refine t_r ?_
    simp [go_sem,hP,hgl,hn,hN,ruleN,h9,hs1,zeroTy] <;> (try omega)
    all_goals exact t_f
  by_cases h10:t.kind=10
  ·obtain ⟨x,y,rfl⟩:=h2l (.inr (.inr h10))
   have hcx:=(hdo x (by simp)).2
   have hcy:=(hdo y (by simp)).2
   refine t_g @h10 ?_
   refine t_c2 @h10 (z7x x y) (zgw (Ty.mk 3 [x,y]) (by rw [z80];omega)) ?_
   refine t_r ?_
   simp [go_sem,hP,hgl,hn,hN,ruleN,h10] <;> (try omega)
   all_goals exact t_f
  by_cases h11:t.kind=11
  ·obtain ⟨x,rfl⟩:=h1l (.inr (.inl h11))
   by_cases hx:x.kind=3
   ·obtain ⟨p,q,hp,op,oq,e0,e1⟩:=Ty.ok_args (hdo x (by simp)) (.inl hx)
    refine t_g (j2 @h11 (j2 @hx @hp)) ?_
    refine t_r ?_
    simp [go_sem,hP,hgl,hn,hN,ruleN,h11,hx,e0] <;> (try omega)
    all_goals exact t_f
   ·refine t_g (j2 @h11 @hx) ?_
    refine t_r ?_
    simp [go_sem,hP,hgl,hn,hN,ruleN,h11,hx,zeroTy] <;> (try omega)
    all_goals exact t_f
  by_cases h12:t.kind=12
  ·obtain ⟨x,rfl⟩:=h1l (.inr (.inr h12))
   by_cases hx:x.kind=3
   ·obtain ⟨p,q,hp,op,oq,e0,e1⟩:=Ty.ok_args (hdo x (by simp)) (.inl hx)
    refine t_g (j2 @h12 (j2 @hx @hp)) ?_
    refine t_r ?_
    simp [go_sem,hP,hgl,hn,hN,ruleN,h12,hx,e1] <;> (try omega)
    all_goals exact t_f
   ·refine t_g (j2 @h12 @hx) ?_
    refine t_r ?_
    simp [go_sem,hP,hgl,hn,hN,ruleN,h12,hx,zeroTy] <;> (try omega)
    all_goals exact t_f
  refine t_g (j2 @h1 (j2 @hk2 (j2 @h3 (j2 @h4 (j2 @h5 (j2 @h6 (j2 @h7 (j2 @h8 (j2 @h9 (j2 @h10 (j2 @h11 @h12))))))))))) ?_
  refine t_c1 @h1 z7w ?_
  refine t_r ?_
  simp [go_sem,hP,hgl,hn,hN,ruleN,h1,hk2,h3,h4,h5,h6,h7,h8,h9,h10,h11,h12] <;> (try omega)
  all_goals exact t_f
end
section
variable {gl:Globs}
def Tm.typedE (t:Tm)(g:List Ty):Ty × Int:=if t.checkN=0 then t.inferN g else (zeroTy,t.checkN)
def Tm.typeE (t:Tm)(g:List Ty):Ty × Int:=if ctxN g=0 then t.typedE g else (zeroTy,ctxN g)
theorem Tm.checkN_iff (t:Tm):t.checkN=0↔t.shape=true∧t.count≤4096:=by
 unfold Tm.checkN
 split
 ·split
  ·rename_i h;simp;omega
  ·rename_i h;simp;constructor <;> first|assumption|omega
 ·rename_i h;simp [h]
theorem z13s {l:List Ty}(h:errTys l=0):∀ x ∈ l,x.ok:=by
 induction l with
 | nil=>simp
 | cons a r ih=>
  simp only [errTys] at h
  split at h
  ·rename_i ha
   intro x hx
   rcases List.mem_cons.1 hx with rfl|hx
   ·exact (Ty.checkN_iff _).1 ha
   ·exact ih h x hx
  ·rename_i ha;exact absurd h ha
theorem z13t {l:List Ty}(h:ctxN l=0):l.length≤16∧∀ x ∈ l,x.ok:=by
 unfold ctxN at h
 split at h
 ·cases h
 ·exact ⟨by omega,z13s h⟩
theorem z13u (t:Tm)(g:List Ty)(hgl:g.length≤1048576)(ht:t.tys)(hc:t.count≤1073741824)(hg:∀ x ∈ g,x.ok):Con1 Tryz.prog gl 53 [.sl (g.map Ty.cells),t.dv] [] (.tup [(t.typedE g).1.dv,dint (t.typedE g).2]) []:=by
 refine t_in Tryz.func53 ?_
 intro X hP hgl hf hfn hn hR hids hfit
 refine t_g0 ?_
 refine t_c1 trivial (z2q t ht (by omega)) ?_
 by_cases h:t.checkN=0
 ·refine t_g @h ?_
  refine t_c1 trivial (z13r t g (by omega) ((Tm.checkN_iff t).1 h).1 hg) ?_
  refine t_r ?_
  simp [go_sem,hP,hgl,hn,Tm.typedE,h] <;> (try omega)
  all_goals exact t_f
 ·refine t_g @h ?_
  refine t_r ?_
  simp [go_sem,hP,hgl,hn,Tm.typedE,h,zeroTy] <;> (try omega)
  all_goals exact t_f
theorem z13v (t:Tm)(g:List Ty)(hg:∀ x ∈ g,x.count≤2147483648)(ht:t.tys)(hc:t.count≤1073741824):Con1 Tryz.prog gl 15 [.sl (g.map Ty.cells),t.dv] [] (.tup [(t.typeE g).1.dv,dint (t.typeE g).2]) []:=by
 refine t_in Tryz.func15 ?_
 intro X hP hgl hf hfn hn hR hids hfit
 refine t_g0 ?_
 refine t_c1 trivial (z139 g hg) ?_
 by_cases h:ctxN g=0
 ·have ha:=z13t h
  refine t_g @h ?_
  refine t_c1 trivial (z13u t g (by omega) ht hc ha.2) ?_
  refine t_r ?_
  simp [go_sem,hP,hgl,hn,Tm.typeE,h] <;> (try omega)
  all_goals exact t_f
 ·refine t_g @h ?_
  refine t_r ?_
  simp [go_sem,hP,hgl,hn,Tm.typeE,h,zeroTy] <;> (try omega)
  all_goals exact t_f
def Tm.leastN:Tm→Int→Bool
 | .mk _ i _ a,m=>!decide (m<i) && leasts a m
where
 leasts:List Tm→Int→Bool
  | [],_=>true
  | a::r,m=>a.leastN m && leasts r m
theorem Tm.leastN_eq (t:Tm)(m:Int):t.leastN m=(!decide (m<t.index) && leastN.leasts t.args m):=by cases t;rfl
theorem Tm.leasts_append (l r:List Tm)(m:Int):leastN.leasts (l++r) m=(leastN.leasts l m && leastN.leasts r m):=by
 induction l with
 | nil=>simp [leastN.leasts]
 | cons a r ih=>simp [leastN.leasts,ih,Bool.and_assoc]
theorem z13w (t:Tm)(m:Int):Con1 Tryz.prog gl 117 [t.dv,dint m] [] (dbool (t.leastN m)) []:=by
 induction t using Tm.ind with
 | h t ih=>
 refine t_in Tryz.func117 ?_
 intro X hP hgl hf hfn hn hR hids hfit
 have hlen:=Tm.fit_len (hfit t.dv (by simp))
 by_cases h:m<t.index
 ·refine t_g @h ?_
  refine t_r ?_
  simp [go_sem,hP,hgl,hn,Tm.leastN_eq t,h] <;> (try omega)
 ·refine t_g @h ?_
  refine t_a ?_
  refine z0e [] trivial (z35 (t.args) (fun done=>Tm.leastN.leasts done m=true) (fun done rest=>[(.slot 1,.one (.v (dint m))),(.slot 14,.one (.v (dint done.length))),(.slot 13,.one (.v (dint t.args.length))),(.slot 12,.one (.v (.sl (t.args.map Tm.cells))))]) (rfl) ?_ ?_)
  ·intro done x rest hL hg0 hI hnext
   have hlt:done.length<t.args.length:=by rw [hL];simp
   have hxm:=List.mem_of_getElem? hg0
   refine z00 ?_
   refine z07 ?_
   refine t_g @hg0 ?_
   refine t_c1 @hg0 (ih x hxm) ?_
   by_cases hx:x.leastN m=true
   ·refine t_gt (wr []) trivial @hx (hnext (by rw [Tm.leasts_append,hI];simp [Tm.leastN.leasts,hx]))
   ·refine t_g @hx ?_
    refine t_r ?_
    simp [go_sem,hP,hgl,hn,Tm.leastN_eq t,h] <;> (try omega)
    rw [hL,Tm.leasts_append]
    simp [Tm.leastN.leasts,hx]
  ·intro hI
   refine z00 ?_
   refine t_no ?_
   refine t_g0 ?_
   refine t_r ?_
   simp [go_sem,hP,hgl,hn,Tm.leastN_eq t,h,hI] <;> (try omega)
end
section
variable {gl:Globs}
def Tm.argN (t:Tm)(i:Nat):Tm:=t.args.getD i zeroTm
def Tm.rootN (t:Tm):Bool:=
 if t.kind=3 then decide ((t.argN 0).kind=2)
 else if t.kind=6 then decide ((t.argN 2).kind=4) || decide ((t.argN 2).kind=5)
 else if t.kind=9 then decide ((t.argN 2).kind=7) || decide ((t.argN 2).kind=8)
 else if t.kind=11 then decide ((t.argN 0).kind=10)
 else if t.kind=12 then decide ((t.argN 0).kind=10)
 else false
def Tm.nf:Tm→Bool
 | .mk k i ty a=>!(Tm.mk k i ty a).rootN && nfs a
where
 nfs:List Tm→Bool
  | []=>true
  | a::r=>a.nf && nfs r
end
section
def bindI (k:Int):Int:=if k=2 then 1 else 0
namespace Tm
set_option linter.unusedSimpArgs false
set_option linter.unusedVariables false
set_option linter.unnecessarySimpa false
def upN:Tm→Int→Int→Tm
 | .mk k i ty a,f,b=>.mk k (if k=1∧f≤i then i+b else i) ty (ups a (f+bindI k) b)
where
 ups:List Tm→Int→Int→List Tm
  | [],_,_=>[]
  | x::r,f,b=>x.upN f b::ups r f b
theorem z13x (l:List Tm)(f b:Int):upN.ups l f b=l.map fun x=>x.upN f b:=by
 induction l with
 | nil=>rfl
 | cons a r ih=>simp [upN.ups,ih]
theorem upN_eq (t:Tm)(f b:Int):t.upN f b = .mk t.kind (if t.kind=1∧f≤t.index then t.index+b else t.index) t.type (t.args.map fun x=>x.upN (f+bindI t.kind) b):=by
 cases t;rw [upN,z13x];rfl
def timesN:Tm→Int→Nat
 | .mk k i _ a,p=>(if k=1∧i=p then 1 else 0)+timess a (p+bindI k)
where
 timess:List Tm→Int→Nat
  | [],_=>0
  | x::r,p=>x.timesN p+timess r p
def idx:Tm→Int→Prop
 | .mk _ i _ a,m=>(0≤i∧i≤m)∧idxs a m
where
 idxs:List Tm→Int→Prop
  | [],_=>True
  | x::r,m=>x.idx m∧idxs r m
theorem z13y (l:List Tm)(m:Int):idx.idxs l m↔∀ x ∈ l,x.idx m:=by
 induction l with
 | nil=>simp [idx.idxs]
 | cons a r ih=>simp [idx.idxs,ih]
theorem idx_eq (t:Tm)(m:Int):t.idx m↔(0≤t.index∧t.index≤m)∧∀ x ∈ t.args,x.idx m:=by cases t;simp only [idx,z13y,index,args]
theorem idx_mono {t:Tm}{m n:Int}(h:m≤n)(hi:t.idx m):t.idx n:=by
 induction t using Tm.ind with
 | h t ih=>
 rw [idx_eq] at hi ⊢
 exact ⟨⟨hi.1.1,by omega⟩,fun x hx=>ih x hx (hi.2 x hx)⟩
end Tm
end
section
variable {gl:Globs}
theorem zai {X:Ctx}{k kk:List Item}{s:St}(S:St)(h1:W X kk S→W X k s)(h2:W X kk S):W X k s:=h1 h2
theorem z13z (t:Tm):Con1 Tryz.prog gl 146 [t.dv] [] (dint (bindI t.kind)) []:=by
 refine t_in Tryz.func146 ?_
 intro X hP hgl hf hfn hn hR hids hfit
 by_cases h:t.kind=2
 ·refine t_g @h ?_
  refine t_r ?_
  simp [go_sem,hP,hgl,hn,bindI,h] <;> (try omega)
 ·refine t_g @h ?_
  refine t_r ?_
  simp [go_sem,hP,hgl,hn,bindI,h] <;> (try omega)
theorem zgx (k:Int):0≤bindI k∧bindI k≤1:=by unfold bindI;split <;> omega
theorem z140 (t:Tm)(f b:Int)(hi:t.idx 1099511627776)(hb1:-1099511627776≤b)(hb2:b≤1099511627776)(hf0:0≤f)(hfc:f+t.count≤1099511627776):Con1 Tryz.prog gl 118 [t.dv,dint f,dint b] [] (t.upN f b).dv []:=by
 induction t using Tm.ind generalizing f with
 | h t ih=>
 have hct:=Tm.count_eq t
 have hbd:=zgx t.kind
 have hix:=(Tm.idx_eq t _).1 hi
 refine t_in Tryz.func118 ?_
 intro X hP hgl hf hfn hn hR hids hfit
 have hlen:=Tm.fit_len (hfit t.dv (by simp))
 refine t_g0 ?_
 apply zai [(.loc 7,.row ([.v (dint t.kind),.v (dint (if t.kind=1∧f≤t.index then t.index+b else t.index)),.v (dint t.type.kind),.v (.sl (t.type.args.map Ty.cells)),.own 0 []])),(.slot 7,.one (.loc 7 0)),(.slot 1,.one (.v (dint f))),(.slot 2,.one (.v (dint b))),(.loc 3,.row ([.v (dint t.kind),.v (dint t.index),.v (dint t.type.kind),.v (.sl (t.type.args.map Ty.cells)),.v (.sl (t.args.map Tm.cells))])),(.slot 3,.one (.loc 3 0)),(.loc 6,.row ([.v (dint 0),.v (dint 0),.v (dint 0),.own 0 [],.own 0 []])),(.slot 6,.one (.loc 6 0)),(.slot 34,.one (.v (dint 0))),(.slot 33,.one (.v (dint t.args.length))),(.slot 32,.one (.v (.sl (t.args.map Tm.cells))))]
 ·intro hrest
  by_cases h1:t.kind=1
  ·by_cases h2:f≤t.index
   ·have h2':¬ t.index<f:=by omega
    refine t_g (j2 @h1 @h2) ?_
    refine t_b ?_
    refine z0e [] (j2 @h1 @h2) hrest
   ·refine t_g (j2 @h1 @h2) ?_
    refine t_b ?_
    refine z0e [] (j2 @h1 @h2) hrest
  ·refine t_g @h1 ?_
   refine t_b ?_
   refine z0e [] @h1 hrest
 ·refine t_a ?_
  refine z0e [(1007,0)] trivial (z1z (t.args) (fun done rest=>[(.loc 7,.row ([.v (dint t.kind),.v (dint (if t.kind=1∧f≤t.index then t.index+b else t.index)),.v (dint t.type.kind),.v (.sl (t.type.args.map Ty.cells)),.own 1007 (done.map fun x=>(x.upN (f+bindI t.kind) b).cells)])),(.slot 7,.one (.loc 7 0)),(.tok 1007,.tk 5 done.length),(.slot 1,.one (.v (dint f))),(.slot 2,.one (.v (dint b))),(.loc 3,.row ([.v (dint t.kind),.v (dint t.index),.v (dint t.type.kind),.v (.sl (t.type.args.map Ty.cells)),.v (.sl (t.args.map Tm.cells))])),(.slot 3,.one (.loc 3 0)),(.loc 6,.row ([.v (dint 0),.v (dint 0),.v (dint 0),.own 0 [],.own 0 []])),(.slot 6,.one (.loc 6 0)),(.slot 34,.one (.v (dint done.length))),(.slot 33,.one (.v (dint t.args.length))),(.slot 32,.one (.v (.sl (t.args.map Tm.cells))))]) ?_ ?_)
  ·intro done x rest hL hg0 hnext
   have hlt:done.length<t.args.length:=by rw [hL];simp
   have hxm:=List.mem_of_getElem? hg0
   have hcs:=Tm.count_mem hxm
   refine z00 ?_
   refine z07 ?_
   refine t_g @hg0 ?_
   refine t_c2 @hg0 (z13z t) (ih x hxm (f+bindI t.kind) (hix.2 x hxm) (by omega) (by omega)) ?_
   refine t_gt (wr [(1007,48)]) (Tm.cells_eq (x.upN (f+bindI t.kind) b)) trivial hnext
  ·refine z00 ?_
   refine t_no ?_
   refine t_g0 ?_
   refine t_r ?_
   simp [go_sem,hP,hgl,hn] <;> (try omega)
   rw [Tm.upN_eq t]
   simp [Tm.dv,Tm.cells_eq,Tm.kind_mk,Tm.index_mk,Tm.type_mk,Tm.args_mk]
theorem z5h (i:Int):Con1 Tryz.prog gl 43 [dint i] [] (Tm.mk 1 i (Ty.mk 0 []) []).dv []:=by
 refine t_in Tryz.func43 ?_
 intro X hP hgl hf hfn hn hR hids hfit
 refine t_g0 ?_
 refine t_r ?_
 simp [go_sem,hP,hgl,hn] <;> (try omega)
 all_goals exact t_f
end
section
variable {gl:Globs}
def appT (f a:Tm):Tm:=Tm.mk 3 0 (Ty.mk 0 []) [f,a]
theorem z37 (k:Int)(s:Ty)(l:List Tm):Con1 Tryz.prog gl 45 [dint k,s.dv,.sl (l.map Tm.cells)] [] (Tm.mk k 0 s l).dv []:=by
 refine t_in Tryz.func45 ?_
 intro X hP hgl hf hfn hn hR hids hfit
 refine t_g0 ?_
 refine t_c1 trivial (z1o k l) ?_
 refine t_g0 ?_
 refine t_c1 trivial (z4b s) ?_
 refine t_g0 ?_
 refine t_r ?_
 simp [go_sem,hP,hgl,hn] <;> (try omega)
 all_goals exact t_f
end
section
variable {gl:Globs}
def lamsT (b:Tm)(l:List Ty):Tm:=l.foldr (fun s b=>Tm.mk 2 0 s [b]) b
def appsT (f:Tm)(l:List Tm):Tm:=l.foldl appT f
theorem z141 (f:Tm)(l:List Tm)(x:Tm):appsT f (l++[x])=appT (appsT f l) x:=by simp [appsT]
theorem z142 (f:Tm):appsT f []=f:=rfl
theorem z143 (b:Tm)(l:List Ty)(j:Nat)(s:Ty)(h:l[j]? = some s):lamsT b (l.drop j)=Tm.mk 2 0 s [lamsT b (l.drop (j+1))]:=by
 obtain ⟨hj,hs⟩:=List.getElem?_eq_some_iff.1 h
 rw [List.drop_eq_getElem_cons hj,hs]
 rfl
theorem z38 (i:Int):Con1 Tryz.prog gl 157 [dint i] [] (Tm.mk 1 i (Ty.mk 0 []) []).dv []:=by
 refine t_in Tryz.func157 ?_
 intro X hP hgl hf hfn hn hR hids hfit
 refine t_g0 ?_
 refine t_r ?_
 simp [go_sem,hP,hgl,hn] <;> (try omega)
 all_goals exact t_f
theorem z144 (k:Int)(s:Ty)(a b c:Tm):Con1 Tryz.prog gl 173 [dint k,s.dv,a.dv,b.dv,c.dv] [] (Tm.mk k 0 s [a,b,c]).dv []:=by
 refine t_in Tryz.func173 ?_
 intro X hP hgl hf hfn hn hR hids hfit
 refine t_g0 ?_
 refine t_r ?_
 simp [go_sem,hP,hgl,hn] <;> (try omega)
 all_goals exact t_f
theorem zgy (b:Tm)(l:List Ty):Con1 Tryz.prog gl 172 [b.dv,.sl (l.map Ty.cells)] [] (lamsT b l).dv []:=by
 refine t_in Tryz.func172 ?_
 intro X hP hgl hf hfn hn hR hids hfit
 have hlen:=z4d (hfit (.sl (l.map Ty.cells)) (by simp))
 simp only [List.length_map] at hlen
 have h0:lamsT b []=b:=rfl
 refine t_g0 ?_
 refine t_a ?_
 refine z0e [] @h0 (z1k (fun k:Nat=>k≤l.length) (fun k:Nat=>[(.slot 1,.one (.v (.sl (l.map Ty.cells)))),(.slot 5,.one (.v (dint ((k:Int) - 1)))),(.loc 2,.row ([.v (dint (lamsT b (l.drop k)).kind),.v (dint (lamsT b (l.drop k)).index),.v (dint (lamsT b (l.drop k)).type.kind),.v (.sl ((lamsT b (l.drop k)).type.args.map Ty.cells)),.v (.sl ((lamsT b (l.drop k)).args.map Tm.cells))])),(.slot 2,.one (.loc 2 0)),(.loc 4,.row ([.v (dint 0),.v (dint 0),.v (dint 0),.own 0 [],.own 0 []])),(.slot 4,.one (.loc 4 0))]) (fun k:Nat=>k) l.length (Nat.le_refl _) ?_)
 intro k hk ih2
 cases k with
 | zero=>
  refine t_g0 ?_
  refine t_r ?_
  simp [go_sem,hP,hgl,hn] <;> (try omega)
  all_goals exact t_f
 | succ j=>
  have hj:l[j]? = some l[j]:=List.getElem?_eq_getElem hk
  generalize l[j]=s at hj
  have hd:=z143 b l j s hj
  have hj':((j+1:Nat):Int) - 1=j:=by omega
  rw [hj']
  refine t_gt (wr []) (j2 @hd (j2 @Tm.kind_mk (j2 @Tm.index_mk (j2 @Tm.type_mk (j2 @Tm.args_mk (Tm.cells_eq (lamsT b (l.drop (j+1))))))))) @hj (ih2 j (by omega) (by omega))
theorem zgz (f:Tm)(l:List Tm):Con1 Tryz.prog gl 47 [f.dv,.sl (l.map Tm.cells)] [] (appsT f l).dv []:=by
 refine t_in Tryz.func47 ?_
 intro X hP hgl hf hfn hn hR hids hfit
 have hlen:=z4d (hfit (.sl (l.map Tm.cells)) (by simp))
 simp only [List.length_map] at hlen
 refine t_g0 ?_
 refine t_a ?_
 refine z0e [] @z142 (z1z (l) (fun done rest=>[(.slot 9,.one (.v (dint done.length))),(.slot 8,.one (.v (dint l.length))),(.slot 7,.one (.v (.sl (l.map Tm.cells)))),(.loc 2,.row ([.v (dint (appsT f done).kind),.v (dint (appsT f done).index),.v (dint (appsT f done).type.kind),.v (.sl ((appsT f done).type.args.map Ty.cells)),.v (.sl ((appsT f done).args.map Tm.cells))])),(.slot 2,.one (.loc 2 0)),(.loc 4,.row ([.v (dint 0),.v (dint 0),.v (dint 0),.own 0 [],.own 0 []])),(.slot 4,.one (.loc 4 0))]) ?_ ?_)
 ·intro done x rest hL hg0 hnext
  have hlt:done.length<l.length:=by rw [hL];simp
  refine z00 ?_
  refine z07 ?_
  refine t_g @hg0 ?_
  refine t_c1 @hg0 (z1o 3 [appsT f done,x]) ?_
  repeat (first|(refine z0c [] (by simp [go_sem]) (by simp [go_sem,z141,appT,Tm.kind_mk,Tm.index_mk,Tm.type_mk,Tm.args_mk] <;> omega) (by simp [go_sem]) hnext)|refine z0a ?_|refine z01 ?_|refine z0b ?_|refine z03 ?_|refine z02 ?_|refine z04 rfl ?_|((first|refine z05 [] fun K hK=>?_|refine z09 (by rw [hP];exact z08) [] fun K hK=>?_);simp [go_sem,hP,hgl,hn];(repeat (refine ⟨by omega,?_⟩));(first|refine hK _ ?_|refine ⟨by rfl,hK _ ?_⟩);clear hK K)|refine z0f rfl (fun _=>?_) (fun hq=>False.elim (by first|(simp;done)|(simp;omega)|(simp at hq;done)|(simp at hq;omega)))|refine z0f rfl (fun hq=>False.elim (by first|(simp;done)|(simp;omega)|(simp at hq;done)|(simp at hq;omega))) (fun _=>?_))
 ·refine z00 ?_
  refine t_no ?_
  refine t_g0 ?_
  refine t_r ?_
  simp [go_sem,hP,hgl,hn] <;> (try omega)
  all_goals exact t_f
def vT (i:Int):Tm:=Tm.mk 1 i (Ty.mk 0 []) []
def nT (k:Int)(l:List Tm):Tm:=Tm.mk k 0 (Ty.mk 0 []) l
def recT (b s o:Tm):Tm:=Tm.mk 6 0 (Ty.mk 1 []) [b,lamsT s [Ty.mk 1 [],Ty.mk 1 []],o]
def twoT (b:Tm):Tm:=lamsT b [Ty.mk 1 [],Ty.mk 1 []]
def predT:Tm:=lamsT (recT (nT 4 []) (vT 1) (vT 0)) [Ty.mk 1 []]
def plusT:Tm:=twoT (recT (vT 1) (nT 5 [vT 0]) (vT 0))
def subT:Tm:=twoT (recT (vT 1) (appsT predT [vT 0]) (vT 0))
theorem zaj (a b c:Tm):Con1 Tryz.prog gl 156 [a.dv,b.dv,c.dv] [] (recT a b c).dv []:=by
 refine t_in Tryz.func156 ?_
 intro X hP hgl hf hfn hn hR hids hfit
 refine t_g0 ?_
 refine t_c5 @z2i z6o z6o z6o (zgy b [Ty.mk 1 [],Ty.mk 1 []]) (z144 6 (Ty.mk 1 []) a (lamsT b [Ty.mk 1 [],Ty.mk 1 []]) c) ?_
 refine t_r ?_
 simp [go_sem,hP,hgl,hn,recT] <;> (try omega)
 all_goals exact t_f
theorem zak (b:Tm):Con1 Tryz.prog gl 155 [b.dv] [] (twoT b).dv []:=by
 refine t_in Tryz.func155 ?_
 intro X hP hgl hf hfn hn hR hids hfit
 refine t_g0 ?_
 refine t_c3 @z2i z6o z6o (zgy b [Ty.mk 1 [],Ty.mk 1 []]) ?_
 refine t_r ?_
 simp [go_sem,hP,hgl,hn,twoT] <;> (try omega)
theorem z145:Con1 Tryz.prog gl 126 [] [] plusT.dv []:=by
 refine t_in Tryz.func126 ?_
 intro X hP hgl hf hfn hn hR hids hfit
 refine t_g0 ?_
 refine t_a ?_
 first|refine z05 [] fun K hK=>?_|refine z09 (by rw [hP];exact z08) [] fun K hK=>?_
 simp [go_sem,hP,hgl,hn,nT,vT]
 repeat (refine ⟨by omega,?_⟩)
 first|refine z1u hP hgl (z38 1) (by simp [go_sem,hP,hgl,hn,nT,vT]) rfl (by simp [go_sem]) (by simp) (by rw [hn];exact Nat.le_of_ble_eq_true rfl) ?_|refine z1v (fun _ _=>z0l) hP hgl (z38 1) (by simp [go_sem,hP,hgl,hn,nT,vT]) rfl (by simp [go_sem]) (by simp) (by rw [hn];exact Nat.le_of_ble_eq_true rfl) ?_|refine z23 hP hgl (z38 1) (by simp [go_sem,hP,hgl,hn,nT,vT]) rfl (by simp [go_sem]) (by simp) (by rw [hn];exact Nat.le_of_ble_eq_true rfl) (by simp [go_sem];rfl) (by rw [hn];exact Nat.le_of_ble_eq_true rfl) (by simp [go_sem]) ?_|refine z24 (fun _ _=>z0l) hP hgl (z38 1) (by simp [go_sem,hP,hgl,hn,nT,vT]) rfl (by simp [go_sem]) (by simp) (by rw [hn];exact Nat.le_of_ble_eq_true rfl) (by simp [go_sem];rfl) (by rw [hn];exact Nat.le_of_ble_eq_true rfl) (by simp [go_sem]) ?_
 simp [go_sem,hP,hgl,hn,nT,vT]
 repeat (refine ⟨by omega,?_⟩)
 first|refine z1u hP hgl (z38 0) (by simp [go_sem,hP,hgl,hn,nT,vT]) rfl (by simp [go_sem]) (by simp) (by rw [hn];exact Nat.le_of_ble_eq_true rfl) ?_|refine z1v (fun _ _=>z0l) hP hgl (z38 0) (by simp [go_sem,hP,hgl,hn,nT,vT]) rfl (by simp [go_sem]) (by simp) (by rw [hn];exact Nat.le_of_ble_eq_true rfl) ?_|refine z23 hP hgl (z38 0) (by simp [go_sem,hP,hgl,hn,nT,vT]) rfl (by simp [go_sem]) (by simp) (by rw [hn];exact Nat.le_of_ble_eq_true rfl) (by simp [go_sem];rfl) (by rw [hn];exact Nat.le_of_ble_eq_true rfl) (by simp [go_sem]) ?_|refine z24 (fun _ _=>z0l) hP hgl (z38 0) (by simp [go_sem,hP,hgl,hn,nT,vT]) rfl (by simp [go_sem]) (by simp) (by rw [hn];exact Nat.le_of_ble_eq_true rfl) (by simp [go_sem];rfl) (by rw [hn];exact Nat.le_of_ble_eq_true rfl) (by simp [go_sem]) ?_
 simp [go_sem,hP,hgl,hn,nT,vT]
 repeat (refine ⟨by omega,?_⟩)
 first|refine z1u hP hgl (zae 5 [vT 0]) (by simp [go_sem,hP,hgl,hn,nT,vT]) rfl (by simp [go_sem]) (by simp) (by rw [hn];exact Nat.le_of_ble_eq_true rfl) ?_|refine z1v (fun _ _=>z0l) hP hgl (zae 5 [vT 0]) (by simp [go_sem,hP,hgl,hn,nT,vT]) rfl (by simp [go_sem]) (by simp) (by rw [hn];exact Nat.le_of_ble_eq_true rfl) ?_|refine z23 hP hgl (zae 5 [vT 0]) (by simp [go_sem,hP,hgl,hn,nT,vT]) rfl (by simp [go_sem]) (by simp) (by rw [hn];exact Nat.le_of_ble_eq_true rfl) (by simp [go_sem];rfl) (by rw [hn];exact Nat.le_of_ble_eq_true rfl) (by simp [go_sem]) ?_|refine z24 (fun _ _=>z0l) hP hgl (zae 5 [vT 0]) (by simp [go_sem,hP,hgl,hn,nT,vT]) rfl (by simp [go_sem]) (by simp) (by rw [hn];exact Nat.le_of_ble_eq_true rfl) (by simp [go_sem];rfl) (by rw [hn];exact Nat.le_of_ble_eq_true rfl) (by simp [go_sem]) ?_
 simp [go_sem,hP,hgl,hn,nT,vT]
 repeat (refine ⟨by omega,?_⟩)
 first|refine z1u hP hgl (z38 0) (by simp [go_sem,hP,hgl,hn,nT,vT]) rfl (by simp [go_sem]) (by simp) (by rw [hn];exact Nat.le_of_ble_eq_true rfl) ?_|refine z1v (fun _ _=>z0l) hP hgl (z38 0) (by simp [go_sem,hP,hgl,hn,nT,vT]) rfl (by simp [go_sem]) (by simp) (by rw [hn];exact Nat.le_of_ble_eq_true rfl) ?_|refine z23 hP hgl (z38 0) (by simp [go_sem,hP,hgl,hn,nT,vT]) rfl (by simp [go_sem]) (by simp) (by rw [hn];exact Nat.le_of_ble_eq_true rfl) (by simp [go_sem];rfl) (by rw [hn];exact Nat.le_of_ble_eq_true rfl) (by simp [go_sem]) ?_|refine z24 (fun _ _=>z0l) hP hgl (z38 0) (by simp [go_sem,hP,hgl,hn,nT,vT]) rfl (by simp [go_sem]) (by simp) (by rw [hn];exact Nat.le_of_ble_eq_true rfl) (by simp [go_sem];rfl) (by rw [hn];exact Nat.le_of_ble_eq_true rfl) (by simp [go_sem]) ?_
 simp [go_sem,hP,hgl,hn,nT,vT]
 repeat (refine ⟨by omega,?_⟩)
 first|refine z1u hP hgl (zaj (vT 1) (nT 5 [vT 0]) (vT 0)) (by simp [go_sem,hP,hgl,hn,nT,vT]) rfl (by simp [go_sem]) (by simp) (by rw [hn];exact Nat.le_of_ble_eq_true rfl) ?_|refine z1v (fun _ _=>z0l) hP hgl (zaj (vT 1) (nT 5 [vT 0]) (vT 0)) (by simp [go_sem,hP,hgl,hn,nT,vT]) rfl (by simp [go_sem]) (by simp) (by rw [hn];exact Nat.le_of_ble_eq_true rfl) ?_|refine z23 hP hgl (zaj (vT 1) (nT 5 [vT 0]) (vT 0)) (by simp [go_sem,hP,hgl,hn,nT,vT]) rfl (by simp [go_sem]) (by simp) (by rw [hn];exact Nat.le_of_ble_eq_true rfl) (by simp [go_sem];rfl) (by rw [hn];exact Nat.le_of_ble_eq_true rfl) (by simp [go_sem]) ?_|refine z24 (fun _ _=>z0l) hP hgl (zaj (vT 1) (nT 5 [vT 0]) (vT 0)) (by simp [go_sem,hP,hgl,hn,nT,vT]) rfl (by simp [go_sem]) (by simp) (by rw [hn];exact Nat.le_of_ble_eq_true rfl) (by simp [go_sem];rfl) (by rw [hn];exact Nat.le_of_ble_eq_true rfl) (by simp [go_sem]) ?_
 simp [go_sem,hP,hgl,hn,nT,vT]
 repeat (refine ⟨by omega,?_⟩)
 first|refine z1u hP hgl (zak (recT (vT 1) (nT 5 [vT 0]) (vT 0))) (by simp [go_sem,hP,hgl,hn,nT,vT]) rfl (by simp [go_sem]) (by simp) (by rw [hn];exact Nat.le_of_ble_eq_true rfl) ?_|refine z1v (fun _ _=>z0l) hP hgl (zak (recT (vT 1) (nT 5 [vT 0]) (vT 0))) (by simp [go_sem,hP,hgl,hn,nT,vT]) rfl (by simp [go_sem]) (by simp) (by rw [hn];exact Nat.le_of_ble_eq_true rfl) ?_|refine z23 hP hgl (zak (recT (vT 1) (nT 5 [vT 0]) (vT 0))) (by simp [go_sem,hP,hgl,hn,nT,vT]) rfl (by simp [go_sem]) (by simp) (by rw [hn];exact Nat.le_of_ble_eq_true rfl) (by simp [go_sem];rfl) (by rw [hn];exact Nat.le_of_ble_eq_true rfl) (by simp [go_sem]) ?_|refine z24 (fun _ _=>z0l) hP hgl (zak (recT (vT 1) (nT 5 [vT 0]) (vT 0))) (by simp [go_sem,hP,hgl,hn,nT,vT]) rfl (by simp [go_sem]) (by simp) (by rw [hn];exact Nat.le_of_ble_eq_true rfl) (by simp [go_sem];rfl) (by rw [hn];exact Nat.le_of_ble_eq_true rfl) (by simp [go_sem]) ?_
 simp [go_sem,hP,hgl,hn,nT,vT]
 refine t_e ?_
 clear hK K
 refine t_r ?_
 simp [go_sem,hP,hgl,hn,plusT,nT,vT] <;> (try omega)
end
section
variable {gl:Globs}
theorem z4u:∀ n:Nat,(numTm n).count=n+1
 | 0=>rfl
 | n+1=>by rw [numTm,Tm.count_eq];simp [Tm.args,Tm.count.counts,z4u n];omega
end
section
theorem zal:∀ n:Nat,(numTm n).shape=true
 | 0=>rfl
 | n+1=>by
  rw [numTm,Tm.shape_eq]
  simp [Tm.kind,Tm.index,Tm.type,Tm.args,Tm.shape.shapes,zal n,tmKind,tyOfKind,arityI,Ty.zero,Ty.kind,Ty.args]
end
section
inductive T where
 | nat|list|unit
 | pair (a b:T)
 | fn (a b:T)
 deriving DecidableEq
namespace T
set_option linter.unusedSimpArgs false
set_option linter.unusedVariables false
set_option linter.unnecessarySimpa false
def ty:T→Ty
 | nat=>Ty.mk 1 []
 | list=>Ty.mk 2 []
 | unit=>Ty.mk 5 []
 | pair a b=>Ty.mk 3 [a.ty,b.ty]
 | fn a b=>Ty.mk 4 [a.ty,b.ty]
def V:T→Type
 | nat=>Nat
 | list=>List Nat
 | unit=>Unit
 | pair a b=>a.V × b.V
 | fn a b=>a.V→b.V
def size:T→Nat
 | nat=>1
 | list=>1
 | unit=>1
 | pair a b=>1+a.size+b.size
 | fn a b=>1+a.size+b.size
theorem ty_count (a:T):a.ty.count=a.size:=by
 induction a with
 | nat=>rfl
 | list=>rfl
 | unit=>rfl
 | pair a b iha ihb=>show 1+(a.ty.count+(b.ty.count+0))=_;simp only [size];omega
 | fn a b iha ihb=>show 1+(a.ty.count+(b.ty.count+0))=_;simp only [size];omega
theorem ty_shape (a:T):a.ty.shape=true:=by
 induction a with
 | nat=>rfl
 | list=>rfl
 | unit=>rfl
 | pair a b iha ihb=>simp [ty,Ty.shape,Ty.shape.shapes,tyKind,iha,ihb]
 | fn a b iha ihb=>simp [ty,Ty.shape,Ty.shape.shapes,tyKind,iha,ihb]
def ok (a:T):Prop:=a.size≤64
theorem ok_ty {a:T}(h:a.ok):a.ty.ok:=⟨a.ty_shape,by rw [ty_count];exact h⟩
theorem ty_ok {a:T}(h:a.ty.ok):a.ok:=by have:=h.2;rw [ty_count] at this;exact this
theorem of_shape (s:Ty)(h:s.shape=true):∃ a:T,a.ty=s:=by
 induction s using Ty.ind with
 | h s ih=>
 cases s with
 | mk k ts=>
  have h1:=h
  rw [Ty.shape_eq,Bool.and_eq_true,Ty.shapes_iff] at h1
  obtain ⟨h2,h3⟩:=h1
  unfold tyKind at h2
  simp [Ty.kind,Ty.args] at h2
  rcases h2 with ⟨h2,rfl⟩|⟨h2,h4⟩
  ·rcases of_decide_eq_true h2 with rfl|rfl|rfl
   ·exact ⟨nat,rfl⟩
   ·exact ⟨list,rfl⟩
   ·exact ⟨unit,rfl⟩
  ·match ts,h4,ih,h3 with
   | [x,y],_,ih,h3=>
    obtain ⟨a,rfl⟩:=ih x (by simp [Ty.args]) (h3 x (by simp [Ty.args]))
    obtain ⟨b,rfl⟩:=ih y (by simp [Ty.args]) (h3 y (by simp [Ty.args]))
    rcases of_decide_eq_true h2 with rfl|rfl
    ·exact ⟨pair a b,rfl⟩
    ·exact ⟨fn a b,rfl⟩
theorem ty_inj:∀ {a b:T},a.ty=b.ty→a=b:=by
 intro a
 induction a with
 | nat=>intro b h;cases b <;> simp [ty] at h <;> rfl
 | list=>intro b h;cases b <;> simp [ty] at h <;> rfl
 | unit=>intro b h;cases b <;> simp [ty] at h <;> rfl
 | pair x y ihx ihy=>intro b h;cases b <;> simp [ty] at h;rw [ihx h.1,ihy h.2]
 | fn x y ihx ihy=>intro b h;cases b <;> simp [ty] at h;rw [ihx h.1,ihy h.2]
def dflt:(a:T)→a.V
 | nat=>(0:Nat)
 | list=>([]:List Nat)
 | unit=>()
 | pair a b=>(a.dflt,b.dflt)
 | fn _ b=>fun _=>b.dflt
end T
def Env:List T→Type
 | []=>Unit
 | a::Γ=>a.V × Env Γ
inductive At:(Γ:List T)→Nat→(a:T)→(Env Γ→a.V)→Prop
 | zero {a:T} {Γ:List T}:At (a::Γ) 0 a (fun e=>e.1)
 | succ {a b:T} {Γ:List T} {i:Nat} {p:Env Γ→a.V} (h:At Γ i a p):At (b::Γ) (i+1) a (fun e=>p e.2)
theorem At.of:∀ {Γ:List T} {i:Nat} {a:T},Γ[i]? = some a→∃ p,At Γ i a p
 | [],_,_,h=>by simp at h
 | b::Γ,0,a,h=>by simp at h;subst h;exact ⟨_,.zero⟩
 | b::Γ,i+1,a,h=>by
  obtain ⟨p,hp⟩:=At.of (Γ:=Γ) (i:=i) (a:=a) (by simpa using h)
  exact ⟨_,.succ hp⟩
theorem At.get {Γ:List T}{i:Nat}{a:T}{p:Env Γ→a.V}(h:At Γ i a p):Γ[i]? = some a:=by
 induction h with
 | zero=>rfl
 | succ h ih=>simpa using ih
def natRec {α:Type}(b:α)(f:Nat→α→α):Nat→α
 | 0=>b
 | n+1=>f n (natRec b f n)
def listRec {α:Type}(b:α)(f:Nat→List Nat→α→α):List Nat→α
 | []=>b
 | x::l=>f x l (listRec b f l)
def lamT (a:T)(b:Tm):Tm:=Tm.mk 2 0 a.ty [b]
inductive Dn:(Γ:List T)→Tm→(a:T)→(Env Γ→a.V)→Prop
 | var {Γ:List T} {i:Nat} {a:T} {p:Env Γ→a.V} (h:At Γ i a p):Dn Γ (vT i) a p
 | lam {Γ:List T} {a r:T} {b:Tm} {f:Env (a::Γ)→r.V} (ha:a.ok) (h:Dn (a::Γ) b r f):Dn Γ (lamT a b) (.fn a r) (fun e v=>f (v,e))
 | app {Γ:List T} {a b:T} {f x:Tm} {F:Env Γ→(T.fn a b).V} {X:Env Γ→a.V} (hf:Dn Γ f (.fn a b) F) (hx:Dn Γ x a X):Dn Γ (nT 3 [f,x]) b (fun e=>F e (X e))
 | zero {Γ:List T}:Dn Γ (nT 4 []) .nat (fun _=>(0:Nat))
 | succ {Γ:List T} {x:Tm} {X:Env Γ→T.nat.V} (hx:Dn Γ x .nat X):Dn Γ (nT 5 [x]) .nat (fun e=>Nat.succ (X e))
 | rc {Γ:List T} {a:T} {b f n:Tm} {B:Env Γ→a.V} {F:Env Γ→(T.fn .nat (.fn a a)).V} {N:Env Γ→T.nat.V} (ha:a.ok) (hb:Dn Γ b a B) (hf:Dn Γ f (.fn .nat (.fn a a)) F) (hn:Dn Γ n .nat N) :
   Dn Γ (Tm.mk 6 0 a.ty [b,f,n]) a (fun e=>natRec (B e) (F e) (N e))
 | nil {Γ:List T}:Dn Γ (nT 7 []) .list (fun _=>([]:List Nat))
 | cons {Γ:List T} {x l:Tm} {X:Env Γ→T.nat.V} {L:Env Γ→T.list.V} (hx:Dn Γ x .nat X) (hl:Dn Γ l .list L):Dn Γ (nT 8 [x,l]) .list (fun e=>List.cons (X e) (L e))
 | fold {Γ:List T} {a:T} {b f n:Tm} {B:Env Γ→a.V} {F:Env Γ→(T.fn .nat (.fn .list (.fn a a))).V} {N:Env Γ→T.list.V} (ha:a.ok) (hb:Dn Γ b a B) (hf:Dn Γ f (.fn .nat (.fn .list (.fn a a))) F) (hn:Dn Γ n .list N) :
   Dn Γ (Tm.mk 9 0 a.ty [b,f,n]) a (fun e=>listRec (B e) (F e) (N e))
 | pair {Γ:List T} {a b:T} {x y:Tm} {X:Env Γ→a.V} {Y:Env Γ→b.V} (hx:Dn Γ x a X) (hy:Dn Γ y b Y):Dn Γ (nT 10 [x,y]) (.pair a b) (fun e=>Prod.mk (X e) (Y e))
 | fst {Γ:List T} {a b:T} {x:Tm} {X:Env Γ→(T.pair a b).V} (hx:Dn Γ x (.pair a b) X):Dn Γ (nT 11 [x]) a (fun e=>Prod.fst (X e))
 | snd {Γ:List T} {a b:T} {x:Tm} {X:Env Γ→(T.pair a b).V} (hx:Dn Γ x (.pair a b) X):Dn Γ (nT 12 [x]) b (fun e=>Prod.snd (X e))
 | unit {Γ:List T}:Dn Γ (nT 13 []) .unit (fun _=>())
end
section
def Env.drop {Γ:List T}:(Ξ:List T)→Env (Ξ++Γ)→Env Γ
 | [],e=>e
 | _::Ξ,e=>Env.drop Ξ e.2
def Env.wk {Γ:List T}:(Δ Ξ:List T)→Env (Δ++(Ξ++Γ))→Env (Δ++Γ)
 | [],Ξ,e=>Env.drop Ξ e
 | _::Δ,Ξ,e=>(e.1,Env.wk Δ Ξ e.2)
theorem At.drop {Γ:List T}{i:Nat}{a:T}{p:Env Γ→a.V}(h:At Γ i a p):∀ Ξ:List T,At (Ξ++Γ) (i+Ξ.length) a (fun e=>p (Env.drop Ξ e))
 | []=>h
 | _::Ξ=>.succ (At.drop h Ξ)
theorem At.wk {Γ Ξ:List T}{a:T}:∀ (Δ:List T) {i:Nat} {p:Env (Δ++Γ)→a.V},At (Δ++Γ) i a p→At (Δ++(Ξ++Γ)) (if i<Δ.length then i else i+Ξ.length) a (fun e=>p (Env.wk Δ Ξ e))
 | [],i,p,h=>by rw [if_neg (by simp)];exact At.drop h Ξ
 | b::Δ,i,p,h=>by
  cases h with
  | zero=>rw [if_pos (by simp)];exact At.zero
  | succ h=>
   rename_i j q
   have:=At.succ (b:=b) (At.wk (Ξ:=Ξ) Δ h)
   have e:(if j+1<(b::Δ).length then j+1 else j+1+Ξ.length)=(if j<Δ.length then j else j+Ξ.length)+1:=by
    simp only [List.length_cons]
    split <;> split <;> omega
   rw [e]
   exact this
theorem z1d {k:Int}(hk:k ≠ 1∧k ≠ 2)(i:Int)(y:Ty)(a:List Tm)(f b:Int):(Tm.mk k i y a).upN f b=Tm.mk k i y (a.map fun x=>x.upN f b):=by
 rw [Tm.upN_eq]
 simp [Tm.kind,Tm.index,Tm.type,Tm.args,hk.1,hk.2,bindI]
theorem zh0 (a:T)(t:Tm)(f b:Int):(lamT a t).upN f b=lamT a (t.upN (f+1) b):=by
 rw [lamT,Tm.upN_eq]
 simp [Tm.kind,Tm.index,Tm.type,Tm.args,bindI,lamT]
theorem z6q (i:Int)(f b:Int):(vT i).upN f b=vT (if f≤i then i+b else i):=by
 rw [vT,Tm.upN_eq]
 simp [Tm.kind,Tm.index,Tm.type,Tm.args,vT]
theorem zh1 (t:Tm)(f:Int):t.upN f 0=t:=by
 induction t using Tm.ind generalizing f with
 | h t ih=>
 rw [Tm.upN_eq]
 have h1:(if t.kind=1∧f≤t.index then t.index+0 else t.index)=t.index:=by split <;> omega
 have h2:(t.args.map fun x=>x.upN (f+bindI t.kind) 0)=t.args:=by
  conv=>rhs;rw [← List.map_id t.args]
  exact List.map_congr_left fun x hx=>ih x hx _
 rw [h1,h2]
 exact Tm.eta t
theorem z146 {Γ Ξ:List T}{Θ:List T}{t:Tm}{a:T}{F:Env Θ→a.V}(h:Dn Θ t a F):∀ (Δ:List T) (hΘ:Θ=Δ++Γ),Dn (Δ++(Ξ++Γ)) (t.upN Δ.length Ξ.length) a (fun e=>F (cast (congrArg Env hΘ.symm) (Env.wk Δ Ξ e))):=by
 induction h with
 | var h=>
  intro Δ hΘ
  subst hΘ
  rename_i i a p
  have:=Dn.var (At.wk (Ξ:=Ξ) Δ h)
  rw [z6q]
  have e:(if (Δ.length:Int)≤(i:Nat) then ((i:Nat):Int)+Ξ.length else (i:Nat))=((if i<Δ.length then i else i+Ξ.length:Nat):Int):=by
   split <;> split <;> omega
  rw [e]
  exact this
 | lam ha h ih=>
  intro Δ hΘ
  subst hΘ
  rw [zh0]
  have:=ih (_::Δ) rfl
  simp only [List.length_cons,Int.natCast_add,Int.cast_ofNat_Int] at this
  exact .lam ha this
 | app hf hx ihf ihx=>intro Δ hΘ;subst hΘ;rw [nT,z1d (by decide)];exact .app (ihf Δ rfl) (ihx Δ rfl)
 | zero=>intro Δ hΘ;subst hΘ;rw [nT,z1d (by decide)];exact .zero
 | succ hx ih=>intro Δ hΘ;subst hΘ;rw [nT,z1d (by decide)];exact .succ (ih Δ rfl)
 | rc ha hb hf hn ihb ihf ihn=>intro Δ hΘ;subst hΘ;rw [z1d (by decide)];exact .rc ha (ihb Δ rfl) (ihf Δ rfl) (ihn Δ rfl)
 | nil=>intro Δ hΘ;subst hΘ;rw [nT,z1d (by decide)];exact .nil
 | cons hx hl ihx ihl=>intro Δ hΘ;subst hΘ;rw [nT,z1d (by decide)];exact .cons (ihx Δ rfl) (ihl Δ rfl)
 | fold ha hb hf hn ihb ihf ihn=>intro Δ hΘ;subst hΘ;rw [z1d (by decide)];exact .fold ha (ihb Δ rfl) (ihf Δ rfl) (ihn Δ rfl)
 | pair hx hy ihx ihy=>intro Δ hΘ;subst hΘ;rw [nT,z1d (by decide)];exact .pair (ihx Δ rfl) (ihy Δ rfl)
 | fst hx ih=>intro Δ hΘ;subst hΘ;rw [nT,z1d (by decide)];exact .fst (ih Δ rfl)
 | snd hx ih=>intro Δ hΘ;subst hΘ;rw [nT,z1d (by decide)];exact .snd (ih Δ rfl)
 | unit=>intro Δ hΘ;subst hΘ;rw [nT,z1d (by decide)];exact .unit
theorem z2j {Γ:List T}{t:Tm}{a:T}{F:Env Γ→a.V}(h:Dn Γ t a F)(Ξ:List T):Dn (Ξ++Γ) (t.upN 0 Ξ.length) a (fun e=>F (Env.drop Ξ e)):=z146 (Ξ:=Ξ) h [] rfl
theorem Dn.eq {Γ:List T}{t:Tm}{a:T}{F G:Env Γ→a.V}(h:Dn Γ t a F)(e:∀ ρ,F ρ=G ρ):Dn Γ t a G:=by
 have:F=G:=funext e
 rw [← this];exact h
end
section
def T.tk:T→T
 | .nat=>.nat
 | .list=>.list
 | .unit=>.unit
 | .pair a b=>.pair a.tk b.tk
 | .fn a b=>.fn a.tk (.pair .nat b.tk)
def T.wt (a:T):T:=.pair .nat a.tk
inductive WV where
 | num (n:Nat)
 | list (l:List Nat)
 | pair (a b:WV)
 | fn (b:Tm) (e:List WV)
 | unit
abbrev EvK:=Tm→List WV→Option (WV × Nat)
def allK (ev:EvK):List Tm→List WV→Option (List WV × Nat)
 | [],_=>some ([],0)
 | x::r,e=>match ev x e with
  | none=>none
  | some (v,k)=>match allK ev r e with
   | none=>none
   | some (l,m)=>some (v::l,k+m)
def callK (ev:EvK):WV→WV→Option (WV × Nat)
 | .fn b e,x=>ev b (x::e)
 | _,_=>none
def recK (ev:EvK)(f:WV):Nat→Nat→WV→Option (WV × Nat)
 | 0,_,r=>some (r,0)
 | n+1,k,r=>match callK ev f (.num k) with
  | none=>none
  | some (g,c1)=>match callK ev g r with
   | none=>none
   | some (r',c2)=>match recK ev f n (k+1) r' with
    | none=>none
    | some (w,c3)=>some (w,1+c1+c2+c3)
def foldK (ev:EvK)(f r:WV):List Nat→Option (WV × Nat)
 | []=>some (r,0)
 | x::l=>match foldK ev f r l with
  | none=>none
  | some (r',c0)=>match callK ev f (.num x) with
   | none=>none
   | some (g,c1)=>match callK ev g (.list l) with
    | none=>none
    | some (h,c2)=>match callK ev h r' with
     | none=>none
     | some (w,c3)=>some (w,c0+1+c1+c2+c3)
def nodeK (ev:EvK)(k:Int)(l:List WV):Option (WV × Nat):=
 if k=3 then match l with
  | [f,x]=>(callK ev f x).map fun r=>(r.1,1+r.2)
  | _=>none
 else if k=4 then match l with
  | []=>some (.num 0,0)
  | _=>none
 else if k=5 then match l with
  | [.num n]=>some (.num (n+1),0)
  | _=>none
 else if k=6 then match l with
  | [b,f,.num n]=>recK ev f n 0 b
  | _=>none
 else if k=7 then match l with
  | []=>some (.list [],0)
  | _=>none
 else if k=8 then match l with
  | [.num n,.list m]=>some (.list (n::m),0)
  | _=>none
 else if k=9 then match l with
  | [b,f,.list m]=>foldK ev f b m
  | _=>none
 else if k=10 then match l with
  | [x,y]=>some (.pair x y,0)
  | _=>none
 else if k=11 then match l with
  | [.pair x _]=>some (x,0)
  | _=>none
 else if k=12 then match l with
  | [.pair _ y]=>some (y,0)
  | _=>none
 else if k=13 then match l with
  | []=>some (.unit,0)
  | _=>none
 else none
def evK:Nat→EvK
 | 0,_,_=>none
 | d+1,t,e=>
  if t.kind=2 then match t.args with
   | [b]=>some (.fn b e,0)
   | _=>none
  else if t.kind=1 then (e[t.index.toNat]?).map fun v=>(v,0)
  else match allK (evK d) t.args e with
   | none=>none
   | some (l,c)=>(nodeK (evK d) t.kind l).map fun r=>(r.1,c+r.2)
def LeK (ev ev':EvK):Prop:=∀ t e r,ev t e=some r→ev' t e=some r
theorem z5i {ev ev':EvK}(h:LeK ev ev'){f x:WV}{r:WV × Nat}(hr:callK ev f x=some r):callK ev' f x=some r:=by
 cases f with
 | fn b e=>exact h _ _ _ hr
 | _=>cases hr
theorem zam {ev ev':EvK}(h:LeK ev ev'):∀ (l:List Tm) (e:List WV) {r:List WV × Nat},allK ev l e=some r→allK ev' l e=some r
 | [],_,_,hr=>hr
 | x::l,e,r,hr=>by
  simp only [allK] at hr ⊢
  split at hr
  ·cases hr
  rename_i v k h1
  rw [h _ _ _ h1]
  simp only
  split at hr
  ·cases hr
  rename_i m c h2
  rw [zam h l e h2]
  exact hr
theorem zcm {ev ev':EvK}(h:LeK ev ev'){f:WV}:∀ (n k:Nat) (b:WV) {r:WV × Nat},recK ev f n k b=some r→recK ev' f n k b=some r
 | 0,_,_,_,hr=>hr
 | n+1,k,b,r,hr=>by
  simp only [recK] at hr ⊢
  split at hr
  ·cases hr
  rename_i g c1 h1
  rw [z5i h h1]
  simp only
  split at hr
  ·cases hr
  rename_i r' c2 h2
  rw [z5i h h2]
  simp only
  split at hr
  ·cases hr
  rename_i w c3 h3
  rw [zcm h n (k+1) r' h3]
  exact hr
theorem zcn {ev ev':EvK}(h:LeK ev ev'){f b:WV}:∀ (l:List Nat) {r:WV × Nat},foldK ev f b l=some r→foldK ev' f b l=some r
 | [],_,hr=>hr
 | x::l,r,hr=>by
  simp only [foldK] at hr ⊢
  split at hr
  ·cases hr
  rename_i r' c0 h0
  rw [zcn h l h0]
  simp only
  split at hr
  ·cases hr
  rename_i g c1 h1
  rw [z5i h h1]
  simp only
  split at hr
  ·cases hr
  rename_i h' c2 h2
  rw [z5i h h2]
  simp only
  split at hr
  ·cases hr
  rename_i w c3 h3
  rw [z5i h h3]
  exact hr
theorem zh2 {ev ev':EvK}(h:LeK ev ev'){k:Int}{l:List WV}{r:WV × Nat}(hr:nodeK ev k l=some r):nodeK ev' k l=some r:=by
 unfold nodeK at hr ⊢
 split
 ·rename_i h3
  rw [if_pos h3] at hr
  split at hr
  ·rename_i f x
   cases hq:callK ev f x with
   | none=>rw [hq] at hr;cases hr
   | some q=>rw [z5i h hq];rw [hq] at hr;exact hr
  ·cases hr
 rename_i h3
 rw [if_neg h3] at hr
 split
 ·rename_i h4;rw [if_pos h4] at hr;exact hr
 rename_i h4
 rw [if_neg h4] at hr
 split
 ·rename_i h5;rw [if_pos h5] at hr;exact hr
 rename_i h5
 rw [if_neg h5] at hr
 split
 ·rename_i h6
  rw [if_pos h6] at hr
  split at hr
  ·exact zcm h _ _ _ hr
  ·cases hr
 rename_i h6
 rw [if_neg h6] at hr
 split
 ·rename_i h7;rw [if_pos h7] at hr;exact hr
 rename_i h7
 rw [if_neg h7] at hr
 split
 ·rename_i h8;rw [if_pos h8] at hr;exact hr
 rename_i h8
 rw [if_neg h8] at hr
 split
 ·rename_i h9
  rw [if_pos h9] at hr
  split at hr
  ·exact zcn h _ hr
  ·cases hr
 rename_i h9
 rw [if_neg h9] at hr
 exact hr
theorem zh3:∀ d,LeK (evK d) (evK (d+1))
 | 0=>fun t e r h=>by cases h
 | d+1=>fun t e r h=>by
  have ih:=zh3 d
  rw [evK] at h ⊢
  split
  ·rename_i h2;rw [if_pos h2] at h;exact h
  rename_i h2
  rw [if_neg h2] at h
  split
  ·rename_i h1;rw [if_pos h1] at h;exact h
  rename_i h1
  rw [if_neg h1] at h
  split at h
  ·cases h
  rename_i l c hl
  rw [zam ih _ _ hl]
  simp only
  cases hq:nodeK (evK d) t.kind l with
  | none=>rw [hq] at h;cases h
  | some q=>rw [zh2 ih hq];rw [hq] at h;exact h
theorem z3n {d d':Nat}(h:d≤d'):LeK (evK d) (evK d'):=by
 induction h with
 | refl=>exact fun _ _ _ h=>h
 | step _ ih=>exact fun t e r hr=>zh3 _ _ _ _ (ih t e r hr)
theorem z147 {d d':Nat}{t:Tm}{e:List WV}{r r':WV × Nat}(h:evK d t e=some r)(h':evK d' t e=some r'):r=r':=by
 have h1:=z3n (Nat.le_max_left d d') _ _ _ h
 have h2:=z3n (Nat.le_max_right d d') _ _ _ h'
 rw [h1] at h2
 exact Option.some.inj h2
def Rk:(a:T)→WV→a.tk.V→Prop
 | .nat,v,n=>v = .num n
 | .list,v,l=>v = .list l
 | .unit,v,_=>v = .unit
 | .pair a b,v,p=>∃ x y,v = .pair x y∧Rk a x (Prod.fst p)∧Rk b y (Prod.snd p)
 | .fn a b,v,f=>∀ x (X:a.tk.V),Rk a x X→∃ d w k,callK (evK d) v x=some (w,k)∧Rk b w (Prod.snd (f X))∧k=Prod.fst (f X)
def RkE:(Γ:List T)→List WV→Env (Γ.map T.tk)→Prop
 | [],_,_=>True
 | a::Γ,e,ρ=>∃ v e',e=v::e'∧Rk a v (Prod.fst ρ)∧RkE Γ e' (Prod.snd ρ)
def SemK (Γ:List T)(t:Tm)(a:T)(G:Env (Γ.map T.tk)→a.wt.V):Prop:=∀ e ρ,RkE Γ e ρ→∃ d v k,evK d t e=some (v,k)∧Rk a v (Prod.snd (G ρ))∧k=Prod.fst (G ρ)
def Rq:(a:T)→a.V→a.tk.V→Prop
 | .nat,m,n=>m=n
 | .list,l,m=>l=m
 | .unit,_,_=>True
 | .pair a b,p,q=>Rq a (Prod.fst p) (Prod.fst q)∧Rq b (Prod.snd p) (Prod.snd q)
 | .fn a b,f,g=>∀ x X,Rq a x X→Rq b (f x) (Prod.snd (g X))
def RqE:(Γ:List T)→Env Γ→Env (Γ.map T.tk)→Prop
 | [],_,_=>True
 | a::Γ,e,ρ=>Rq a (Prod.fst e) (Prod.fst ρ)∧RqE Γ (Prod.snd e) (Prod.snd ρ)
def SemD (Γ:List T)(a:T)(F:Env Γ→a.V)(G:Env (Γ.map T.tk)→a.wt.V):Prop:=∀ e ρ,RqE Γ e ρ→Rq a (F e) (Prod.snd (G ρ))
theorem z148 {Γ:List T}{i:Nat}{a:T}{p:Env Γ→a.V}(h:At Γ i a p):∃ q:Env (Γ.map T.tk)→a.tk.V,At (Γ.map T.tk) i a.tk q∧(∀ e ρ,RkE Γ e ρ→∃ v,e[i]? = some v∧Rk a v (q ρ))∧∀ e ρ,RqE Γ e ρ→Rq a (p e) (q ρ):=by
 induction h with
 | zero=>exact ⟨_,.zero,(by rintro e ρ ⟨v,e',rfl,h1,-⟩;exact ⟨v,rfl,h1⟩),fun e ρ h=>h.1⟩
 | succ h ih=>
  obtain ⟨q,h1,h2,h3⟩:=ih
  refine ⟨_,.succ h1,?_,fun e ρ h=>h3 _ _ h.2⟩
  rintro e ρ ⟨v,e',rfl,-,h5⟩
  obtain ⟨w,h6,h7⟩:=h2 e' _ h5
  exact ⟨w,by simpa using h6,h7⟩
end
section
theorem z149 {d:Nat}{k i:Int}{y:Ty}{l:List Tm}{e L:List WV}{c:Nat}{r:WV × Nat}(hk:k ≠ 1∧k ≠ 2)(h1:allK (evK d) l e=some (L,c))(h2:nodeK (evK d) k L=some r) :
  evK (d+1) (Tm.mk k i y l) e=some (r.1,c+r.2):=by
 rw [evK,if_neg (show ¬ (Tm.mk k i y l).kind=2 from hk.2),if_neg (show ¬ (Tm.mk k i y l).kind=1 from hk.1)]
 show (match allK (evK d) l e with|none=>none|some (l,c)=>(nodeK (evK d) k l).map fun (r:WV × Nat)=>(r.1,c+r.2))=_
 rw [h1]
 show (nodeK (evK d) k L).map _=_
 rw [h2]
 rfl
theorem z4e {d1 d2:Nat}{k i:Int}{y:Ty}{l:List Tm}{e L:List WV}{c:Nat}{r:WV × Nat}(hk:k ≠ 1∧k ≠ 2)(h1:allK (evK d1) l e=some (L,c))(h2:nodeK (evK d2) k L=some r) :
  ∃ d,evK d (Tm.mk k i y l) e=some (r.1,c+r.2):=
 ⟨_,z149 hk (zam (z3n (Nat.le_max_left d1 d2)) _ _ h1) (zh2 (z3n (Nat.le_max_right d1 d2)) h2)⟩
theorem ak1 {d:Nat}{x:Tm}{e:List WV}{v:WV}{k:Nat}(h:evK d x e=some (v,k)):allK (evK d) [x] e=some ([v],k):=by
 simp only [allK,h,Nat.add_zero]
theorem ak2 {d1 d2:Nat}{x y:Tm}{e:List WV}{v w:WV}{k m:Nat}(h1:evK d1 x e=some (v,k))(h2:evK d2 y e=some (w,m)):∃ d,allK (evK d) [x,y] e=some ([v,w],k+m):=by
 refine ⟨max d1 d2,?_⟩
 have h1':=z3n (Nat.le_max_left d1 d2) _ _ _ h1
 have h2':=z3n (Nat.le_max_right d1 d2) _ _ _ h2
 simp only [allK,h1',h2',Nat.add_zero]
theorem ak3 {d1 d2 d3:Nat}{x y z:Tm}{e:List WV}{v w u:WV}{k m n:Nat}(h1:evK d1 x e=some (v,k))(h2:evK d2 y e=some (w,m))(h3:evK d3 z e=some (u,n)):∃ d,allK (evK d) [x,y,z] e=some ([v,w,u],k+(m+n)):=by
 obtain ⟨d,h⟩:=ak2 h2 h3
 refine ⟨max d1 d,?_⟩
 have h1':=z3n (Nat.le_max_left d1 d) _ _ _ h1
 have h':=zam (z3n (Nat.le_max_right d1 d)) _ _ h
 rw [allK,h1']
 simp only [h']
theorem z81 {d d':Nat}(h:d≤d'){f x:WV}{r:WV × Nat}(hr:callK (evK d) f x=some r):callK (evK d') f x=some r:=z5i (z3n h) hr
abbrev WT (a:T):Type:=Nat × a.tk.V
def gLeaf {a:T}(x:a.tk.V):WT a:=(0,x)
def gApp {a b:T}(f:WT (.fn a b))(x:WT a):WT b:=(Nat.succ (Nat.add (Nat.add f.1 x.1) (Prod.fst (f.2 x.2))),Prod.snd (f.2 x.2))
def gSucc (x:WT .nat):WT .nat:=(x.1,Nat.succ x.2)
def gCons (x:WT .nat)(l:WT .list):WT .list:=(Nat.add x.1 l.1,List.cons x.2 l.2)
def gPair {a b:T}(x:WT a)(y:WT b):WT (.pair a b):=(Nat.add x.1 y.1,(x.2,y.2))
def gFst {a b:T}(x:WT (.pair a b)):WT a:=(x.1,Prod.fst x.2)
def gSnd {a b:T}(x:WT (.pair a b)):WT b:=(x.1,Prod.snd x.2)
def gStep {a:T}(f:(T.fn .nat (.fn a a)).tk.V)(k:Nat)(c:WT a):WT a:=
 (Nat.succ (Nat.add (Nat.add c.1 (Prod.fst (f k))) (Prod.fst (Prod.snd (f k) c.2))),Prod.snd (Prod.snd (f k) c.2))
def gRec {a:T}(p:WT a)(q:WT (.fn .nat (.fn a a)))(r:WT .nat):WT a:=
 (Nat.add (Nat.add (Nat.add p.1 q.1) r.1) (natRec (α:=WT a) (0,p.2) (gStep q.2) r.2).1,(natRec (α:=WT a) (0,p.2) (gStep q.2) r.2).2)
def gStepL {a:T}(f:(T.fn .nat (.fn .list (.fn a a))).tk.V)(x:Nat)(l:List Nat)(c:WT a):WT a:=
 (Nat.succ (Nat.add (Nat.add (Nat.add c.1 (Prod.fst (f x))) (Prod.fst (Prod.snd (f x) l))) (Prod.fst (Prod.snd (Prod.snd (f x) l) c.2))),Prod.snd (Prod.snd (Prod.snd (f x) l) c.2))
def gFold {a:T}(p:WT a)(q:WT (.fn .nat (.fn .list (.fn a a))))(r:WT .list):WT a:=
 (Nat.add (Nat.add (Nat.add p.1 q.1) r.1) (listRec (α:=WT a) (0,p.2) (gStepL q.2) r.2).1,(listRec (α:=WT a) (0,p.2) (gStepL q.2) r.2).2)
variable {Γ:List T}{a b:T}
theorem z14a {r:T}{t:Tm}{G:Env ((a::Γ).map T.tk)→r.wt.V}(h:SemK (a::Γ) t r G):SemK Γ (lamT a t) (.fn a r) (fun ρ=>gLeaf (a:=.fn a r) fun v=>G (v,ρ)):=by
 intro e ρ he
 refine ⟨1,.fn t e,0,rfl,?_,rfl⟩
 intro x X hx
 obtain ⟨d,v,k,h1,h2,h3⟩:=h (x::e) (X,ρ) ⟨x,e,rfl,hx,he⟩
 exact ⟨d,v,k,h1,h2,h3⟩
theorem zco {k:Int}{x:a.tk.V}{v:WV}(hk:k ≠ 1∧k ≠ 2)(hv:∀ ev,nodeK ev k []=some (v,0))(hx:Rk a v x):SemK Γ (nT k []) a (fun _=>gLeaf x):=by
 intro e ρ he
 obtain ⟨d,h⟩:=z4e (d1:=0) (d2:=0) (k:=k) (i:=0) (y:=Ty.mk 0 []) (l:=[]) (e:=e) hk rfl (hv _)
 exact ⟨d,v,0,h,hx,rfl⟩
theorem z14b {f x:Tm}{F:Env (Γ.map T.tk)→(T.fn a b).wt.V}{X:Env (Γ.map T.tk)→a.wt.V}(hF:SemK Γ f (.fn a b) F)(hX:SemK Γ x a X):SemK Γ (nT 3 [f,x]) b (fun ρ=>gApp (F ρ) (X ρ)):=by
 intro e ρ he
 obtain ⟨d1,v1,c1,e1,r1,q1⟩:=hF e ρ he
 obtain ⟨d2,v2,c2,e2,r2,q2⟩:=hX e ρ he
 obtain ⟨d3,w,c3,e3,r3,q3⟩:=r1 v2 _ r2
 obtain ⟨d4,e4⟩:=ak2 e1 e2
 have e5:nodeK (evK d3) 3 [v1,v2]=some (w,1+c3):=by unfold nodeK;simp [e3]
 obtain ⟨d,h⟩:=z4e (i:=0) (y:=Ty.mk 0 []) (by decide) e4 e5
 refine ⟨d,w,_,h,r3,?_⟩
 show c1+c2+(1+c3)=Nat.succ (Nat.add (Nat.add (Prod.fst (F ρ)) (Prod.fst (X ρ))) (Prod.fst (Prod.snd (F ρ) (Prod.snd (X ρ)))))
 rw [← q1,← q2,← q3]
 simp only [Nat.succ_eq_add_one,Nat.add_eq]
 omega
theorem z14c {x:Tm}{X:Env (Γ.map T.tk)→T.nat.wt.V}(hX:SemK Γ x .nat X):SemK Γ (nT 5 [x]) .nat (fun ρ=>gSucc (X ρ)):=by
 intro e ρ he
 obtain ⟨d1,v1,c1,e1,r1,q1⟩:=hX e ρ he
 cases r1
 have e5:nodeK (evK 0) 5 [.num (Prod.snd (X ρ))]=some (.num (Nat.succ (Prod.snd (X ρ))),0):=rfl
 obtain ⟨d,h⟩:=z4e (i:=0) (y:=Ty.mk 0 []) (by decide) (ak1 e1) e5
 exact ⟨d,_,_,h,rfl,q1⟩
theorem z14d {x l:Tm}{X:Env (Γ.map T.tk)→T.nat.wt.V}{L:Env (Γ.map T.tk)→T.list.wt.V}(hX:SemK Γ x .nat X)(hL:SemK Γ l .list L):SemK Γ (nT 8 [x,l]) .list (fun ρ=>gCons (X ρ) (L ρ)):=by
 intro e ρ he
 obtain ⟨d1,v1,c1,e1,r1,q1⟩:=hX e ρ he
 obtain ⟨d2,v2,c2,e2,r2,q2⟩:=hL e ρ he
 cases r1
 cases r2
 have e5:nodeK (evK 0) 8 [.num (Prod.snd (X ρ)),.list (Prod.snd (L ρ))]=some (.list (List.cons (Prod.snd (X ρ)) (Prod.snd (L ρ))),0):=rfl
 obtain ⟨d4,e4⟩:=ak2 e1 e2
 obtain ⟨d,h⟩:=z4e (i:=0) (y:=Ty.mk 0 []) (by decide) e4 e5
 refine ⟨d,_,_,h,rfl,?_⟩
 rw [q1,q2]
 rfl
theorem z14e {x y:Tm}{X:Env (Γ.map T.tk)→a.wt.V}{Y:Env (Γ.map T.tk)→b.wt.V}(hX:SemK Γ x a X)(hY:SemK Γ y b Y):SemK Γ (nT 10 [x,y]) (.pair a b) (fun ρ=>gPair (X ρ) (Y ρ)):=by
 intro e ρ he
 obtain ⟨d1,v1,c1,e1,r1,q1⟩:=hX e ρ he
 obtain ⟨d2,v2,c2,e2,r2,q2⟩:=hY e ρ he
 have e5:nodeK (evK 0) 10 [v1,v2]=some (.pair v1 v2,0):=rfl
 obtain ⟨d4,e4⟩:=ak2 e1 e2
 obtain ⟨d,h⟩:=z4e (i:=0) (y:=Ty.mk 0 []) (by decide) e4 e5
 refine ⟨d,_,_,h,⟨v1,v2,rfl,r1,r2⟩,?_⟩
 rw [q1,q2]
 rfl
theorem z14f {x:Tm}{X:Env (Γ.map T.tk)→(T.pair a b).wt.V}(hX:SemK Γ x (.pair a b) X):SemK Γ (nT 11 [x]) a (fun ρ=>gFst (X ρ)):=by
 intro e ρ he
 obtain ⟨d1,v1,c1,e1,⟨v,w,rfl,r1,r2⟩,q1⟩:=hX e ρ he
 have e5:nodeK (evK 0) 11 [.pair v w]=some (v,0):=rfl
 obtain ⟨d,h⟩:=z4e (i:=0) (y:=Ty.mk 0 []) (by decide) (ak1 e1) e5
 exact ⟨d,_,_,h,r1,q1⟩
theorem z14g {x:Tm}{X:Env (Γ.map T.tk)→(T.pair a b).wt.V}(hX:SemK Γ x (.pair a b) X):SemK Γ (nT 12 [x]) b (fun ρ=>gSnd (X ρ)):=by
 intro e ρ he
 obtain ⟨d1,v1,c1,e1,⟨v,w,rfl,r1,r2⟩,q1⟩:=hX e ρ he
 have e5:nodeK (evK 0) 12 [.pair v w]=some (w,0):=rfl
 obtain ⟨d,h⟩:=z4e (i:=0) (y:=Ty.mk 0 []) (by decide) (ak1 e1) e5
 exact ⟨d,_,_,h,r2,q1⟩
theorem zh4 (ev:EvK)(f:WV):∀ (n k:Nat) (r r' g w:WV) (c c1 c2:Nat),recK ev f n k r=some (r',c)→callK ev f (.num (k+n))=some (g,c1)→callK ev g r' = some (w,c2)→recK ev f (n+1) k r=some (w,c+1+c1+c2)
 | 0,k,r,r',g,w,c,c1,c2,h,h1,h2=>by
  simp only [recK] at h
  cases h
  rw [Nat.add_zero] at h1
  simp only [recK,h1,h2]
  first|rfl|(congr 2;omega)
 | n+1,k,r,r',g,w,c,c1,c2,h,h1,h2=>by
  rw [recK] at h ⊢
  cases e0:callK ev f (.num k) with
  | none=>simp only [e0] at h;cases h
  | some q0=>
  obtain ⟨g0,c0⟩:=q0
  simp only [e0] at h ⊢
  cases e1:callK ev g0 r with
  | none=>simp only [e1] at h;cases h
  | some q1=>
  obtain ⟨r0,c0'⟩:=q1
  simp only [e1] at h ⊢
  cases e2:recK ev f n (k+1) r0 with
  | none=>simp only [e2] at h;cases h
  | some q2=>
  obtain ⟨w0,c0''⟩:=q2
  simp only [e2] at h
  cases h
  rw [show k+(n+1)=k+1+n by omega] at h1
  rw [zh4 ev f n (k+1) r0 r' g w c0'' c1 c2 e2 h1 h2]
  simp only
  congr 2
  omega
theorem z14h {x f n:Tm}{P:Env (Γ.map T.tk)→a.wt.V}{Q:Env (Γ.map T.tk)→(T.fn .nat (.fn a a)).wt.V}{N:Env (Γ.map T.tk)→T.nat.wt.V}(hP:SemK Γ x a P)(hQ:SemK Γ f (.fn .nat (.fn a a)) Q)(hN:SemK Γ n .nat N) :
  SemK Γ (Tm.mk 6 0 a.ty [x,f,n]) a (fun ρ=>gRec (P ρ) (Q ρ) (N ρ)):=by
 intro e ρ he
 obtain ⟨d1,v1,c1,e1,r1,q1⟩:=hP e ρ he
 obtain ⟨d2,v2,c2,e2,r2,q2⟩:=hQ e ρ he
 obtain ⟨d3,v3,c3,e3,r3,q3⟩:=hN e ρ he
 cases r3
 have key:∀ n:Nat,∃ d w c,recK (evK d) v2 n 0 v1=some (w,c)∧Rk a w (natRec (α:=WT a) (0,Prod.snd (P ρ)) (gStep (Prod.snd (Q ρ))) n).2∧c=(natRec (α:=WT a) (0,Prod.snd (P ρ)) (gStep (Prod.snd (Q ρ))) n).1:=by
  intro n
  induction n with
  | zero=>exact ⟨0,v1,0,rfl,r1,rfl⟩
  | succ n ih=>
   obtain ⟨d,w,c,k1,k2,k3⟩:=ih
   obtain ⟨d',g,c',m1,m2,m3⟩:=r2 (.num n) n rfl
   obtain ⟨d'',u,c'',o1,o2,o3⟩:=m2 w _ k2
   refine ⟨max d (max d' d''),u,_,zh4 _ _ n 0 v1 w g u c c' c'' (zcm (z3n (by omega)) _ _ _ k1) (by rw [Nat.zero_add];exact z81 (by omega) m1) (z81 (by omega) o1),o2,?_⟩
   show _=Nat.succ (Nat.add (Nat.add (natRec (α:=WT a) (0,Prod.snd (P ρ)) (gStep (Prod.snd (Q ρ))) n).1 (Prod.fst (Prod.snd (Q ρ) n))) _)
   rw [← k3,← m3]
   show _=Nat.succ (Nat.add (Nat.add c c') (Prod.fst (Prod.snd (Prod.snd (Q ρ) n) (natRec (α:=WT a) (0,Prod.snd (P ρ)) (gStep (Prod.snd (Q ρ))) n).2)))
   rw [← o3]
   simp only [Nat.succ_eq_add_one,Nat.add_eq]
   omega
 obtain ⟨d4,w,c,k1,k2,k3⟩:=key (Prod.snd (N ρ))
 obtain ⟨d5,e5⟩:=ak3 e1 e2 e3
 have e6:nodeK (evK d4) 6 [v1,v2,.num (Prod.snd (N ρ))]=some (w,c):=k1
 obtain ⟨d,h⟩:=z4e (i:=0) (y:=a.ty) (by decide) e5 e6
 refine ⟨d,w,_,h,k2,?_⟩
 show c1+(c2+c3)+c=Nat.add (Nat.add (Nat.add (Prod.fst (P ρ)) (Prod.fst (Q ρ))) (Prod.fst (N ρ))) (natRec (α:=WT a) (0,Prod.snd (P ρ)) (gStep (Prod.snd (Q ρ))) (Prod.snd (N ρ))).1
 rw [← k3,← q1,← q2,← q3]
 simp only [Nat.add_eq]
 omega
theorem z14i {x f n:Tm}{P:Env (Γ.map T.tk)→a.wt.V}{Q:Env (Γ.map T.tk)→(T.fn .nat (.fn .list (.fn a a))).wt.V}{N:Env (Γ.map T.tk)→T.list.wt.V}(hP:SemK Γ x a P)(hQ:SemK Γ f (.fn .nat (.fn .list (.fn a a))) Q)(hN:SemK Γ n .list N) :
  SemK Γ (Tm.mk 9 0 a.ty [x,f,n]) a (fun ρ=>gFold (P ρ) (Q ρ) (N ρ)):=by
 intro e ρ he
 obtain ⟨d1,v1,c1,e1,r1,q1⟩:=hP e ρ he
 obtain ⟨d2,v2,c2,e2,r2,q2⟩:=hQ e ρ he
 obtain ⟨d3,v3,c3,e3,r3,q3⟩:=hN e ρ he
 cases r3
 have key:∀ l:List Nat,∃ d w c,foldK (evK d) v2 v1 l=some (w,c)∧Rk a w (listRec (α:=WT a) (0,Prod.snd (P ρ)) (gStepL (Prod.snd (Q ρ))) l).2∧c=(listRec (α:=WT a) (0,Prod.snd (P ρ)) (gStepL (Prod.snd (Q ρ))) l).1:=by
  intro l
  induction l with
  | nil=>exact ⟨0,v1,0,rfl,r1,rfl⟩
  | cons y l ih=>
   obtain ⟨d,w,c,k1,k2,k3⟩:=ih
   obtain ⟨d',g,c',m1,m2,m3⟩:=r2 (.num y) y rfl
   obtain ⟨d'',g',c'',o1,o2,o3⟩:=m2 (.list l) l rfl
   obtain ⟨d3',u,c3',p1,p2,p3⟩:=o2 w _ k2
   have s1:=zcn (z3n (show d≤max (max d d') (max d'' d3') by omega)) _ k1
   have s2:=z81 (show d'≤max (max d d') (max d'' d3') by omega) m1
   have s3:=z81 (show d''≤max (max d d') (max d'' d3') by omega) o1
   have s4:=z81 (show d3'≤max (max d d') (max d'' d3') by omega) p1
   refine ⟨max (max d d') (max d'' d3'),u,c+1+c'+c''+c3',?_,p2,?_⟩
   ·simp only [foldK,s1,s2,s3,s4]
   show _=Nat.succ (Nat.add (Nat.add (Nat.add (listRec (α:=WT a) (0,Prod.snd (P ρ)) (gStepL (Prod.snd (Q ρ))) l).1 (Prod.fst (Prod.snd (Q ρ) y))) (Prod.fst (Prod.snd (Prod.snd (Q ρ) y) l))) _)
   rw [← k3,← m3,← o3]
   show _=Nat.succ (Nat.add (Nat.add (Nat.add c c') c'') (Prod.fst (Prod.snd (Prod.snd (Prod.snd (Q ρ) y) l) (listRec (α:=WT a) (0,Prod.snd (P ρ)) (gStepL (Prod.snd (Q ρ))) l).2)))
   rw [← p3]
   simp only [Nat.succ_eq_add_one,Nat.add_eq]
   omega
 obtain ⟨d4,w,c,k1,k2,k3⟩:=key (Prod.snd (N ρ))
 obtain ⟨d5,e5⟩:=ak3 e1 e2 e3
 have e6:nodeK (evK d4) 9 [v1,v2,.list (Prod.snd (N ρ))]=some (w,c):=k1
 obtain ⟨d,h⟩:=z4e (i:=0) (y:=a.ty) (by decide) e5 e6
 refine ⟨d,w,_,h,k2,?_⟩
 show c1+(c2+c3)+c=Nat.add (Nat.add (Nat.add (Prod.fst (P ρ)) (Prod.fst (Q ρ))) (Prod.fst (N ρ))) (listRec (α:=WT a) (0,Prod.snd (P ρ)) (gStepL (Prod.snd (Q ρ))) (Prod.snd (N ρ))).1
 rw [← k3,← q1,← q2,← q3]
 simp only [Nat.add_eq]
 omega
end
end Go.Proofs.YtoamlfmdkbmmpaaGreatDoor.Lift
