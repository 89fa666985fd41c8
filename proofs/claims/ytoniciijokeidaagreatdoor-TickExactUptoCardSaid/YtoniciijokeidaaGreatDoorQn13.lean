import Derived.Test.YtoniciijokeidaaGreatDoorQn12
import Derived.Test.YtoniciijokeidaaGreatDoorRows
import Derived.ProofKit
import Derived.OpenShut
import Derived.JoinedCond
import Derived.ChangeSlices
import Derived.ChangeArms
import Derived.ChangeOld
import Derived.ChangeSame
import Derived.Laws.MakeOwn
set_option maxHeartbeats 8000000
set_option maxRecDepth 100000
set_option linter.unusedSimpArgs false
set_option linter.unusedVariables false
set_option linter.unnecessarySimpa false
namespace Go.Proofs.YtoniciijokeidaaGreatDoor.Lift
open Go Go.ChangeShapes Go.WideShapes Go.ChangeAt Go.RowKit
def oS (P:Program):List Field->Nat->Nat->Bool
 | [],o,n=>o==n
 | f::r,o,n=>f.offset==o&&oS P r (o+P.cellsOf f.type) n
def zi7 (P:Program)(TS:List TypeId)(t:TypeId):Bool:=
 match P.underlying t with
 | some .bool=>P.cellsOf t==1
 | some (.int _)=>P.cellsOf t==1
 | some (.slice e)=>P.cellsOf t==1&&decide (0<P.cellsOf e)&&TS.contains e
 | some (.struct fs)=>oS P fs.toList 0 (P.cellsOf t)&&fs.toList.all fun f=>TS.contains f.type
 | _=>false
def dE (P:Program)(TS:List TypeId):Bool:=TS.all (zi7 P TS)
mutual
def FW {H:Type}:DataW H->List DV
 | .lit (.bool b)=>[AK b]
 | .lit (.int k n)=>[.prim (.int k n)]
 | .nil=>[.sl []]
 | .slice elems _=>[.sl (ZG elems)]
 | .agg parts=>TC parts
 | _=>[]
def ZG {H:Type}:List (DataW H)->List (List DV)
 | []=>[]
 | d::r=>FW d::ZG r
def TC {H:Type}:List (DataW H)->List DV
 | []=>[]
 | d::r=>FW d++TC r
end
theorem SI {H:Type}(l:List (DataW H)):ZG l=l.map FW:=by
 induction l with
 | nil=>rfl
 | cons a r ih=>simp[ZG,ih]
theorem jX {H:Type}(l:List (DataW H)):TC l=l.flatMap FW:=by
 induction l with
 | nil=>rfl
 | cons a r ih=>simp[TC,ih]
def Old (w:World):Nat->Nat->Prop:=fun b o=>∃v,w.cell? ⟨b,o,none⟩=some v
def JD (w:World)(ds:List DV)(cs:List Value):Prop:=
 ds.length=cs.length/\∀(i:Nat) (c:DV) (v:Value),ds[i]? = some c->cs[i]? = some v->c.isCell=true/\RV (Old w) w c v
theorem JD.nil (w:World):JD w [] []:=⟨rfl,sS⟩
theorem JD.one {w:World}{c:DV}{v:Value}(h1:c.isCell=true)(h2:RV (Old w) w c v):JD w [c] [v]:=by
 refine⟨rfl,fun i x u hx hu=>?_⟩;cases i with
 | zero=>simp at hx hu;subst hx hu;exact⟨h1,h2⟩
 | succ i=>simp at hx
theorem JD.append {w:World}{ds es:List DV}{cs us:List Value}(h1:JD w ds cs)(h2:JD w es us):JD w (ds++es) (cs++us):=by
 refine⟨by simp[h1.1,h2.1],fun i c v hc hv=>?_⟩;by_cases hi:i<ds.length
 ·rw[List.getElem?_append_left hi]at hc;rw[List.getElem?_append_left (by rw[<- h1.1];exact hi)]at hv;exact h1.2 i c v hc hv
 ·rw[List.getElem?_append_right oO]at hc;rw[List.getElem?_append_right (by rw[<- h1.1];omega),<- h1.1]at hv;exact h2.2 _ c v hc hv
theorem oT {H:Type}{d:DataW H}{l:List (DataW H)}(h:d∈l):Rows.uptoBulk d<=Rows.uptoBulkAll l:=by
 induction l with
 | nil=>cases h
 | cons x r ih=>
  simp only[Rows.uptoBulkAll];cases List.mem_cons.1 h with
  | inl e=>subst e;omega
  | inr e=>have:=ih e;omega
theorem zch {H:Type}(d:DataW H):1<=Rows.uptoBulk d:=by
 cases d with
 | lit l=>cases l <;> simp[Rows.uptoBulk]
 | _=>simp[Rows.uptoBulk]
theorem oU {H:Type}(l:List (DataW H)):l.length<=Rows.uptoBulkAll l:=by
 induction l with
 | nil=>simp[Rows.uptoBulkAll]
 | cons x r ih=>have:=zch x;simp only[Rows.uptoBulkAll,List.length_cons];omega
section
variable {H:Type}{enc:TypeId × Value->H}{P:Program}{w w':World}
theorem oV {TS:List TypeId}(h:dE P TS=true){t:TypeId}(ht:t∈TS):zi7 P TS t=true:=List.all_eq_true.1 h t ht
theorem UQ {TS:List TypeId}(hT:dE P TS=true):∀(fuel:Nat) (t:TypeId),t∈TS->∀(cs:List Value) (x:DataW H × List MemPlace),DataW.trod enc P w 0 (fun _=>true) true fuel t cs=some x->Rows.uptoBulk x.1<=1048576 ->
  cs.length=P.cellsOf t/\JD w (FW x.1) cs:=by
 intro fuel
 induction fuel with
 | zero=>intro t _ cs x h;simp[DataW.trod]at h
 | succ fuel ih=>
  intro t ht cs x h hb;have hk:=oV hT ht;unfold zi7 at hk;split at hk
  ·rename_i hu;obtain⟨b,rfl,rfl⟩:=DataW.trod_bool hu h;exact⟨by simpa using (beq_iff_eq.1 hk).symm,.one rfl (.prim _ tT)⟩
  ·rename_i k hu;obtain⟨n,rfl,rfl,hw⟩:=DataW.trod_int hu h;exact⟨by simpa using (beq_iff_eq.1 hk).symm,.one rfl (.prim _ (by simpa [Lit.wf,FR] using hw))⟩
  ·rename_i e hu;simp only[uH,beq_iff_eq,decide_eq_true_eq,List.contains_iff_mem]at hk;obtain⟨⟨Dx,Ay⟩,hk3⟩:=hk;rcases DataW.trod_slice hu h with⟨rfl,rfl⟩|⟨a,len,cap,elems,rest,n,hn,rfl,rfl,-,hl,hm,hlen,Cq,On,-⟩;· exact⟨by simp[Dx],.one rfl (.sl0 _ _)⟩
   ·obtain rfl:fuel=n:=oO;refine⟨by simp[Dx],.one rfl ?_⟩;simp only[FW,SI,List.map_map];simp only[Rows.uptoBulk]at hb;have Of:=oU (elems.map (·.1));simp only[List.length_map]at Of
    have hbe:∀y∈elems,Rows.uptoBulk y.1<=1048576:=fun y hy=>by
     have:=oT (List.mem_map_of_mem (f:=(·.1)) hy);omega
    have each:∀i y,elems[i]? = some y->∃us,w.cells? 0 (a.add (i * P.cellsOf e)) (P.cellsOf e)=some us/\us.length=P.cellsOf e/\JD w (FW y.1) us:=by
     intro i y hy;have hi:i<len:=by rw[<- hlen];exact (uA hy).1
     have h1:=Cq i hi;rw[hy,Option.bind_eq_some_iff]at h1;obtain⟨us,h2,h3⟩:=h1;exact⟨us,h2,ih e hk3 us y h3 (hbe y (uE hy))⟩
    cases hq:elems with
    | nil=>
     rw[hq]at hlen;simp only[List.length_nil]at hlen;subst hlen;exact .sl0 _ _
    | cons y0 r0=>
     have Dw:0<len:=by rw[<- hlen,hq];simp
     rw[<- hq];have Aj:∀i y,elems[i]? = some y->∀j,j<P.cellsOf e->∃us,us.length=P.cellsOf e/\JD w (FW y.1) us/\w.cell? ((a.add (i * P.cellsOf e)).add j)=us[j]?:=by
      intro i y hy j hj;obtain⟨us,h1,h2,h3⟩:=each i y hy;exact⟨us,h2,h3,(World.cells?_some h1).2.2 j hj⟩
     have Se:a.spot=none:=by
      obtain⟨us,h1,-,h3⟩:=Aj 0 y0 (by rw[hq];rfl) 0 Ay;rw[Nat.zero_mul]at h3;cases hs:a.spot with
      | none=>rfl
      | some q=>
       have Ag:0<us.length:=oO;rw[uB Ag]at h3;have:(a.add 0).add 0=a:=by simp[Addr.add]
       rw[this]at h3;unfold World.cell? at h3;simp[hs]at h3;split at h3 <;> cases h3
     obtain⟨ab,ao,asp⟩:=a;simp only at Se;subst Se;have Rb:∀i j,((⟨ab,ao,none⟩:Addr).add (i * P.cellsOf e)).add j=⟨ab,ao+(i * P.cellsOf e+j),none⟩:=by
      intro i j;rw[F0,F0,Nat.add_assoc]
     have Hq:∀i j,i<elems.length->j<P.cellsOf e->w.cell? ⟨ab,ao+(i * P.cellsOf e+j),none⟩=some ((w.cell? ⟨ab,ao+(i * P.cellsOf e+j),none⟩).getD undef):=by
      intro i j hi hj;obtain⟨us,h1,-,h3⟩:=Aj i _ (uB hi) j hj;rw[Rb]at h3;rw[h3,uB oO];rfl
     have key:=RV.sl (D:=Old w) (w:=w) (elems.map (fun y=>FW y.1)) ab ao cap (P.cellsOf e) (fun i j=>(w.cell? ⟨ab,ao+(i * P.cellsOf e+j),none⟩).getD undef) (by simp[HL];omega) (by simp;omega)
      (by
       intro q Ju;obtain⟨y,hy,rfl⟩:=List.mem_map.1 Ju;obtain⟨i,hi⟩:=List.getElem?_of_mem hy;obtain⟨us,-,h2,h3⟩:=each i y hi;rw[h3.1,h2])
      (by
       intro q Ju c hc;obtain⟨y,hy,rfl⟩:=List.mem_map.1 Ju;obtain⟨i,hi⟩:=List.getElem?_of_mem hy;obtain⟨us,-,h2,h3⟩:=each i y hi;obtain⟨j,hj⟩:=List.getElem?_of_mem hc;have Mr:=(uA hj).1;exact (h3.2 j c (us[j]'(by rw[<- h3.1];exact Mr)) hj (uB (by rw[<- h3.1];exact Mr))).1)
      (fun i j hi hj=>Hq i j (by simpa using hi) hj) (fun i j hi hj=>⟨_,Hq i j (by simpa using hi) hj⟩)
      (by
       intro i j q c hi hj;rw[List.getElem?_map]at hi;cases hy:elems[i]? with
       | none=>simp[hy]at hi
       | some y=>
        simp[hy]at hi;subst hi;obtain⟨us0,-,g2,g3⟩:=each i y hy;have Mr:j<P.cellsOf e:=by rw[<- g2,<- g3.1];exact (uA hj).1
        obtain⟨us,h1,h2,h3⟩:=Aj i y hy j Mr;rw[Rb]at h3;have hu:us[j]? = some us[j]:=uB oO;rw[h3,hu];exact (h2.2 j c us[j] hj hu).2)
     simp only[List.length_map,hlen]at key;exact key
  ·rename_i fs hu;simp only[uH,List.all_eq_true,List.contains_iff_mem]at hk;obtain⟨Dx,Ay⟩:=hk;obtain⟨xs,n,hn,rfl,Ci,Wu,hx⟩:=DataW.trod_struct hu h;obtain rfl:fuel=n:=oO;refine⟨Ci,?_⟩;simp only[FW,jX];simp only[Rows.uptoBulk]at hb
   have hbe:∀y∈xs,Rows.uptoBulk y.1<=1048576:=fun y hy=>by
    have:=oT (List.mem_map_of_mem (f:=(·.1)) hy);omega
   have main:∀(gs:List Field) (ys:List (DataW H × List MemPlace)) (o:Nat),(∀f∈gs,f.type∈TS)->(∀y∈ys,Rows.uptoBulk y.1<=1048576)->oS P gs o (P.cellsOf t)=true->gs.length=ys.length ->
     (∀(i:Nat) (f:Field),gs[i]? = some f->DataW.trod enc P w 0 (fun _=>true) true fuel f.type ((cs.drop f.offset).take (P.cellsOf f.type))=ys[i]?)->JD w ((ys.map (·.1)).flatMap FW) (cs.drop o):=by
    intro gs
    induction gs with
    | nil=>
     intro ys o _ _ ht hl _;obtain rfl:ys=[]:=List.eq_nil_of_length_eq_zero (by simpa using hl.symm);simp only[oS,beq_iff_eq]at ht;rw[ht,<- Ci,List.drop_length];exact .nil w
    | cons f r Fy=>
     intro ys o hm hby ht hl Hl;cases ys with
     | nil=>simp at hl
     | cons y ys=>
      simp only[oS,uH,beq_iff_eq]at ht;have h0:=Hl 0 f rfl;rw[ht.1]at h0;obtain⟨q1,q2⟩:=ih f.type (hm f sS) _ y h0 (hby y sS);have Ac:=Fy ys (o+P.cellsOf f.type) (fun g hg=>hm g (by simp[hg])) (fun z hz=>hby z (by simp[hz])) ht.2 (by simpa using hl) (fun i g hg=>by simpa using Hl (i+1) g (by simpa using hg));have e:cs.drop o=(cs.drop o).take (P.cellsOf f.type)++cs.drop (o+P.cellsOf f.type):=by
       rw[<- List.drop_drop,List.take_append_drop]
      rw[e];simp only[List.map_cons,List.flatMap_cons];exact q2.append Ac
   have:=main fs.toList xs 0 (fun f hf=>Ay f hf) hbe Dx (by simp[Wu]) (fun i f hf=>hx i f (by simpa using hf))
   simpa using this
  ·cases hk
theorem x7 {TS:List TypeId}(hT:dE P TS=true){sp:Nat->Bool}{held:Bool}{base:Nat}:∀(fuel:Nat) (t:TypeId),t∈TS->∀(cs:List Value) (x:DataW H × List MemPlace),DataW.trod enc P w base (fun _=>true) held fuel t cs=some x->(∀p∈x.2,sp p.block=true) ->
  DataW.trod enc P w base sp held fuel t cs=some x:=by
 intro fuel
 induction fuel with
 | zero=>intro t _ cs x h;simp[DataW.trod]at h
 | succ fuel ih=>
  intro t ht cs x h hs;have hk:=oV hT ht;unfold zi7 at hk;split at hk
  ·rename_i hu;obtain⟨b,rfl,rfl⟩:=DataW.trod_bool hu h;simp[DataW.trod,hu]
  ·rename_i k hu;obtain⟨n,rfl,rfl,hw⟩:=DataW.trod_int hu h;simp[DataW.trod,hu,hw]
  ·rename_i e hu;simp only[uH,beq_iff_eq,decide_eq_true_eq,List.contains_iff_mem]at hk;obtain⟨⟨Dx,Ay⟩,hk3⟩:=hk;have Uy:cs=[.slice none 0 0]\/∃a len cap,cs=[.slice (some a) len cap]:=by
    rcases DataW.trod_slice hu h with⟨rfl,-⟩|⟨a,len,cap,_,_,_,_,rfl,-⟩;· exact .inl rfl
    ·exact .inr ⟨a,len,cap,rfl⟩
   rcases Uy with rfl|⟨a,len,cap,rfl⟩
   ·simp only[DataW.trod,hu]at h ⊢;exact h
   ·simp only[DataW.trod,hu]at h ⊢;split at h
    ·rename_i Ol;rw[if_pos Ol];simp only[if_true,Option.bind_eq_some_iff,Option.map_eq_some_iff]at h;obtain⟨elems,h1,rest,h2,rfl⟩:=h;have Em:∀y∈elems++rest,∀p∈y.2,sp p.block=true:=fun y hy p hp=>hs p (List.mem_append.2 (.inr (List.mem_flatMap.2 ⟨y,hy,hp⟩)));have step:∀(i:Nat) (y:DataW H × List MemPlace),y∈elems++rest->(w.cells? base (a.add (i * P.cellsOf e)) (P.cellsOf e)).bind (DataW.trod enc P w base (fun _=>true) held fuel e)=some y->(w.cells? base (a.add (i * P.cellsOf e)) (P.cellsOf e)).bind (DataW.trod enc P w base sp held fuel e)=some y:=by
      intro i y hy h;rw[Option.bind_eq_some_iff]at h ⊢;obtain⟨us,q1,q2⟩:=h;exact⟨us,q1,ih e hk3 us y q2 (Em y hy)⟩
     have e1:=mapM_carry (g:=fun i=>(w.cells? base (a.add (i * P.cellsOf e)) (P.cellsOf e)).bind (DataW.trod enc P w base sp held fuel e)) h1 (fun i y _ hy hi=>step i y (List.mem_append.2 (.inl hy)) hi);rw[e1];simp only[Option.bind_some];have e2:=mapM_carry (g:=fun j=>(w.cells? base (a.add ((len+j) * P.cellsOf e)) (P.cellsOf e)).bind (DataW.trod enc P w base sp held fuel e)) h2 (fun i y _ hy hi=>step _ y (List.mem_append.2 (.inr hy)) hi);by_cases hz:elems.length+rest.length=0
     ·have Xg:rest=[]:=List.eq_nil_of_length_eq_zero oO;have hlen:rest.length=cap - len:=by simpa using mapM_some_length h2
      have Gr:cap - len=0:=by rw[<- hlen,Xg];rfl
      subst Xg;rw[Gr];split <;> simp
     ·have On:sp a.block=true:=by
       have hn:0<(elems.length+rest.length) * P.cellsOf e:=Nat.mul_pos oO Ay;exact hs (.cell a.block (a.off+0)) (List.mem_append.2 (.inl (MemPlace.mem_row.2 ⟨0,hn,rfl⟩)))
      rw[if_pos On,e2];rfl
    ·cases h
  ·rename_i fs hu;simp only[uH,List.all_eq_true,List.contains_iff_mem]at hk;obtain⟨Dx,Ay⟩:=hk;obtain⟨xs,n,hn,rfl,Ci,Wu,hx⟩:=DataW.trod_struct hu h;obtain rfl:fuel=n:=oO;unfold DataW.trod at h ⊢;rw[hu]at h ⊢;simp only[Ci,if_true,Option.map_eq_some_iff]at h ⊢;obtain⟨ys,h1,h2⟩:=h
   have hy:∀y∈ys,∀p∈y.2,sp p.block=true:=fun y hy p hp=>hs p (by
    have:xs.flatMap (·.2)=ys.flatMap (·.2):=(congrArg Prod.snd h2).symm;rw[this];exact List.mem_flatMap.2 ⟨y,hy,hp⟩)
   exact⟨ys,mapM_carry h1 (fun f y hf Dm hr=>ih f.type (Ay f hf) _ y hr (hy y Dm)),h2⟩
  ·cases hk
theorem QQ {TS:List TypeId}(hT:dE P TS=true)(hw:∀b,b<w.heap.size->w'.heap[b]? = w.heap[b]?){sp:Nat->Bool}{held:Bool}{base:Nat}{t:TypeId}(ht:t∈TS){v:Value}{d:DataW H}{ps:List MemPlace}(h:DataW.Trod enc P w base (fun _=>true) held t v d ps)
  (hs:∀p∈ps,sp p.block=true):DataW.Trod enc P w' base sp held t v d ps:=by
 obtain⟨fuel,h⟩:=h;refine⟨fuel,DataW.trod_carry _ _ _ _ (x7 hT fuel t ht _ _ h hs) fun p hp=>?_⟩;have Ag:=DataW.trod_lt fuel t _ _ h p hp;cases p with
 | cell b o=>simp only[World.sameAt,World.cell?];rw[hw b Ag]
 | map b=>exact hw b Ag
end
theorem z4y {H:Type}{enc:TypeId × Value->H}{P:Program}{w:World}{t e:TypeId}(ht:P.underlying t=some (.slice e))(he:P.underlying e=some (.int .i64))(hT:dE P [t,e]=true){v:Value}{d:DataW H}{ps:List MemPlace}(h:DataW.Trod enc P w 0 (fun _=>true) true t v d ps)(Aj:v.cells = #[v])
  (hb:Rows.uptoBulk d<=1048576):∃l:List Int,RV (Old w) w (.sl (l.map fun n=>[A0 n])) v/\l.length<=1048576:=by
 obtain⟨fuel,h⟩:=h;rw[Aj]at h;have key:∃l:List Int,FW d=[.sl (l.map fun n=>[A0 n])]/\l.length<=1048576:=by
  rcases DataW.trod_slice ht h with⟨-,hx⟩|⟨a,len,cap,elems,rest,n,hn,-,hx,-,hl,hm,hlen,Cq,On,-⟩;· cases hx;exact⟨[],rfl,sS⟩
  ·cases hx;simp only[Rows.uptoBulk]at hb;have Of:=oU (elems.map (·.1));simp only[List.length_map]at Of;have each:∀y∈elems,∃m:Int,FW y.1=[A0 m]:=by
    intro y hy;obtain⟨i,hi⟩:=List.getElem?_of_mem hy;have Bz:i<len:=by rw[<- hlen];exact (uA hi).1
    have h1:=Cq i Bz;rw[hi,Option.bind_eq_some_iff]at h1;obtain⟨us,-,h3⟩:=h1;obtain⟨m,-,rfl,-⟩:=DataW.trod_int he h3;exact⟨m,rfl⟩
   have:∃l:List Int,elems.map (fun y=>FW y.1)=l.map fun n=>[A0 n]:=by
    clear Cq hlen Of h hb On
    induction elems with
    | nil=>exact⟨[],rfl⟩
    | cons y r ih=>
     obtain⟨m,hm⟩:=each y sS;obtain⟨l,hl⟩:=ih fun z hz=>each z (by simp[hz]);exact⟨m::l,by simp[hm,hl]⟩
   obtain⟨l,hl⟩:=this;have Hc:l.length=elems.length:=by simpa using (congrArg List.length hl).symm
   refine⟨l,?_,oO⟩;simp only[FW,SI,List.map_map];exact congrArg (fun q=>[DV.sl q]) hl
 obtain⟨l,h1,h2⟩:=key;obtain⟨-,h3⟩:=UQ hT fuel t sS _ _ h hb;rw[h1]at h3;exact⟨l,(h3.2 0 _ v rfl rfl).2,h2⟩
theorem YO {P:Program}{w:World}{r:Reach}{base:Nat}{t e:TypeId}(ht:P.underlying t=some (.slice e)){v:Value}(h:Value.okWide P w r base t v):v.cells = #[v]:=by
 cases v <;> first|rfl|(simp[Value.okWide,Cell.okWide,Cell.ok,ht]at h)
theorem dF {w w':World}{D D':Nat->Nat->Prop}(h:Ext [] D w D' w'):∀b,b<w.heap.size->w'.heap[b]? = w.heap[b]?:=fun b hb=>h.block b hb sS
theorem zci {w w':World}{D D':Nat->Nat->Prop}(h:Ext [] D w D' w')(may:MemPlace->Prop):w.keptBut w' may:=by
 refine⟨h.os,h.output,fun i hi=>?_⟩;rw[dF h i hi];cases hq:w.heap[i]? with
 | none=>rfl
 | some o=>cases o <;> first|rfl|exact⟨rfl,rfl,rfl,fun _ _=>rfl⟩|exact .inr ⟨rfl,rfl⟩
theorem oW {H:Type}{enc:TypeId × Value->H}{P:Program}{f:Func}{s:ChangeSpec}{KP KO handsOn again:Bool}{W W':World}{D D':Nat->Nat->Prop}{args:Array Value}{v:Value}{ds gs:List (DataW H)}{before pa pv:List MemPlace}
  (hW:DataW.Whole enc P f.params.toList s.vars KP W args.toList ds gs before)
  (Am:∀(b:Nat) (sp:Nat->Bool) (hd:Bool),DataW.TrodAll enc P W' b sp hd f.resultTypes.toList (v.resultList f.resultTypes.size) (s.fn H (ds++gs)).results [])
  (u8:∀sp:Nat->Bool,(∀p∈before,sp p.block=true)->DataW.TrodAll enc P W' 0 sp true f.params.toList args.toList (s.fn H (ds++gs)).args pa)
  (Sd:∀sp:Nat->Bool,(∀p∈before,sp p.block=true)->DataW.TrodVars enc P W' sp s.vars (s.fn H (ds++gs)).vars pv)
  (Ka:before=pa++pv) (hx:Ext [] D W D' W')
  (Ej:∀(j:Nat) (t:TypeId) (r:Value),f.resultTypes[j]? = some t->(v.resultList f.resultTypes.size)[j]? = some r->Value.okWide P W' .any 0 t r) :
  s.post enc P f KP KO handsOn again W args v W':=by
 have Ag:∀p∈before,p.block<W.heap.size:=fun p hp=>hW.lt p hp;have hold:∀p∈before,(fun b=>decide (b<W.heap.size)) p.block=true:=fun p hp=>by simpa using Ag p hp
 refine⟨ds,gs,before,[],pa,pv,hW,Am _ _ _,u8 _ hold,Sd _ hold,World.keptBut_mono (fun p hp=>⟨hp,?_⟩) (zci hx (·∈before)),fun _=>?_⟩
 ·rw[Ka,List.mem_append]at hp;exact Or.inr hp
 ·obtain⟨_,_,_,_,_,hz,hn⟩:=hW;refine⟨Ej,_,_,([]++pa)++pv,⟨[]++pa,pv,trodAll_append (u8 _ (fun _ _=>rfl)) (Am _ _ _),Sd _ (fun _ _=>rfl),rfl,?_,?_⟩,?_⟩
  ·intro b off hp;have Ip:MemPlace.cell b off∈before:=by rw[Ka];simpa using hp
   have h2:W'.frozen? ⟨b,off,none⟩=W.frozen? ⟨b,off,none⟩:=by
    simp only[World.frozen?,dF hx b (Ag _ Ip)]
   rw[h2];exact hz b off Ip
  ·intro ha;have:=hn ha;rw[Ka]at this
   simpa using this
  ·intro p hp _;rw[Ka]
   simpa using hp
end Go.Proofs.YtoniciijokeidaaGreatDoor.Lift
namespace Go.Proofs.YtoniciijokeidaaGreatDoor.Lift
open Go Go.ChangeShapes Go.WideShapes Go.ChangeAt Go.RowKit
section
variable {H:Type}{enc:TypeId × Value->H}{P:Program}{w:World}
def dG (enc:TypeId × Value->H)(P:Program)(w:World){α:Type}(f:α->List DV)(g:α->Nat)(t:TypeId)(fuel:Nat):Prop:=
 ∀(cs:List Value) (x:DataW H × List MemPlace),DataW.trod enc P w 0 (fun _=>true) true fuel t cs=some x->∃a:α,FW x.1=f a/\g a<=Rows.uptoBulk x.1
theorem XI {t:TypeId}(h:P.underlying t=some (.int .i64))(fuel:Nat):dG enc P w (fun n:Int=>[A0 n]) (fun _=>1) t fuel:=by
 intro cs x hx;cases fuel with
 | zero=>simp[DataW.trod]at hx
 | succ fuel=>
  obtain⟨m,-,rfl,-⟩:=DataW.trod_int h hx;exact⟨m,rfl,by simp[Rows.uptoBulk]⟩
theorem SJ {α:Type}{f:α->List DV}{g:α->Nat}{t e:TypeId}(ht:P.underlying t=some (.slice e)){fuel:Nat}(he:∀n,n<fuel->dG enc P w f g e n) :
  dG enc P w (fun l:List α=>[.sl (l.map f)]) (fun l=>1+(l.map g).sum) t fuel:=by
 intro cs x h;cases fuel with
 | zero=>simp[DataW.trod]at h
 | succ fuel=>
 rcases DataW.trod_slice ht h with⟨-,hx⟩|⟨a,len,cap,elems,rest,n,hn,-,hx,-,hl,hm,hlen,Cq,On,-⟩;· cases hx;exact⟨[],rfl,by simp[Rows.uptoBulk]⟩
 ·cases hx;have each:∀y∈elems,∃b:α,FW y.1=f b/\g b<=Rows.uptoBulk y.1:=by
   intro y hy;obtain⟨i,hi⟩:=List.getElem?_of_mem hy;have Bz:i<len:=by rw[<- hlen];exact (uA hi).1
   have h1:=Cq i Bz;rw[hi,Option.bind_eq_some_iff]at h1;obtain⟨us,-,h3⟩:=h1;exact he n oO us y h3
  have:∃l:List α,elems.map (fun y=>FW y.1)=l.map f/\(l.map g).sum<=Rows.uptoBulkAll (elems.map (·.1)):=by
   clear Cq hlen h On
   induction elems with
   | nil=>exact⟨[],rfl,sS⟩
   | cons y r ih=>
    obtain⟨m,hm,hg⟩:=each y sS;obtain⟨l,hl,hs⟩:=ih fun z hz=>each z (by simp[hz]);exact⟨m::l,by simp[hm,hl],by simp only[List.map_cons,List.sum_cons,Rows.uptoBulkAll];omega⟩
  obtain⟨l,h1,h2⟩:=this;refine⟨l,?_,?_⟩
  ·simp only[FW,SI,List.map_map];exact congrArg (fun q=>[DV.sl q]) h1
  ·simp only[Rows.uptoBulk];omega
theorem znu (l:List Ty):(l.map Ty.tot).sum=Ty.tot.tots l:=by
 induction l with
 | nil=>rfl
 | cons a r ih=>simp[Ty.tot.tots,ih]
theorem znv (l:List Tm):(l.map Tm.tot).sum=Tm.tot.tots l:=by
 induction l with
 | nil=>rfl
 | cons a r ih=>simp[Tm.tot.tots,ih]
variable {ti tl ty ts tm ms tv vs:TypeId}{fy fm fv:Array Field}
theorem dH (hi:P.underlying ti=some (.int .i64))(hy:P.underlying ty=some (.struct fy))(hs:P.underlying ts=some (.slice ty))(hf:fy.toList.map (·.type)=[ti,ts]):∀fuel,dG enc P w Ty.cells Ty.tot ty fuel:=by
 intro fuel
 induction fuel using Nat.strongRecOn with
 | _ fuel ih=>
 intro cs x h;cases fuel with
 | zero=>simp[DataW.trod]at h
 | succ fuel=>
 obtain⟨xs,n,hn,rfl,Ci,Wu,hx⟩:=DataW.trod_struct hy h;obtain rfl:fuel=n:=oO;have hlen:fy.size=2:=by simpa using congrArg List.length hf
 match xs,Wu with
 | [x0,x1],_=>
  have ht:∀(i:Nat) (t:TypeId),[ti,ts][i]? = some t->∃f:Field,fy[i]? = some f/\f.type=t:=by
   intro i t hq;rw[<- hf,List.getElem?_map]at hq;obtain⟨f,h1,h2⟩:=Option.map_eq_some_iff.1 hq;exact⟨f,by simpa using h1,h2⟩
  obtain⟨f0,g0,e0⟩:=ht 0 ti rfl;obtain⟨f1,g1,e1⟩:=ht 1 ts rfl;have r0:=hx 0 f0 g0;have r1:=hx 1 f1 g1;rw[e0]at r0;rw[e1]at r1;obtain⟨k,a0,b0⟩:=XI (enc:=enc) (w:=w) hi fuel _ x0 r0;obtain⟨l,a1,b1⟩:=SJ (enc:=enc) (w:=w) hs (fun n hn=>ih n oO) _ x1 r1;refine⟨Ty.mk k l,?_,?_⟩
  ·rw[Ty.cells_mk];simp[FW,TC,a0,a1]
  ·simp only[znu]at b1;rw[Ty.tot_eq];simp only[Ty.args,Rows.uptoBulk,Rows.uptoBulkAll,List.map_cons,List.map_nil];omega
 | [],h=>simp[hlen]at h
 | [_],h=>simp[hlen]at h
 | _::_::_::_,h=>simp[hlen]at h
theorem zcj (hi:P.underlying ti=some (.int .i64))(hy:P.underlying ty=some (.struct fy))(hs:P.underlying ts=some (.slice ty))(hf:fy.toList.map (·.type)=[ti,ts])
  (hm:P.underlying tm=some (.struct fm)) (hms:P.underlying ms=some (.slice tm)) (Rm:fm.toList.map (·.type)=[ti,ti,ty,ms]):∀fuel,dG enc P w Tm.cells Tm.tot tm fuel:=by
 intro fuel
 induction fuel using Nat.strongRecOn with
 | _ fuel ih=>
 intro cs x h;cases fuel with
 | zero=>simp[DataW.trod]at h
 | succ fuel=>
 obtain⟨xs,n,hn,rfl,Ci,Wu,hx⟩:=DataW.trod_struct hm h;obtain rfl:fuel=n:=oO;have hlen:fm.size=4:=by simpa using congrArg List.length Rm
 match xs,Wu with
 | [x0,x1,x2,x3],_=>
  have ht:∀(i:Nat) (t:TypeId),[ti,ti,ty,ms][i]? = some t->∃f:Field,fm[i]? = some f/\f.type=t:=by
   intro i t hq;rw[<- Rm,List.getElem?_map]at hq;obtain⟨f,h1,h2⟩:=Option.map_eq_some_iff.1 hq;exact⟨f,by simpa using h1,h2⟩
  obtain⟨f0,g0,e0⟩:=ht 0 ti rfl;obtain⟨f1,g1,e1⟩:=ht 1 ti rfl;obtain⟨f2,g2,e2⟩:=ht 2 ty rfl;obtain⟨f3,g3,e3⟩:=ht 3 ms rfl;have r0:=hx 0 f0 g0;have r1:=hx 1 f1 g1;have r2:=hx 2 f2 g2;have r3:=hx 3 f3 g3;rw[e0]at r0;rw[e1]at r1;rw[e2]at r2;rw[e3]at r3;obtain⟨k,a0,b0⟩:=XI (enc:=enc) (w:=w) hi fuel _ x0 r0;obtain⟨i,a1,b1⟩:=XI (enc:=enc) (w:=w) hi fuel _ x1 r1;obtain⟨u,a2,b2⟩:=dH (enc:=enc) (w:=w) hi hy hs hf fuel _ x2 r2;obtain⟨l,a3,b3⟩:=SJ (enc:=enc) (w:=w) hms (fun n hn=>ih n oO) _ x3 r3;refine⟨Tm.mk k i u l,?_,?_⟩
  ·rw[Tm.cells_mk];rw[Ty.cells_eq]at a2;simp[FW,TC,a0,a1,a2,a3]
  ·simp only[znv]at b3;rw[Tm.tot_eq];simp only[Tm.args,Tm.type,Rows.uptoBulk,Rows.uptoBulkAll,List.map_cons,List.map_nil];omega
 | [],h=>simp[hlen]at h
 | [_],h=>simp[hlen]at h
 | [_,_],h=>simp[hlen]at h
 | [_,_,_],h=>simp[hlen]at h
 | _::_::_::_::_::_,h=>simp[hlen]at h
theorem gM {α:Type}{f:α->List DV}{g:α->Nat}{TS:List TypeId}{t:TypeId}(hT:dE P TS=true)(Yj:t∈TS)(hR:∀fuel,dG enc P w f g t fuel)(hc:∀a,∀c∈f a,DV.isCell c=true)
  {v:Value} {d:DataW H} {ps:List MemPlace} (h:DataW.Trod enc P w 0 (fun _=>true) true t v d ps) (hv:∃vs,v = .agg vs) (hb:Rows.uptoBulk d<=1048576):∃a:α,RV (Old w) w (.agg (f a)) v/\g a<=1048576:=by
 obtain⟨fuel,h⟩:=h;obtain⟨vs,rfl⟩:=hv;obtain⟨a,h1,h2⟩:=hR fuel _ _ h;obtain⟨-,h3⟩:=UQ hT fuel t Yj _ _ h hb;have h4:g a<=Rows.uptoBulk d:=h2;refine⟨a,?_,oO⟩;rw[h1]at h3;refine .agg _ _ (by rw[h3.1];simp[Value.cells]) (hc a) fun i c u hi hu=>(h3.2 i c u hi (by simpa [Value.cells] using hu)).2
end
end Go.Proofs.YtoniciijokeidaaGreatDoor.Lift
namespace Go.Proofs.YtoniciijokeidaaGreatDoor.Lift
open Go Go.ChangeShapes Go.WideShapes Go.ChangeAt Go.RowKit
section
variable {H:Type}{enc:TypeId × Value->H}{P:Program}{w:World}
theorem xA {α:Type}{f:α->List DV}{g:α->Nat}{TS:List TypeId}{t e:TypeId}(ht:P.underlying t=some (.slice e))(hT:dE P TS=true)(Yj:t∈TS)(hR:∀fuel,dG enc P w f g e fuel)
  {v:Value} {d:DataW H} {ps:List MemPlace} (h:DataW.Trod enc P w 0 (fun _=>true) true t v d ps) (Aj:v.cells = #[v]) (hb:Rows.uptoBulk d<=1048576):∃l:List α,RV (Old w) w (.sl (l.map f)) v/\1+(l.map g).sum<=1048576:=by
 obtain⟨fuel,h⟩:=h;obtain⟨a,h1,h2⟩:=SJ (enc:=enc) (w:=w) ht (fun n _=>hR n) _ _ h;obtain⟨-,h3⟩:=UQ hT fuel t Yj _ _ h hb;simp only at h1 h2;refine⟨a,?_,oO⟩;rw[h1]at h3;exact (h3.2 0 _ v rfl (by rw[Aj];rfl)).2
end
end Go.Proofs.YtoniciijokeidaaGreatDoor.Lift
namespace Go.Proofs.YtoniciijokeidaaGreatDoor.Lift
open Go
section
section
variable {X:Ctx}{s:St}
theorem xB {o:Oper}{x y:Operand}{T:TypeId}(ho:o.op = .makeSlice T x y){d:Nat}(hd:o.dst=some d)(hn:d<X.n)
  {E B:Nat} (he:DW X.P T=some (E,B)) (hB:0<B/\B<=1024) {n:Nat} {kl kc:IntKind} {nl nc:Int} {zd:List DV} (hx:D4 X (get s) x=some (.v (.prim (.int kl nl)))) (hy:D4 X (get s) y=some (.v (.prim (.int kc nc)))) (Fi:nl=(n:Int)) (Ic:nc=(n:Int))
  (Al:n<=HL) (hz:S6 X.P T=some zd) (Ln:HE zd=true)
  {G:Gh} {a:Act} {w:World} (R:Rel X G s a w) (next:Act->World->Prop) (Q:Exit->Act->World->Prop)
  (hK:∀b,newB b s->X.w0.heap.size<=b->zd.length=E->∀G' a' w',Rel X G' (CV (CV s (.slot d) (.one (.v (KK b n n)))) (.heap b) (.row (AM (List.replicate n zd)))) a' w'->next a' w') :
  o.wpIn X.F 0 X.P a w next Q:=by
 have hvx:=(BT (AD R hx)).1;have hvy:=(BT (AD R hy)).1;subst Fi Ic;obtain⟨e,i,z,hu,hi,Qn,Lr,Nj,Mt⟩:=MU he;have hzz:∃cs,XL z.cells.toList=some cs/\GZ cs=some zd:=by
  simp only[S6,hu,DK,hi,Qn]at hz;exact Option.bind_eq_some_iff.1 hz
 obtain⟨zcs,Oh,Hb⟩:=hzz;have Ak:H0 G w zcs z.cells.toList.toArray:=JN R.nil Oh;have Gk:zd.length=E:=by
  have:=(RG Ak Hb).1;rw[<- this]
  simpa using Lr
 unfold HL at Al;have Np:i.bytes * n<=1024 * n:=Nat.mul_le_mul_right _ oO;have Vb:(i.bytes:Int) * (n:Int)<=281474976710656:=by
  have h:((i.bytes * n:Nat):Int)<=281474976710656:=oO
  rwa [Int.natCast_mul]at h
 have hr:=run_make (P:=X.P) w T e i z hu hi Qn kl kc n n oO (Int.le_refl _) Vb oO;simp only[Int.toNat_natCast]at hr;have Dr:(execOp a.eval o).run X.P w = .ok (.value (.slice (some ⟨w.heap.size,0,none⟩) n n)) (w.alloc (.cells (madeCells z.cells (n * i.size)) e)):=by
  simp[execOp,ho,hvx,hvy,hr]
 refine PT (by intro c e;rw[ho]at e;cases e) ?_;rw[Dr,E8,hd];have hp:=IR a (some d) (.slice (some ⟨w.heap.size,0,none⟩) n n);have T':Trans X G a w G (a.put (some d) (.slice (some ⟨w.heap.size,0,none⟩) n n)) (w.alloc (.cells (madeCells z.cells (n * i.size)) e)) (fun _=>False):=by
  refine⟨hp.1,fun h=>(h.heap fun b hb=>DL w _ b hb).put hp.2,rfl,rfl,rfl,sS,fun b hb _=>DL w _ b hb,fun _ h=>h.elim,fun b k hD=>⟨hD,World.cell?_alloc_lt w _ _ (R.wf.lt hD)⟩,fun b k hD Ma=>absurd hD Ma,R.nil⟩
 refine hK w.heap.size (SR R) R.ext.size Gk G _ _ (R.newArr hn (w1:=w) rfl T' (E:=E) ?_ ?_ ?_ ?_)
 ·intro e he;rw[(List.mem_replicate.1 he).2];exact Gk
 ·intro e he d hd;rw[(List.mem_replicate.1 he).2]at hd;exact (MT zd).1 Ln d hd
 ·rw[size_madeCells,List.length_replicate,Nj];exact Nat.le_refl _
 ·intro i' j e' dd Gg hj;have Ag:=(uA Gg).1;rw[List.length_replicate]at Ag;have hm:=(List.mem_replicate.1 (uE Gg)).2;subst hm;have No:j<E:=by rw[<- Gk];exact (uA hj).1
  have h1:i' * E+j<n * E:=N9 Ag No;have hr:=(RG Ak Hb).2 j dd;simp only[Array.toArray_toList]at hr;have hjz:j<z.cells.size:=oO;refine⟨z.cells[j],?_,hr _ hj (uG hjz)⟩;simp only[madeCells];rw[Array.getElem?_map,Array.getElem?_range,if_pos (by rw[Nj];exact h1)];simp only[Option.map_some,Lr,Y4 No];rw[getElem!_pos z.cells j hjz]
theorem TD {Ad:List Nat}{ops:Array Oper}{l:List Oper}{K:St->Prop}{d:Tmp}{x y:Operand}{T ty:TypeId}{pos:String}{af:Array Edge}{q:Option (Prop × St)}
  {E B:Nat} {n:Nat} {kl kc:IntKind} {nl nc:Int} {zd:List DV} (hx:D4 X (get s) x=some (.v (.prim (.int kl nl)))) (hy:D4 X (get s) y=some (.v (.prim (.int kc nc)))) (Fi:nl=(n:Int)) (Ic:nc=(n:Int))
  (he:DW X.P T=some (E,B)) (hz:S6 X.P T=some zd) (Ln:HE zd=true) (hB:0<B/\B<=1024) (hn:d<X.n) (Al:n<=HL) (hq:q=none)
  (h:∀b,newB b s->X.w0.heap.size<=b->zd.length=E->vc X Ad ops l (CV (CV s (.slot d) (.one (.v (KK b n n)))) (.heap b) (.row (AM (List.replicate n zd)))) K) :
  eD X Ad ops l K ⟨some d,.makeSlice T x y,ty,pos,af,none⟩ s q:=by
 subst hq;intro m hm G a w R0;obtain⟨p1,p3⟩:=FH hm;simp only[List.length_cons,List.range'_succ,wpOpsIn,p1,Region.wanted,if_true];refine xB (o:=⟨some d,.makeSlice T x y,ty,pos,af,none⟩) rfl rfl hn he hB hx hy Fi Ic Al hz Ln R0 _ _ fun b hb hw Gk G' a' w' R'=>?_;exact DM (h b hb hw Gk) (m+1) p3 G' a' w' R'
theorem zjc {b:Nat}{l r:List SV}{kk:List Item}(Ak:get s (.heap b)=some (.row (l++r)))(h:W X kk (CV s (.heap b) (.row l))):W X kk s:=by
 intro G a w b' cs hf Sl hr R;refine h G a w b' cs hf Sl hr ?_;have hb:KM G w b l:=by
  obtain⟨c,e,h1,h2,h3⟩:=R.holds _ _ Ak;rw[List.length_append]at h2;refine⟨c,e,h1,oO,fun i x hx=>?_⟩;have Ag:=(uA hx).1;exact h3 i x (by rw[List.getElem?_append_left Ag];exact hx)
 have key:∀l' v,get (CV s (.heap b) (.row l)) l' = some v->∃v0,get s l' = some v0/\BI G l' v=BI G l' v0:=by
  intro l' v hl;rw[C1]at hl;split at hl
  ·subst_vars;cases hl;exact⟨_,Ak,rfl⟩
  ·exact⟨v,hl,rfl⟩
 refine⟨R.size,R.defers,R.ext,R.wf,R.nil,fun l v hl=>?_,fun l v l' v' b' hl Ha Cx Bt=>?_,fun l v b' hl Cx=>?_,fun l v b' o hl Cx ht=>?_⟩
 ·rw[C1]at hl;split at hl
  ·subst_vars;cases hl;exact hb
  ·exact R.holds _ _ hl
 ·obtain⟨v0,k1,k2⟩:=key _ _ hl;obtain⟨v1,k3,k4⟩:=key _ _ Ha;rw[k2]at Cx;rw[k4]at Bt;exact R.sep _ _ _ _ _ k1 k3 Cx Bt
 ·obtain⟨v0,k1,k2⟩:=key _ _ hl;rw[k2]at Cx;exact R.own _ _ _ k1 Cx
 ·obtain⟨v0,k1,k2⟩:=key _ _ hl;rw[k2]at Cx;exact R.data _ _ _ o k1 Cx ht
end
end
section
variable {gl:AF}
theorem NU:cT gl 83 [] [] (T.ty .list).dv []:=by
 refine A8 Tryz.func83 ?_;intro X hP u7 hf u9 hn hR u6 u5;refine A4 ?_;refine IL ?_;simp[go_sem,hP,u7,hn,T.ty] <;> (try omega);all_goals exact t_f
theorem zck (t:Ty)(hc:t.count<=1073741824):cT gl 150 [t.dv] [] (A0 t.count) []:=by
 induction t using Ty.ind with
 | h t ih=>
 refine A8 Tryz.func150 ?_;intro X hP u7 hf u9 hn hR u6 u5;have Fu:=Ty.fit_len (u5 t.dv sS);have Et:=Ty.count_eq t;refine A4 ?_;refine BK ?_;refine GH [] (by simp[go_sem]) (by simp[go_sem,Ty.count.counts] <;> omega) (by simp[go_sem]) (FE (t.args) (fun done rest=>[sV 9 (A0 done.length),sV 8 (A0 t.args.length),sV 7 (.sl (t.args.map Ty.cells)),sV 3 (A0 (1+Ty.count.counts done:Nat)),sV 2 (A0 0)]) ?_ ?_)
 ·intro done x rest hL Aq Aa;have Ag:done.length<t.args.length:=by rw[hL];simp
  have Dd:=uE Aq;have Df:=Ty.counts_append done (x::rest);have Dp:=Ty.counts_append done [x];rw[<- hL]at Df;simp only[Ty.count.counts]at Df Dp;refine A2 ?_;refine AE ?_;refine A7 @Aq ?_;refine A3 @Aq (ih x Dd oO) ?_;refine CR (wr []) @Dp tT Aa
 ·refine A2 ?_;refine B6 ?_;refine A4 ?_;exact BD @Et
def IJ (k:Int)(a b:Ty):Ty × Int:=if 64<(Ty.mk k [a,b]).count then (A9,4) else (Ty.mk k [a,b],0)
theorem zQ (k:Int)(a b:Ty)(hc:(Ty.mk k [a,b]).count<=1073741824):cT gl 111 [A0 k,a.dv,b.dv] [] (.tup [(IJ k a b).1.dv,A0 (IJ k a b).2]) []:=by
 refine A8 Tryz.func111 ?_;intro X hP u7 hf u9 hn hR u6 u5;have ha:=Ty.fold a;have hb:=Ty.fold b;have Lg:=Ty.fold (Ty.mk k [a,b]);have Cw:(Ty.mk k [a,b]).dv = .agg [A0 k,.sl [a.cells,b.cells]]:=rfl;refine A4 ?_;refine A3 (j4 @ha @hb @Lg @Cw) (zck (Ty.mk k [a,b]) hc) ?_;by_cases h:64<(Ty.mk k [a,b]).count
 ·refine A7 @h ?_;exact AT (j3 @IJ.eq_1 @h @A9.eq_1)
 ·refine A7 @h ?_;exact AT (j2 @IJ.eq_1 @h)
theorem N7 (a b:Ty)(hc:(Ty.mk 4 [a,b]).count<=1073741824):cT gl 85 [a.dv,b.dv] [] (.tup [(IJ 4 a b).1.dv,A0 (IJ 4 a b).2]) []:=by
 refine A8 Tryz.func85 ?_;intro X hP u7 hf u9 hn hR u6 u5;have ha:=Ty.fold a;have hb:=Ty.fold b;refine A4 ?_;refine A3 (j2 @ha @hb) (zQ 4 a b hc) ?_;exact BR
theorem dI (a b:Ty)(hc:(Ty.mk 3 [a,b]).count<=1073741824):cT gl 66 [a.dv,b.dv] [] (.tup [(IJ 3 a b).1.dv,A0 (IJ 3 a b).2]) []:=by
 refine A8 Tryz.func66 ?_;intro X hP u7 hf u9 hn hR u6 u5;have ha:=Ty.fold a;have hb:=Ty.fold b;refine A4 ?_;refine A3 (j2 @ha @hb) (zQ 3 a b hc) ?_;exact BR
theorem gN (y:Ty):IJ 3 CE y=(FN y,GN y):=by
 unfold IJ FN GN;have:(Ty.mk 3 [CE,y]).count=y.count+2:=by show 1+(1+(y.count+0))=_;omega
 rw[this];split;· rw[if_neg oO,if_neg oO]
 ·rw[if_pos oO,if_pos oO]
def dJ (gl:AF)(a:T):Prop:=cT gl 36 [a.ty.dv] [] (.tup [(DD a).dv,A0 (BS a)]) []
theorem dK (t:Ty)(ha:t.args=[])(h4:¬t.kind=4)(h0:t.checkN=0):cT gl 36 [t.dv] [] (.tup [t.dv,A0 0]) []:=by
 have hc:=E1 (gl:=gl) t (by rw[Ty.count_eq,ha];decide);rw[h0]at hc;have Nw:=Ty.fold t;rw[ha]at Nw;simp only[List.map_nil]at Nw;refine A8 Tryz.func36 ?_;intro X hP u7 hf u9 hn hR u6 u5;refine A7 @ha ?_;refine B4 ?_;refine AX @ha ?_;refine B6 ?_;refine A7 @h4 ?_;refine A3 (j3 @h4 @Nw @ha) hc ?_;refine A4 ?_;exact BR
theorem zcl (x y Xa Ya:Ty)(e1 e2:Int)(hx:cT gl 36 [x.dv] [] (.tup [Xa.dv,A0 e1]) [])(hy:cT gl 36 [y.dv] [] (.tup [Ya.dv,A0 e2]) [])(hc:(Ty.mk 3 [Xa,Ya]).count<=1000000) :
  cT gl 36 [(Ty.mk 3 [x,y]).dv] [] (if e1=0 then if e2=0 then if (Ty.mk 3 [Xa,Ya]).checkN=0 then .tup [(Ty.mk 3 [Xa,Ya]).dv,A0 0] else .tup [A9.dv,A0 (Ty.mk 3 [Xa,Ya]).checkN] else .tup [A9.dv,A0 e2] else .tup [A9.dv,A0 e1]) []:=by
 have Nr:=E1 (gl:=gl) (Ty.mk 3 [Xa,Ya]) oO;have Bi:=Ty.fold x;have Cs:=Ty.fold y;have hd:(Ty.mk 3 [x,y]).dv = .agg [A0 3,.sl [x.cells,y.cells]]:=rfl;have hD:(Ty.mk 3 [Xa,Ya]).dv = .agg [A0 3,.sl [Xa.cells,Ya.cells]]:=rfl;have An:=Ty.cells_eq x;have Bp:=Ty.cells_eq y;have Om:=Ty.cells_eq Xa;have Sq:=Ty.cells_eq Ya;have hz:A9.dv = .agg [A0 0,.sl []]:=rfl;rw[hd];refine A8 Tryz.func36 ?_;intro X hP u7 hf u9 hn hR u6 u5;refine A4 ?_;refine B4 ?_;refine A2 ?_;refine AE ?_;refine A7 @An ?_;refine A3 @Bi hx ?_;by_cases h1:e1=0
 ·rw[if_pos h1]at hR;refine A7 @h1 ?_;refine AC (s':=[sV 16 (.sl [x.cells,y.cells]),sV 17 (A0 2),sV 18 (A0 1),sP 1,sL 1 [.v (A0 3),.v (.sl [x.cells,y.cells])],sP 2,sL 2 [.v (A0 0),.own 0 []],sP 4,sL 4 [.v (A0 3),.own 1035 [[A0 Xa.kind,.sl (Xa.args.map Ty.cells)]]],(.tok 1035,.tk 2 1)]) [(1035,35)] (j2 @An @Bp) ?_;refine AB ?_;refine A2 ?_;refine AE ?_;refine A7 @Bp ?_;refine A3 @Cs hy ?_;by_cases h2:e2=0
  ·rw[if_pos h2]at hR;refine A7 @h2 ?_;refine AB ?_;refine A2 ?_;refine B6 ?_;refine A4 ?_;refine A3 (j3 @hD @Om @Sq) Nr ?_;by_cases h3:(Ty.mk 3 [Xa,Ya]).checkN=0
   ·rw[if_pos h3,hD]at hR;refine A7 @h3 ?_;exact BD (j2 @Om @Sq)
   ·rw[if_neg h3]at hR;refine A7 @h3 ?_;exact BD @hz
  ·rw[if_neg h2]at hR;refine A7 @h2 ?_;exact BD @hz
 ·rw[if_neg h1]at hR;refine A7 @h1 ?_;exact BD @hz
theorem znw (x y Xa Ya:Ty)(e1 e2:Int)(hx:cT gl 36 [x.dv] [] (.tup [Xa.dv,A0 e1]) [])(hy:cT gl 36 [y.dv] [] (.tup [Ya.dv,A0 e2]) [])(hXa:Xa.count<=1000000)(hY:Ya.count<=1000000) :
  cT gl 36 [(Ty.mk 4 [x,y]).dv] [] (if e1=0 then if e2=0 then if GN Ya=0 then if (Ty.mk 4 [Xa,FN Ya]).checkN=0 then .tup [(Ty.mk 4 [Xa,FN Ya]).dv,A0 0] else .tup [A9.dv,A0 (Ty.mk 4 [Xa,FN Ya]).checkN] else .tup [A9.dv,A0 (GN Ya)] else .tup [A9.dv,A0 e2] else .tup [A9.dv,A0 e1]) []:=by
 have wp:=dI (gl:=gl) CE Ya (by show 1+(1+(Ya.count+0))<=_;omega);rw[gN]at wp;have hWc:(FN Ya).count<=1000002:=by
  unfold FN;split;· show 1+(1+(Ya.count+0))<=_;omega
  ·show 1+0<=1000002;omega
 have Nr:=E1 (gl:=gl) (Ty.mk 4 [Xa,FN Ya]) (by show 1+(Xa.count+((FN Ya).count+0))<=_;omega);have Bi:=Ty.fold x;have Cs:=Ty.fold y;have hfY:=Ty.fold Ya;have hd:(Ty.mk 4 [x,y]).dv = .agg [A0 4,.sl [x.cells,y.cells]]:=rfl;have hD:(Ty.mk 4 [Xa,FN Ya]).dv = .agg [A0 4,.sl [Xa.cells,(FN Ya).cells]]:=rfl;have An:=Ty.cells_eq x;have Bp:=Ty.cells_eq y;have Om:=Ty.cells_eq Xa;have Sq:=Ty.cells_eq Ya;have hcW:=Ty.cells_eq (FN Ya);have hz:A9.dv = .agg [A0 0,.sl []]:=rfl;rw[hd];refine A8 Tryz.func36 ?_;intro X hP u7 hf u9 hn hR u6 u5;refine A4 ?_;refine B4 ?_;refine A2 ?_;refine AE ?_;refine A7 @An ?_;refine A3 @Bi hx ?_;by_cases h1:e1=0;rotate_left
 ·rw[if_neg h1]at hR;refine A7 @h1 ?_;exact BD @hz
 rw[if_pos h1]at hR;refine AX @h1 ?_;refine QZ @h1 ?_;refine BK ?_;refine AQ [35] fun K hK=>?_;simp[go_sem,hP,u7,hn];refine YF (E:=2) (B:=32) (zs:=[[A0 Xa.kind,.sl (Xa.args.map Ty.cells)]]) (zd:=[A0 0,.sl []]) (by simp[go_sem]) (by simp[go_sem]) (by simp[go_sem,hP]) (by rw[hP];kernel_rfl) rfl dD (by rw[hP];rfl) (by rw[hn];exact uF rfl) sS (by simp;unfold HL;omega) sS rfl ?_;intro b cap Bj Np Ow;have Oy:1<=cap:=Bj;obtain⟨full,Fj⟩:∃full,full=[[A0 Xa.kind,.sl (Xa.args.map Ty.cells)]]++List.replicate (cap - 1) [A0 0,DV.sl []]:=⟨_,rfl⟩;have Ew:full.length=cap:=by rw[Fj];simp;omega
 have Ok:∀e∈full,e.length=2:=by
  intro e he;rw[Fj]at he;rcases List.mem_append.1 he with he|he;· rw[List.mem_singleton.1 he];rfl
  ·rw[(List.mem_replicate.1 he).2];rfl
 have Av:full.take 1=[[A0 Xa.kind,.sl (Xa.args.map Ty.cells)]]:=by rw[Fj];rfl
 simp only[List.length_singleton];rw[<- Fj];clear Fj;simp[go_sem,hP,u7,hn];refine F1 ?_;clear hK K;refine A2 ?_;refine AC (s':=[sV 16 (.sl [x.cells,y.cells]),sV 17 (A0 2),sV 18 (A0 1),sP 1,sL 1 [.v (A0 4),.v (.sl [x.cells,y.cells])],sP 2,sL 2 [.v (A0 0),.own 0 []],sP 4,sL 4 [.v (A0 4),.v (KK b 1 cap)],sB  b (AM full)]) [] (j3 @An @Bp @cF) ?_;refine AB ?_;refine A2 ?_;refine AE ?_;refine A7 @Bp ?_;refine A3 @Cs hy ?_;by_cases h2:e2=0;rotate_left
 ·rw[if_neg h2]at hR;refine A7 @h2 ?_;exact BD @hz
 rw[if_pos h2]at hR;refine AX @h2 ?_;refine QZ @h2 ?_;refine BK ?_;refine AQ [35] fun K hK=>?_;simp[go_sem,hP,u7,hn];refine nQ rfl (YG (q:=some b) (E:=2) (B:=32) (n:=1) (cap:=cap) (full:=full) (zs:=[[A0 Ya.kind,.sl (Ya.args.map Ty.cells)]]) (zd:=[A0 0,.sl []]) rfl rfl (by rw[hn];exact uF rfl) (by simp[go_sem,hP]) dD (by rw[hP];rfl) (by simp[go_sem,hP,u7,hn]) (by simp[go_sem,hP,u7,hn]) (fun b' Ab=>by cases Ab;simp[go_sem]) (fun h=>by cases h) Ew Oy sS (by simp;unfold HL;omega) Ok sS (by rw[hP];kernel_rfl) rfl) rfl ?_;rintro q b2 cs ⟨Vt,Cd,rfl,rfl,f1,f2,f3,f4,f9⟩ hnb2;simp only[List.length_singleton]at f3 f4;have f5:Cd.take 2=[[A0 Xa.kind,.sl (Xa.args.map Ty.cells)],[A0 Ya.kind,.sl (Ya.args.map Ty.cells)]]:=by rw[f4,Av];rfl
 have f6:Cd[1]? = some [A0 Ya.kind,.sl (Ya.args.map Ty.cells)]:=by
  have:=congrArg (fun l=>l[1]?) f5
  simpa [List.getElem?_take] using this
 have f7:Cd[0]? = some [A0 Xa.kind,.sl (Xa.args.map Ty.cells)]:=by
  have:=congrArg (fun l=>l[0]?) f5
  simpa [List.getElem?_take] using this
 have Hl:GZ (List.take 2 (List.drop 2 (AM Cd)))=some [A0 Ya.kind,.sl (Ya.args.map Ty.cells)]:=by simpa using g8 f2 f6
 have hput:=xX (ys:=Cd) (E:=2) f2 (i:=1) oO (z:=[A0 (FN Ya).kind,.sl ((FN Ya).args.map Ty.cells)]) rfl;have f8:AM Cd=[.v (A0 Xa.kind),.v (.sl (Xa.args.map Ty.cells)),.v (A0 Ya.kind),.v (.sl (Ya.args.map Ty.cells))]++AM (Cd.drop 2):=by
  conv=>lhs;rw[<- List.take_append_drop 2 Cd,H8,f5]
  rfl
 simp[z46,zaz,go_sem,hP,u7,hn];refine F1 ?_;clear hK K;refine zjc (b:=b2) (by rw[<- f8];simp[go_sem]) ?_;simp[go_sem];refine A2 ?_;refine AB ?_;refine A2 ?_;refine B6 ?_;refine A4 ?_;refine EW @hfY JV wp ?_;by_cases h3:GN Ya=0;rotate_left
 ·rw[if_neg h3]at hR;refine A7 @h3 ?_;exact BD @hz
 rw[if_pos h3]at hR;refine AX @h3 ?_;refine QZ @h3 ?_;refine A2 ?_;refine P6 (b:=b2) (E:=2) (ys:=[[A0 Xa.kind,.sl (Xa.args.map Ty.cells)],[A0 (FN Ya).kind,.sl ((FN Ya).args.map Ty.cells)]]) (by simp[go_sem];rfl) sS (by simp;unfold HL;omega) (by rcases f9 with h|h;(cases h;exact Ow);exact h.1) ?_;have Kc:G0 b2 [[A0 Xa.kind,.sl (Xa.args.map Ty.cells)],[A0 (FN Ya).kind,.sl ((FN Ya).args.map Ty.cells)]] (.v (.prim (.slice (some ⟨b2,0,none⟩) 2 Vt))) = .v (.sl [[A0 Xa.kind,.sl (Xa.args.map Ty.cells)],[A0 (FN Ya).kind,.sl ((FN Ya).args.map Ty.cells)]]):=PC rfl f3;simp[go_sem,frz,TO,JH,L1,L2,L3,JS,P9,MW,MX,PA,MY,PB,MZ,N0,Kc];refine A4 ?_;refine A3 (j3 @hD @Om @hcW) Nr ?_;by_cases h4:(Ty.mk 4 [Xa,FN Ya]).checkN=0
 ·rw[if_pos h4,hD]at hR;refine A7 @h4 ?_;exact BD (j2 @Om @hcW)
 ·rw[if_neg h4]at hR;refine A7 @h4 ?_;exact BD @hz
theorem BX (a:T):dJ gl a:=by
 have cz:(A9).count<=64:=dD
 have cc:∀a:T,(DD a).count<=64:=fun a=>by
  unfold DD;split;· rw[T.ty_count];assumption
  ·exact cz
 have chk:∀a:T,(a.ty).checkN=if a.size<=64 then 0 else 4:=fun a=>by
  unfold Ty.checkN;rw[if_pos a.ty_shape,T.ty_count];split <;> split <;> first|rfl|omega
 induction a with
 | nat=>exact dK (Ty.mk 1 []) rfl dD rfl
 | list=>exact dK (Ty.mk 2 []) rfl dD rfl
 | unit=>exact dK (Ty.mk 5 []) rfl dD rfl
 | pair a b Fq Cu=>
  have c1:=cc a;have c2:=cc b;have w:=zcl (gl:=gl) a.ty b.ty (DD a) (DD b) (BS a) (BS b) Fq Cu (by show 1+((DD a).count+((DD b).count+0))<=_;omega);have Bb:(T.pair a b).tk.size=1+a.tk.size+b.tk.size:=rfl;have hpa:=chk (T.pair a b).tk;unfold dJ;have e:(if BS a=0 then if BS b=0 then if (Ty.mk 3 [DD a,DD b]).checkN=0 then DV.tup [(Ty.mk 3 [DD a,DD b]).dv,A0 0] else .tup [A9.dv,A0 (Ty.mk 3 [DD a,DD b]).checkN] else .tup [A9.dv,A0 (BS b)] else .tup [A9.dv,A0 (BS a)]) = .tup [(DD (.pair a b)).dv,A0 (BS (.pair a b))]:=by
   unfold BS DD;rw[Bb]at *;by_cases h1:a.tk.size<=64
   ·by_cases h2:b.tk.size<=64
    ·simp only[h1,h2,if_true];have:(Ty.mk 3 [a.tk.ty,b.tk.ty]).checkN=if 1+a.tk.size+b.tk.size<=64 then 0 else 4:=hpa
     rw[this];by_cases h3:1+a.tk.size+b.tk.size<=64;· simp only[h3,if_true];rfl
     ·simp only[h3,if_false];rfl
    ·rw[if_neg (show ¬1+a.tk.size+b.tk.size<=64 from oO),if_neg (show ¬1+a.tk.size+b.tk.size<=64 from oO)];simp only[h1,h2,if_true,if_false];rfl
   ·rw[if_neg (show ¬1+a.tk.size+b.tk.size<=64 from oO),if_neg (show ¬1+a.tk.size+b.tk.size<=64 from oO)];simp only[h1,if_false];rfl
  rw[<- e];exact w
 | fn a b Fq Cu=>
  have c1:=cc a;have c2:=cc b;have w:=znw (gl:=gl) a.ty b.ty (DD a) (DD b) (BS a) (BS b) Fq Cu oO oO;have Bb:(T.fn a b).tk.size=1+a.tk.size+(1+1+b.tk.size):=rfl;have hpa:=chk (T.fn a b).tk;unfold dJ;have e:(if BS a=0 then if BS b=0 then if GN (DD b)=0 then if (Ty.mk 4 [DD a,FN (DD b)]).checkN=0 then DV.tup [(Ty.mk 4 [DD a,FN (DD b)]).dv,A0 0] else .tup [A9.dv,A0 (Ty.mk 4 [DD a,FN (DD b)]).checkN] else .tup [A9.dv,A0 (GN (DD b))] else .tup [A9.dv,A0 (BS b)] else .tup [A9.dv,A0 (BS a)]) = .tup [(DD (.fn a b)).dv,A0 (BS (.fn a b))]:=by
   unfold BS DD;rw[Bb]at *;by_cases h1:a.tk.size<=64
   ·by_cases h2:b.tk.size<=64
    ·simp only[h1,h2,if_true];unfold GN FN;rw[T.ty_count];by_cases h3:b.tk.size+2<=64
     ·simp only[h3,if_true];have:(Ty.mk 4 [a.tk.ty,Ty.mk 3 [CE,b.tk.ty]]).checkN=if 1+a.tk.size+(1+1+b.tk.size)<=64 then 0 else 4:=hpa
      rw[this];by_cases h4:1+a.tk.size+(1+1+b.tk.size)<=64;· simp only[h4,if_true];rfl
      ·simp only[h4,if_false];rfl
     ·rw[if_neg (show ¬1+a.tk.size+(1+1+b.tk.size)<=64 from oO),if_neg (show ¬1+a.tk.size+(1+1+b.tk.size)<=64 from oO)];simp only[h3,if_false];rfl
    ·rw[if_neg (show ¬1+a.tk.size+(1+1+b.tk.size)<=64 from oO),if_neg (show ¬1+a.tk.size+(1+1+b.tk.size)<=64 from oO)];simp only[h1,h2,if_true,if_false];rfl
   ·rw[if_neg (show ¬1+a.tk.size+(1+1+b.tk.size)<=64 from oO),if_neg (show ¬1+a.tk.size+(1+1+b.tk.size)<=64 from oO)];simp only[h1,if_false];rfl
  rw[<- e];exact w
theorem NV (b:Nat)(e f:Int):cT gl 84 [BC b,A0 f] [(b,DE e)] (.tup []) [(b,DE (IH e f))]:=by
 refine A8 Tryz.func84 ?_;intro X hP u7 hf u9 hn hR u6 u5;by_cases h:e=0
 ·refine A7 @h ?_;exact AI [(b,DE (IH e f))] (j2 @IH.eq_1 @h)
 ·refine A7 @h ?_;exact AI [(b,DE (IH e f))] (j2 @IH.eq_1 @h)
theorem H9 (b:Nat)(e k:Int)(s:Ty)(l:List Tm)(hc:(Tm.mk k 0 s l).count<=1073741824) :
  cT gl 86 [BC b,A0 k,s.dv,.sl (l.map Tm.cells)] [(b,DE e)] (AH e k s l).1.dv [(b,DE (AH e k s l).2)]:=by
 refine A8 Tryz.func86 ?_;intro X hP u7 hf u9 hn hR u6 u5;by_cases h:e=0
 ·have Ba:AH e k s l=IN k s l:=by unfold AH;rw[if_pos h]
  have w:=NV (gl:=gl) b 0 (IN k s l).2;have hz:IH 0 (IN k s l).2=(IN k s l).2:=rfl;rw[hz]at w;rw[Ba]at hR;refine A7 @h ?_;refine A3 @h (nG k s l hc) ?_;refine A3 @h w ?_;refine A4 ?_;exact AI [(b,DE (IN k s l).2)] tT
 ·have Ba:AH e k s l=(AA,e):=by unfold AH;rw[if_neg h]
  rw[Ba]at hR;refine A7 @h ?_;exact AI [(b,DE e)] @AA.eq_1
theorem CT (b:Nat)(e k:Int)(l:List Tm)(hc:(Tm.mk k 0 zY l).count<=1073741824) :
  cT gl 90 [BC b,A0 k,.sl (l.map Tm.cells)] [(b,DE e)] (AH e k zY l).1.dv [(b,DE (AH e k zY l).2)]:=by
 refine A8 Tryz.func90 ?_;intro X hP u7 hf u9 hn hR u6 u5;have Jw:DV.agg [A0 0,DV.sl []]=zY.dv:=rfl;refine A4 ?_;refine A3 @Jw (H9 b e k zY l hc) ?_;exact AI [(b,DE (AH e k zY l).2)] tT
theorem UR (k:Int)(s:Ty)(x:Tm):(Tm.mk k 0 s [x]).count=1+(x.count+0):=rfl
theorem Z4 (k:Int)(s:Ty)(x y:Tm):(Tm.mk k 0 s [x,y]).count=1+(x.count+(y.count+0)):=rfl
theorem zqx (k:Int)(s:Ty)(x y z:Tm):(Tm.mk k 0 s [x,y,z]).count=1+(x.count+(y.count+(z.count+0))):=rfl
theorem CA (b:Nat)(e i:Int):cT gl 89 [BC b,A0 i] [(b,DE e)] (G5 e i).1.dv [(b,DE (G5 e i).2)]:=by
 refine A8 Tryz.func89 ?_;intro X hP u7 hf u9 hn hR u6 u5;unfold G5 at hR;have Bi:=Tm.fold (vT i);refine A4 ?_;refine EW @Bi (L8 i) (CT b e 11 [vT i] (by rw[UR];show 1+(1+0+0)<=_;omega)) ?_;exact AI [(b,DE (AH e 11 zY [vT i]).2)] tT
theorem BL (b:Nat)(e i:Int):cT gl 91 [BC b,A0 i] [(b,DE e)] (F3 e i).1.dv [(b,DE (F3 e i).2)]:=by
 refine A8 Tryz.func91 ?_;intro X hP u7 hf u9 hn hR u6 u5;unfold F3 at hR;have Bi:=Tm.fold (vT i);refine A4 ?_;refine EW @Bi (L8 i) (CT b e 12 [vT i] (by rw[UR];show 1+(1+0+0)<=_;omega)) ?_;exact AI [(b,DE (AH e 12 zY [vT i]).2)] tT
theorem D1 (b:Nat)(e:Int)(x y:Tm)(hx:x.count<=268435456)(hy:y.count<=268435456) :
  cT gl 82 [BC b,x.dv,y.dv] [(b,DE e)] (AH e 10 zY [x,y]).1.dv [(b,DE (AH e 10 zY [x,y]).2)]:=by
 refine A8 Tryz.func82 ?_;intro X hP u7 hf u9 hn hR u6 u5;have Bi:=Tm.fold x;have Cs:=Tm.fold y;refine A4 ?_;refine A3 (j2 @Bi @Cs) (CT b e 10 [x,y] (by rw[Z4];omega)) ?_;exact AI [(b,DE (AH e 10 zY [x,y]).2)] tT
theorem E4 (b:Nat)(e:Int)(s:Ty)(x y:Tm)(hx:x.count<=268435456)(hy:y.count<=268435456) :
  cT gl 87 [BC b,s.dv,x.dv,y.dv] [(b,DE e)] (GE e s x y).1.dv [(b,DE (GE e s x y).2)]:=by
 have c1:=A6 e 2 s [y];have w1:=H9 (gl:=gl) b e 2 s [y] (by rw[UR];omega);refine A8 Tryz.func87 ?_;intro X hP u7 hf u9 hn hR u6 u5;unfold GE at hR;have Bi:=Tm.fold x;have Cs:=Tm.fold y;have Lo:=Ty.fold s;generalize AH e 2 s [y]=r1 at *;obtain⟨f1,e1⟩:=r1;simp only at hR w1 c1;have Ar:=Tm.fold f1;refine A4 ?_;refine EW (j4 @Bi @Cs @Lo @Ar) w1 (CT b e1 3 [f1,x] (by rw[Z4];omega)) ?_;exact AI [(b,DE (AH e1 3 zY [f1,x]).2)] tT
theorem US (t:Tm)(n:Int)(hs:t.shape=true)(hi:t.idx 549755813888)(Cx:0<=n)(Bt:n<=1048576)(Jy:t.count<=549755813888):cT gl 93 [t.dv,A0 n] [] (t.upN 0 n).dv []:=by
 have w:=vD (gl:=gl) t 0 n hs hi Cx Bt dD oO;refine A8 Tryz.func93 ?_;intro X hP u7 hf u9 hn hR u6 u5;have Av:=Tm.fold t;refine A4 ?_;refine A3 @Av w ?_;exact BR
theorem D2 (b:Nat)(e:Int)(a:T)(hc:dJ gl a):cT gl 88 [BC b,a.ty.dv] [(b,DE e)] (DY e a).1.dv [(b,DE (DY e a).2)]:=by
 refine A8 Tryz.func88 ?_;intro X hP u7 hf u9 hn hR u6 u5;have Cw:(DD a).count<=64:=by
  unfold DD;split;· rw[T.ty_count];assumption
  ·show 1+0<=64;omega
 have Cy:=Ty.fold a.ty;have Jy:=Ty.fold (DD a);have w1:=dI (gl:=gl) CE (DD a) (by show 1+(1+((DD a).count+0))<=_;omega);rw[gN]at w1;have w2:=NV (gl:=gl) b e (BS a);have w3:=NV (gl:=gl) b (IH e (BS a)) (GN (DD a));unfold dJ at hc;unfold DY at hR;generalize a.ty=ta at *;refine A4 ?_;have J0:=j2 @Cy @Jy;refine A3 J0 hc ?_;refine A3 J0 w2 ?_;refine EW J0 JV w1 ?_;refine A3 J0 w3 ?_;refine A4 ?_;exact AI [(b,DE (IH (IH e (BS a)) (GN (DD a))))] tT
theorem WI (b:Nat)(ys:List (List DV))(t:Ty):G0 b ys (.v t.dv) = .v t.dv:=rfl
theorem z4z (l:List Tm)(x:Tm):∀(e:Int) (o:Tm),HX e o (l++[x])=VO (HX e o l).2 (HX e o l).1 x:=by
 induction l with
 | nil=>intro e o;rfl
 | cons a r ih=>intro e o;simp only[List.cons_append,HX,ih]
theorem I5 (l:List Tm):∀(e:Int) (o:Tm),o.count<=268435456->(HX e o l).1.count<=268435456:=by
 induction l with
 | nil=>intro e o h;exact h
 | cons a r ih=>
  intro e o h;have:=A6 (AH e 3 zY [EF,o]).2 3 zY [(AH e 3 zY [EF,o]).1,a];exact ih _ _ (Nat.le_trans this dD)
theorem QR (b:Nat)(e:Int)(o:Tm)(l:List Tm)(ho:o.count<=268435456)(hl:∀x∈l,x.count<=268435456)(Kw:l.length<=1000) :
  cT gl 92 [BC b,.sl (o.cells::l.map Tm.cells)] [(b,DE e)] (HX e o l).1.dv [(b,DE (HX e o l).2)]:=by
 have ht:List.take l.length (l.map Tm.cells)=l.map Tm.cells:=List.take_of_length_le sS;have hco:=Tm.cells_eq o;refine A8 Tryz.func92 ?_;intro X hP u7 hf u9 hn hR u6 u5;have Iq:∀e∈(o.cells::l.map Tm.cells),e.length=5:=by
  intro e he;rcases List.mem_cons.1 he with rfl|he;· exact Tm.length_cells o
  ·obtain⟨q,_,rfl⟩:=List.mem_map.1 he;exact Tm.length_cells q
 refine A7 (j2 @ht @hco) ?_;refine BK ?_;refine AC [] (j2 @HX.eq_1 @HX.eq_2) (FE (l) (fun done rest=>[sV 14 (A0 done.length),sV 13 (A0 l.length),sV 12 (.sl (l.map Tm.cells)),sV 0 (BC b),sP 4,sL 4 [.v (A0 0),.v (A0 0),.v (A0 0),.own 0 [],.own 0 []],sP 5,sL 5 [.v (A0 (HX e o done).1.kind),.v (A0 (HX e o done).1.index),.v (A0 (HX e o done).1.type.kind),.v (.sl ((HX e o done).1.type.args.map Ty.cells)),.v (.sl ((HX e o done).1.args.map Tm.cells))],sB  b [.v (A0 (HX e o done).2)]]) ?_ ?_)
 ·intro done x rest hL Aq Aa;have Ag:done.length<l.length:=by rw[hL];simp
  have hxc:=hl x (uE Aq);have hoc:=I5 done e o ho;have Hs:=z4z done x e o;generalize hg:HX e o done=g at *;obtain⟨g1,e1⟩:=g;simp only at hoc Hs;have Bi:=Tm.fold x;have So:=Tm.fold g1;have Qq:=Tm.fold EF;have hpc:EF.count<=100:=dD;have w1:=CT (gl:=gl) b e1 3 [EF,g1] (by rw[Z4];omega);have c1:=A6 e1 3 zY [EF,g1];unfold VO at Hs;generalize AH e1 3 zY [EF,g1]=r1 at *;obtain⟨f1,e2⟩:=r1;simp only at w1 c1 Hs;have w2:=CT (gl:=gl) b e2 3 [f1,x] (by rw[Z4];omega);have Ar:=Tm.fold f1;refine A2 ?_;refine AE ?_;refine A7 @Aq ?_;refine OL (j5 @Aq @Bi @So @Qq @Ar) zg9 w1 w2 ?_;refine CR (wr []) @Hs tT Aa
 ·refine A2 ?_;refine B6 ?_;refine A4 ?_;exact AI [(b,DE (HX e o l).2)] tT
theorem z50 (g:List Ty)(t:Ty)(hg:g.length<=1000000):cT gl 81 [.sl (g.map Ty.cells),t.dv] [] (.sl ((g++[t]).map Ty.cells)) []:=by
 refine A8 Tryz.func81 ?_;intro X hP u7 hf u9 hn hR u6 u5;have Dg:=Ty.cells_eq t;have Av:=Ty.fold t;have Nq:List.take g.length (g.map Ty.cells)=g.map Ty.cells:=List.take_of_length_le sS;have Iq:∀e∈g.map Ty.cells,e.length=2:=by
  intro e he;obtain⟨q,_,rfl⟩:=List.mem_map.1 he;exact Ty.length_cells q
 refine A7 (j2 @Nq @Dg) ?_;exact BR
theorem z51 (b:Nat)(e:Int)(a:T)(ho:(T.fn .nat (.fn a a)).ok):cT gl 123 [BC b,a.ty.dv,.sl [CE.cells],A0 3] [(b,DE e)] (NL e a).1.dv [(b,DE (NL e a).2)]:=by
 obtain⟨p0,c0,p1,q1,a1,c1,g2,g1,g0,s,u,z,o,w1,m1,w0,z0,z1,z2,z3,z4,z5,z6,z7,z8,z9,Bu,Cj,Ce,Ch,Cl,Cr,Ee⟩:=ST e a;obtain⟨r,hr⟩:∃r,r=NL e a:=⟨_,rfl⟩;rw[<- hr];rw[<- hr]at Ee;clear hr;have Dv:(vT 1).count<=4096:=dD;have Su:(vT 2).count<=4096:=dD;have Yh:=Tm.fold (vT 1);have Wh:=Tm.fold (vT 2);have kp0:=BL (gl:=gl) b e 3;rw[<- z0]at kp0;have np0:p0.1.count<=4096:=by rw[z0];exact A6 _ _ _ _
 have Zx:=Tm.fold p0.1;have Xt:=CT (gl:=gl) b p0.2 3 [p0.1,vT 1] (by rw[Z4];omega);rw[<- z1]at Xt;have nc0:c0.1.count<=4096:=by rw[z1];exact A6 _ _ _ _
 have Xs:=Tm.fold c0.1;have Ge:=BL (gl:=gl) b c0.2 3;rw[<- z2]at Ge;have np1:p1.1.count<=4096:=by rw[z2];exact A6 _ _ _ _
 have tp1:=Tm.fold p1.1;have kq1:=BL (gl:=gl) b p1.2 0;rw[<- z3]at kq1;have nq1:q1.1.count<=4096:=by rw[z3];exact A6 _ _ _ _
 have Za:=Tm.fold q1.1;have ka1:=BL (gl:=gl) b q1.2 1;rw[<- z4]at ka1;have na1:a1.1.count<=4096:=by rw[z4];exact A6 _ _ _ _
 have ta1:=Tm.fold a1.1;have Fg:=CT (gl:=gl) b a1.2 3 [q1.1,a1.1] (by rw[Z4];omega);rw[<- z5]at Fg;have nc1:c1.1.count<=4096:=by rw[z5];exact A6 _ _ _ _
 have tc1:=Tm.fold c1.1;have Na:=CA (gl:=gl) b c1.2 2;rw[<- z6]at Na;have ng2:g2.1.count<=4096:=by rw[z6];exact A6 _ _ _ _
 have Zn:=Tm.fold g2.1;have Jc:=CA (gl:=gl) b g2.2 1;rw[<- z7]at Jc;have Wt:g1.1.count<=4096:=by rw[z7];exact A6 _ _ _ _
 have Qu:=Tm.fold g1.1;have Iy:=CA (gl:=gl) b g1.2 0;rw[<- z8]at Iy;have Xd:g0.1.count<=4096:=by rw[z8];exact A6 _ _ _ _
 have Rg:=Tm.fold g0.1;have ks:=QR (gl:=gl) b g0.2 g2.1 [g1.1,g0.1] oO (by intro x hx;simp only[List.mem_cons,List.not_mem_nil,or_false]at hx;rcases hx with rfl|rfl <;> omega) sS;rw[<- z9]at ks;have ns:s.1.count<=268435456:=by rw[z9];exact I5 _ _ _ oO
 have ts:=Tm.fold s.1;have ku:=CT (gl:=gl) b s.2 5 [s.1] (by rw[UR];omega);rw[<- Bu]at ku;have nu:u.1.count<=4096:=by rw[Bu];exact A6 _ _ _ _
 have tu:=Tm.fold u.1;have kz:=BL (gl:=gl) b u.2 0;rw[<- Cj]at kz;have nz:z.1.count<=4096:=by rw[Cj];exact A6 _ _ _ _
 have tz:=Tm.fold z.1;have ko:=D1 (gl:=gl) b z.2 u.1 z.1 oO oO;rw[<- Ce]at ko;have no:o.1.count<=4096:=by rw[Ce];exact A6 _ _ _ _
 have to:=Tm.fold o.1;have It:=D2 (gl:=gl) b o.2 a (BX a);rw[<- Ch]at It;have Ms:=E4 (gl:=gl) b w1.2 w1.1 c1.1 o.1 oO oO;rw[<- Cl]at Ms;have nm1:m1.1.count<=4096:=by rw[Cl];exact A6 _ _ _ _
 have Qf:=Tm.fold m1.1;have Hu:=D2 (gl:=gl) b m1.2 (T.fn a a) (BX (T.fn a a));rw[<- Cr]at Hu;have kr:=E4 (gl:=gl) b w0.2 w0.1 c0.1 m1.1 oO oO;rw[<- Ee]at kr;have Bb:1+1+(1+a.size+a.size)<=64:=ho;have Df:a.ty.count=a.size:=T.ty_count a;have Zj:=N7 (gl:=gl) a.ty a.ty (by show 1+(a.ty.count+(a.ty.count+0))<=_;omega);have j1:IJ 4 a.ty a.ty=((T.fn a a).ty,0):=by unfold IJ;rw[if_neg (by show ¬64<1+(a.ty.count+(a.ty.count+0));omega)];rfl
 rw[j1]at Zj;have Km:(T.fn a a).ty.count=1+a.size+a.size:=T.ty_count _;have Zb:=N7 (gl:=gl) CE (T.fn a a).ty (by show 1+(1+((T.fn a a).ty.count+0))<=_;omega);have j2:IJ 4 CE (T.fn a a).ty=((T.fn .nat (.fn a a)).ty,0):=by unfold IJ;rw[if_neg (by show ¬64<1+(1+((T.fn a a).ty.count+0));omega)];rfl
 rw[j2]at Zb;have Ew:IH e 0=e:=by unfold IH;split;(rename_i h;exact h.symm);rfl
 have wl:=NV (gl:=gl) b e 0;rw[Ew]at wl;have Ic:CE.cells=[A0 1,.sl []]:=rfl;have Ai:DV.agg [A0 1,.sl []]=CE.dv:=rfl;rw[Ic];generalize (T.fn .nat (.fn a a)).ty=y0 at *;generalize (T.fn a a).ty=y1 at *;generalize a.ty=ya at *;have fy0:=Ty.fold y0;have Zl:=Ty.fold y1;have Zo:=Ty.fold ya;clear j1 j2;refine A8 Tryz.func123 ?_;intro X hP u7 hf u9 hn hR u6 u5;refine A4 ?_;refine BK ?_;refine AQ [26] fun K hK=>?_;simp[go_sem,hP,u7,hn];refine TD (E:=2) (B:=32) (n:=2) (kl:=.i64) (kc:=.i64) (nl:=2) (nc:=2) (zd:=[A0 0,.sl []]) (by simp[go_sem,hP,u7,hn]) (by simp[go_sem,hP,u7,hn]) dD dD (by simp[go_sem,hP]) (by rw[hP];kernel_rfl) rfl dD (by rw[hn];exact uF rfl) dD rfl ?_;intro b1 Cx Ue _;have Do:AM (List.replicate 2 [A0 0,DV.sl []])=[.v (A0 0),.v (.sl []),.v (A0 0),.v (.sl [])]:=rfl;rw[Do];simp[newB]at Cx;have Hr:¬b1=b:=fun h=>Cx h.symm;simp[go_sem,hP,u7,hn,Cx,Hr];refine F1 ?_;clear hK K;have J0:=j6 @Cx @Hr @fy0 @Zl @Zo @Ai;refine A7 J0 ?_;refine BK ?_;first|refine AQ [] fun K hK=>?_|refine AL (by rw[hP];exact AZ) [] fun K hK=>?_
 refine QY J0 ?_;refine DT J0 (Zj) ?_;refine F1 ?_;clear hK K;refine BK ?_;first|refine AQ [] fun K hK=>?_|refine AL (by rw[hP];exact AZ) [] fun K hK=>?_
 refine QY J0 ?_;refine DT J0 (wl) ?_;refine F1 ?_;clear hK K;refine A7 J0 ?_;refine B4 ?_;refine A2 ?_;refine AE ?_;refine AX J0 ?_;refine BK ?_;first|refine AQ [] fun K hK=>?_|refine AL (by rw[hP];exact AZ) [] fun K hK=>?_
 refine QY J0 ?_;refine DT J0 (Zb) ?_;refine F1 ?_;clear hK K;refine A7 J0 ?_;refine AB ?_;refine A2 ?_;refine B6 ?_;refine P6 (b:=b1) (E:=2) (ys:=[[A0 y1.kind,.sl (y1.args.map Ty.cells)],[A0 ya.kind,.sl (ya.args.map Ty.cells)]]) (by simp[go_sem,Cx,Hr];rfl) sS (by simp[HL]) Ue ?_;have Oh:G0 b1 [[A0 y1.kind,.sl (y1.args.map Ty.cells)],[A0 ya.kind,.sl (ya.args.map Ty.cells)]] (.v (.prim (.slice (some ⟨b1,0,none⟩) 2 2))) = .v (.sl [[A0 y1.kind,.sl (y1.args.map Ty.cells)],[A0 ya.kind,.sl (ya.args.map Ty.cells)]]):=PC rfl (Nat.le_refl _);simp[go_sem,frz,TO,JH,L1,L2,L3,JS,P9,MW,MX,PA,WI,MY,PB,MZ,N0,Oh,Cx,Hr];refine BK ?_;refine AQ [66] fun K hK=>?_;simp[go_sem,hP,u7,hn];refine TD (E:=5) (B:=72) (n:=2) (kl:=.i64) (kc:=.i64) (nl:=2) (nc:=2) (zd:=[A0 0,A0 0,A0 0,.sl [],.sl []]) (by simp[go_sem,hP,u7,hn]) (by simp[go_sem,hP,u7,hn]) dD dD (by simp[go_sem,hP]) (by rw[hP];kernel_rfl) rfl dD (by rw[hn];exact uF rfl) dD rfl ?_;intro b2 Bt Uf _;have Fm:AM (List.replicate 2 [A0 0,A0 0,A0 0,.sl [],.sl []])=[.v (A0 0),.v (A0 0),.v (A0 0),.v (.sl []),.v (.sl []),.v (A0 0),.v (A0 0),.v (A0 0),.v (.sl []),.v (.sl [])]:=rfl;rw[Fm];simp[newB,Cx,Hr]at Bt
 have Cg:¬b2=b:=fun h=>Bt h.symm;simp[go_sem,hP,u7,hn,Bt,Cg];refine F1 ?_;clear hK K;have J1:=j2 @Bt @Cg;refine A7 J1 ?_;refine B4 ?_;refine A2 ?_;refine AE ?_;refine A7 J1 ?_;refine BK ?_;first|refine AQ [] fun K hK=>?_|refine AL (by rw[hP];exact AZ) [] fun K hK=>?_
 have J2:=j3 @Bt @Cg @Zx;refine QY J2 ?_;refine DT J2 (kp0) ?_;refine F1 ?_;clear hK K;refine A7 J2 ?_;refine BK ?_;first|refine AQ [] fun K hK=>?_|refine AL (by rw[hP];exact AZ) [] fun K hK=>?_
 refine QY J1 ?_;refine DT J1 (L8 1) ?_;refine F1 ?_;clear hK K;refine A7 J1 ?_;refine BK ?_;first|refine AQ [] fun K hK=>?_|refine AL (by rw[hP];exact AZ) [] fun K hK=>?_
 have J3:=j5 @Bt @Cg @Zx @Yh @Xs;refine QY J3 ?_;refine DT J3 (Xt) ?_;refine F1 ?_;clear hK K;refine A7 J1 ?_;refine AC (s':=[sV 0 (BC b),sV 3 (A0 3),sP 8,sL 8 [.v (A0 0),.v (A0 0),.v (A0 0),.own 0 [],.own 0 []],sV 9 (A0 1),sV 10 (.sl [[A0 y1.kind,.sl (y1.args.map Ty.cells)],[A0 ya.kind,.sl (ya.args.map Ty.cells)]]),sV 14 (KK b2 2 2),sV 68 (A0 2),sV 69 (A0 1),sB  b2 [.v (A0 c0.1.kind),.v (A0 c0.1.index),.v (A0 c0.1.type.kind),.v (.sl (c0.1.type.args.map Ty.cells)),.v (.sl (c0.1.args.map Tm.cells)),.v (A0 0),.v (A0 0),.v (A0 0),.v (.sl []),.v (.sl [])],sB  b [.v (A0 c0.2)]]) [] J1 ?_;refine AB ?_;refine A2 ?_;refine AE ?_;refine A7 J1 ?_;refine BK ?_;first|refine AQ [] fun K hK=>?_|refine AL (by rw[hP];exact AZ) [] fun K hK=>?_
 have J4:=j3 @Bt @Cg @tp1;refine QY J4 ?_;refine DT J4 (Ge) ?_;refine F1 ?_;clear hK K;refine A7 J4 ?_;refine BK ?_;first|refine AQ [] fun K hK=>?_|refine AL (by rw[hP];exact AZ) [] fun K hK=>?_
 have J5:=j3 @Bt @Cg @Za;refine QY J5 ?_;refine DT J5 (kq1) ?_;refine F1 ?_;clear hK K;refine BK ?_;first|refine AQ [] fun K hK=>?_|refine AL (by rw[hP];exact AZ) [] fun K hK=>?_
 refine QY J1 ?_;refine DT J1 (L8 1) ?_;refine F1 ?_;clear hK K;refine A7 J1 ?_;refine BK ?_;first|refine AQ [] fun K hK=>?_|refine AL (by rw[hP];exact AZ) [] fun K hK=>?_
 have J6:=j3 @Bt @Cg @ta1;refine QY J6 ?_;refine DT J6 (ka1) ?_;refine F1 ?_;clear hK K;refine BK ?_;first|refine AQ [] fun K hK=>?_|refine AL (by rw[hP];exact AZ) [] fun K hK=>?_
 have J7:=j5 @Bt @Cg @Za @ta1 @tc1;refine QY J7 ?_;refine DT J7 (Fg) ?_;refine F1 ?_;clear hK K;refine A7 J1 ?_;refine AB ?_;refine A2 ?_;refine B6 ?_;refine P6 (b:=b2) (E:=5) (ys:=[[A0 c0.1.kind,A0 c0.1.index,A0 c0.1.type.kind,.sl (c0.1.type.args.map Ty.cells),.sl (c0.1.args.map Tm.cells)],[A0 c1.1.kind,A0 c1.1.index,A0 c1.1.type.kind,.sl (c1.1.type.args.map Ty.cells),.sl (c1.1.args.map Tm.cells)]]) (by simp[go_sem,Bt,Cg];rfl) sS (by simp[HL]) Uf ?_;have Hb:G0 b2 [[A0 c0.1.kind,A0 c0.1.index,A0 c0.1.type.kind,.sl (c0.1.type.args.map Ty.cells),.sl (c0.1.args.map Tm.cells)],[A0 c1.1.kind,A0 c1.1.index,A0 c1.1.type.kind,.sl (c1.1.type.args.map Ty.cells),.sl (c1.1.args.map Tm.cells)]] (.v (.prim (.slice (some ⟨b2,0,none⟩) 2 2))) = .v (.sl [[A0 c0.1.kind,A0 c0.1.index,A0 c0.1.type.kind,.sl (c0.1.type.args.map Ty.cells),.sl (c0.1.args.map Tm.cells)],[A0 c1.1.kind,A0 c1.1.index,A0 c1.1.type.kind,.sl (c1.1.type.args.map Ty.cells),.sl (c1.1.args.map Tm.cells)]]):=PC rfl (Nat.le_refl _);simp[go_sem,frz,TO,JH,L1,L2,L3,JS,P9,MW,MX,PA,WI,MY,PB,MZ,N0,Hb,Bt,Cg];refine BK ?_;refine AQ [100] fun K hK=>?_;simp[go_sem,hP,u7,hn];refine FF tT (Na) ?_
 refine cB (E:=5) (els:=[[A0 g2.1.kind,A0 g2.1.index,A0 g2.1.type.kind,.sl (g2.1.type.args.map Ty.cells),.sl (g2.1.args.map Tm.cells)]]) (by simp[go_sem,hP];rfl) (by simp[go_sem,hP,u7,hn]) ⟨rfl,dD,dD⟩ (by rw[hn];exact uF rfl) dD (by rfl) (by rfl) ?_;simp[go_sem,hP,u7,hn];refine F1 ?_;clear hK K;refine A4 ?_;refine AC (s':=[sV 0 (BC b),sP 8,sL 8 [.v (A0 0),.v (A0 0),.v (A0 0),.own 0 [],.own 0 []],sV 9 (A0 1),sV 10 (.sl [[A0 y1.kind,.sl (y1.args.map Ty.cells)],[A0 ya.kind,.sl (ya.args.map Ty.cells)]]),sV 14 (.sl [[A0 c0.1.kind,A0 c0.1.index,A0 c0.1.type.kind,.sl (c0.1.type.args.map Ty.cells),.sl (c0.1.args.map Tm.cells)],[A0 c1.1.kind,A0 c1.1.index,A0 c1.1.type.kind,.sl (c1.1.type.args.map Ty.cells),.sl (c1.1.args.map Tm.cells)]]),(.slot 18,.one (.own 1100 [[A0 g2.1.kind,A0 g2.1.index,A0 g2.1.type.kind,.sl (g2.1.type.args.map Ty.cells),.sl (g2.1.args.map Tm.cells)]])),(.tok 1100,.tk 5 1),sV 19 (A0 1),sB  b [.v (A0 g2.2)]]) [(1100,100)] tT ?_;refine B4 ?_;refine A2 ?_;refine AE ?_;refine A3 tT Jc ?_;refine A4 ?_
 refine AC (s':=[sV 0 (BC b),sP 8,sL 8 [.v (A0 0),.v (A0 0),.v (A0 0),.own 0 [],.own 0 []],sV 9 (A0 1),sV 10 (.sl [[A0 y1.kind,.sl (y1.args.map Ty.cells)],[A0 ya.kind,.sl (ya.args.map Ty.cells)]]),sV 14 (.sl [[A0 c0.1.kind,A0 c0.1.index,A0 c0.1.type.kind,.sl (c0.1.type.args.map Ty.cells),.sl (c0.1.args.map Tm.cells)],[A0 c1.1.kind,A0 c1.1.index,A0 c1.1.type.kind,.sl (c1.1.type.args.map Ty.cells),.sl (c1.1.args.map Tm.cells)]]),(.slot 18,.one (.own 1111 [[A0 g2.1.kind,A0 g2.1.index,A0 g2.1.type.kind,.sl (g2.1.type.args.map Ty.cells),.sl (g2.1.args.map Tm.cells)],[A0 g1.1.kind,A0 g1.1.index,A0 g1.1.type.kind,.sl (g1.1.type.args.map Ty.cells),.sl (g1.1.args.map Tm.cells)]])),(.tok 1111,.tk 5 2),sV 19 (A0 0),sB  b [.v (A0 g1.2)]]) [(1111,111)] tT ?_;refine AB ?_;refine A2 ?_;refine AE ?_;refine A3 tT Iy ?_;refine A4 ?_;refine AB ?_;refine A2 ?_;refine B6 ?_;refine TI (j4 @ts @tu @tz @to) ks ku kz ko ?_;refine A4 ?_;refine B4 ?_;refine A2 ?_;refine AE ?_;have gw1:=Ty.fold w1.1;refine EW (j4 @Zo @gw1 @tc1 @to) It Ms ?_;refine A4 ?_;refine AB ?_;refine A2 ?_;refine AE ?_;have gw0:=Ty.fold w0.1;refine EW (j4 @Zl @gw0 @Xs @Qf) Hu kr ?_;refine A4 ?_;refine AB ?_;refine A2 ?_;refine B6 ?_;refine A4 ?_;exact AI [(b,DE r.2)] tT
theorem z52 (b:Nat)(e:Int)(a:T)(ho:(T.fn .nat (.fn .list (.fn a a))).ok):cT gl 123 [BC b,a.ty.dv,.sl [CE.cells,(T.ty .list).cells],A0 4] [(b,DE e)] (NM e a).1.dv [(b,DE (NM e a).2)]:=by
 obtain⟨p0,c0,p1,q1,c1,p2,q2,a2,c2,g3,g2,g1,g0,s,u,z,o,w2,m2,w1,m1,w0,z0,z1,z2,z3,z4,z5,z6,z7,z8,z9,Bu,Cj,Ce,Ch,Cl,Cr,Ee,Gm,Hh,Hn,Po,Qi,Qr⟩:=SU e a;obtain⟨r,hr⟩:∃r,r=NM e a:=⟨_,rfl⟩;rw[<- hr];rw[<- hr]at Qr;clear hr;have Dv:(vT 1).count<=4096:=dD;have Su:(vT 2).count<=4096:=dD;have Yh:=Tm.fold (vT 1);have Wh:=Tm.fold (vT 2);have kp0:=BL (gl:=gl) b e 4;rw[<- z0]at kp0;have np0:p0.1.count<=4096:=by rw[z0];exact A6 _ _ _ _
 have Zx:=Tm.fold p0.1;have Xt:=CT (gl:=gl) b p0.2 3 [p0.1,vT 2] (by rw[Z4];omega);rw[<- z1]at Xt;have nc0:c0.1.count<=4096:=by rw[z1];exact A6 _ _ _ _
 have Xs:=Tm.fold c0.1;have Ge:=BL (gl:=gl) b c0.2 4;rw[<- z2]at Ge;have np1:p1.1.count<=4096:=by rw[z2];exact A6 _ _ _ _
 have tp1:=Tm.fold p1.1;have kq1:=BL (gl:=gl) b p1.2 0;rw[<- z3]at kq1;have nq1:q1.1.count<=4096:=by rw[z3];exact A6 _ _ _ _
 have Za:=Tm.fold q1.1;have Fg:=CT (gl:=gl) b q1.2 3 [q1.1,vT 2] (by rw[Z4];omega);rw[<- z4]at Fg;have nc1:c1.1.count<=4096:=by rw[z4];exact A6 _ _ _ _
 have tc1:=Tm.fold c1.1;have Kv:=BL (gl:=gl) b c1.2 4;rw[<- z5]at Kv;have np2:p2.1.count<=4096:=by rw[z5];exact A6 _ _ _ _
 have tp2:=Tm.fold p2.1;have kq2:=BL (gl:=gl) b p2.2 0;rw[<- z6]at kq2;have nq2:q2.1.count<=4096:=by rw[z6];exact A6 _ _ _ _
 have tq2:=Tm.fold q2.1;have ka2:=BL (gl:=gl) b q2.2 2;rw[<- z7]at ka2;have na2:a2.1.count<=4096:=by rw[z7];exact A6 _ _ _ _
 have ta2:=Tm.fold a2.1;have Ke:=CT (gl:=gl) b a2.2 3 [q2.1,a2.1] (by rw[Z4];omega);rw[<- z8]at Ke;have nc2:c2.1.count<=4096:=by rw[z8];exact A6 _ _ _ _
 have tc2:=Tm.fold c2.1;have Sv:=CA (gl:=gl) b c2.2 3;rw[<- z9]at Sv;have ng3:g3.1.count<=4096:=by rw[z9];exact A6 _ _ _ _
 have tg3:=Tm.fold g3.1;have Na:=CA (gl:=gl) b g3.2 2;rw[<- Bu]at Na;have ng2:g2.1.count<=4096:=by rw[Bu];exact A6 _ _ _ _
 have Zn:=Tm.fold g2.1;have Jc:=CA (gl:=gl) b g2.2 1;rw[<- Cj]at Jc;have Wt:g1.1.count<=4096:=by rw[Cj];exact A6 _ _ _ _
 have Qu:=Tm.fold g1.1;have Iy:=CA (gl:=gl) b g1.2 0;rw[<- Ce]at Iy;have Xd:g0.1.count<=4096:=by rw[Ce];exact A6 _ _ _ _
 have Rg:=Tm.fold g0.1;have ks:=QR (gl:=gl) b g0.2 g3.1 [g2.1,g1.1,g0.1] oO (by intro x hx;simp only[List.mem_cons,List.not_mem_nil,or_false]at hx;rcases hx with rfl|rfl|rfl <;> omega) sS;rw[<- Ch]at ks;have ns:s.1.count<=268435456:=by rw[Ch];exact I5 _ _ _ oO
 have ts:=Tm.fold s.1;have ku:=CT (gl:=gl) b s.2 5 [s.1] (by rw[UR];omega);rw[<- Cl]at ku;have nu:u.1.count<=4096:=by rw[Cl];exact A6 _ _ _ _
 have tu:=Tm.fold u.1;have kz:=BL (gl:=gl) b u.2 0;rw[<- Cr]at kz;have nz:z.1.count<=4096:=by rw[Cr];exact A6 _ _ _ _
 have tz:=Tm.fold z.1;have ko:=D1 (gl:=gl) b z.2 u.1 z.1 oO oO;rw[<- Ee]at ko;have no:o.1.count<=4096:=by rw[Ee];exact A6 _ _ _ _
 have to:=Tm.fold o.1;have Nu:=D2 (gl:=gl) b o.2 a (BX a);rw[<- Gm]at Nu;have Pu:=E4 (gl:=gl) b w2.2 w2.1 c2.1 o.1 oO oO;rw[<- Hh]at Pu;have nm2:m2.1.count<=4096:=by rw[Hh];exact A6 _ _ _ _
 have Wn:=Tm.fold m2.1;have It:=D2 (gl:=gl) b m2.2 (T.fn a a) (BX (T.fn a a));rw[<- Hn]at It;have Ms:=E4 (gl:=gl) b w1.2 w1.1 c1.1 m2.1 oO oO;rw[<- Po]at Ms;have nm1:m1.1.count<=4096:=by rw[Po];exact A6 _ _ _ _
 have Qf:=Tm.fold m1.1;have Hu:=D2 (gl:=gl) b m1.2 (T.fn .list (T.fn a a)) (BX (T.fn .list (T.fn a a)));rw[<- Qi]at Hu;have kr:=E4 (gl:=gl) b w0.2 w0.1 c0.1 m1.1 oO oO;rw[<- Qr]at kr;have Bb:1+1+(1+1+(1+a.size+a.size))<=64:=ho;have Df:a.ty.count=a.size:=T.ty_count a;have Zj:=N7 (gl:=gl) a.ty a.ty (by show 1+(a.ty.count+(a.ty.count+0))<=_;omega);have j1:IJ 4 a.ty a.ty=((T.fn a a).ty,0):=by unfold IJ;rw[if_neg (by show ¬64<1+(a.ty.count+(a.ty.count+0));omega)];rfl
 rw[j1]at Zj;have Km:(T.fn a a).ty.count=1+a.size+a.size:=T.ty_count _;have Zb:=N7 (gl:=gl) (T.ty .list) (T.fn a a).ty (by show 1+(1+((T.fn a a).ty.count+0))<=_;omega);have j2:IJ 4 (T.ty .list) (T.fn a a).ty=((T.fn .list (.fn a a)).ty,0):=by unfold IJ;rw[if_neg (by show ¬64<1+(1+((T.fn a a).ty.count+0));omega)];rfl
 rw[j2]at Zb;have Jn:(T.fn .list (.fn a a)).ty.count=1+1+(1+a.size+a.size):=T.ty_count _;have wf3:=N7 (gl:=gl) CE (T.fn .list (.fn a a)).ty (by show 1+(1+((T.fn .list (.fn a a)).ty.count+0))<=_;omega);have j3:IJ 4 CE (T.fn .list (.fn a a)).ty=((T.fn .nat (.fn .list (.fn a a))).ty,0):=by unfold IJ;rw[if_neg (by show ¬64<1+(1+((T.fn .list (.fn a a)).ty.count+0));omega)];rfl
 rw[j3]at wf3;have Ew:IH e 0=e:=by unfold IH;split;(rename_i h;exact h.symm);rfl
 have wl:=NV (gl:=gl) b e 0;rw[Ew]at wl;have Ic:CE.cells=[A0 1,.sl []]:=rfl;have Wz:(T.ty .list).cells=[A0 2,.sl []]:=rfl;have Ai:DV.agg [A0 1,.sl []]=CE.dv:=rfl;have Dy:DV.agg [A0 2,.sl []]=(T.ty .list).dv:=rfl;rw[Ic,Wz];generalize (T.fn .nat (.fn .list (.fn a a))).ty=y0 at *;generalize (T.fn .list (.fn a a)).ty=y1 at *;generalize (T.fn a a).ty=y2 at *;generalize a.ty=ya at *;have fy0:=Ty.fold y0;have Zl:=Ty.fold y1;have fy2:=Ty.fold y2;have Zo:=Ty.fold ya;clear j1 j2 j3;refine A8 Tryz.func123 ?_;intro X hP u7 hf u9 hn hR u6 u5;refine A4 ?_;refine BK ?_;refine AQ [26] fun K hK=>?_;simp[go_sem,hP,u7,hn];refine TD (E:=2) (B:=32) (n:=3) (kl:=.i64) (kc:=.i64) (nl:=3) (nc:=3) (zd:=[A0 0,.sl []]) (by simp[go_sem,hP,u7,hn]) (by simp[go_sem,hP,u7,hn]) dD dD (by simp[go_sem,hP]) (by rw[hP];kernel_rfl) rfl dD (by rw[hn];exact uF rfl) dD rfl ?_;intro b1 Cx Ue _;have Do:AM (List.replicate 3 [A0 0,DV.sl []])=[.v (A0 0),.v (.sl []),.v (A0 0),.v (.sl []),.v (A0 0),.v (.sl [])]:=rfl;rw[Do];simp[newB]at Cx;have Hr:¬b1=b:=fun h=>Cx h.symm;simp[go_sem,hP,u7,hn,Cx,Hr];refine F1 ?_;clear hK K;have J0:=j8 @Cx @Hr @fy0 @Zl @fy2 @Zo @Ai @Dy;refine A7 J0 ?_;refine BK ?_
 first|refine AQ [] fun K hK=>?_|refine AL (by rw[hP];exact AZ) [] fun K hK=>?_
 refine QY J0 ?_;refine DT J0 (Zj) ?_;refine F1 ?_;clear hK K;refine BK ?_;first|refine AQ [] fun K hK=>?_|refine AL (by rw[hP];exact AZ) [] fun K hK=>?_
 refine QY J0 ?_;refine DT J0 (wl) ?_;refine F1 ?_;clear hK K;refine A7 J0 ?_;refine B4 ?_;refine A2 ?_;refine AE ?_;refine AX J0 ?_;refine BK ?_;first|refine AQ [] fun K hK=>?_|refine AL (by rw[hP];exact AZ) [] fun K hK=>?_
 refine QY J0 ?_;refine DT J0 (Zb) ?_;refine F1 ?_;clear hK K;refine A7 J0 ?_;refine AB ?_;refine A2 ?_;refine AE ?_;refine AX J0 ?_;refine BK ?_;first|refine AQ [] fun K hK=>?_|refine AL (by rw[hP];exact AZ) [] fun K hK=>?_
 refine QY J0 ?_;refine DT J0 (wf3) ?_;refine F1 ?_;clear hK K;refine A7 J0 ?_;refine AB ?_;refine A2 ?_;refine B6 ?_;refine P6 (b:=b1) (E:=2) (ys:=[[A0 y1.kind,.sl (y1.args.map Ty.cells)],[A0 y2.kind,.sl (y2.args.map Ty.cells)],[A0 ya.kind,.sl (ya.args.map Ty.cells)]]) (by simp[go_sem,Cx,Hr];rfl) sS (by simp[HL]) Ue ?_;have Oh:G0 b1 [[A0 y1.kind,.sl (y1.args.map Ty.cells)],[A0 y2.kind,.sl (y2.args.map Ty.cells)],[A0 ya.kind,.sl (ya.args.map Ty.cells)]] (.v (.prim (.slice (some ⟨b1,0,none⟩) 3 3))) = .v (.sl [[A0 y1.kind,.sl (y1.args.map Ty.cells)],[A0 y2.kind,.sl (y2.args.map Ty.cells)],[A0 ya.kind,.sl (ya.args.map Ty.cells)]]):=PC rfl (Nat.le_refl _);simp[go_sem,frz,TO,JH,L1,L2,L3,JS,P9,MW,MX,PA,WI,MY,PB,MZ,N0,Oh,Cx,Hr];refine BK ?_;refine AQ [66] fun K hK=>?_;simp[go_sem,hP,u7,hn];refine TD (E:=5) (B:=72) (n:=3) (kl:=.i64) (kc:=.i64) (nl:=3) (nc:=3) (zd:=[A0 0,A0 0,A0 0,.sl [],.sl []]) (by simp[go_sem,hP,u7,hn]) (by simp[go_sem,hP,u7,hn]) dD dD (by simp[go_sem,hP]) (by rw[hP];kernel_rfl) rfl dD (by rw[hn];exact uF rfl) dD rfl ?_;intro b2 Bt Uf _
 have Fm:AM (List.replicate 3 [A0 0,A0 0,A0 0,.sl [],.sl []])=[.v (A0 0),.v (A0 0),.v (A0 0),.v (.sl []),.v (.sl []),.v (A0 0),.v (A0 0),.v (A0 0),.v (.sl []),.v (.sl []),.v (A0 0),.v (A0 0),.v (A0 0),.v (.sl []),.v (.sl [])]:=rfl;rw[Fm];simp[newB,Cx,Hr]at Bt;have Cg:¬b2=b:=fun h=>Bt h.symm;simp[go_sem,hP,u7,hn,Bt,Cg];refine F1 ?_;clear hK K;have J1:=j2 @Bt @Cg;refine A7 J1 ?_;refine B4 ?_;refine A2 ?_;refine AE ?_;refine A7 J1 ?_;refine BK ?_;first|refine AQ [] fun K hK=>?_|refine AL (by rw[hP];exact AZ) [] fun K hK=>?_
 have J2:=j3 @Bt @Cg @Zx;refine QY J2 ?_;refine DT J2 (kp0) ?_;refine F1 ?_;clear hK K;refine A7 J2 ?_;refine BK ?_;first|refine AQ [] fun K hK=>?_|refine AL (by rw[hP];exact AZ) [] fun K hK=>?_
 refine QY J1 ?_;refine DT J1 (L8 2) ?_;refine F1 ?_;clear hK K;refine A7 J1 ?_;refine BK ?_;first|refine AQ [] fun K hK=>?_|refine AL (by rw[hP];exact AZ) [] fun K hK=>?_
 have J3:=j5 @Bt @Cg @Zx @Wh @Xs;refine QY J3 ?_;refine DT J3 (Xt) ?_;refine F1 ?_;clear hK K;refine A7 J1 ?_;refine AC (s':=[sV 0 (BC b),sV 3 (A0 4),sP 8,sL 8 [.v (A0 0),.v (A0 0),.v (A0 0),.own 0 [],.own 0 []],sV 9 (A0 2),sV 10 (.sl [[A0 y1.kind,.sl (y1.args.map Ty.cells)],[A0 y2.kind,.sl (y2.args.map Ty.cells)],[A0 ya.kind,.sl (ya.args.map Ty.cells)]]),sV 14 (KK b2 3 3),sV 68 (A0 3),sV 69 (A0 1),sB  b2 [.v (A0 c0.1.kind),.v (A0 c0.1.index),.v (A0 c0.1.type.kind),.v (.sl (c0.1.type.args.map Ty.cells)),.v (.sl (c0.1.args.map Tm.cells)),.v (A0 0),.v (A0 0),.v (A0 0),.v (.sl []),.v (.sl []),.v (A0 0),.v (A0 0),.v (A0 0),.v (.sl []),.v (.sl [])],sB  b [.v (A0 c0.2)]]) [] J1 ?_;refine AB ?_;refine A2 ?_;refine AE ?_;refine A7 J1 ?_;refine BK ?_;first|refine AQ [] fun K hK=>?_|refine AL (by rw[hP];exact AZ) [] fun K hK=>?_
 have J4:=j3 @Bt @Cg @tp1;refine QY J4 ?_;refine DT J4 (Ge) ?_;refine F1 ?_;clear hK K;refine A7 J4 ?_;refine BK ?_;first|refine AQ [] fun K hK=>?_|refine AL (by rw[hP];exact AZ) [] fun K hK=>?_
 have J5:=j3 @Bt @Cg @Za;refine QY J5 ?_;refine DT J5 (kq1) ?_;refine F1 ?_;clear hK K;refine BK ?_;first|refine AQ [] fun K hK=>?_|refine AL (by rw[hP];exact AZ) [] fun K hK=>?_
 refine QY J1 ?_;refine DT J1 (L8 2) ?_;refine F1 ?_;clear hK K;refine A7 J1 ?_;refine BK ?_;first|refine AQ [] fun K hK=>?_|refine AL (by rw[hP];exact AZ) [] fun K hK=>?_
 have J6:=j5 @Bt @Cg @Za @Wh @tc1;refine QY J6 ?_;refine DT J6 (Fg) ?_;refine F1 ?_;clear hK K;refine A7 J1 ?_;refine AC (s':=[sV 0 (BC b),sV 3 (A0 4),sP 8,sL 8 [.v (A0 0),.v (A0 0),.v (A0 0),.own 0 [],.own 0 []],sV 9 (A0 2),sV 10 (.sl [[A0 y1.kind,.sl (y1.args.map Ty.cells)],[A0 y2.kind,.sl (y2.args.map Ty.cells)],[A0 ya.kind,.sl (ya.args.map Ty.cells)]]),sV 14 (KK b2 3 3),sV 68 (A0 3),sV 69 (A0 2),sB  b2 [.v (A0 c0.1.kind),.v (A0 c0.1.index),.v (A0 c0.1.type.kind),.v (.sl (c0.1.type.args.map Ty.cells)),.v (.sl (c0.1.args.map Tm.cells)),.v (A0 c1.1.kind),.v (A0 c1.1.index),.v (A0 c1.1.type.kind),.v (.sl (c1.1.type.args.map Ty.cells)),.v (.sl (c1.1.args.map Tm.cells)),.v (A0 0),.v (A0 0),.v (A0 0),.v (.sl []),.v (.sl [])],sB  b [.v (A0 c1.2)]]) [] J1 ?_;refine AB ?_;refine A2 ?_;refine AE ?_;refine A7 J1 ?_;refine BK ?_;first|refine AQ [] fun K hK=>?_|refine AL (by rw[hP];exact AZ) [] fun K hK=>?_
 have J7:=j3 @Bt @Cg @tp2;refine QY J7 ?_;refine DT J7 (Kv) ?_;refine F1 ?_;clear hK K;refine A7 J7 ?_;refine BK ?_;first|refine AQ [] fun K hK=>?_|refine AL (by rw[hP];exact AZ) [] fun K hK=>?_
 have J8:=j3 @Bt @Cg @tq2;refine QY J8 ?_;refine DT J8 (kq2) ?_;refine F1 ?_;clear hK K;refine BK ?_;first|refine AQ [] fun K hK=>?_|refine AL (by rw[hP];exact AZ) [] fun K hK=>?_
 refine QY J1 ?_;refine DT J1 (L8 2) ?_;refine F1 ?_;clear hK K;refine A7 J1 ?_;refine BK ?_;first|refine AQ [] fun K hK=>?_|refine AL (by rw[hP];exact AZ) [] fun K hK=>?_
 have J9:=j3 @Bt @Cg @ta2;refine QY J9 ?_;refine DT J9 (ka2) ?_;refine F1 ?_;clear hK K;refine BK ?_;first|refine AQ [] fun K hK=>?_|refine AL (by rw[hP];exact AZ) [] fun K hK=>?_
 have J10:=j5 @Bt @Cg @tq2 @ta2 @tc2;refine QY J10 ?_;refine DT J10 (Ke) ?_;refine F1 ?_;clear hK K;refine A7 J1 ?_;refine AB ?_;refine A2 ?_;refine B6 ?_;refine P6 (b:=b2) (E:=5) (ys:=[[A0 c0.1.kind,A0 c0.1.index,A0 c0.1.type.kind,.sl (c0.1.type.args.map Ty.cells),.sl (c0.1.args.map Tm.cells)],[A0 c1.1.kind,A0 c1.1.index,A0 c1.1.type.kind,.sl (c1.1.type.args.map Ty.cells),.sl (c1.1.args.map Tm.cells)],[A0 c2.1.kind,A0 c2.1.index,A0 c2.1.type.kind,.sl (c2.1.type.args.map Ty.cells),.sl (c2.1.args.map Tm.cells)]]) (by simp[go_sem,Bt,Cg];rfl) sS (by simp[HL]) Uf ?_;have Hb:G0 b2 [[A0 c0.1.kind,A0 c0.1.index,A0 c0.1.type.kind,.sl (c0.1.type.args.map Ty.cells),.sl (c0.1.args.map Tm.cells)],[A0 c1.1.kind,A0 c1.1.index,A0 c1.1.type.kind,.sl (c1.1.type.args.map Ty.cells),.sl (c1.1.args.map Tm.cells)],[A0 c2.1.kind,A0 c2.1.index,A0 c2.1.type.kind,.sl (c2.1.type.args.map Ty.cells),.sl (c2.1.args.map Tm.cells)]] (.v (.prim (.slice (some ⟨b2,0,none⟩) 3 3))) = .v (.sl [[A0 c0.1.kind,A0 c0.1.index,A0 c0.1.type.kind,.sl (c0.1.type.args.map Ty.cells),.sl (c0.1.args.map Tm.cells)],[A0 c1.1.kind,A0 c1.1.index,A0 c1.1.type.kind,.sl (c1.1.type.args.map Ty.cells),.sl (c1.1.args.map Tm.cells)],[A0 c2.1.kind,A0 c2.1.index,A0 c2.1.type.kind,.sl (c2.1.type.args.map Ty.cells),.sl (c2.1.args.map Tm.cells)]]):=PC rfl (Nat.le_refl _)
 simp[go_sem,frz,TO,JH,L1,L2,L3,JS,P9,MW,MX,PA,WI,MY,PB,MZ,N0,Hb,Bt,Cg];refine BK ?_;refine AQ [100] fun K hK=>?_;simp[go_sem,hP,u7,hn];refine FF tT (Sv) ?_;refine cB (E:=5) (els:=[[A0 g3.1.kind,A0 g3.1.index,A0 g3.1.type.kind,.sl (g3.1.type.args.map Ty.cells),.sl (g3.1.args.map Tm.cells)]]) (by simp[go_sem,hP];rfl) (by simp[go_sem,hP,u7,hn]) ⟨rfl,dD,dD⟩ (by rw[hn];exact uF rfl) dD (by rfl) (by rfl) ?_;simp[go_sem,hP,u7,hn];refine F1 ?_;clear hK K;refine A4 ?_
 refine AC (s':=[sV 0 (BC b),sP 8,sL 8 [.v (A0 0),.v (A0 0),.v (A0 0),.own 0 [],.own 0 []],sV 9 (A0 2),sV 10 (.sl [[A0 y1.kind,.sl (y1.args.map Ty.cells)],[A0 y2.kind,.sl (y2.args.map Ty.cells)],[A0 ya.kind,.sl (ya.args.map Ty.cells)]]),sV 14 (.sl [[A0 c0.1.kind,A0 c0.1.index,A0 c0.1.type.kind,.sl (c0.1.type.args.map Ty.cells),.sl (c0.1.args.map Tm.cells)],[A0 c1.1.kind,A0 c1.1.index,A0 c1.1.type.kind,.sl (c1.1.type.args.map Ty.cells),.sl (c1.1.args.map Tm.cells)],[A0 c2.1.kind,A0 c2.1.index,A0 c2.1.type.kind,.sl (c2.1.type.args.map Ty.cells),.sl (c2.1.args.map Tm.cells)]]),(.slot 18,.one (.own 1100 [[A0 g3.1.kind,A0 g3.1.index,A0 g3.1.type.kind,.sl (g3.1.type.args.map Ty.cells),.sl (g3.1.args.map Tm.cells)]])),(.tok 1100,.tk 5 1),sV 19 (A0 2),sB  b [.v (A0 g3.2)]]) [(1100,100)] tT ?_;refine B4 ?_;refine A2 ?_;refine AE ?_;refine A3 tT Na ?_;refine A4 ?_
 refine AC (s':=[sV 0 (BC b),sP 8,sL 8 [.v (A0 0),.v (A0 0),.v (A0 0),.own 0 [],.own 0 []],sV 9 (A0 2),sV 10 (.sl [[A0 y1.kind,.sl (y1.args.map Ty.cells)],[A0 y2.kind,.sl (y2.args.map Ty.cells)],[A0 ya.kind,.sl (ya.args.map Ty.cells)]]),sV 14 (.sl [[A0 c0.1.kind,A0 c0.1.index,A0 c0.1.type.kind,.sl (c0.1.type.args.map Ty.cells),.sl (c0.1.args.map Tm.cells)],[A0 c1.1.kind,A0 c1.1.index,A0 c1.1.type.kind,.sl (c1.1.type.args.map Ty.cells),.sl (c1.1.args.map Tm.cells)],[A0 c2.1.kind,A0 c2.1.index,A0 c2.1.type.kind,.sl (c2.1.type.args.map Ty.cells),.sl (c2.1.args.map Tm.cells)]]),(.slot 18,.one (.own 1111 [[A0 g3.1.kind,A0 g3.1.index,A0 g3.1.type.kind,.sl (g3.1.type.args.map Ty.cells),.sl (g3.1.args.map Tm.cells)],[A0 g2.1.kind,A0 g2.1.index,A0 g2.1.type.kind,.sl (g2.1.type.args.map Ty.cells),.sl (g2.1.args.map Tm.cells)]])),(.tok 1111,.tk 5 2),sV 19 (A0 1),sB  b [.v (A0 g2.2)]]) [(1111,111)] tT ?_;refine AB ?_;refine A2 ?_;refine AE ?_;refine A3 tT Jc ?_;refine A4 ?_
 refine AC (s':=[sV 0 (BC b),sP 8,sL 8 [.v (A0 0),.v (A0 0),.v (A0 0),.own 0 [],.own 0 []],sV 9 (A0 2),sV 10 (.sl [[A0 y1.kind,.sl (y1.args.map Ty.cells)],[A0 y2.kind,.sl (y2.args.map Ty.cells)],[A0 ya.kind,.sl (ya.args.map Ty.cells)]]),sV 14 (.sl [[A0 c0.1.kind,A0 c0.1.index,A0 c0.1.type.kind,.sl (c0.1.type.args.map Ty.cells),.sl (c0.1.args.map Tm.cells)],[A0 c1.1.kind,A0 c1.1.index,A0 c1.1.type.kind,.sl (c1.1.type.args.map Ty.cells),.sl (c1.1.args.map Tm.cells)],[A0 c2.1.kind,A0 c2.1.index,A0 c2.1.type.kind,.sl (c2.1.type.args.map Ty.cells),.sl (c2.1.args.map Tm.cells)]]),(.slot 18,.one (.own 1111 [[A0 g3.1.kind,A0 g3.1.index,A0 g3.1.type.kind,.sl (g3.1.type.args.map Ty.cells),.sl (g3.1.args.map Tm.cells)],[A0 g2.1.kind,A0 g2.1.index,A0 g2.1.type.kind,.sl (g2.1.type.args.map Ty.cells),.sl (g2.1.args.map Tm.cells)],[A0 g1.1.kind,A0 g1.1.index,A0 g1.1.type.kind,.sl (g1.1.type.args.map Ty.cells),.sl (g1.1.args.map Tm.cells)]])),(.tok 1111,.tk 5 3),sV 19 (A0 0),sB  b [.v (A0 g1.2)]]) [(1111,111)] tT ?_;refine AB ?_;refine A2 ?_;refine AE ?_;refine A3 tT Iy ?_;refine A4 ?_;refine AB ?_;refine A2 ?_;refine B6 ?_;refine TI (j4 @ts @tu @tz @to) ks ku kz ko ?_;refine A4 ?_;refine B4 ?_;refine A2 ?_;refine AE ?_;have gw2:=Ty.fold w2.1;refine EW (j4 @Zo @gw2 @tc2 @to) Nu Pu ?_;refine A4 ?_;refine AB ?_
 refine A2 ?_;refine AE ?_;have gw1:=Ty.fold w1.1;refine EW (j4 @fy2 @gw1 @tc1 @Wn) It Ms ?_;refine A4 ?_;refine AB ?_;refine A2 ?_;refine AE ?_;have gw0:=Ty.fold w0.1;refine EW (j4 @Zl @gw0 @Xs @Qf) Hu kr ?_;refine A4 ?_;refine AB ?_;refine A2 ?_;refine B6 ?_;refine A4 ?_;exact AI [(b,DE r.2)] tT
theorem oX (b:Nat)(a:T)(t0 x y z:Tm)(ho:(T.fn .nat (.fn a a)).ok)(Jq:t0.kind=6)(Nx:t0.type=a.ty)(hx:x.count<=4096)(hy:y.count<=4096)(hz:z.count<=4096)(sy:y.shape=true)(sz:z.shape=true)(iy:y.idx 549755813888)(iz:z.idx 549755813888) :
  cT gl 94 [BC b,t0.dv,.sl [x.cells,y.cells,z.cells],.sl [a.ty.cells,(T.fn .nat (.fn a a)).ty.cells,(T.ty .nat).cells]] [(b,DE 0)] (DH 6 a a (T.fn .nat (.fn a a)) .nat x y z).1.dv [(b,DE (DH 6 a a (T.fn .nat (.fn a a)) .nat x y z).2)]:=by
 obtain⟨w,t,p,c,q,d,g3,g2,g1,g0,s,v,o,m3,w2,m2,w1,m1,w0,z0,z1,z2,z3,z4,z5,z6,z7,z8,z9,Bu,Cj,Ce,Ch,Cl,Cr,Ee,Gm,Hh,Hn⟩:=L5 6 a a (T.fn .nat (.fn a a)) .nat x y z;obtain⟨r,hr⟩:∃r,r=DH 6 a a (T.fn .nat (.fn a a)) .nat x y z:=⟨_,rfl⟩;rw[<- hr];rw[<- hr]at Hn;clear hr;have zt:t=b6 w.2 a w.1:=z1.trans (if_pos rfl);obtain⟨ls,lm,e0,e1,e2⟩:=VR w.2 a w.1;rw[e2]at zt;have ncz:(nT 4 []).count<=4096:=dD;have nuy:(y.upN 0 1).count<=4096:=by rw[FM];exact hy
 have nuz:(z.upN 0 2).count<=4096:=by rw[FM];exact hz
 have kuy:=US (gl:=gl) y 1 sy iy dD dD oO;have kuz:=US (gl:=gl) z 2 sz iz dD dD oO;have kw:=D2 (gl:=gl) b 0 a (BX a);rw[<- z0]at kw;have Re:=z51 (gl:=gl) b w.2 a ho;rw[<- e0]at Re;have nls:ls.1.count<=4096:=by rw[e0];exact A6 _ _ _ _
 have Yl:=H9 (gl:=gl) b ls.2 2 w.1 [ls.1] (by rw[UR];omega);rw[<- e1]at Yl;have nlm:lm.1.count<=4096:=by rw[e1];exact A6 _ _ _ _
 have kt:=H9 (gl:=gl) b lm.2 2 CE [lm.1] (by rw[UR];omega);rw[<- zt]at kt;have nt:t.1.count<=4096:=by rw[zt];exact A6 _ _ _ _
 have tt:=Tm.fold t.1;have tls:=Tm.fold ls.1;have tlm:=Tm.fold lm.1;have kp:=BL (gl:=gl) b t.2 2;rw[<- z2]at kp;have np:p.1.count<=4096:=by rw[z2];exact A6 _ _ _ _
 have tp:=Tm.fold p.1;have kc:=D1 (gl:=gl) b p.2 (nT 4 []) p.1 oO oO;rw[<- z3]at kc;have nc:c.1.count<=4096:=by rw[z3];exact A6 _ _ _ _
 have tc:=Tm.fold c.1;have kq:=BL (gl:=gl) b c.2 0;rw[<- z4]at kq;have nq:q.1.count<=4096:=by rw[z4];exact A6 _ _ _ _
 have tq:=Tm.fold q.1;have kd:=H9 (gl:=gl) b q.2 6 w.1 [c.1,t.1,q.1] (by rw[zqx];omega);rw[<- z5]at kd;have nd:d.1.count<=4096:=by rw[z5];exact A6 _ _ _ _
 have td:=Tm.fold d.1;have Sv:=CA (gl:=gl) b d.2 3;rw[<- z6]at Sv;have ng3:g3.1.count<=4096:=by rw[z6];exact A6 _ _ _ _
 have tg3:=Tm.fold g3.1;have Na:=CA (gl:=gl) b g3.2 2;rw[<- z7]at Na;have ng2:g2.1.count<=4096:=by rw[z7];exact A6 _ _ _ _
 have Zn:=Tm.fold g2.1;have Jc:=CA (gl:=gl) b g2.2 1;rw[<- z8]at Jc;have Wt:g1.1.count<=4096:=by rw[z8];exact A6 _ _ _ _
 have Qu:=Tm.fold g1.1;have Iy:=CA (gl:=gl) b g1.2 0;rw[<- z9]at Iy;have Xd:g0.1.count<=4096:=by rw[z9];exact A6 _ _ _ _
 have Rg:=Tm.fold g0.1;have ks:=QR (gl:=gl) b g0.2 g3.1 [g2.1,g1.1,g0.1] oO (by intro x hx;simp only[List.mem_cons,List.not_mem_nil,or_false]at hx;rcases hx with rfl|rfl|rfl <;> omega) sS;rw[<- Bu]at ks;have ns:s.1.count<=268435456:=by rw[Bu];exact I5 _ _ _ oO
 have ts:=Tm.fold s.1;have kv:=BL (gl:=gl) b s.2 0;rw[<- Cj]at kv;have nv:v.1.count<=4096:=by rw[Cj];exact A6 _ _ _ _
 have tv:=Tm.fold v.1;have ko:=D1 (gl:=gl) b v.2 (s.1) v.1 oO oO;rw[<- Ce]at ko;have no:o.1.count<=4096:=by rw[Ce];exact A6 _ _ _ _
 have to:=Tm.fold o.1;have Zm:=E4 (gl:=gl) b o.2 w.1 d.1 o.1 oO oO;rw[<- Ch]at Zm;have nm3:m3.1.count<=4096:=by rw[Ch];exact A6 _ _ _ _
 have tm3:=Tm.fold m3.1;have Nu:=D2 (gl:=gl) b m3.2 T.nat (BX T.nat);rw[<- Cl]at Nu;have Pu:=E4 (gl:=gl) b w2.2 w2.1 (z.upN 0 2) m3.1 oO oO;rw[<- Cr]at Pu;have nm2:m2.1.count<=4096:=by rw[Cr];exact A6 _ _ _ _
 have Wn:=Tm.fold m2.1;have It:=D2 (gl:=gl) b m2.2 (T.fn .nat (.fn a a)) (BX (T.fn .nat (.fn a a)));rw[<- Ee]at It;have Ms:=E4 (gl:=gl) b w1.2 w1.1 (y.upN 0 1) m2.1 oO oO;rw[<- Gm]at Ms;have nm1:m1.1.count<=4096:=by rw[Gm];exact A6 _ _ _ _
 have Qf:=Tm.fold m1.1;have Hu:=D2 (gl:=gl) b m1.2 a (BX a);rw[<- Hh]at Hu;have kr:=E4 (gl:=gl) b w0.2 w0.1 x m1.1 oO oO;rw[<- Hn]at kr;have fw:=Ty.fold w.1;have Rx:=Ty.fold w0.1;have Ra:=Ty.fold w1.1;have Zw:=Ty.fold w2.1;have fx:=Tm.fold x;have fy:=Tm.fold y;have fz:=Tm.fold z;have fuy:=Tm.fold (y.upN 0 1);have fuz:=Tm.fold (z.upN 0 2);have An:=Tm.cells_eq x;have Bp:=Tm.cells_eq y;have Gi:=Tm.cells_eq z;have Io:(nT 4 []).dv = .agg [A0 4,A0 0,A0 0,.sl [],.sl []]:=rfl;have Ai:CE.dv=DV.agg [A0 1,.sl []]:=rfl;have Cz:DV.agg [A0 1,.sl []]=CE.dv:=rfl;have Dy:(T.ty .list).dv=DV.agg [A0 2,.sl []]:=rfl;have hld2:DV.agg [A0 2,.sl []]=(T.ty .list).dv:=rfl;have Wz:(T.ty .list).cells=[A0 2,.sl []]:=rfl;have Xl:(T.ty .nat).cells=[A0 1,.sl []]:=rfl;have Xv:DV.agg [A0 1,.sl []]=(T.ty .nat).dv:=rfl;have fa:=Ty.fold a.ty;rw[<- Nx]at fa;have fb:=Ty.fold (T.fn .nat (.fn a a)).ty;have Df:=Ty.cells_eq a.ty;have Sf:=Ty.cells_eq (T.fn .nat (.fn a a)).ty;have Ic:CE.cells=[A0 1,.sl []]:=rfl;rw[Ic]at Re;rw[Df,Sf,Xl,An,Bp,Gi,<- Nx];rw[<- Nx]at kw Hu Re;generalize (T.fn .nat (.fn a a)).ty=tyb at *;rw[Ai]at kt;rw[<- Xv]at Nu;refine A8 Tryz.func94 ?_;intro X hP u7 hf u9 hn hR u6 u5;refine A4 ?_;refine A3 @fa kw ?_;refine A7 @Jq ?_
 refine EW (j3 @Ai @Dy @fw) JV NU ?_;refine A7 @Jq ?_;refine A3 @fa Re ?_;refine A3 (j2 @fw @tls) Yl ?_;refine A4 ?_;refine B4 ?_;refine A2 ?_;refine AE ?_;refine A3 @tlm kt ?_;refine A4 ?_;refine AB ?_;refine A2 ?_;refine B6 ?_;refine TI (j7 @Jq @Io @fw @tp @tc @tq @tt) kp kc kq kd ?_;refine iN (j3 @ts @tv @to) Sv Na Jc Iy ks kv ko ?_;refine A3 (j3 @fw @td @to) Zm ?_;refine OL (j4 @Zw @fz @fuz @tm3) Nu kuz Pu ?_;refine OL (j5 @fb @Ra @fy @fuy @Wn) It kuy Ms ?_;refine EW (j4 @fa @Rx @fx @Qf) Hu kr ?_;exact AI [(b,DE r.2)] tT
theorem oY (b:Nat)(a:T)(t0 x y z:Tm)(ho:(T.fn .nat (.fn .list (.fn a a))).ok)(Jq:t0.kind=9)(Nx:t0.type=a.ty)(hx:x.count<=4096)(hy:y.count<=4096)(hz:z.count<=4096)(sy:y.shape=true)(sz:z.shape=true)(iy:y.idx 549755813888)(iz:z.idx 549755813888) :
  cT gl 94 [BC b,t0.dv,.sl [x.cells,y.cells,z.cells],.sl [a.ty.cells,(T.fn .nat (.fn .list (.fn a a))).ty.cells,(T.ty .list).cells]] [(b,DE 0)] (DH 9 a a (T.fn .nat (.fn .list (.fn a a))) .list x y z).1.dv [(b,DE (DH 9 a a (T.fn .nat (.fn .list (.fn a a))) .list x y z).2)]:=by
 obtain⟨w,t,p,c,q,d,g3,g2,g1,g0,s,v,o,m3,w2,m2,w1,m1,w0,z0,z1,z2,z3,z4,z5,z6,z7,z8,z9,Bu,Cj,Ce,Ch,Cl,Cr,Ee,Gm,Hh,Hn⟩:=L5 9 a a (T.fn .nat (.fn .list (.fn a a))) .list x y z;obtain⟨r,hr⟩:∃r,r=DH 9 a a (T.fn .nat (.fn .list (.fn a a))) .list x y z:=⟨_,rfl⟩;rw[<- hr];rw[<- hr]at Hn;clear hr;have zt:t=b7 w.2 a w.1:=z1.trans (if_neg dD);obtain⟨ls,lm,ln,e0,e1,e2,e3⟩:=VS w.2 a w.1;rw[e3]at zt;have ncz:(nT 4 []).count<=4096:=dD;have nuy:(y.upN 0 1).count<=4096:=by rw[FM];exact hy
 have nuz:(z.upN 0 2).count<=4096:=by rw[FM];exact hz
 have kuy:=US (gl:=gl) y 1 sy iy dD dD oO;have kuz:=US (gl:=gl) z 2 sz iz dD dD oO;have kw:=D2 (gl:=gl) b 0 a (BX a);rw[<- z0]at kw;have Re:=z52 (gl:=gl) b w.2 a ho;rw[<- e0]at Re;have nls:ls.1.count<=4096:=by rw[e0];exact A6 _ _ _ _
 have Yl:=H9 (gl:=gl) b ls.2 2 w.1 [ls.1] (by rw[UR];omega);rw[<- e1]at Yl;have nlm:lm.1.count<=4096:=by rw[e1];exact A6 _ _ _ _
 have Pl:=H9 (gl:=gl) b lm.2 2 (T.ty .list) [lm.1] (by rw[UR];omega);rw[<- e2]at Pl;have nln:ln.1.count<=4096:=by rw[e2];exact A6 _ _ _ _
 have kt:=H9 (gl:=gl) b ln.2 2 CE [ln.1] (by rw[UR];omega);rw[<- zt]at kt;have nt:t.1.count<=4096:=by rw[zt];exact A6 _ _ _ _
 have tt:=Tm.fold t.1;have tls:=Tm.fold ls.1;have tlm:=Tm.fold lm.1;have tln:=Tm.fold ln.1;have kp:=BL (gl:=gl) b t.2 2;rw[<- z2]at kp;have np:p.1.count<=4096:=by rw[z2];exact A6 _ _ _ _
 have tp:=Tm.fold p.1;have kc:=D1 (gl:=gl) b p.2 (nT 4 []) p.1 oO oO;rw[<- z3]at kc;have nc:c.1.count<=4096:=by rw[z3];exact A6 _ _ _ _
 have tc:=Tm.fold c.1;have kq:=BL (gl:=gl) b c.2 0;rw[<- z4]at kq;have nq:q.1.count<=4096:=by rw[z4];exact A6 _ _ _ _
 have tq:=Tm.fold q.1;have kd:=H9 (gl:=gl) b q.2 9 w.1 [c.1,t.1,q.1] (by rw[zqx];omega);rw[<- z5]at kd;have nd:d.1.count<=4096:=by rw[z5];exact A6 _ _ _ _
 have td:=Tm.fold d.1;have Sv:=CA (gl:=gl) b d.2 3;rw[<- z6]at Sv;have ng3:g3.1.count<=4096:=by rw[z6];exact A6 _ _ _ _
 have tg3:=Tm.fold g3.1;have Na:=CA (gl:=gl) b g3.2 2;rw[<- z7]at Na;have ng2:g2.1.count<=4096:=by rw[z7];exact A6 _ _ _ _
 have Zn:=Tm.fold g2.1;have Jc:=CA (gl:=gl) b g2.2 1;rw[<- z8]at Jc;have Wt:g1.1.count<=4096:=by rw[z8];exact A6 _ _ _ _
 have Qu:=Tm.fold g1.1;have Iy:=CA (gl:=gl) b g1.2 0;rw[<- z9]at Iy;have Xd:g0.1.count<=4096:=by rw[z9];exact A6 _ _ _ _
 have Rg:=Tm.fold g0.1;have ks:=QR (gl:=gl) b g0.2 g3.1 [g2.1,g1.1,g0.1] oO (by intro x hx;simp only[List.mem_cons,List.not_mem_nil,or_false]at hx;rcases hx with rfl|rfl|rfl <;> omega) sS;rw[<- Bu]at ks;have ns:s.1.count<=268435456:=by rw[Bu];exact I5 _ _ _ oO
 have ts:=Tm.fold s.1;have kv:=BL (gl:=gl) b s.2 0;rw[<- Cj]at kv;have nv:v.1.count<=4096:=by rw[Cj];exact A6 _ _ _ _
 have tv:=Tm.fold v.1;have ko:=D1 (gl:=gl) b v.2 (s.1) v.1 oO oO;rw[<- Ce]at ko;have no:o.1.count<=4096:=by rw[Ce];exact A6 _ _ _ _
 have to:=Tm.fold o.1;have Zm:=E4 (gl:=gl) b o.2 w.1 d.1 o.1 oO oO;rw[<- Ch]at Zm;have nm3:m3.1.count<=4096:=by rw[Ch];exact A6 _ _ _ _
 have tm3:=Tm.fold m3.1;have Nu:=D2 (gl:=gl) b m3.2 T.list (BX T.list);rw[<- Cl]at Nu;have Pu:=E4 (gl:=gl) b w2.2 w2.1 (z.upN 0 2) m3.1 oO oO;rw[<- Cr]at Pu;have nm2:m2.1.count<=4096:=by rw[Cr];exact A6 _ _ _ _
 have Wn:=Tm.fold m2.1;have It:=D2 (gl:=gl) b m2.2 (T.fn .nat (.fn .list (.fn a a))) (BX (T.fn .nat (.fn .list (.fn a a))));rw[<- Ee]at It;have Ms:=E4 (gl:=gl) b w1.2 w1.1 (y.upN 0 1) m2.1 oO oO;rw[<- Gm]at Ms;have nm1:m1.1.count<=4096:=by rw[Gm];exact A6 _ _ _ _
 have Qf:=Tm.fold m1.1;have Hu:=D2 (gl:=gl) b m1.2 a (BX a);rw[<- Hh]at Hu;have kr:=E4 (gl:=gl) b w0.2 w0.1 x m1.1 oO oO;rw[<- Hn]at kr;have fw:=Ty.fold w.1;have Rx:=Ty.fold w0.1;have Ra:=Ty.fold w1.1;have Zw:=Ty.fold w2.1;have fx:=Tm.fold x;have fy:=Tm.fold y;have fz:=Tm.fold z;have fuy:=Tm.fold (y.upN 0 1);have fuz:=Tm.fold (z.upN 0 2);have An:=Tm.cells_eq x;have Bp:=Tm.cells_eq y;have Gi:=Tm.cells_eq z;have Io:(nT 4 []).dv = .agg [A0 4,A0 0,A0 0,.sl [],.sl []]:=rfl;have Ai:CE.dv=DV.agg [A0 1,.sl []]:=rfl;have Cz:DV.agg [A0 1,.sl []]=CE.dv:=rfl;have Dy:(T.ty .list).dv=DV.agg [A0 2,.sl []]:=rfl;have hld2:DV.agg [A0 2,.sl []]=(T.ty .list).dv:=rfl;have Wz:(T.ty .list).cells=[A0 2,.sl []]:=rfl;have Xl:(T.ty .nat).cells=[A0 1,.sl []]:=rfl;have Xv:DV.agg [A0 1,.sl []]=(T.ty .nat).dv:=rfl;have fa:=Ty.fold a.ty;rw[<- Nx]at fa;have fb:=Ty.fold (T.fn .nat (.fn .list (.fn a a))).ty;have Df:=Ty.cells_eq a.ty;have Sf:=Ty.cells_eq (T.fn .nat (.fn .list (.fn a a))).ty;have Ic:CE.cells=[A0 1,.sl []]:=rfl;rw[Ic,Wz]at Re;rw[Df,Sf,Wz,An,Bp,Gi,<- Nx];rw[<- Nx]at kw Hu Re;generalize (T.fn .nat (.fn .list (.fn a a))).ty=tyb at *;rw[Ai]at kt;rw[Dy]at Pl;rw[Dy]at Nu;refine A8 Tryz.func94 ?_;intro X hP u7 hf u9 hn hR u6 u5;refine A4 ?_
 refine A3 @fa kw ?_;refine A7 @Jq ?_;refine EW (j3 @Ai @Dy @fw) JV NU ?_;refine A7 @Jq ?_;refine A3 @fa Re ?_;refine A3 (j2 @fw @tls) Yl ?_;refine A4 ?_;refine B4 ?_;refine A2 ?_;refine AE ?_;refine A3 @tlm Pl ?_;refine A4 ?_;refine AB ?_;refine A2 ?_;refine AE ?_;refine A3 @tln kt ?_;refine A4 ?_;refine AB ?_;refine A2 ?_;refine B6 ?_;refine TI (j7 @Jq @Io @fw @tp @tc @tq @tt) kp kc kq kd ?_;refine iN (j3 @ts @tv @to) Sv Na Jc Iy ks kv ko ?_;refine A3 (j3 @fw @td @to) Zm ?_;refine OL (j4 @Zw @fz @fuz @tm3) Nu kuz Pu ?_;refine OL (j5 @fb @Ra @fy @fuy @Wn) It kuy Ms ?_;refine EW (j4 @fa @Rx @fx @Qf) Hu kr ?_;exact AI [(b,DE r.2)] tT
end
end Go.Proofs.YtoniciijokeidaaGreatDoor.Lift
